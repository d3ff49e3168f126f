/- Several texts in one: Plain: well-formed UTF-8, told by writing each character again. Plain: what reading a path's text answers: the one path that is written so. Conditions: none. -/
import Derived.Lib.ValidLaws
import Derived.Test.YtnmnmkdmnohbmaaGreatDoorPackA
import Derived.Test.YtnmnmkdmnohbmaaGreatDoorPathLaw
import Derived.Lib.SplitLaws
import Derived.Lib.AtoiAll
namespace Go.Proofs.YtnmnmkdmnohbmaaGreatDoor

/-- The bytes that write a character. -/
def putN (c : Nat) : List Nat :=
  if 55296 ≤ c ∧ c ≤ 57343 then [] else if 1114111 < c then [] else
  if c < 128 then [c] else if c < 2048 then [192 + c / 64, 128 + c % 64]
  else if c < 65536 then [224 + c / 4096, 128 + c / 64 % 64, 128 + c % 64]
  else [240 + c / 262144, 128 + c / 4096 % 64, 128 + c / 64 % 64, 128 + c % 64]
/-- The number that a group of bytes writes. -/
def numN : List Nat → Nat
  | [a] => a % 128
  | [a, b] => a % 32 * 64 + b % 64
  | [a, b, c] => (a % 16 * 64 + b % 64) * 64 + c % 64
  | [a, b, c, d] => ((a % 8 * 64 + b % 64) * 64 + c % 64) * 64 + d % 64
  | _ => 0
/-- Do the first k bytes write a character? -/
def okK (l : List Nat) (k : Nat) : Bool := decide (k ≤ l.length) && (putN (numN (l.take k)) == l.take k)
/-- The length of the character at the head; 0: none. -/
def oneN (l : List Nat) : Nat := if okK l 1 then 1 else if okK l 2 then 2 else if okK l 3 then 3 else if okK l 4 then 4 else 0

theorem put1 {a : Nat} (ha : a < 256) : putN (a % 128) = [a] ↔ a < 128 := by
  unfold putN
  repeat' split
  all_goals first | (simp only [List.cons.injEq, and_true]; omega) | (constructor <;> intro h <;> first | (cases h; done) | omega) | (exfalso; omega)
theorem put2 {a b : Nat} (_ : a < 256) (hb : b < 256) : putN (a % 32 * 64 + b % 64) = [a, b] ↔ a / 32 = 6 ∧ b / 64 = 2 ∧ 128 ≤ a % 32 * 64 + b % 64 := by
  unfold putN
  repeat' split
  all_goals first | (simp only [List.cons.injEq, and_true]; omega) | (constructor <;> intro h <;> first | (cases h; done) | (simp at h; done) | omega) | (exfalso; omega)
theorem put3 {a b c : Nat} (_ : a < 256) (hb : b < 256) (hc : c < 256) : putN ((a % 16 * 64 + b % 64) * 64 + c % 64) = [a, b, c] ↔ a / 16 = 14 ∧ b / 64 = 2 ∧ c / 64 = 2 ∧ 2048 ≤ a % 16 * 4096 + b % 64 * 64 + c % 64 ∧ (a % 16 * 4096 + b % 64 * 64 + c % 64 < 55296 ∨ 57344 ≤ a % 16 * 4096 + b % 64 * 64 + c % 64) := by
  unfold putN
  repeat' split
  all_goals first | (simp only [List.cons.injEq, and_true]; omega) | (constructor <;> intro h <;> first | (cases h; done) | (simp at h; done) | omega) | (exfalso; omega)
theorem put4 {a b c d : Nat} (_ : a < 256) (hb : b < 256) (hc : c < 256) (_ : d < 256) : putN (((a % 8 * 64 + b % 64) * 64 + c % 64) * 64 + d % 64) = [a, b, c, d] ↔ a / 8 = 30 ∧ b / 64 = 2 ∧ c / 64 = 2 ∧ d / 64 = 2 ∧ 65536 ≤ a % 8 * 262144 + b % 64 * 4096 + c % 64 * 64 + d % 64 ∧ a % 8 * 262144 + b % 64 * 4096 + c % 64 * 64 + d % 64 ≤ 1114111 := by
  unfold putN
  repeat' split
  all_goals first | (simp only [List.cons.injEq, and_true]; omega) | (constructor <;> intro h <;> first | (cases h; done) | (simp at h; done) | omega) | (exfalso; omega)
theorem put_len (c : Nat) : (putN c).length ≤ 4 := by
  unfold putN
  repeat' split
  all_goals simp
theorem put_lt (c : Nat) : ∀ x ∈ putN c, x < 256 := by
  unfold putN
  repeat' split
  all_goals (intro x hx; simp at hx; try (rcases hx with rfl | rfl | rfl | rfl <;> omega); try (rcases hx with rfl | rfl | rfl <;> omega); try (rcases hx with rfl | rfl <;> omega); try (subst hx; omega))

def toN (l : List UInt8) : List Nat := l.map (·.toNat)
theorem toN_lt (l : List UInt8) : ∀ x ∈ toN l, x < 256 := by
  intro x hx
  obtain ⟨b, _, rfl⟩ := List.mem_map.1 hx
  exact b.toNat_lt
theorem toN_drop (l : List UInt8) (k : Nat) : toN (l.drop k) = (toN l).drop k := by simp [toN, List.map_drop]

theorem ok1 (a : Nat) (l : List Nat) (ha : a < 256) : okK (a :: l) 1 = decide (a < 128) := by
  unfold okK
  rw [Bool.eq_iff_iff, Bool.and_eq_true, decide_eq_true_eq, beq_iff_eq, decide_eq_true_eq]
  show _ ∧ putN (a % 128) = [a] ↔ _
  rw [put1 ha]
  simp
theorem ok2 (a b : Nat) (l : List Nat) (ha : a < 256) (hb : b < 256) : okK (a :: b :: l) 2 = decide (a / 32 = 6 ∧ b / 64 = 2 ∧ 128 ≤ a % 32 * 64 + b % 64) := by
  unfold okK
  rw [Bool.eq_iff_iff, Bool.and_eq_true, decide_eq_true_eq, beq_iff_eq, decide_eq_true_eq]
  show _ ∧ putN (a % 32 * 64 + b % 64) = [a, b] ↔ _
  rw [put2 ha hb]
  simp
theorem ok3 (a b c : Nat) (l : List Nat) (ha : a < 256) (hb : b < 256) (hc : c < 256) : okK (a :: b :: c :: l) 3 = decide (a / 16 = 14 ∧ b / 64 = 2 ∧ c / 64 = 2 ∧ 2048 ≤ a % 16 * 4096 + b % 64 * 64 + c % 64 ∧ (a % 16 * 4096 + b % 64 * 64 + c % 64 < 55296 ∨ 57344 ≤ a % 16 * 4096 + b % 64 * 64 + c % 64)) := by
  unfold okK
  rw [Bool.eq_iff_iff, Bool.and_eq_true, decide_eq_true_eq, beq_iff_eq, decide_eq_true_eq]
  show _ ∧ putN ((a % 16 * 64 + b % 64) * 64 + c % 64) = [a, b, c] ↔ _
  rw [put3 ha hb hc]
  simp
theorem ok4 (a b c d : Nat) (l : List Nat) (ha : a < 256) (hb : b < 256) (hc : c < 256) (hd : d < 256) : okK (a :: b :: c :: d :: l) 4 = decide (a / 8 = 30 ∧ b / 64 = 2 ∧ c / 64 = 2 ∧ d / 64 = 2 ∧ 65536 ≤ a % 8 * 262144 + b % 64 * 4096 + c % 64 * 64 + d % 64 ∧ a % 8 * 262144 + b % 64 * 4096 + c % 64 * 64 + d % 64 ≤ 1114111) := by
  unfold okK
  rw [Bool.eq_iff_iff, Bool.and_eq_true, decide_eq_true_eq, beq_iff_eq, decide_eq_true_eq]
  show _ ∧ putN (((a % 8 * 64 + b % 64) * 64 + c % 64) * 64 + d % 64) = [a, b, c, d] ↔ _
  rw [put4 ha hb hc hd]
  simp
theorem ok_short {l : List Nat} {k : Nat} (h : l.length < k) : okK l k = false := by
  unfold okK
  rw [decide_eq_false (by omega), Bool.false_and]

/-- The model's decoder and the writing again. -/
theorem one_decode (l : List Nat) (hl : ∀ x ∈ l, x < 256) (hne : l ≠ []) :
    let d := Lib.decodeN l.length (l.getD 0 0) (l.getD 1 0) (l.getD 2 0) (l.getD 3 0)
    (d.1 = 65533 ∧ d.2 = 1 ∧ oneN l = 0) ∨ (¬ (d.1 = 65533 ∧ d.2 = 1) ∧ oneN l = d.2 ∧ 1 ≤ d.2 ∧ d.2 ≤ l.length) := by
  intro d
  show (d.1 = 65533 ∧ d.2 = 1 ∧ _) ∨ _
  obtain ⟨a, ha, r, rfl⟩ : ∃ a, a < 256 ∧ ∃ r, l = a :: r := by
    cases l with
    | nil => exact absurd rfl hne
    | cons a r => exact ⟨a, hl a List.mem_cons_self, r, rfl⟩
  have hd : d = Lib.decodeN (a :: r).length a ((a :: r).getD 1 0) ((a :: r).getD 2 0) ((a :: r).getD 3 0) := rfl
  clear_value d
  subst hd
  unfold oneN
  rw [ok1 a r ha]
  match r, hl with
  | [], hl =>
    rw [ok_short (k := 2) (by simp), ok_short (k := 3) (by simp), ok_short (k := 4) (by simp)]
    unfold Lib.decodeN
    by_cases h : a < 128
    · simp [h]; omega
    · simp [h]
  | [b], hl =>
    have hb : b < 256 := hl b (by simp)
    rw [ok2 a b [] ha hb, ok_short (k := 3) (by simp), ok_short (k := 4) (by simp)]
    simp only [List.length_cons, List.length_nil, List.getD_cons_succ, List.getD_cons_zero, List.getD_nil]
    unfold Lib.decodeN
    simp only [decide_eq_true_eq, Bool.false_eq_true, if_false]
    repeat' split
    all_goals (first | (dsimp only; omega) | (simp; omega))
  | [b, c], hl =>
    have hb : b < 256 := hl b (by simp)
    have hc : c < 256 := hl c (by simp)
    rw [ok2 a b [c] ha hb, ok3 a b c [] ha hb hc, ok_short (k := 4) (by simp)]
    simp only [List.length_cons, List.length_nil, List.getD_cons_succ, List.getD_cons_zero, List.getD_nil]
    unfold Lib.decodeN
    simp only [decide_eq_true_eq, Bool.false_eq_true, if_false]
    repeat' split
    all_goals (first | (dsimp only; omega) | (simp; omega))
  | b :: c :: e :: t, hl =>
    have hb : b < 256 := hl b (by simp)
    have hc : c < 256 := hl c (by simp)
    have he : e < 256 := hl e (by simp)
    rw [ok2 a b _ ha hb, ok3 a b c _ ha hb hc, ok4 a b c e t ha hb hc he]
    simp only [List.length_cons, List.getD_cons_succ, List.getD_cons_zero]
    unfold Lib.decodeN
    simp only [decide_eq_true_eq]
    repeat' split
    all_goals (first | (dsimp only; omega) | (simp; omega))

theorem decodeL_N (l : List UInt8) : Lib.decodeL l = Lib.decodeN (toN l).length ((toN l).getD 0 0) ((toN l).getD 1 0) ((toN l).getD 2 0) ((toN l).getD 3 0) := by
  unfold Lib.decodeL
  rw [Lib.decode_at]
  have h : ∀ i, ((⟨l.toArray⟩ : ByteArray).get! i).toNat = (toN l).getD i 0 := by
    intro i
    show (l.toArray[i]!).toNat = _
    by_cases hi : i < l.length
    · simp [toN, hi]
    · simp [toN, hi]
      rfl
  have hs : (⟨l.toArray⟩ : ByteArray).size = (toN l).length := by simp [ByteArray.size, toN]
  rw [h, h, h, h, hs, Nat.sub_zero]

theorem valid_none {l : List UInt8} (hne : l ≠ []) (h : oneN (toN l) = 0) : Lib.validD l = false := by
  have hn : toN l ≠ [] := by cases l with | nil => exact absurd rfl hne | cons _ _ => simp [toN]
  rw [Lib.validD_step l hne, decodeL_N]
  rcases one_decode (toN l) (toN_lt l) hn with ⟨h1, h2, _⟩ | ⟨_, h2, h3, _⟩
  · rw [if_pos ⟨h1, h2⟩]
  · omega
theorem valid_one {l : List UInt8} (hne : l ≠ []) {k : Nat} (h : oneN (toN l) = k) (hk : 1 ≤ k) : Lib.validD l = Lib.validD (l.drop k) ∧ k ≤ l.length := by
  have hn : toN l ≠ [] := by cases l with | nil => exact absurd rfl hne | cons _ _ => simp [toN]
  rw [Lib.validD_step l hne, decodeL_N]
  rcases one_decode (toN l) (toN_lt l) hn with ⟨_, _, h3⟩ | ⟨h1, h2, h3, h4⟩
  · omega
  · rw [if_neg h1, ← h2, h]
    have : (toN l).length = l.length := by simp [toN]
    exact ⟨rfl, by omega⟩
end Go.Proofs.YtnmnmkdmnohbmaaGreatDoor

namespace Go.Proofs.YtnmnmkdmnohbmaaGreatDoor
open Go.RowKit

/-- A step that bears nothing that does not count, its number an int. -/
def okSt (s : St) : Prop := bareS s = s ∧ -9223372036854775808 ≤ s.ix ∧ s.ix ≤ 9223372036854775807

/-- A name out of its written form. -/
def unesc : List UInt8 → Option (List UInt8)
  | [] => some []
  | [b] => if b = 126 then none else some [b]
  | b :: c :: r => if b = 126 then (if c = 48 then (unesc r).map (126 :: ·) else if c = 49 then (unesc r).map (47 :: ·) else none) else (unesc (c :: r)).map (b :: ·)
theorem unesc_wave (c : UInt8) (r : List UInt8) : unesc (126 :: c :: r) = if c = 48 then (unesc r).map (126 :: ·) else if c = 49 then (unesc r).map (47 :: ·) else none := by
  rw [unesc, if_pos rfl]
theorem unesc_plain {b : UInt8} (h : b ≠ 126) (r : List UInt8) : unesc (b :: r) = (unesc r).map (b :: ·) := by
  cases r with
  | nil => simp [unesc, h]
  | cons c r => rw [unesc, if_neg h]

/-- What stands between two slashes, as a step. -/
def pieceL (p : List UInt8) : Option St :=
  if p = [] then none
  else if markedL p then (match Lib.atoiAll p with | .ok n => some ⟨ByteArray.empty, n, true⟩ | _ => none)
  else (unesc (Lib.trimPrefix p [126, 50])).map (fun n => ⟨⟨n.toArray⟩, 0, false⟩)

def splitS : List UInt8 → List (List UInt8)
  | [] => [[]]
  | c :: r => if c = 47 then [] :: splitS r else match splitS r with | [] => [[c]] | h :: t => (c :: h) :: t

def piecesL : List (List UInt8) → Option (List St)
  | [] => some []
  | p :: r => match pieceL p with | none => none | some s => (piecesL r).map (s :: ·)

def readL (s : List UInt8) : Option (List St) :=
  match s with
  | [] => some []
  | c :: r => if c = 47 then (match piecesL (splitS r) with | none => none | some p => if pathT p = s then some p else none) else none

theorem unesc_esc : ∀ n : List UInt8, unesc (n.flatMap escB) = some n
  | [] => rfl
  | b :: n => by
    rw [List.flatMap_cons]
    rcases escB_cases b with ⟨rfl, e⟩ | ⟨rfl, e⟩ | ⟨h1, _, e⟩ <;> rw [e]
    · rw [List.cons_append, List.cons_append, List.nil_append, unesc_wave, if_pos rfl, unesc_esc n]; rfl
    · rw [List.cons_append, List.cons_append, List.nil_append, unesc_wave, if_neg (by decide), if_pos rfl, unesc_esc n]; rfl
    · rw [List.cons_append, List.nil_append, unesc_plain h1, unesc_esc n]; rfl

theorem trim_name (n : List UInt8) : Lib.trimPrefix (nameT n) [126, 50] = n.flatMap escB := by
  unfold nameT Lib.trimPrefix Lib.hasPrefix
  cases h : markedL n
  · obtain ⟨b, l, e, _, no⟩ := plain_head h
    simp only [Bool.false_eq_true, if_false, List.nil_append]
    rw [if_neg]
    rw [List.isPrefixOf_iff_prefix]
    rintro ⟨r, hr⟩
    rw [e] at hr
    exact no r hr.symm
  · simp

theorem name_piece (n : ByteArray) : pieceL (nameT n.data.toList) = some ⟨n, 0, false⟩ := by
  obtain ⟨b, l, e, hb⟩ := nameT_head n.data.toList
  unfold pieceL
  have h1 : nameT n.data.toList ≠ [] := by rw [e]; simp
  have h2 : markedL (nameT n.data.toList) = false := by rw [e]; exact hb
  rw [if_neg h1, h2, trim_name, unesc_esc]
  rfl

theorem dig_num {b : UInt8} (h : isDig b = true) : 48 ≤ b.toNat ∧ b.toNat ≤ 57 := by
  unfold isDig at h
  simp only [Bool.and_eq_true, decide_eq_true_eq] at h
  have h1 := UInt8.le_iff_toNat_le.1 h.1
  have h2 := UInt8.le_iff_toNat_le.1 h.2
  have e1 : (48 : UInt8).toNat = 48 := rfl
  have e2 : (57 : UInt8).toNat = 57 := rfl
  rw [e1] at h1
  rw [e2] at h2
  exact ⟨h1, h2⟩
theorem decVal_cons (acc : Nat) (b : UInt8) (l : List UInt8) : (b :: l).foldl (fun n b => n * 10 + (b.toNat - 48)) acc = l.foldl (fun n b => n * 10 + (b.toNat - 48)) (acc * 10 + (b.toNat - 48)) := by
  rw [List.foldl_cons]
theorem fold_ge (l : List UInt8) (acc : Nat) : acc ≤ l.foldl (fun n b => n * 10 + (b.toNat - 48)) acc := by
  induction l generalizing acc with
  | nil => exact Nat.le_refl _
  | cons b l ih =>
    rw [decVal_cons]
    have := ih (acc * 10 + (b.toNat - 48))
    omega
/-- Digits that spell a uint64 are parsed so. -/
theorem parse_digits (l : List UInt8) (acc : Nat) (hd : ∀ b ∈ l, isDig b = true) (h : l.foldl (fun n b => n * 10 + (b.toNat - 48)) acc < 18446744073709551616) : Lib.parseUint10 acc l = .ok (l.foldl (fun n b => n * 10 + (b.toNat - 48)) acc) := by
  induction l generalizing acc with
  | nil => rfl
  | cons b l ih =>
    have hb := dig_num (hd b List.mem_cons_self)
    rw [decVal_cons] at h ⊢
    have := fold_ge l (acc * 10 + (b.toNat - 48))
    rw [Lib.parseUint10, if_pos hb, if_neg (by omega), if_neg (by omega)]
    exact ih _ (fun c hc => hd c (List.mem_cons_of_mem _ hc)) h
theorem parse_dec {u : Nat} (h : u < 18446744073709551616) : Lib.parseMag (Lib.decDigits u) = .ok u := by
  unfold Lib.parseMag
  rw [if_neg (dec_ne u)]
  have := parse_digits (Lib.decDigits u) 0 (dec_dig u) (by have := decVal_dec u; unfold decVal at this; omega)
  rw [this]
  have := decVal_dec u
  unfold decVal at this
  rw [this]
theorem atoi_itoa {i : Int} (h0 : -9223372036854775808 ≤ i) (h1 : i ≤ 9223372036854775807) : Lib.atoiAll (Lib.itoa i) = .ok i := by
  unfold Lib.itoa
  by_cases hi : i < 0
  · rw [if_pos hi]
    unfold Lib.atoiAll
    dsimp only
    rw [if_pos (.inr (by rfl)), parse_dec (by omega)]
    simp only
    rw [if_neg (by simp), if_neg (by omega), if_pos (by rfl)]
    congr 1
    omega
  · rw [if_neg hi]
    cases e : Lib.decDigits i.toNat with
    | nil => exact absurd e (dec_ne _)
    | cons b l =>
      have hb := dig_num (dec_dig i.toNat b (by rw [e]; exact List.mem_cons_self))
      unfold Lib.atoiAll
      dsimp only
      rw [if_neg (by omega), ← e, parse_dec (by omega)]
      simp only
      have hneg : ¬ b.toNat = 45 := by omega
      rw [if_neg (by omega), if_neg (by omega), if_neg hneg]
      congr 1
      omega
theorem item_piece {i : Int} (h0 : -9223372036854775808 ≤ i) (h1 : i ≤ 9223372036854775807) : pieceL (Lib.itoa i) = some ⟨ByteArray.empty, i, true⟩ := by
  obtain ⟨b, l, e, hb⟩ := itoa_head i
  unfold pieceL
  have h2 : Lib.itoa i ≠ [] := by rw [e]; simp
  have h3 : markedL (Lib.itoa i) = true := by rw [e]; exact hb
  rw [if_neg h2, if_pos h3, atoi_itoa h0 h1]

theorem piece_step {s : St} (h : okSt s) : pieceL (stepT s) = some s := by
  obtain ⟨hb, h0, h1⟩ := h
  obtain ⟨n, i, t⟩ := s
  cases t
  · have : i = 0 := by simp [bareS] at hb; exact hb.symm
    subst this
    exact name_piece n
  · have : n = ByteArray.empty := by simp [bareS] at hb; exact hb.symm
    subst this
    exact item_piece h0 h1

theorem atoi_range {l : List UInt8} {n : Int} (h : Lib.atoiAll l = .ok n) : -9223372036854775808 ≤ n ∧ n ≤ 9223372036854775807 := by
  unfold Lib.atoiAll at h
  split at h
  · cases h
  · dsimp only at h
    split at h
    · cases h
    · cases h
    · split at h
      · cases h
      · split at h
        · cases h
        · cases h
          split <;> omega

theorem piece_ok {p : List UInt8} {s : St} (h : pieceL p = some s) : okSt s := by
  unfold pieceL at h
  split at h
  · cases h
  · split at h
    · split at h
      · rename_i n hn
        cases h
        exact ⟨rfl, atoi_range hn⟩
      · cases h
    · cases hu : unesc (Lib.trimPrefix p [126, 50]) with
      | none => rw [hu] at h; cases h
      | some n =>
        rw [hu] at h
        cases h
        exact ⟨rfl, by show (-9223372036854775808 : Int) ≤ 0; decide, by show (0 : Int) ≤ 9223372036854775807; decide⟩

theorem pieces_ok : ∀ {l : List (List UInt8)} {p : List St}, piecesL l = some p → ∀ s ∈ p, okSt s
  | [], p, h, s, hs => by
    cases h
    cases hs
  | q :: l, p, h, s, hs => by
    unfold piecesL at h
    split at h
    · cases h
    · rename_i x hx
      cases hr : piecesL l with
      | none => rw [hr] at h; cases h
      | some r =>
        rw [hr] at h
        cases h
        rcases List.mem_cons.1 hs with rfl | hs
        · exact piece_ok hx
        · exact pieces_ok hr s hs

theorem splitS_slash (l r : List UInt8) (h : ∀ c ∈ l, c ≠ 47) : splitS (l ++ 47 :: r) = l :: splitS r := by
  induction l with
  | nil => rw [List.nil_append, splitS, if_pos rfl]
  | cons c l ih => rw [List.cons_append, splitS, if_neg (h c List.mem_cons_self), ih (fun d hd => h d (List.mem_cons_of_mem _ hd))]
theorem splitS_end (l : List UInt8) (h : ∀ c ∈ l, c ≠ 47) : splitS l = [l] := by
  induction l with
  | nil => rfl
  | cons c l ih => rw [splitS, if_neg (h c List.mem_cons_self), ih (fun d hd => h d (List.mem_cons_of_mem _ hd))]

theorem pieces_path : ∀ {s : St} {l : List St}, (∀ x ∈ s :: l, okSt x) → piecesL (splitS (stepT s ++ pathT l)) = some (s :: l)
  | s, [], h => by
    show piecesL (splitS (stepT s ++ [])) = _
    rw [List.append_nil, splitS_end _ (stepT_slash s), piecesL, piece_step (h s List.mem_cons_self)]
    rfl
  | s, t :: l, h => by
    show piecesL (splitS (stepT s ++ (47 :: stepT t ++ pathT l))) = _
    rw [List.cons_append, splitS_slash _ _ (stepT_slash s), piecesL, piece_step (h s List.mem_cons_self), pieces_path (fun x hx => h x (List.mem_cons_of_mem _ hx))]
    rfl

theorem readL_path {p : List St} (h : ∀ x ∈ p, okSt x) : readL (pathT p) = some p := by
  cases p with
  | nil => rfl
  | cons s l =>
    have e : pathT (s :: l) = 47 :: (stepT s ++ pathT l) := by simp [pathT]
    rw [e]
    unfold readL
    dsimp only
    rw [if_pos rfl, pieces_path h]
    dsimp only
    rw [if_pos e]

/-- What a text is read as is the one sound path whose text it is. -/
theorem readL_iff {s : List UInt8} {p : List St} : readL s = some p ↔ pathT p = s ∧ ∀ x ∈ p, okSt x := by
  constructor
  · intro h
    cases s with
    | nil => cases h; exact ⟨rfl, fun x hx => by cases hx⟩
    | cons c r =>
      unfold readL at h
      dsimp only at h
      split at h
      · cases hp : piecesL (splitS r) with
        | none => rw [hp] at h; cases h
        | some q =>
          rw [hp] at h
          dsimp only at h
          split at h
          · cases h
            exact ⟨by assumption, pieces_ok hp⟩
          · cases h
      · cases h
  · rintro ⟨rfl, h⟩
    exact readL_path h

/-- The kit's cut is this one. -/
theorem splitK_splitS (s : List UInt8) : Lib.splitK [47] 0 (Lib.count s [47]) s = splitS s := by
  induction s with
  | nil => rw [Lib.count_one]; rfl
  | cons c r ih =>
    by_cases h : c = 47
    · subst h
      have hix : Lib.index (47 :: r) [47] = ((0 : Nat) : Int) := by rw [Lib.index]; simp [List.isPrefixOf]
      rw [Lib.count_cons_eq, Nat.add_comm, Lib.splitK, hix]
      rw [if_neg (by decide), splitS, if_pos rfl, ← ih]
      simp
    · have hp : ([47] : List UInt8).isPrefixOf (c :: r) = false := by simp [List.isPrefixOf, Ne.symm h]
      have hix : Lib.index (c :: r) [47] = if Lib.index r [47] == -1 then -1 else Lib.index r [47] + 1 := by rw [Lib.index, hp]; simp
      rw [Lib.count_cons_ne c 47 r h, splitS, if_neg h, ← ih]
      by_cases hm : Lib.index r [47] = -1
      · rw [Lib.count_miss hm, Lib.splitK, Lib.splitK]
      · have hge := Lib.index_ge r [47]
        obtain ⟨j, hj⟩ : ∃ j : Nat, Lib.index r [47] = j := ⟨(Lib.index r [47]).toNat, by omega⟩
        rw [Lib.count_hit (by simp) hj, Nat.add_comm, Lib.splitK, Lib.splitK, hix, hj]
        have e1 : ((j : Int) == -1) = false := by rw [beq_eq_false_iff_ne]; omega
        rw [e1]
        simp only [Bool.false_eq_true, if_false]
        have e2 : ((j : Int) + 1 == -1) = false := by rw [beq_eq_false_iff_ne]; omega
        rw [e2]
        simp only [Bool.false_eq_true, if_false]
        have e3 : ((j : Int) + 1).toNat = j + 1 := by omega
        have e4 : ((j : Int)).toNat = j := by omega
        rw [e3, e4]
        simp

theorem okSt_bare {s : St} (h : okSt s) : bareS s = s := h.1
theorem ok_inj : ∀ {a b : List St}, (∀ x ∈ a, okSt x) → (∀ x ∈ b, okSt x) → pathT a = pathT b → a = b := by
  intro a b ha hb h
  have h1 := readL_path ha
  have h2 := readL_path hb
  rw [h, h2] at h1
  exact (Option.some.inj h1).symm
end Go.Proofs.YtnmnmkdmnohbmaaGreatDoor
