/- Plain: what reading a path's text answers: the one path that is written so. Conditions: none. -/
import Derived.Test.YtnmnmkdmnohbmaaDoorPathLaw
import Derived.Lib.SplitLaws
import Derived.Lib.AtoiAll
namespace Go.Proofs.YtnmnmkdmnohbmaaDoor
open Go.RowKit

/-- A step that bears nothing that does not count, its number an int. -/
def okSt (s : St) : Prop := bareS s = s ∧ -9223372036854775808 ≤ s.ix ∧ s.ix ≤ 9223372036854775807

/-- A name out of its written form. -/
def unesc : List UInt8 → Option (List UInt8)
  | [] => some []
  | [b] => if b = 126 then none else some [b]
  | b :: c :: r => if b = 126 then (if c = 48 then (unesc r).map (126 :: ·) else if c = 49 then (unesc r).map (47 :: ·) else none) else (unesc (c :: r)).map (b :: ·)
theorem unesc_wave (c : UInt8) (r : List UInt8) : unesc (126 :: c :: r) = if c = 48 then (unesc r).map (126 :: ·) else if c = 49 then (unesc r).map (47 :: ·) else none := by
  rw [unesc, if_pos rfl]
theorem unesc_plain {b : UInt8} (h : b ≠ 126) (r : List UInt8) : unesc (b :: r) = (unesc r).map (b :: ·) := by
  cases r with
  | nil => simp [unesc, h]
  | cons c r => rw [unesc, if_neg h]

/-- What stands between two slashes, as a step. -/
def pieceL (p : List UInt8) : Option St :=
  if p = [] then none
  else if markedL p then (match Lib.atoiAll p with | .ok n => some ⟨ByteArray.empty, n, true⟩ | _ => none)
  else (unesc (Lib.trimPrefix p [126, 50])).map (fun n => ⟨⟨n.toArray⟩, 0, false⟩)

def splitS : List UInt8 → List (List UInt8)
  | [] => [[]]
  | c :: r => if c = 47 then [] :: splitS r else match splitS r with | [] => [[c]] | h :: t => (c :: h) :: t

def piecesL : List (List UInt8) → Option (List St)
  | [] => some []
  | p :: r => match pieceL p with | none => none | some s => (piecesL r).map (s :: ·)

def readL (s : List UInt8) : Option (List St) :=
  match s with
  | [] => some []
  | c :: r => if c = 47 then (match piecesL (splitS r) with | none => none | some p => if pathT p = s then some p else none) else none

theorem unesc_esc : ∀ n : List UInt8, unesc (n.flatMap escB) = some n
  | [] => rfl
  | b :: n => by
    rw [List.flatMap_cons]
    rcases escB_cases b with ⟨rfl, e⟩ | ⟨rfl, e⟩ | ⟨h1, _, e⟩ <;> rw [e]
    · rw [List.cons_append, List.cons_append, List.nil_append, unesc_wave, if_pos rfl, unesc_esc n]; rfl
    · rw [List.cons_append, List.cons_append, List.nil_append, unesc_wave, if_neg (by decide), if_pos rfl, unesc_esc n]; rfl
    · rw [List.cons_append, List.nil_append, unesc_plain h1, unesc_esc n]; rfl

theorem trim_name (n : List UInt8) : Lib.trimPrefix (nameT n) [126, 50] = n.flatMap escB := by
  unfold nameT Lib.trimPrefix Lib.hasPrefix
  cases h : markedL n
  · obtain ⟨b, l, e, _, no⟩ := plain_head h
    simp only [Bool.false_eq_true, if_false, List.nil_append]
    rw [if_neg]
    rw [List.isPrefixOf_iff_prefix]
    rintro ⟨r, hr⟩
    rw [e] at hr
    exact no r hr.symm
  · simp

theorem name_piece (n : ByteArray) : pieceL (nameT n.data.toList) = some ⟨n, 0, false⟩ := by
  obtain ⟨b, l, e, hb⟩ := nameT_head n.data.toList
  unfold pieceL
  have h1 : nameT n.data.toList ≠ [] := by rw [e]; simp
  have h2 : markedL (nameT n.data.toList) = false := by rw [e]; exact hb
  rw [if_neg h1, h2, trim_name, unesc_esc]
  rfl

theorem dig_num {b : UInt8} (h : isDig b = true) : 48 ≤ b.toNat ∧ b.toNat ≤ 57 := by
  unfold isDig at h
  simp only [Bool.and_eq_true, decide_eq_true_eq] at h
  have h1 := UInt8.le_iff_toNat_le.1 h.1
  have h2 := UInt8.le_iff_toNat_le.1 h.2
  have e1 : (48 : UInt8).toNat = 48 := rfl
  have e2 : (57 : UInt8).toNat = 57 := rfl
  rw [e1] at h1
  rw [e2] at h2
  exact ⟨h1, h2⟩
theorem decVal_cons (acc : Nat) (b : UInt8) (l : List UInt8) : (b :: l).foldl (fun n b => n * 10 + (b.toNat - 48)) acc = l.foldl (fun n b => n * 10 + (b.toNat - 48)) (acc * 10 + (b.toNat - 48)) := by
  rw [List.foldl_cons]
theorem fold_ge (l : List UInt8) (acc : Nat) : acc ≤ l.foldl (fun n b => n * 10 + (b.toNat - 48)) acc := by
  induction l generalizing acc with
  | nil => exact Nat.le_refl _
  | cons b l ih =>
    rw [decVal_cons]
    have := ih (acc * 10 + (b.toNat - 48))
    omega
/-- Digits that spell a uint64 are parsed so. -/
theorem parse_digits (l : List UInt8) (acc : Nat) (hd : ∀ b ∈ l, isDig b = true) (h : l.foldl (fun n b => n * 10 + (b.toNat - 48)) acc < 18446744073709551616) : Lib.parseUint10 acc l = .ok (l.foldl (fun n b => n * 10 + (b.toNat - 48)) acc) := by
  induction l generalizing acc with
  | nil => rfl
  | cons b l ih =>
    have hb := dig_num (hd b List.mem_cons_self)
    rw [decVal_cons] at h ⊢
    have := fold_ge l (acc * 10 + (b.toNat - 48))
    rw [Lib.parseUint10, if_pos hb, if_neg (by omega), if_neg (by omega)]
    exact ih _ (fun c hc => hd c (List.mem_cons_of_mem _ hc)) h
theorem parse_dec {u : Nat} (h : u < 18446744073709551616) : Lib.parseMag (Lib.decDigits u) = .ok u := by
  unfold Lib.parseMag
  rw [if_neg (dec_ne u)]
  have := parse_digits (Lib.decDigits u) 0 (dec_dig u) (by have := decVal_dec u; unfold decVal at this; omega)
  rw [this]
  have := decVal_dec u
  unfold decVal at this
  rw [this]
theorem atoi_itoa {i : Int} (h0 : -9223372036854775808 ≤ i) (h1 : i ≤ 9223372036854775807) : Lib.atoiAll (Lib.itoa i) = .ok i := by
  unfold Lib.itoa
  by_cases hi : i < 0
  · rw [if_pos hi]
    unfold Lib.atoiAll
    dsimp only
    rw [if_pos (.inr (by rfl)), parse_dec (by omega)]
    simp only
    rw [if_neg (by simp), if_neg (by omega), if_pos (by rfl)]
    congr 1
    omega
  · rw [if_neg hi]
    cases e : Lib.decDigits i.toNat with
    | nil => exact absurd e (dec_ne _)
    | cons b l =>
      have hb := dig_num (dec_dig i.toNat b (by rw [e]; exact List.mem_cons_self))
      unfold Lib.atoiAll
      dsimp only
      rw [if_neg (by omega), ← e, parse_dec (by omega)]
      simp only
      have hneg : ¬ b.toNat = 45 := by omega
      rw [if_neg (by omega), if_neg (by omega), if_neg hneg]
      congr 1
      omega
theorem item_piece {i : Int} (h0 : -9223372036854775808 ≤ i) (h1 : i ≤ 9223372036854775807) : pieceL (Lib.itoa i) = some ⟨ByteArray.empty, i, true⟩ := by
  obtain ⟨b, l, e, hb⟩ := itoa_head i
  unfold pieceL
  have h2 : Lib.itoa i ≠ [] := by rw [e]; simp
  have h3 : markedL (Lib.itoa i) = true := by rw [e]; exact hb
  rw [if_neg h2, if_pos h3, atoi_itoa h0 h1]

theorem piece_step {s : St} (h : okSt s) : pieceL (stepT s) = some s := by
  obtain ⟨hb, h0, h1⟩ := h
  obtain ⟨n, i, t⟩ := s
  cases t
  · have : i = 0 := by simp [bareS] at hb; exact hb.symm
    subst this
    exact name_piece n
  · have : n = ByteArray.empty := by simp [bareS] at hb; exact hb.symm
    subst this
    exact item_piece h0 h1

theorem atoi_range {l : List UInt8} {n : Int} (h : Lib.atoiAll l = .ok n) : -9223372036854775808 ≤ n ∧ n ≤ 9223372036854775807 := by
  unfold Lib.atoiAll at h
  split at h
  · cases h
  · dsimp only at h
    split at h
    · cases h
    · cases h
    · split at h
      · cases h
      · split at h
        · cases h
        · cases h
          split <;> omega

theorem piece_ok {p : List UInt8} {s : St} (h : pieceL p = some s) : okSt s := by
  unfold pieceL at h
  split at h
  · cases h
  · split at h
    · split at h
      · rename_i n hn
        cases h
        exact ⟨rfl, atoi_range hn⟩
      · cases h
    · cases hu : unesc (Lib.trimPrefix p [126, 50]) with
      | none => rw [hu] at h; cases h
      | some n =>
        rw [hu] at h
        cases h
        exact ⟨rfl, by show (-9223372036854775808 : Int) ≤ 0; decide, by show (0 : Int) ≤ 9223372036854775807; decide⟩

theorem pieces_ok : ∀ {l : List (List UInt8)} {p : List St}, piecesL l = some p → ∀ s ∈ p, okSt s
  | [], p, h, s, hs => by
    cases h
    cases hs
  | q :: l, p, h, s, hs => by
    unfold piecesL at h
    split at h
    · cases h
    · rename_i x hx
      cases hr : piecesL l with
      | none => rw [hr] at h; cases h
      | some r =>
        rw [hr] at h
        cases h
        rcases List.mem_cons.1 hs with rfl | hs
        · exact piece_ok hx
        · exact pieces_ok hr s hs

theorem splitS_slash (l r : List UInt8) (h : ∀ c ∈ l, c ≠ 47) : splitS (l ++ 47 :: r) = l :: splitS r := by
  induction l with
  | nil => rw [List.nil_append, splitS, if_pos rfl]
  | cons c l ih => rw [List.cons_append, splitS, if_neg (h c List.mem_cons_self), ih (fun d hd => h d (List.mem_cons_of_mem _ hd))]
theorem splitS_end (l : List UInt8) (h : ∀ c ∈ l, c ≠ 47) : splitS l = [l] := by
  induction l with
  | nil => rfl
  | cons c l ih => rw [splitS, if_neg (h c List.mem_cons_self), ih (fun d hd => h d (List.mem_cons_of_mem _ hd))]

theorem pieces_path : ∀ {s : St} {l : List St}, (∀ x ∈ s :: l, okSt x) → piecesL (splitS (stepT s ++ pathT l)) = some (s :: l)
  | s, [], h => by
    show piecesL (splitS (stepT s ++ [])) = _
    rw [List.append_nil, splitS_end _ (stepT_slash s), piecesL, piece_step (h s List.mem_cons_self)]
    rfl
  | s, t :: l, h => by
    show piecesL (splitS (stepT s ++ (47 :: stepT t ++ pathT l))) = _
    rw [List.cons_append, splitS_slash _ _ (stepT_slash s), piecesL, piece_step (h s List.mem_cons_self), pieces_path (fun x hx => h x (List.mem_cons_of_mem _ hx))]
    rfl

theorem readL_path {p : List St} (h : ∀ x ∈ p, okSt x) : readL (pathT p) = some p := by
  cases p with
  | nil => rfl
  | cons s l =>
    have e : pathT (s :: l) = 47 :: (stepT s ++ pathT l) := by simp [pathT]
    rw [e]
    unfold readL
    dsimp only
    rw [if_pos rfl, pieces_path h]
    dsimp only
    rw [if_pos e]

/-- What a text is read as is the one sound path whose text it is. -/
theorem readL_iff {s : List UInt8} {p : List St} : readL s = some p ↔ pathT p = s ∧ ∀ x ∈ p, okSt x := by
  constructor
  · intro h
    cases s with
    | nil => cases h; exact ⟨rfl, fun x hx => by cases hx⟩
    | cons c r =>
      unfold readL at h
      dsimp only at h
      split at h
      · cases hp : piecesL (splitS r) with
        | none => rw [hp] at h; cases h
        | some q =>
          rw [hp] at h
          dsimp only at h
          split at h
          · cases h
            exact ⟨by assumption, pieces_ok hp⟩
          · cases h
      · cases h
  · rintro ⟨rfl, h⟩
    exact readL_path h

/-- The kit's cut is this one. -/
theorem splitK_splitS (s : List UInt8) : Lib.splitK [47] 0 (Lib.count s [47]) s = splitS s := by
  induction s with
  | nil => rw [Lib.count_one]; rfl
  | cons c r ih =>
    by_cases h : c = 47
    · subst h
      have hix : Lib.index (47 :: r) [47] = ((0 : Nat) : Int) := by rw [Lib.index]; simp [List.isPrefixOf]
      rw [Lib.count_cons_eq, Nat.add_comm, Lib.splitK, hix]
      rw [if_neg (by decide), splitS, if_pos rfl, ← ih]
      simp
    · have hp : ([47] : List UInt8).isPrefixOf (c :: r) = false := by simp [List.isPrefixOf, Ne.symm h]
      have hix : Lib.index (c :: r) [47] = if Lib.index r [47] == -1 then -1 else Lib.index r [47] + 1 := by rw [Lib.index, hp]; simp
      rw [Lib.count_cons_ne c 47 r h, splitS, if_neg h, ← ih]
      by_cases hm : Lib.index r [47] = -1
      · rw [Lib.count_miss hm, Lib.splitK, Lib.splitK]
      · have hge := Lib.index_ge r [47]
        obtain ⟨j, hj⟩ : ∃ j : Nat, Lib.index r [47] = j := ⟨(Lib.index r [47]).toNat, by omega⟩
        rw [Lib.count_hit (by simp) hj, Nat.add_comm, Lib.splitK, Lib.splitK, hix, hj]
        have e1 : ((j : Int) == -1) = false := by rw [beq_eq_false_iff_ne]; omega
        rw [e1]
        simp only [Bool.false_eq_true, if_false]
        have e2 : ((j : Int) + 1 == -1) = false := by rw [beq_eq_false_iff_ne]; omega
        rw [e2]
        simp only [Bool.false_eq_true, if_false]
        have e3 : ((j : Int) + 1).toNat = j + 1 := by omega
        have e4 : ((j : Int)).toNat = j := by omega
        rw [e3, e4]
        simp

theorem okSt_bare {s : St} (h : okSt s) : bareS s = s := h.1
theorem ok_inj : ∀ {a b : List St}, (∀ x ∈ a, okSt x) → (∀ x ∈ b, okSt x) → pathT a = pathT b → a = b := by
  intro a b ha hb h
  have h1 := readL_path ha
  have h2 := readL_path hb
  rw [h, h2] at h1
  exact (Option.some.inj h1).symm
end Go.Proofs.YtnmnmkdmnohbmaaDoor
