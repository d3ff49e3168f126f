/- Several texts in one: Plain: well-formed UTF-8, told by writing each character again. Plain: what reading a path's text answers: the one path that is written so. The shelf's contracts of a builder's writing methods, laid by hand. tree.marked and tree.PathText: what they answer. tree.piece and tree.PathRead: what they answer. Helper text: what the arguments of the laws read as: paths. Paths as arguments, opened, with their bulk. tree.PathRead: what it answers. Conditions: none. -/
import Derived.Lib.ValidLaws
import Derived.Test.YtldjbgklmeigmaaGreatDoorPackA
import Derived.Test.YtldjbgklmeigmaaGreatDoorPackB
import Derived.Lib.SplitLaws
import Derived.Lib.AtoiAll
import Derived.Test.YtldjbgklmeigmaaGreatDoorProg
import Derived.Lib.OthersKept
import Derived.Laws.BytesArg
import Derived.BigRegion
import Derived.Laws.IdiomStrings
import Derived.Deep.Slices
import Derived.ChangeOld
import Derived.ProofKit
import Derived.Test.YtldjbgklmeigmaaGreatDoorRows
import Derived.Deep.Strs
import Derived.IntWalk
namespace Go.Proofs.YtldjbgklmeigmaaGreatDoor

/-- The bytes that write a character. -/
def putN (c : Nat) : List Nat :=
  if 55296 ≤ c ∧ c ≤ 57343 then [] else if 1114111 < c then [] else
  if c < 128 then [c] else if c < 2048 then [192 + c / 64, 128 + c % 64]
  else if c < 65536 then [224 + c / 4096, 128 + c / 64 % 64, 128 + c % 64]
  else [240 + c / 262144, 128 + c / 4096 % 64, 128 + c / 64 % 64, 128 + c % 64]
/-- The number that a group of bytes writes. -/
def numN : List Nat → Nat
  | [a] => a % 128
  | [a, b] => a % 32 * 64 + b % 64
  | [a, b, c] => (a % 16 * 64 + b % 64) * 64 + c % 64
  | [a, b, c, d] => ((a % 8 * 64 + b % 64) * 64 + c % 64) * 64 + d % 64
  | _ => 0
/-- Do the first k bytes write a character? -/
def okK (l : List Nat) (k : Nat) : Bool := decide (k ≤ l.length) && (putN (numN (l.take k)) == l.take k)
/-- The length of the character at the head; 0: none. -/
def oneN (l : List Nat) : Nat := if okK l 1 then 1 else if okK l 2 then 2 else if okK l 3 then 3 else if okK l 4 then 4 else 0

theorem put1 {a : Nat} (ha : a < 256) : putN (a % 128) = [a] ↔ a < 128 := by
  unfold putN
  repeat' split
  all_goals first | (simp only [List.cons.injEq, and_true]; omega) | (constructor <;> intro h <;> first | (cases h; done) | omega) | (exfalso; omega)
theorem put2 {a b : Nat} (_ : a < 256) (hb : b < 256) : putN (a % 32 * 64 + b % 64) = [a, b] ↔ a / 32 = 6 ∧ b / 64 = 2 ∧ 128 ≤ a % 32 * 64 + b % 64 := by
  unfold putN
  repeat' split
  all_goals first | (simp only [List.cons.injEq, and_true]; omega) | (constructor <;> intro h <;> first | (cases h; done) | (simp at h; done) | omega) | (exfalso; omega)
theorem put3 {a b c : Nat} (_ : a < 256) (hb : b < 256) (hc : c < 256) : putN ((a % 16 * 64 + b % 64) * 64 + c % 64) = [a, b, c] ↔ a / 16 = 14 ∧ b / 64 = 2 ∧ c / 64 = 2 ∧ 2048 ≤ a % 16 * 4096 + b % 64 * 64 + c % 64 ∧ (a % 16 * 4096 + b % 64 * 64 + c % 64 < 55296 ∨ 57344 ≤ a % 16 * 4096 + b % 64 * 64 + c % 64) := by
  unfold putN
  repeat' split
  all_goals first | (simp only [List.cons.injEq, and_true]; omega) | (constructor <;> intro h <;> first | (cases h; done) | (simp at h; done) | omega) | (exfalso; omega)
theorem put4 {a b c d : Nat} (_ : a < 256) (hb : b < 256) (hc : c < 256) (_ : d < 256) : putN (((a % 8 * 64 + b % 64) * 64 + c % 64) * 64 + d % 64) = [a, b, c, d] ↔ a / 8 = 30 ∧ b / 64 = 2 ∧ c / 64 = 2 ∧ d / 64 = 2 ∧ 65536 ≤ a % 8 * 262144 + b % 64 * 4096 + c % 64 * 64 + d % 64 ∧ a % 8 * 262144 + b % 64 * 4096 + c % 64 * 64 + d % 64 ≤ 1114111 := by
  unfold putN
  repeat' split
  all_goals first | (simp only [List.cons.injEq, and_true]; omega) | (constructor <;> intro h <;> first | (cases h; done) | (simp at h; done) | omega) | (exfalso; omega)
theorem put_len (c : Nat) : (putN c).length ≤ 4 := by
  unfold putN
  repeat' split
  all_goals simp
def toN (l : List UInt8) : List Nat := l.map (·.toNat)
theorem toN_lt (l : List UInt8) : ∀ x ∈ toN l, x < 256 := by
  intro x hx
  obtain ⟨b, _, rfl⟩ := List.mem_map.1 hx
  exact b.toNat_lt
theorem toN_drop (l : List UInt8) (k : Nat) : toN (l.drop k) = (toN l).drop k := by simp [toN, List.map_drop]

theorem ok1 (a : Nat) (l : List Nat) (ha : a < 256) : okK (a :: l) 1 = decide (a < 128) := by
  unfold okK
  rw [Bool.eq_iff_iff, Bool.and_eq_true, decide_eq_true_eq, beq_iff_eq, decide_eq_true_eq]
  show _ ∧ putN (a % 128) = [a] ↔ _
  rw [put1 ha]
  simp
theorem ok2 (a b : Nat) (l : List Nat) (ha : a < 256) (hb : b < 256) : okK (a :: b :: l) 2 = decide (a / 32 = 6 ∧ b / 64 = 2 ∧ 128 ≤ a % 32 * 64 + b % 64) := by
  unfold okK
  rw [Bool.eq_iff_iff, Bool.and_eq_true, decide_eq_true_eq, beq_iff_eq, decide_eq_true_eq]
  show _ ∧ putN (a % 32 * 64 + b % 64) = [a, b] ↔ _
  rw [put2 ha hb]
  simp
theorem ok3 (a b c : Nat) (l : List Nat) (ha : a < 256) (hb : b < 256) (hc : c < 256) : okK (a :: b :: c :: l) 3 = decide (a / 16 = 14 ∧ b / 64 = 2 ∧ c / 64 = 2 ∧ 2048 ≤ a % 16 * 4096 + b % 64 * 64 + c % 64 ∧ (a % 16 * 4096 + b % 64 * 64 + c % 64 < 55296 ∨ 57344 ≤ a % 16 * 4096 + b % 64 * 64 + c % 64)) := by
  unfold okK
  rw [Bool.eq_iff_iff, Bool.and_eq_true, decide_eq_true_eq, beq_iff_eq, decide_eq_true_eq]
  show _ ∧ putN ((a % 16 * 64 + b % 64) * 64 + c % 64) = [a, b, c] ↔ _
  rw [put3 ha hb hc]
  simp
theorem ok4 (a b c d : Nat) (l : List Nat) (ha : a < 256) (hb : b < 256) (hc : c < 256) (hd : d < 256) : okK (a :: b :: c :: d :: l) 4 = decide (a / 8 = 30 ∧ b / 64 = 2 ∧ c / 64 = 2 ∧ d / 64 = 2 ∧ 65536 ≤ a % 8 * 262144 + b % 64 * 4096 + c % 64 * 64 + d % 64 ∧ a % 8 * 262144 + b % 64 * 4096 + c % 64 * 64 + d % 64 ≤ 1114111) := by
  unfold okK
  rw [Bool.eq_iff_iff, Bool.and_eq_true, decide_eq_true_eq, beq_iff_eq, decide_eq_true_eq]
  show _ ∧ putN (((a % 8 * 64 + b % 64) * 64 + c % 64) * 64 + d % 64) = [a, b, c, d] ↔ _
  rw [put4 ha hb hc hd]
  simp
theorem ok_short {l : List Nat} {k : Nat} (h : l.length < k) : okK l k = false := by
  unfold okK
  rw [decide_eq_false (by omega), Bool.false_and]

/-- The model's decoder and the writing again. -/
theorem one_decode (l : List Nat) (hl : ∀ x ∈ l, x < 256) (hne : l ≠ []) :
    let d := Lib.decodeN l.length (l.getD 0 0) (l.getD 1 0) (l.getD 2 0) (l.getD 3 0)
    (d.1 = 65533 ∧ d.2 = 1 ∧ oneN l = 0) ∨ (¬ (d.1 = 65533 ∧ d.2 = 1) ∧ oneN l = d.2 ∧ 1 ≤ d.2 ∧ d.2 ≤ l.length) := by
  intro d
  show (d.1 = 65533 ∧ d.2 = 1 ∧ _) ∨ _
  obtain ⟨a, ha, r, rfl⟩ : ∃ a, a < 256 ∧ ∃ r, l = a :: r := by
    cases l with
    | nil => exact absurd rfl hne
    | cons a r => exact ⟨a, hl a List.mem_cons_self, r, rfl⟩
  have hd : d = Lib.decodeN (a :: r).length a ((a :: r).getD 1 0) ((a :: r).getD 2 0) ((a :: r).getD 3 0) := rfl
  clear_value d
  subst hd
  unfold oneN
  rw [ok1 a r ha]
  match r, hl with
  | [], hl =>
    rw [ok_short (k := 2) (by simp), ok_short (k := 3) (by simp), ok_short (k := 4) (by simp)]
    unfold Lib.decodeN
    by_cases h : a < 128
    · simp [h]; omega
    · simp [h]
  | [b], hl =>
    have hb : b < 256 := hl b (by simp)
    rw [ok2 a b [] ha hb, ok_short (k := 3) (by simp), ok_short (k := 4) (by simp)]
    simp only [List.length_cons, List.length_nil, List.getD_cons_succ, List.getD_cons_zero, List.getD_nil]
    unfold Lib.decodeN
    simp only [decide_eq_true_eq, Bool.false_eq_true, if_false]
    repeat' split
    all_goals (first | (dsimp only; omega) | (simp; omega))
  | [b, c], hl =>
    have hb : b < 256 := hl b (by simp)
    have hc : c < 256 := hl c (by simp)
    rw [ok2 a b [c] ha hb, ok3 a b c [] ha hb hc, ok_short (k := 4) (by simp)]
    simp only [List.length_cons, List.length_nil, List.getD_cons_succ, List.getD_cons_zero, List.getD_nil]
    unfold Lib.decodeN
    simp only [decide_eq_true_eq, Bool.false_eq_true, if_false]
    repeat' split
    all_goals (first | (dsimp only; omega) | (simp; omega))
  | b :: c :: e :: t, hl =>
    have hb : b < 256 := hl b (by simp)
    have hc : c < 256 := hl c (by simp)
    have he : e < 256 := hl e (by simp)
    rw [ok2 a b _ ha hb, ok3 a b c _ ha hb hc, ok4 a b c e t ha hb hc he]
    simp only [List.length_cons, List.getD_cons_succ, List.getD_cons_zero]
    unfold Lib.decodeN
    simp only [decide_eq_true_eq]
    repeat' split
    all_goals (first | (dsimp only; omega) | (simp; omega))

theorem decodeL_N (l : List UInt8) : Lib.decodeL l = Lib.decodeN (toN l).length ((toN l).getD 0 0) ((toN l).getD 1 0) ((toN l).getD 2 0) ((toN l).getD 3 0) := by
  unfold Lib.decodeL
  rw [Lib.decode_at]
  have h : ∀ i, ((⟨l.toArray⟩ : ByteArray).get! i).toNat = (toN l).getD i 0 := by
    intro i
    show (l.toArray[i]!).toNat = _
    by_cases hi : i < l.length
    · simp [toN, hi]
    · simp [toN, hi]
      rfl
  have hs : (⟨l.toArray⟩ : ByteArray).size = (toN l).length := by simp [ByteArray.size, toN]
  rw [h, h, h, h, hs, Nat.sub_zero]

theorem valid_none {l : List UInt8} (hne : l ≠ []) (h : oneN (toN l) = 0) : Lib.validD l = false := by
  have hn : toN l ≠ [] := by cases l with | nil => exact absurd rfl hne | cons _ _ => simp [toN]
  rw [Lib.validD_step l hne, decodeL_N]
  rcases one_decode (toN l) (toN_lt l) hn with ⟨h1, h2, _⟩ | ⟨_, h2, h3, _⟩
  · rw [if_pos ⟨h1, h2⟩]
  · omega
theorem valid_one {l : List UInt8} (hne : l ≠ []) {k : Nat} (h : oneN (toN l) = k) (hk : 1 ≤ k) : Lib.validD l = Lib.validD (l.drop k) ∧ k ≤ l.length := by
  have hn : toN l ≠ [] := by cases l with | nil => exact absurd rfl hne | cons _ _ => simp [toN]
  rw [Lib.validD_step l hne, decodeL_N]
  rcases one_decode (toN l) (toN_lt l) hn with ⟨_, _, h3⟩ | ⟨h1, h2, h3, h4⟩
  · omega
  · rw [if_neg h1, ← h2, h]
    have : (toN l).length = l.length := by simp [toN]
    exact ⟨rfl, by omega⟩
end Go.Proofs.YtldjbgklmeigmaaGreatDoor

namespace Go.Proofs.YtldjbgklmeigmaaGreatDoor
open Go.RowKit

def splitS : List UInt8 → List (List UInt8)
  | [] => [[]]
  | c :: r => if c = 47 then [] :: splitS r else match splitS r with | [] => [[c]] | h :: t => (c :: h) :: t

end Go.Proofs.YtldjbgklmeigmaaGreatDoor

namespace Go.Proofs.YtldjbgklmeigmaaGreatDoor
open Go.RowKit
/-- What a method of the builder leaves of the world. -/
def BldW (B b : Nat) (w w' : World) : Prop := Below B w w' ∧ Lib.OthersKept 5 (some b) w w'

theorem BldW.cells {B b : Nat} {w w' : World} (h : BldW B b w w') {k : Nat} {arr : Array Value} {t : TypeId} {fz : Nat × Nat} (hk : w.heap[k]? = some (.cells arr t fz)) (hkb : k ≠ b) (ht : t ≠ 5) : w'.heap[k]? = some (.cells arr t fz) :=
  h.2 k _ hk (by simp [hkb]) (fun c f e => ht (by cases e; rfl))
end Go.Proofs.YtldjbgklmeigmaaGreatDoor

namespace Go.Proofs.YtldjbgklmeigmaaGreatDoor
open Go.RowKit
attribute [local go_sem] St.cells

theorem others_of_below {e : TypeId} {b : Option Nat} {w w' : World} (h : Below w.heap.size w w') : Lib.OthersKept e b w w' := fun k o hk _ _ => by
  rw [h.block k (Array.getElem?_eq_some_iff.1 hk).1]
  exact hk
theorem BldW.refl (B b : Nat) (w : World) : BldW B b w w := ⟨Below.refl _ _, Lib.OthersKept.refl _ _ _⟩
theorem BldW.trans {B b : Nat} {a c d : World} (h : BldW B b a c) (k : BldW B b c d) : BldW B b a d := ⟨h.1.trans k.1, h.2.trans k.2⟩
theorem BldW.on {B b : Nat} {a c d : World} (h : BldW B b a c) (hB : B ≤ c.heap.size) (k : Below c.heap.size c d) : BldW B b a d := ⟨h.1.trans (k.mono hB), h.2.trans (others_of_below k)⟩
theorem ba_len (n : ByteArray) : n.data.toList.length = n.size := by rw [Array.length_toList]; rfl
end Go.Proofs.YtldjbgklmeigmaaGreatDoor

namespace Go.Proofs.YtldjbgklmeigmaaGreatDoor
open Go.RowKit
attribute [local go_sem] St.cells

/-- What the errors' variables hold. -/
def ErrIn (g : Nat) (w : World) : Prop := ∃ te pe, w.cell? ⟨g, 0, none⟩ = some (.iface te pe)
theorem ErrIn.on {g : Nat} {w w' : World} (h : ErrIn g w) (hb : Below w.heap.size w w') : ErrIn g w' := by
  obtain ⟨te, pe, h⟩ := h
  exact ⟨te, pe, (hb.cell (p := ⟨g, 0, none⟩) (World.block_lt_of_cell? w _ h)).trans h⟩

theorem grown_b {a b : World} (h : Below a.heap.size a b) (row : Option Nat) : a.grownBy b row := ⟨h.os, h.tape, h.output, h.size, fun k hk _ => h.block k hk⟩

end Go.Proofs.YtldjbgklmeigmaaGreatDoor

namespace Go.Proofs.YtldjbgklmeigmaaGreatDoor
open Go.RowKit Go.Deep
section
variable {H : Type} {enc : TypeId × Value → H} {w : World} {base : Nat} {spare : Nat → Bool} {held : Bool}

instance : Inhabited St := ⟨⟨ByteArray.empty, 0, false⟩⟩

end
end Go.Proofs.YtldjbgklmeigmaaGreatDoor

namespace Go.Proofs.YtldjbgklmeigmaaGreatDoor
open Go.RowKit Go.Deep Go.ChangeShapes

theorem bulkP_pos {H : Type} (d : DataW H) : 1 ≤ Rows.uptoBulk d := by
  match d with
  | .lit x => cases x <;> simp [Rows.uptoBulk]
  | .nil | .ptr _ | .slice _ _ | .agg _ | .iface _ _ | .map _ | .held _ => simp [Rows.uptoBulk]

section
variable {H : Type} {enc : TypeId × Value → H} {w : World} {base : Nat} {spare : Nat → Bool} {held : Bool}

end
end Go.Proofs.YtldjbgklmeigmaaGreatDoor

namespace Go.Proofs.YtldjbgklmeigmaaGreatDoor
open Go.RowKit
attribute [local go_sem] St.cells

def flatS (l : List St) : List Value := l.flatMap (fun s => s.cells.toList)
theorem flatS_len : ∀ l : List St, (flatS l).length = l.length * 3
  | [] => rfl
  | s :: l => by
    have : flatS (s :: l) = s.cells.toList ++ flatS l := by simp [flatS]
    rw [this, List.length_append, flatS_len l]
    simp [St.cells]
    omega
theorem flatS_at : ∀ {l : List St} {i : Nat} {s : St}, l[i]? = some s → (flatS l)[i * 3]? = some (.string s.nm) ∧ (flatS l)[i * 3 + 1]? = some (.int .i64 s.ix) ∧ (flatS l)[i * 3 + 2]? = some (.bool s.it)
  | [], i, s, h => by simp at h
  | x :: l, 0, s, h => by
    cases h
    have : flatS (x :: l) = x.cells.toList ++ flatS l := by simp [flatS]
    rw [this]
    exact ⟨rfl, rfl, rfl⟩
  | x :: l, i + 1, s, h => by
    have e : flatS (x :: l) = x.cells.toList ++ flatS l := by simp [flatS]
    have h2 := flatS_at (l := l) (i := i) (s := s) (by simpa using h)
    have hl : x.cells.toList.length = 3 := rfl
    rw [e, List.getElem?_append_right (by omega), List.getElem?_append_right (by omega), List.getElem?_append_right (by omega), hl]
    rw [show (i + 1) * 3 - 3 = i * 3 by omega, show (i + 1) * 3 + 1 - 3 = i * 3 + 1 by omega, show (i + 1) * 3 + 2 - 3 = i * 3 + 2 by omega]
    exact h2

/-- A row of steps is a path. -/
theorem row_steps {w : World} {B : Nat} {sv : Value} {l : List St} (h : w.ownsRow B 161 3 sv l.length (flatS l)) :
    ∃ p c, sv = .slice p l.length c ∧ l.length ≤ c ∧ c ≤ maxLen ∧ StepsAt w.heap.size w p l := by
  rcases h.2 with ⟨rfl, h0⟩ | ⟨g, cap, cur, rfl, hbg, hg, hnc, hcm, hcs, htake⟩
  · have : l = [] := List.eq_nil_of_length_eq_zero h0
    subst this
    exact ⟨none, 0, rfl, Nat.le_refl _, by decide, .inl rfl⟩
  · refine ⟨some ⟨g, 0, none⟩, cap, rfl, hnc, hcm, .inr ⟨g, 0, rfl, (h.lt g rfl).2, fun i s hs => ?_⟩⟩
    have hc := h.cells (g := g) rfl
    obtain ⟨f0, f1, f2⟩ := flatS_at hs
    have a0 := hc _ _ f0
    have a1 := hc _ _ f1
    have a2 := hc _ _ f2
    rw [addr_add1] at a0 a1 a2
    exact ⟨a0, by rw [Nat.add_assoc]; exact a1, by rw [Nat.add_assoc]; exact a2⟩

/-- A step's own cells in a block. -/
theorem step_reads {w : World} {g : Nat} {x : St} {e : TypeId} {f : Nat × Nat} (h : w.heap[g]? = some (.cells x.cells e f)) :
    w.cell? ⟨g, 0, none⟩ = some (.string x.nm) ∧ w.cell? ⟨g, 1, none⟩ = some (.int .i64 x.ix) ∧ w.cell? ⟨g, 2, none⟩ = some (.bool x.it) :=
  ⟨by simp [World.cell?, h, St.cells], by simp [World.cell?, h, St.cells], by simp [World.cell?, h, St.cells]⟩

def IntIn (g : Nat) (w : World) : Prop := ∃ m : Int, w.cell? ⟨g, 0, none⟩ = some (.int .i64 m)
theorem IntIn.on {g : Nat} {w w' : World} (h : IntIn g w) (hb : Below w.heap.size w w') : IntIn g w' := by
  obtain ⟨m, h⟩ := h
  exact ⟨m, (hb.cell (p := ⟨g, 0, none⟩) (World.block_lt_of_cell? w _ h)).trans h⟩

end Go.Proofs.YtldjbgklmeigmaaGreatDoor
