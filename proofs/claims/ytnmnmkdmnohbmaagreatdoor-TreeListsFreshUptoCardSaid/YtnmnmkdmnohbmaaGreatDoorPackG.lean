/- Several texts in one: Helper text: Whole of the reference, of a value and the same value elsewhere. Helper text: values without children alike: the walks over plain and Same of numbers. Helper text: two values alike, members in order; the walk over Equal of the program. Helper text: the walk over Equal of the reference. Plain law: values the same, members in any order: what the greedy pairing says, and that it is an equivalence. Helper text: the walk over Same of the reference. Helper text: the child to which a step leads: Find of the reference, spot of the program. Helper text: spot of the program: the address of the child to which a step leads. Helper text: what stands at a path: the value, and Get of the program. Helper text: a value in blocks of its own, with another value put at a path. Helper text: one of the items or members of a value in blocks of its own put anew. Helper text: a map of lists of numbers, told by what each name finds; an element taken out of such a list. Helper text: the children of a value, one after another: the walk over children. Helper text: Set of the program. Helper text: how many parts a value has, how deep it is: the walks over Count and Depth of the program. Conditions: none. -/
import Derived.Test.YtnmnmkdmnohbmaaGreatDoorPackC
import Derived.Test.YtnmnmkdmnohbmaaGreatDoorPackA
import Derived.Laws.Externs
import Derived.Deep.OwnRows
import Derived.Deep.CutBlock
import Derived.Deep.MidRow
import Derived.Maps.OwnRows
import Derived.Maps.Views
import Derived.ArgAppend
import Derived.RangeFuncNested
import Derived.RangeFuncBound
import Derived.RangeFuncCalls
import Derived.RangeFuncLeaves
import Derived.Shelf.Abstract
import Derived.Shelf.RegionOpen
import Derived.OwnWalkIn
import Derived.TacticsInMore
import Derived.LoopNIn
import Derived.LoopIn
import Derived.RangeFuncBox
namespace Go.Proofs.YtnmnmkdmnohbmaaGreatDoor
open Go.RowKit
attribute [local go_sem] run_store_float

mutual
/-- The floats are of 64 bits. -/
def okV : V → Prop
  | .mk _ _ _ f _ _ its fs => f < 18446744073709551616 ∧ okVs its ∧ okFs fs
def okVs : List V → Prop
  | [] => True
  | v :: r => okV v ∧ okVs r
def okFs : List (ByteArray × V) → Prop
  | [] => True
  | x :: r => okV x.2 ∧ okFs r
end

theorem okVs.get : ∀ {l : List V} {n : Nat} {v : V}, okVs l → l[n]? = some v → okV v
  | [], _, _, _, h => by simp at h
  | x :: r, 0, v, h, hv => by obtain rfl : x = v := by simpa using hv
                              exact h.1
  | x :: r, n + 1, v, h, hv => okVs.get (n := n) h.2 (by simpa using hv)
theorem okFs.get : ∀ {l : List (ByteArray × V)} {n : Nat} {x : ByteArray × V}, okFs l → l[n]? = some x → okV x.2
  | [], _, _, _, h => by simp at h
  | y :: r, 0, x, h, hv => by obtain rfl : y = x := by simpa using hv
                              exact h.1
  | y :: r, n + 1, x, h, hv => okFs.get (n := n) h.2 (by simpa using hv)

end Go.Proofs.YtnmnmkdmnohbmaaGreatDoor

namespace Go.Proofs.YtnmnmkdmnohbmaaGreatDoor
open Go.RowKit

/-- Two values of the kind k, without children, alike. -/
def plainV (k : Int) (b b' : Bool) (i i' : Int) (f f' : Nat) (t t' ty ty' : ByteArray) : Bool :=
  if k = 1 then b == b' else if k = 2 then i == i' else if k = 3 then sameF f f' else if k = 4 then t.toList == t'.toList
  else if k = 7 then ty.toList == ty'.toList && t.toList == t'.toList else true

theorem two_allocs (w : World) (A B : Array Value) (s t : TypeId) : ∃ wa, (w.alloc (.cells A s)).alloc (.cells B t) = wa ∧ Below w.heap.size w wa ∧
    w.heap.size < wa.heap.size ∧ w.heap.size + 1 < wa.heap.size ∧ CellsAt wa w.heap.size 0 A ∧ CellsAt wa (w.heap.size + 1) 0 B := by
  refine ⟨_, rfl, ((Below.refl _ _).alloc (Nat.le_refl _) _).alloc (by simp) _, by simp; omega, by simp, ?_, ?_⟩
  · exact (cellsAt_alloc w _ _ _).below ((Below.refl _ _).alloc (Nat.le_refl _) _) (by simp)
  · have := cellsAt_alloc (w.alloc (.cells A s)) B t (0, 0)
    rwa [World.size_alloc] at this

end Go.Proofs.YtnmnmkdmnohbmaaGreatDoor

namespace Go.Proofs.YtnmnmkdmnohbmaaGreatDoor
open Go.RowKit
attribute [local go_sem] run_store_float

mutual
/-- The same value, members in the same order. -/
def eqV : V → V → Bool
  | .mk k b i f t ty its fs, .mk k' b' i' f' t' ty' its' fs' =>
    if kd k = kd k' then
      if kd k = 5 then decide (its.length = its'.length) && eqVs its its'
      else if kd k = 6 then decide (fs.length = fs'.length) && eqFs fs fs'
      else plainV (kd k) b b' i i' f f' t t' ty ty'
    else false
def eqVs : List V → List V → Bool
  | v :: r, v' :: r' => eqV v v' && eqVs r r'
  | _, _ => true
def eqFs : List (ByteArray × V) → List (ByteArray × V) → Bool
  | x :: r, x' :: r' => (x.1.toList == x'.1.toList && eqV x.2 x'.2) && eqFs r r'
  | _, _ => true
end

/-- The cells of a member. -/
@[reducible] def mcells (nm : ByteArray) (k : Int) (b : Bool) (i : Int) (f : Nat) (t ty : ByteArray) (p : Option Addr) (n c : Nat) (q : Option Addr) (m d : Nat) : Array Value :=
  #[.string nm, .int .i64 k, .bool b, .int .i64 i, .float .f64 f, .string t, .string ty, .slice p n c, .slice q m d]

theorem CellsAt.all9 {w : World} {g : Nat} {nm : ByteArray} {k : Int} {b : Bool} {i : Int} {f : Nat} {t ty : ByteArray} {p : Option Addr} {n c : Nat} {q : Option Addr} {m d : Nat} (h : CellsAt w g 0 (mcells nm k b i f t ty p n c q m d)) :
    w.cell? ⟨g, 0, none⟩ = some (.string nm) ∧ w.cell? ⟨g, 1, none⟩ = some (.int .i64 k) ∧ w.cell? ⟨g, 2, none⟩ = some (.bool b) ∧ w.cell? ⟨g, 3, none⟩ = some (.int .i64 i) ∧ w.cell? ⟨g, 4, none⟩ = some (.float .f64 f) ∧
    w.cell? ⟨g, 5, none⟩ = some (.string t) ∧ w.cell? ⟨g, 6, none⟩ = some (.string ty) ∧ w.cell? ⟨g, 7, none⟩ = some (.slice p n c) ∧ w.cell? ⟨g, 8, none⟩ = some (.slice q m d) :=
  ⟨h 0 _ rfl, h 1 _ rfl, h 2 _ rfl, h 3 _ rfl, h 4 _ rfl, h 5 _ rfl, h 6 _ rfl, h 7 _ rfl, h 8 _ rfl⟩

theorem two_at {α : Type} {l m : List α} {j : Nat} (h : l.length = m.length) (hj : j < l.length) : ∃ x y, l[j]? = some x ∧ m[j]? = some y := ⟨l[j], m[j], by simp [hj], by simp⟩

theorem eqVs_nil (l : List V) : eqVs [] l = true := by rw [eqVs]; simp
theorem eqFs_nil (l : List (ByteArray × V)) : eqFs [] l = true := by rw [eqFs]; simp
theorem eqVs_at {its its' : List V} {j : Nat} {x x' : V} (h : its[j]? = some x) (h' : its'[j]? = some x') : eqVs (its.drop j) (its'.drop j) = (eqV x x' && eqVs (its.drop (j + 1)) (its'.drop (j + 1))) := by
  rw [drop_some h, drop_some h', eqVs]
theorem eqFs_at {its its' : List (ByteArray × V)} {j : Nat} {x x' : ByteArray × V} (h : its[j]? = some x) (h' : its'[j]? = some x') : eqFs (its.drop j) (its'.drop j) = ((x.1.toList == x'.1.toList && eqV x.2 x'.2) && eqFs (its.drop (j + 1)) (its'.drop (j + 1))) := by
  rw [drop_some h, drop_some h', eqFs]

end Go.Proofs.YtnmnmkdmnohbmaaGreatDoor

namespace Go.Proofs.YtnmnmkdmnohbmaaGreatDoor
open Go.RowKit
attribute [local go_sem] run_store_float

theorem kd_cases (k : Int) : kd k = 0 ∨ kd k = 1 ∨ kd k = 2 ∨ kd k = 3 ∨ kd k = 4 ∨ kd k = 5 ∨ kd k = 6 ∨ kd k = 7 := by unfold kd; split <;> omega

end Go.Proofs.YtnmnmkdmnohbmaaGreatDoor

namespace Go.Proofs.YtnmnmkdmnohbmaaGreatDoor
open Go.RowKit

mutual
/-- The same value, members in any order. -/
def sameV : V → V → Bool
  | .mk k b i f t ty its fs, .mk k' b' i' f' t' ty' its' fs' =>
    if kd k = kd k' then
      if kd k = 5 then decide (its.length = its'.length) && sameVs its its'
      else if kd k = 6 then decide (fs.length = fs'.length) && pairFs fs fs' (List.range fs'.length)
      else plainV (kd k) b b' i i' f f' t t' ty ty'
    else false
def sameVs : List V → List V → Bool
  | v :: r, v' :: r' => sameV v v' && sameVs r r'
  | _, _ => true
/-- The members of the first list find each the first free one that will do. -/
def pairFs : List (ByteArray × V) → List (ByteArray × V) → List Nat → Bool
  | [], _, _ => true
  | x :: r, bs, free =>
    match free.find? (fun j => match bs[j]? with | some y => x.1.toList == y.1.toList && sameV x.2 y.2 | none => false) with
    | none => false
    | some j => pairFs r bs (free.filter (fun i => i != j))
end

/-- Two members alike. -/
def memS (x y : ByteArray × V) : Bool := x.1.toList == y.1.toList && sameV x.2 y.2

/-- Does the free member number j fit? -/
def fits (x : ByteArray × V) (bs : List (ByteArray × V)) (j : Nat) : Bool := match bs[j]? with | some y => memS x y | none => false

theorem pairFs_nil (bs : List (ByteArray × V)) (free : List Nat) : pairFs [] bs free = true := by rw [pairFs]
theorem pairFs_cons (x : ByteArray × V) (r bs : List (ByteArray × V)) (free : List Nat) : pairFs (x :: r) bs free = match free.find? (fits x bs) with | none => false | some j => pairFs r bs (free.filter (fun i => i != j)) := by
  rw [pairFs]; rfl

section
variable {α : Type} (r : α → α → Bool)

/-- The greedy pairing, over the members themselves. -/
def greedy : List α → List α → Bool
  | [], _ => true
  | x :: as0, bs => match bs.findIdx? (r x) with
    | none => false
    | some i => greedy as0 (bs.eraseIdx i)

theorem countP_eraseIdx (p : α → Bool) : ∀ (bs : List α) (i : Nat) (y : α), bs[i]? = some y → bs.countP p = (bs.eraseIdx i).countP p + if p y then 1 else 0
  | [], _, _, h => by simp at h
  | b :: bs, 0, y, h => by
    obtain rfl : b = y := by simpa using h
    simp [List.countP_cons]
  | b :: bs, i + 1, y, h => by
    have := countP_eraseIdx p bs i y (by simpa using h)
    simp only [List.eraseIdx_cons_succ, List.countP_cons]
    omega

variable (P : α → Prop)
variable (hr : ∀ x, P x → r x x = true) (hs : ∀ x y, P x → P y → r x y = true → r y x = true) (ht : ∀ x y z, P x → P y → P z → r x y = true → r y z = true → r x z = true)
include hr hs ht

theorem greedy_iff : ∀ (as0 bs : List α), (∀ x ∈ as0, P x) → (∀ y ∈ bs, P y) → (greedy r as0 bs = true ↔ ∀ z, P z → as0.countP (r z) ≤ bs.countP (r z))
  | [], bs, _, _ => by simp [greedy]
  | x :: as0, bs, ha, hb => by
    have hx := ha x (by simp)
    have ha' : ∀ y ∈ as0, P y := fun y hy => ha y (by simp [hy])
    unfold greedy
    have congr : ∀ y, P y → r x y = true → ∀ z, P z → r z x = r z y := fun y hy hxy z hz => by
      cases h1 : r z x
      · cases h2 : r z y
        · rfl
        · rw [ht z y x hz hy hx h2 (hs x y hx hy hxy)] at h1; cases h1
      · rw [ht z x y hz hx hy h1 hxy]
    cases hf : bs.findIdx? (r x) with
    | none =>
      simp only [Bool.false_eq_true, false_iff]
      intro h
      have h1 := h x hx
      have h2 : bs.countP (r x) = 0 := by
        rw [List.countP_eq_zero]
        intro y hy
        rw [List.findIdx?_eq_none_iff] at hf
        simp [hf y hy]
      rw [List.countP_cons, hr x hx, h2] at h1
      simp at h1
    | some i =>
      obtain ⟨hi, hxi, _⟩ := List.findIdx?_eq_some_iff_getElem.1 hf
      have hy : bs[i]? = some bs[i] := List.getElem?_eq_getElem hi
      have hpy : P bs[i] := hb _ (List.getElem_mem _)
      simp only []
      rw [greedy_iff as0 (bs.eraseIdx i) ha' (fun y hy => hb y (List.mem_of_mem_eraseIdx hy))]
      constructor
      · intro h z hz
        have h1 := h z hz
        have h2 := countP_eraseIdx (r z) bs i _ hy
        rw [List.countP_cons, congr _ hpy hxi z hz]
        omega
      · intro h z hz
        have h1 := h z hz
        have h2 := countP_eraseIdx (r z) bs i _ hy
        rw [List.countP_cons, congr _ hpy hxi z hz] at h1
        omega

/-- Between lists of one length, the counts that are never more are never less. -/
theorem counts_symm : ∀ (as0 bs : List α), (∀ x ∈ as0, P x) → (∀ y ∈ bs, P y) → as0.length = bs.length → (∀ z, P z → as0.countP (r z) ≤ bs.countP (r z)) → ∀ z, P z → bs.countP (r z) ≤ as0.countP (r z)
  | [], bs, _, _, hl, _ => by
    obtain rfl : bs = [] := List.length_eq_zero_iff.1 (by simpa using hl.symm)
    simp
  | x :: as0, bs, ha, hb, hl, h => by
    have hx := ha x (by simp)
    have ha' : ∀ y ∈ as0, P y := fun y hy => ha y (by simp [hy])
    have hg := (greedy_iff r P hr hs ht (x :: as0) bs ha hb).2 h
    unfold greedy at hg
    cases hf : bs.findIdx? (r x) with
    | none => rw [hf] at hg; cases hg
    | some i =>
      rw [hf] at hg
      obtain ⟨hi, hxi, _⟩ := List.findIdx?_eq_some_iff_getElem.1 hf
      have hy : bs[i]? = some bs[i] := List.getElem?_eq_getElem hi
      have hpy : P bs[i] := hb _ (List.getElem_mem _)
      have hb' : ∀ y ∈ bs.eraseIdx i, P y := fun y hy => hb y (List.mem_of_mem_eraseIdx hy)
      have hle := (greedy_iff r P hr hs ht as0 (bs.eraseIdx i) ha' hb').1 hg
      have hlen : (bs.eraseIdx i).length + 1 = bs.length := by rw [List.length_eraseIdx]; simp [hi]; omega
      have hi2 := counts_symm as0 (bs.eraseIdx i) ha' hb' (by simp at hl; omega) hle
      intro z hz
      have h1 := hi2 z hz
      have h2 := countP_eraseIdx (r z) bs i _ hy
      have hc : r z x = r z bs[i] := by
        cases h1 : r z x
        · cases h2 : r z bs[i]
          · rfl
          · rw [ht z bs[i] x hz hpy hx h2 (hs x bs[i] hx hpy hxi)] at h1; cases h1
        · rw [ht z x bs[i] hz hx hpy h1 hxi]
      rw [List.countP_cons, hc]
      omega
end

/-- What the free numbers stand for. -/
def frees (bs : List (ByteArray × V)) (free : List Nat) : List (ByteArray × V) := free.filterMap (fun j => bs[j]?)

theorem pairFs_greedy : ∀ (as0 bs : List (ByteArray × V)) (free : List Nat), free.Nodup → (∀ j ∈ free, j < bs.length) → pairFs as0 bs free = greedy memS as0 (frees bs free)
  | [], _, _, _, _ => by rw [pairFs_nil]; rfl
  | x :: r, bs, free, hn, hl => by
    rw [pairFs_cons]
    unfold greedy
    have key : ∀ (l : List Nat), l.Nodup → (∀ j ∈ l, j < bs.length) → (match l.find? (fits x bs) with
        | none => (frees bs l).findIdx? (memS x) = none
        | some j => ∃ i, (frees bs l).findIdx? (memS x) = some i ∧ (frees bs l).eraseIdx i = frees bs (l.filter (fun i => i != j))) := by
      intro l hn hl
      induction l with
      | nil => simp [frees]
      | cons a l ih =>
        have ha := hl a (by simp)
        have hn' := (List.nodup_cons.1 hn).2
        have hna := (List.nodup_cons.1 hn).1
        have hfr : frees bs (a :: l) = bs[a] :: frees bs l := by simp [frees, List.getElem?_eq_getElem ha]
        have hfi : fits x bs a = memS x bs[a] := by simp [fits, List.getElem?_eq_getElem ha]
        rw [hfr]
        cases hm : memS x bs[a]
        · rw [List.find?_cons, hfi, hm]
          simp only []
          have h0 := ih hn' (fun j hj => hl j (by simp [hj]))
          cases hf : l.find? (fits x bs) with
          | none =>
            rw [hf] at h0
            simp only [] at h0 ⊢
            rw [List.findIdx?_cons, hm, h0]
            rfl
          | some j =>
            rw [hf] at h0
            simp only [] at h0 ⊢
            obtain ⟨i, h1, h2⟩ := h0
            refine ⟨i + 1, by rw [List.findIdx?_cons, hm, h1]; rfl, ?_⟩
            have hja : a ≠ j := fun e => by subst e; exact hna (List.mem_of_find?_eq_some hf)
            rw [List.eraseIdx_cons_succ, h2, List.filter_cons, if_pos (by simpa using hja)]
            simp [frees, List.getElem?_eq_getElem ha]
        · rw [List.find?_cons, hfi, hm]
          simp only []
          refine ⟨0, by rw [List.findIdx?_cons, hm]; rfl, ?_⟩
          rw [List.filter_cons, if_neg (by simp)]
          have : l.filter (fun i => i != a) = l := by
            rw [List.filter_eq_self]
            intro j hj
            simp only [bne_iff_ne, ne_eq]
            exact fun e => hna (e ▸ hj)
          rw [this]
          rfl
    have h := key free hn hl
    cases hf : free.find? (fits x bs) with
    | none => rw [hf] at h; simp only [] at h ⊢; rw [h]
    | some j =>
      rw [hf] at h
      simp only [] at h ⊢
      obtain ⟨i, h1, h2⟩ := h
      rw [h1]
      simp only []
      rw [h2]
      exact pairFs_greedy r bs _ (hn.filter _) (fun i hi => hl i ((List.mem_filter.1 hi).1))

theorem frees_range' : ∀ (l pre : List (ByteArray × V)), frees (pre ++ l) (List.range' pre.length l.length) = l
  | [], pre => by simp [frees]
  | b :: l, pre => by
    have h := frees_range' l (pre ++ [b])
    rw [List.append_assoc, List.singleton_append, List.length_append, List.length_singleton] at h
    unfold frees at h ⊢
    rw [List.length_cons, List.range'_succ, List.filterMap_cons]
    have h0 : (pre ++ b :: l)[pre.length]? = some b := by simp
    simp only [h0]
    rw [h]

theorem frees_range (bs : List (ByteArray × V)) : frees bs (List.range bs.length) = bs := by
  have h := frees_range' bs []
  rw [List.range_eq_range']
  simpa using h

theorem pair_all (as0 bs : List (ByteArray × V)) : pairFs as0 bs (List.range bs.length) = greedy memS as0 bs := by
  rw [pairFs_greedy as0 bs _ List.nodup_range (fun j hj => List.mem_range.1 hj), frees_range]

theorem sameV_mk (k : Int) (b : Bool) (i : Int) (f : Nat) (t ty : ByteArray) (its : List V) (fs : List (ByteArray × V)) (k' : Int) (b' : Bool) (i' : Int) (f' : Nat) (t' ty' : ByteArray) (its' : List V) (fs' : List (ByteArray × V)) :
    sameV (.mk k b i f t ty its fs) (.mk k' b' i' f' t' ty' its' fs') = if kd k = kd k' then
      if kd k = 5 then decide (its.length = its'.length) && sameVs its its'
      else if kd k = 6 then decide (fs.length = fs'.length) && greedy memS fs fs'
      else plainV (kd k) b b' i i' f f' t t' ty ty'
    else false := by
  rw [sameV, pair_all]

theorem plainV_refl (k : Int) (b : Bool) (i : Int) (f : Nat) (t ty : ByteArray) : plainV k b b i i f f t t ty ty = true := by
  simp [plainV, sameF_refl]
theorem plainV_symm (k : Int) (b b' : Bool) (i i' : Int) (f f' : Nat) (t t' ty ty' : ByteArray) (h : plainV k b b' i i' f f' t t' ty ty' = true) : plainV k b' b i' i f' f t' t ty' ty = true := by
  unfold plainV at h ⊢
  split at h
  · rename_i h1; rw [if_pos h1]; simp_all
  · rename_i h1; rw [if_neg h1]
    split at h
    · rename_i h1; rw [if_pos h1]; simp_all
    · rename_i h1; rw [if_neg h1]
      split at h
      · rename_i h1; rw [if_pos h1, sameF_symm]; exact h
      · rename_i h1; rw [if_neg h1]
        split at h
        · rename_i h1; rw [if_pos h1]; simp_all
        · rename_i h1; rw [if_neg h1]
          split at h
          · rename_i h1; rw [if_pos h1]; simp_all
          · rename_i h1; rw [if_neg h1]
theorem plainV_trans (k : Int) (b b' b'' : Bool) (i i' i'' : Int) (f f' f'' : Nat) (t t' t'' ty ty' ty'' : ByteArray) (h : plainV k b b' i i' f f' t t' ty ty' = true) (h' : plainV k b' b'' i' i'' f' f'' t' t'' ty' ty'' = true) :
    plainV k b b'' i i'' f f'' t t'' ty ty'' = true := by
  unfold plainV at h h' ⊢
  by_cases h1 : k = 1
  · rw [if_pos h1] at h h' ⊢; simp_all
  · rw [if_neg h1] at h h' ⊢
    by_cases h2 : k = 2
    · rw [if_pos h2] at h h' ⊢; simp_all
    · rw [if_neg h2] at h h' ⊢
      by_cases h3 : k = 3
      · rw [if_pos h3] at h h' ⊢; exact sameF_trans h h'
      · rw [if_neg h3] at h h' ⊢
        by_cases h4 : k = 4
        · rw [if_pos h4] at h h' ⊢; simp_all
        · rw [if_neg h4] at h h' ⊢
          by_cases h7 : k = 7
          · rw [if_pos h7] at h h' ⊢; simp_all
          · rw [if_neg h7]

theorem szVs_mem {l : List V} {v : V} (h : v ∈ l) : szV v ≤ szV.szVs l := by obtain ⟨i, hi⟩ := List.getElem?_of_mem h; exact szVs_get hi
theorem szFs_mem {l : List (ByteArray × V)} {x : ByteArray × V} (h : x ∈ l) : szV x.2 ≤ szV.szFs l := by obtain ⟨i, hi⟩ := List.getElem?_of_mem h; exact szFs_get hi

theorem sameVs_refl : ∀ (l : List V), (∀ v ∈ l, sameV v v = true) → sameVs l l = true
  | [], _ => by rw [sameVs]; simp
  | v :: r, h => by rw [sameVs, h v (by simp), sameVs_refl r (fun x hx => h x (by simp [hx]))]; rfl
theorem sameVs_symm : ∀ (l m : List V), (∀ u ∈ l, ∀ v ∈ m, sameV u v = true → sameV v u = true) → l.length = m.length → sameVs l m = true → sameVs m l = true
  | [], [], _, _, _ => by rw [sameVs]; simp
  | u :: l, v :: m, h, hl, hh => by
    rw [sameVs, Bool.and_eq_true] at hh ⊢
    exact ⟨h u (by simp) v (by simp) hh.1, sameVs_symm l m (fun a ha b hb => h a (by simp [ha]) b (by simp [hb])) (by simpa using hl) hh.2⟩
  | [], _ :: _, _, hl, _ => by simp at hl
  | _ :: _, [], _, hl, _ => by simp at hl
theorem sameVs_trans : ∀ (l m n : List V), (∀ u ∈ l, ∀ v ∈ m, ∀ w ∈ n, sameV u v = true → sameV v w = true → sameV u w = true) → l.length = m.length → sameVs l m = true → sameVs m n = true → sameVs l n = true
  | [], _, n, _, _, _, _ => by cases n <;> (rw [sameVs]; simp)
  | u :: l, v :: m, w :: n, h, hl, h1, h2 => by
    rw [sameVs, Bool.and_eq_true] at h1 h2 ⊢
    exact ⟨h u (by simp) v (by simp) w (by simp) h1.1 h2.1, sameVs_trans l m n (fun a ha b hb c hc => h a (by simp [ha]) b (by simp [hb]) c (by simp [hc])) (by simpa using hl) h1.2 h2.2⟩
  | _ :: _, [], _, _, hl, _, _ => by simp at hl
  | _ :: _, _ :: _, [], _, _, _, _ => by rw [sameVs]; simp

/-- To be the same is an equivalence. -/
theorem same_equiv : ∀ N : Nat, (∀ u, szV u ≤ N → sameV u u = true) ∧ (∀ u v, szV u ≤ N → szV v ≤ N → sameV u v = true → sameV v u = true) ∧
    (∀ u v w, szV u ≤ N → szV v ≤ N → szV w ≤ N → sameV u v = true → sameV v w = true → sameV u w = true) := by
  intro N
  induction N with
  | zero => exact ⟨fun u h => by have := szV_pos u; omega, fun u v h => by have := szV_pos u; omega, fun u v w h => by have := szV_pos u; omega⟩
  | succ N ih =>
    obtain ⟨i1, i2, i3⟩ := ih
    have m1 : ∀ x : ByteArray × V, szV x.2 ≤ N → memS x x = true := fun x hx => by simp [memS, i1 x.2 hx]
    have m2 : ∀ x y : ByteArray × V, szV x.2 ≤ N → szV y.2 ≤ N → memS x y = true → memS y x = true := fun x y hx hy h => by
      simp only [memS, Bool.and_eq_true, beq_iff_eq] at h ⊢
      exact ⟨h.1.symm, i2 _ _ hx hy h.2⟩
    have m3 : ∀ x y z : ByteArray × V, szV x.2 ≤ N → szV y.2 ≤ N → szV z.2 ≤ N → memS x y = true → memS y z = true → memS x z = true := fun x y z hx hy hz h h' => by
      simp only [memS, Bool.and_eq_true, beq_iff_eq] at h h' ⊢
      exact ⟨h.1.trans h'.1, i3 _ _ _ hx hy hz h.2 h'.2⟩
    have small : ∀ (k : Int) (b : Bool) (i : Int) (f : Nat) (t ty : ByteArray) (its : List V) (fs : List (ByteArray × V)), szV (.mk k b i f t ty its fs) ≤ N + 1 → (∀ x ∈ its, szV x ≤ N) ∧ (∀ x ∈ fs, szV x.2 ≤ N) := fun k b i f t ty its fs h => by
      simp only [szV] at h
      exact ⟨fun x hx => by have := szVs_mem hx; omega, fun x hx => by have := szFs_mem hx; omega⟩
    have G := fun as0 bs ha hb => greedy_iff memS (fun x : ByteArray × V => szV x.2 ≤ N) m1 m2 m3 as0 bs ha hb
    refine ⟨?_, ?_, ?_⟩
    · rintro ⟨k, b, i, f, t, ty, its, fs⟩ h
      obtain ⟨s1, s2⟩ := small _ _ _ _ _ _ _ _ h
      rw [sameV_mk, if_pos rfl]
      by_cases h5 : kd k = 5
      · rw [if_pos h5, sameVs_refl its (fun v hv => i1 v (s1 v hv))]; simp
      · rw [if_neg h5]
        by_cases h6 : kd k = 6
        · rw [if_pos h6, (G fs fs s2 s2).2 (fun z _ => Nat.le_refl _)]; simp
        · rw [if_neg h6]; exact plainV_refl _ _ _ _ _ _
    · rintro ⟨k, b, i, f, t, ty, its, fs⟩ ⟨k', b', i', f', t', ty', its', fs'⟩ h h' hh
      obtain ⟨s1, s2⟩ := small _ _ _ _ _ _ _ _ h
      obtain ⟨s1', s2'⟩ := small _ _ _ _ _ _ _ _ h'
      rw [sameV_mk] at hh ⊢
      by_cases hk : kd k = kd k'
      · rw [if_pos hk] at hh
        rw [if_pos hk.symm, ← hk]
        by_cases h5 : kd k = 5
        · rw [if_pos h5] at hh ⊢
          simp only [Bool.and_eq_true, decide_eq_true_eq] at hh ⊢
          exact ⟨hh.1.symm, sameVs_symm its its' (fun u hu v hv => i2 u v (s1 u hu) (s1' v hv)) hh.1 hh.2⟩
        · rw [if_neg h5] at hh ⊢
          by_cases h6 : kd k = 6
          · rw [if_pos h6] at hh ⊢
            simp only [Bool.and_eq_true, decide_eq_true_eq] at hh ⊢
            exact ⟨hh.1.symm, (G fs' fs s2' s2).2 (counts_symm memS _ m1 m2 m3 fs fs' s2 s2' hh.1 ((G fs fs' s2 s2').1 hh.2))⟩
          · rw [if_neg h6] at hh ⊢
            exact plainV_symm _ _ _ _ _ _ _ _ _ _ _ hh
      · rw [if_neg hk] at hh; cases hh
    · rintro ⟨k, b, i, f, t, ty, its, fs⟩ ⟨k', b', i', f', t', ty', its', fs'⟩ ⟨k2, b2, i2', f2, t2, ty2, its2, fs2⟩ h h' h2 hh hh'
      obtain ⟨s1, s2⟩ := small _ _ _ _ _ _ _ _ h
      obtain ⟨s1', s2'⟩ := small _ _ _ _ _ _ _ _ h'
      obtain ⟨s3, s4⟩ := small _ _ _ _ _ _ _ _ h2
      rw [sameV_mk] at hh hh' ⊢
      by_cases hk : kd k = kd k'
      · rw [if_pos hk] at hh
        by_cases hk' : kd k' = kd k2
        · rw [if_pos hk', ← hk] at hh'
          rw [if_pos (hk.trans hk')]
          by_cases h5 : kd k = 5
          · rw [if_pos h5] at hh hh' ⊢
            simp only [Bool.and_eq_true, decide_eq_true_eq] at hh hh' ⊢
            exact ⟨hh.1.trans hh'.1, sameVs_trans its its' its2 (fun u hu v hv w hw => i3 u v w (s1 u hu) (s1' v hv) (s3 w hw)) hh.1 hh.2 hh'.2⟩
          · rw [if_neg h5] at hh hh' ⊢
            by_cases h6 : kd k = 6
            · rw [if_pos h6] at hh hh' ⊢
              simp only [Bool.and_eq_true, decide_eq_true_eq] at hh hh' ⊢
              exact ⟨hh.1.trans hh'.1, (G fs fs2 s2 s4).2 (fun z hz => Nat.le_trans ((G fs fs' s2 s2').1 hh.2 z hz) ((G fs' fs2 s2' s4).1 hh'.2 z hz))⟩
            · rw [if_neg h6] at hh hh' ⊢
              exact plainV_trans _ _ _ _ _ _ _ _ _ _ _ _ _ _ _ _ hh hh'
        · rw [if_neg hk'] at hh'; cases hh'
      · rw [if_neg hk] at hh; cases hh

theorem sameV_refl (u : V) : sameV u u = true := (same_equiv _).1 u (Nat.le_refl _)
theorem sameV_symm (u v : V) : sameV u v = sameV v u := by
  have h := (same_equiv (szV u + szV v)).2.1
  cases h1 : sameV u v
  · cases h2 : sameV v u
    · rfl
    · rw [h v u (by omega) (by omega) h2] at h1; cases h1
  · rw [h u v (by omega) (by omega) h1]
theorem sameV_trans {u v w : V} (h1 : sameV u v = true) (h2 : sameV v w = true) : sameV u w = true := (same_equiv (szV u + szV v + szV w)).2.2 u v w (by omega) (by omega) (by omega) h1 h2
theorem sameV_left {u v : V} (w : V) (h : sameV u v = true) : sameV v w = sameV u w := by
  cases h1 : sameV u w
  · cases h2 : sameV v w
    · rfl
    · rw [sameV_trans h h2] at h1; cases h1
  · exact sameV_trans (by rw [sameV_symm]; exact h) h1
end Go.Proofs.YtnmnmkdmnohbmaaGreatDoor

namespace Go.Proofs.YtnmnmkdmnohbmaaGreatDoor
open Go.RowKit
attribute [local go_sem] run_store_float

/-- The numbers that are not taken. -/
def freeOf (n : Nat) (fl : Nat → Bool) : List Nat := (List.range n).filter (fun j => !fl j)

theorem freeOf_find {n : Nat} {fl q : Nat → Bool} {j : Nat} (hj : j < n) (h0 : fl j = false) (h1 : q j = true) (h2 : ∀ m, m < j → fl m = false → q m = false) : (freeOf n fl).find? q = some j := by
  unfold freeOf
  rw [List.find?_filter, List.find?_range_eq_some]
  refine ⟨by simp [h0, h1], by simp [hj], fun m hm => ?_⟩
  cases h : fl m
  · simp [h2 m hm h]
  · simp
theorem freeOf_none {n : Nat} {fl q : Nat → Bool} (h : ∀ m, m < n → fl m = false → q m = false) : (freeOf n fl).find? q = none := by
  unfold freeOf
  rw [List.find?_eq_none]
  intro m hm
  simp only [List.mem_filter, List.mem_range, Bool.not_eq_true'] at hm
  simp [h m hm.1 hm.2]
theorem freeOf_set (n : Nat) (fl : Nat → Bool) (j : Nat) : freeOf n (fun m => if m = j then true else fl m) = (freeOf n fl).filter (fun i => i != j) := by
  unfold freeOf
  rw [List.filter_filter]
  apply List.filter_congr
  intro m _
  by_cases h : m = j
  · simp [h]
  · simp [h]
theorem freeOf_all (n : Nat) : freeOf n (fun _ => false) = List.range n := by simp [freeOf]

/-- Block T holds the flags. -/
def TakenAt (w : World) (T n : Nat) (fl : Nat → Bool) : Prop := ∃ cur, w.heap[T]? = some (.cells cur 4 (0, 0)) ∧ cur.size = n ∧ ∀ j, j < n → cur[j]? = some (.bool (fl j))

theorem TakenAt.below {B : Nat} {w w' : World} {T n : Nat} {fl : Nat → Bool} (h : TakenAt w T n fl) (hb : Below B w w') (hT : T < B) : TakenAt w' T n fl := by
  obtain ⟨cur, h1, h2, h3⟩ := h
  exact ⟨cur, (hb.block T hT).trans h1, h2, h3⟩
theorem TakenAt.lt {w : World} {T n : Nat} {fl : Nat → Bool} (h : TakenAt w T n fl) : T < w.heap.size := by
  obtain ⟨cur, h1, h2, h3⟩ := h
  exact (Array.getElem?_eq_some_iff.1 h1).1
theorem TakenAt.cell {w : World} {T n : Nat} {fl : Nat → Bool} (h : TakenAt w T n fl) {j : Nat} (hj : j < n) : w.cell? ⟨T, j, none⟩ = some (.bool (fl j)) ∧ w.frozen? ⟨T, j, none⟩ = false := by
  obtain ⟨cur, h1, h2, h3⟩ := h
  exact ⟨by simp only [World.cell?, h1]; exact h3 j hj, by simp [World.frozen?, h1]⟩
theorem TakenAt.set {w : World} {T n : Nat} {fl : Nat → Bool} (h : TakenAt w T n fl) (j : Nat) : TakenAt (w.setCell ⟨T, j, none⟩ (.bool true)) T n (fun m => if m = j then true else fl m) := by
  obtain ⟨cur, h1, h2, h3⟩ := h
  refine ⟨_, heap_setCell_same h1 _, by simpa using h2, fun m hm => ?_⟩
  by_cases e : m = j
  · subst e
    rw [Array.getElem?_setIfInBounds_self]
    simp [h2, hm]
  · rw [Array.getElem?_setIfInBounds_ne (Ne.symm e)]
    simp [e, h3 m hm]
theorem TakenAt.made (w : World) (n : Nat) : TakenAt (w.alloc (.cells (madeCells #[.bool false] n) 4)) w.heap.size n (fun _ => false) := by
  refine ⟨_, heap_new _ _, by simp [madeCells], fun j hj => ?_⟩
  simp [madeCells, hj, Nat.mod_one]

theorem sameVs_nil (l : List V) : sameVs [] l = true := by rw [sameVs]; simp
theorem sameVs_at {its its' : List V} {j : Nat} {x x' : V} (h : its[j]? = some x) (h' : its'[j]? = some x') : sameVs (its.drop j) (its'.drop j) = (sameV x x' && sameVs (its.drop (j + 1)) (its'.drop (j + 1))) := by
  rw [drop_some h, drop_some h', sameVs]

end Go.Proofs.YtnmnmkdmnohbmaaGreatDoor

namespace Go.Proofs.YtnmnmkdmnohbmaaGreatDoor
open Go.RowKit
attribute [local go_sem] run_store_float St.cells

def nameIs (n : ByteArray) (x : ByteArray × V) : Bool := x.1.toList == n.toList

/-- Where the child stands among the items or the fields. -/
def childIx (v : V) (s : St) : Option Nat :=
  if s.it then (if kd v.kind = 5 ∧ 0 ≤ s.ix ∧ s.ix < v.its.length then some s.ix.toNat else none)
  else if kd v.kind = 6 then v.fs.findIdx? (nameIs s.nm) else none

def findI (v : V) (s : St) : Int := match childIx v s with
  | some n => n
  | none => -1

def child (v : V) (s : St) : Option V := (childIx v s).bind fun n => if s.it then v.its[n]? else (v.fs[n]?).map (·.2)

theorem findIdx_none {α : Type} {l : List α} {f : α → Bool} (h : ∀ (i : Nat) x, l[i]? = some x → f x = false) : l.findIdx? f = none := by
  rw [List.findIdx?_eq_none_iff]
  intro x hx
  obtain ⟨i, hi⟩ := List.getElem?_of_mem hx
  exact h i x hi

theorem findIdx_at {α : Type} {l : List α} {f : α → Bool} {n : Nat} {x : α} (hx : l[n]? = some x) (h : f x = true) (h' : ∀ (i : Nat) y, i < n → l[i]? = some y → f y = false) : l.findIdx? f = some n := by
  obtain ⟨hn, rfl⟩ := List.getElem?_eq_some_iff.1 hx
  rw [List.findIdx?_eq_some_iff_getElem]
  refine ⟨hn, h, fun j hj => ?_⟩
  have := h' j _ hj (List.getElem?_eq_getElem (by omega))
  simp [this]

theorem cells_two (w : World) (A B : Array Value) (s t : TypeId) :
    (∀ w1, Below ((w.alloc (.cells A s)).alloc (.cells B t)).heap.size ((w.alloc (.cells A s)).alloc (.cells B t)) w1 → CellsAt w1 w.heap.size 0 A) ∧
    (∀ w1, Below ((w.alloc (.cells A s)).alloc (.cells B t)).heap.size ((w.alloc (.cells A s)).alloc (.cells B t)) w1 → CellsAt w1 (w.heap.size + 1) 0 B) := by
  refine ⟨fun w1 hb => ?_, fun w1 hb => ?_⟩
  · exact ((cellsAt_alloc w _ _ _).below ((Below.refl _ _).alloc (Nat.le_refl _) _) (by simp)).below hb (by simp; omega)
  · have := cellsAt_alloc (w.alloc (.cells A s)) B t (0, 0)
    rw [World.size_alloc] at this
    exact this.below hb (by simp)

end Go.Proofs.YtnmnmkdmnohbmaaGreatDoor

namespace Go.Proofs.YtnmnmkdmnohbmaaGreatDoor
open Go.RowKit
attribute [local go_sem] run_store_float St.cells

def shift (a : Addr) (n : Nat) : Addr := ⟨a.block, a.off + n, none⟩

/-- The address of the child. -/
def spotA (p q : Option Addr) (v : V) (s : St) : Option Addr := (childIx v s).bind fun n => if s.it then p.map (shift · (n * 8)) else q.map (shift · (n * 9 + 1))

theorem cells_one (w : World) (A : Array Value) (s : TypeId) : ∀ w1, Below (w.alloc (.cells A s)).heap.size (w.alloc (.cells A s)) w1 → CellsAt w1 w.heap.size 0 A :=
  fun w1 hb => (cellsAt_alloc w _ _ _).below hb (by simp)

end Go.Proofs.YtnmnmkdmnohbmaaGreatDoor

namespace Go.Proofs.YtnmnmkdmnohbmaaGreatDoor
open Go.RowKit
attribute [local go_sem] run_store_float St.cells

/-- What stands at a path. -/
def getV : V → List St → Option V
  | v, [] => some v
  | v, s :: r => (child v s).bind (getV · r)

/-- The value of nothing. -/
def V0 : V := .mk 0 false 0 0 ⟨#[]⟩ ⟨#[]⟩ [] []
@[reducible] def cells0 : Array Value := vcells 0 false 0 0 ⟨#[]⟩ ⟨#[]⟩ none 0 0 none 0 0

theorem own0 (w : World) : OwnV w V0 cells0 [] := ⟨none, 0, none, 0, [], [], rfl, rfl, by simp [lenMax], by simp [lenMax], .inl ⟨rfl, rfl, rfl, rfl⟩, .inl ⟨rfl, rfl, rfl, rfl⟩⟩

/-- What Get and Set answer: a value in blocks of its own, and whether. -/
def GetPost (r : Option V) (w : World) (e : Ending) (w' : World) : Prop :=
  ∃ cs bs, e = .returned (.tuple #[.agg cs, .bool r.isSome]) ∧ OwnV w' (r.getD V0) cs bs ∧ bs.Nodup ∧ (∀ x ∈ bs, w.heap.size ≤ x ∧ x < w'.heap.size) ∧ Below w.heap.size w w'

theorem childIx_lt {v : V} {s : St} {n : Nat} (h : childIx v s = some n) : if s.it then n < v.its.length else n < v.fs.length := by
  unfold childIx at h
  by_cases hi : s.it = true
  · rw [if_pos hi] at h ⊢
    split at h
    · rename_i hc
      have : s.ix.toNat = n := by simpa using h
      omega
    · cases h
  · rw [if_neg hi] at h ⊢
    split at h
    · exact (List.findIdx?_eq_some_iff_getElem.1 h).1
    · cases h

theorem spot_none {p q : Option Addr} {v : V} {s : St} (h : child v s = none) : spotA p q v s = none := by
  unfold child at h
  unfold spotA
  cases hc : childIx v s with
  | none => rfl
  | some n =>
    exfalso
    have := childIx_lt hc
    rw [hc] at h
    by_cases hi : s.it = true
    · rw [if_pos hi] at this
      simp [hi, this] at h
    · rw [if_neg hi] at this
      simp [hi, this] at h

theorem spot_some {B : Nat} {w : World} {k : Int} {b : Bool} {i : Int} {f : Nat} {t ty : ByteArray} {its : List V} {fs : List (ByteArray × V)} {p q : Option Addr} {c d : Nat} {s : St} {u : V}
    (hv : IsV B w (.mk k b i f t ty its fs) (vcells k b i f t ty p its.length c q fs.length d)) (h : child (.mk k b i f t ty its fs) s = some u) :
    ∃ g o cs, spotA p q (.mk k b i f t ty its fs) s = some ⟨g, o, none⟩ ∧ g < B ∧ CellsAt w g o cs ∧ IsV B w u cs := by
  obtain ⟨p', c', q', d', he, hi, hf, l1, l2⟩ := hv
  obtain ⟨⟨rfl, rfl⟩, rfl, rfl⟩ : (p = p' ∧ c = c') ∧ q = q' ∧ d = d' := by simpa [vcells] using he
  unfold child at h
  unfold spotA
  cases hc : childIx (.mk k b i f t ty its fs) s with
  | none => rw [hc] at h; cases h
  | some n =>
    rw [hc] at h
    by_cases hit : s.it = true
    · simp only [Option.bind_some, hit, if_true, V.its] at h ⊢
      rcases hi with hi | ⟨g, o, rfl, hg, hvs⟩
      · subst hi; simp at h
      · obtain ⟨cs, h1, h2⟩ := hvs.get h
        exact ⟨g, o + n * 8, cs, rfl, hg, h1, h2⟩
    · simp only [Option.bind_some, hit, Bool.false_eq_true, if_false, V.fs] at h ⊢
      rcases hf with hf | ⟨g, o, rfl, hg, hvs⟩
      · subst hf; simp at h
      · obtain ⟨x, hx, rfl⟩ : ∃ x, fs[n]? = some x ∧ x.2 = u := by simpa using h
        obtain ⟨_, cs, h1, h2⟩ := hvs.get hx
        exact ⟨g, o + (n * 9 + 1), cs, rfl, hg, by rw [← Nat.add_assoc]; exact h1, h2⟩

theorem child_size {v : V} {s : St} {u : V} (h : child v s = some u) : szV u < szV v ∧ (okV v → okV u) := by
  obtain ⟨k, b, i, f, t, ty, its, fs⟩ := v
  unfold child at h
  cases hc : childIx (.mk k b i f t ty its fs) s with
  | none => rw [hc] at h; cases h
  | some n =>
    rw [hc] at h
    by_cases hit : s.it = true
    · simp only [Option.bind_some, hit, if_true, V.its] at h
      have := szVs_get h
      exact ⟨by simp only [szV]; omega, fun hk => hk.2.1.get h⟩
    · simp only [Option.bind_some, hit, Bool.false_eq_true, if_false, V.fs] at h
      obtain ⟨x, hx, rfl⟩ : ∃ x, fs[n]? = some x ∧ x.2 = u := by simpa using h
      have := szFs_get hx
      exact ⟨by simp only [szV]; omega, fun hk => hk.2.2.get hx⟩

theorem getV_size : ∀ {l : List St} {v u : V}, getV v l = some u → szV u ≤ szV v ∧ (okV v → okV u)
  | [], v, u, h => by obtain rfl : v = u := by simpa [getV] using h
                      exact ⟨Nat.le_refl _, id⟩
  | s :: r, v, u, h => by
    unfold getV at h
    cases hc : child v s with
    | none => rw [hc] at h; cases h
    | some x =>
      rw [hc] at h
      have h1 := child_size hc
      have h2 := getV_size (l := r) h
      exact ⟨by omega, fun hk => h2.2 (h1.2 hk)⟩

end Go.Proofs.YtnmnmkdmnohbmaaGreatDoor

namespace Go.Proofs.YtnmnmkdmnohbmaaGreatDoor
open Go.RowKit

/-- v, with x for the child to which s leads. -/
def putC (v : V) (s : St) (x : V) : V := match v, childIx v s with
  | .mk k b i f t ty its fs, some n => if s.it then .mk k b i f t ty (its.set n x) fs else .mk k b i f t ty its (fs.modify n (fun y => (y.1, x)))
  | v, none => v

def setV : V → List St → V → Option V
  | _, [], x => some x
  | v, s :: r, x => (child v s).bind fun c => (setV c r x).map (putC v s)

theorem OwnVs.from {w w' : World} : ∀ {l : List V} {g o : Nat} {bs : List Nat}, OwnVs w l g o bs → Kept bs w w' → (∀ j, o ≤ j → w'.cell? ⟨g, j, none⟩ = w.cell? ⟨g, j, none⟩) → OwnVs w' l g o bs
  | [], _, _, _, h, _, _ => h
  | v :: r, g, o, bs, h, hk, hc => by
    obtain ⟨b1, b2, cs, rfl, h1, h2, h3⟩ := h
    exact ⟨b1, b2, cs, rfl, fun j x hx => (hc _ (by omega)).trans (h1 j x hx), h2.kept (fun x hx => hk x (by simp [hx])), OwnVs.from h3 (fun x hx => hk x (by simp [hx])) (fun j hj => hc j (by omega))⟩

theorem OwnFs.from {w w' : World} : ∀ {l : List (ByteArray × V)} {g o : Nat} {bs : List Nat}, OwnFs w l g o bs → Kept bs w w' → (∀ j, o ≤ j → w'.cell? ⟨g, j, none⟩ = w.cell? ⟨g, j, none⟩) → OwnFs w' l g o bs
  | [], _, _, _, h, _, _ => h
  | v :: r, g, o, bs, h, hk, hc => by
    obtain ⟨b1, b2, cs, rfl, h0, h1, h2, h3⟩ := h
    exact ⟨b1, b2, cs, rfl, (hc _ (by omega)).trans h0, fun j x hx => (hc _ (by omega)).trans (h1 j x hx), h2.kept (fun x hx => hk x (by simp [hx])), OwnFs.from h3 (fun x hx => hk x (by simp [hx])) (fun j hj => hc j (by omega))⟩

/-- One of a list of values is put anew. -/
theorem OwnVs.put {w : World} : ∀ {l : List V} {g o n : Nat} {bs : List Nat} {c : V}, OwnVs w l g o bs → l[n]? = some c →
    ∃ A B C ccs, bs = A ++ (B ++ C) ∧ CellsAt w g (o + n * 8) ccs ∧ OwnV w c ccs B ∧
      ∀ w' c' ccs' B', CellsAt w' g (o + n * 8) ccs' → OwnV w' c' ccs' B' → Kept A w w' → Kept C w w' → (∀ j, (j < o + n * 8 ∨ o + n * 8 + 8 ≤ j) → w'.cell? ⟨g, j, none⟩ = w.cell? ⟨g, j, none⟩) →
        OwnVs w' (l.set n c') g o (A ++ (B' ++ C))
  | [], _, _, _, _, _, _, h => by simp at h
  | v :: r, g, o, 0, bs, c, h, hn => by
    obtain rfl : v = c := by simpa using hn
    obtain ⟨b1, b2, cs, rfl, h1, h2, h3⟩ := h
    refine ⟨[], b1, b2, cs, by simp, by simpa using h1, h2, fun w' c' ccs' B' k1 k2 _ k3 k4 => ?_⟩
    rw [List.set_cons_zero]
    exact ⟨B', b2, ccs', by simp, by simpa using k1, k2, h3.from k3 (fun j hj => k4 j (by omega))⟩
  | v :: r, g, o, n + 1, bs, c, h, hn => by
    obtain ⟨b1, b2, cs, rfl, h1, h2, h3⟩ := h
    have hv := vsize h2
    obtain ⟨A, B, C, ccs, rfl, g1, g2, g3⟩ := OwnVs.put (n := n) h3 (by simpa using hn)
    have e : o + (n + 1) * 8 = o + 8 + n * 8 := by omega
    refine ⟨b1 ++ A, B, C, ccs, by simp, by rw [e]; exact g1, g2, fun w' c' ccs' B' k1 k2 kA kC k4 => ?_⟩
    rw [List.set_cons_succ]
    refine ⟨b1, A ++ (B' ++ C), cs, by simp, fun j x hx => ?_, h2.kept (fun x hx => kA x (by simp [hx])), g3 w' c' ccs' B' (by rw [← e]; exact k1) k2 (fun x hx => kA x (by simp [hx])) kC (fun j hj => k4 j (by omega))⟩
    have hj := (Array.getElem?_eq_some_iff.1 hx).1
    exact (k4 _ (by omega)).trans (h1 j x hx)

theorem OwnFs.put {w : World} : ∀ {l : List (ByteArray × V)} {g o n : Nat} {bs : List Nat} {nm : ByteArray} {c : V}, OwnFs w l g o bs → l[n]? = some (nm, c) →
    ∃ A B C ccs, bs = A ++ (B ++ C) ∧ CellsAt w g (o + n * 9 + 1) ccs ∧ OwnV w c ccs B ∧
      ∀ w' c' ccs' B', CellsAt w' g (o + n * 9 + 1) ccs' → OwnV w' c' ccs' B' → Kept A w w' → Kept C w w' → (∀ j, (j < o + n * 9 + 1 ∨ o + n * 9 + 1 + 8 ≤ j) → w'.cell? ⟨g, j, none⟩ = w.cell? ⟨g, j, none⟩) →
        OwnFs w' (l.modify n (fun y => (y.1, c'))) g o (A ++ (B' ++ C))
  | [], _, _, _, _, _, _, _, h => by simp at h
  | v :: r, g, o, 0, bs, nm, c, h, hn => by
    obtain rfl : v = (nm, c) := by simpa using hn
    obtain ⟨b1, b2, cs, rfl, h0, h1, h2, h3⟩ := h
    refine ⟨[], b1, b2, cs, by simp, by simpa using h1, h2, fun w' c' ccs' B' k1 k2 _ k3 k4 => ?_⟩
    rw [List.modify_zero_cons]
    exact ⟨B', b2, ccs', by simp, (k4 _ (by omega)).trans h0, by simpa using k1, k2, h3.from k3 (fun j hj => k4 j (by omega))⟩
  | v :: r, g, o, n + 1, bs, nm, c, h, hn => by
    obtain ⟨b1, b2, cs, rfl, h0, h1, h2, h3⟩ := h
    have hv := vsize h2
    obtain ⟨A, B, C, ccs, rfl, g1, g2, g3⟩ := OwnFs.put (n := n) h3 (by simpa using hn)
    have e : o + (n + 1) * 9 = o + 9 + n * 9 := by omega
    refine ⟨b1 ++ A, B, C, ccs, by simp, by rw [e]; exact g1, g2, fun w' c' ccs' B' k1 k2 kA kC k4 => ?_⟩
    rw [List.modify_succ_cons]
    refine ⟨b1, A ++ (B' ++ C), cs, by simp, (k4 _ (by omega)).trans h0, fun j x hx => ?_, h2.kept (fun x hx => kA x (by simp [hx])), g3 w' c' ccs' B' (by rw [← e]; exact k1) k2 (fun x hx => kA x (by simp [hx])) kC (fun j hj => k4 j (by omega))⟩
    have hj := (Array.getElem?_eq_some_iff.1 hx).1
    exact (k4 _ (by omega)).trans (h1 j x hx)

/-- Block g is as it was but for eight cells from o on. -/
def SameBut (w w' : World) (g o : Nat) : Prop := ∀ cur e fz, w.heap[g]? = some (.cells cur e fz) → ∃ cur', w'.heap[g]? = some (.cells cur' e fz) ∧ cur'.size = cur.size ∧ ∀ j, (j < o ∨ o + 8 ≤ j) → cur'[j]? = cur[j]?

theorem SameBut.cell {w w' : World} {g o : Nat} (h : SameBut w w' g o) {cur : Array Value} {e : TypeId} {fz : Nat × Nat} (hg : w.heap[g]? = some (.cells cur e fz)) :
    ∀ j, (j < o ∨ o + 8 ≤ j) → w'.cell? ⟨g, j, none⟩ = w.cell? ⟨g, j, none⟩ := by
  intro j hj
  obtain ⟨cur', h1, _, h3⟩ := h _ _ _ hg
  simp only [World.cell?, h1, hg]
  exact h3 j hj

/-- A place: what is put at (g, o) leaves a value in blocks of its own at the head of block G. -/
def Plug (w : World) (F : V → V) (own : List Nat) (g o G : Nat) : Prop :=
  ∀ w' x xcs xb, CellsAt w' g o xcs → OwnV w' x xcs xb → xb.Nodup → (∀ y ∈ xb, y ∉ own) → (∀ y ∈ own, y ≠ g → w'.heap[y]? = w.heap[y]?) → SameBut w w' g o →
    ∃ cs bs, CellsAt w' G 0 cs ∧ OwnV w' (F x) cs bs ∧ bs.Nodup ∧ G ∉ bs ∧ ∀ y ∈ bs, y ∈ own ∨ y ∈ xb

theorem Plug.root (w : World) (G : Nat) : Plug w id [G] G 0 G := fun w' x xcs xb h1 h2 h3 h4 _ _ => ⟨xcs, xb, h1, h2, h3, fun h => h4 _ h (by simp), fun y hy => .inr hy⟩

theorem Plug.step {w : World} {F : V → V} {own : List Nat} {g o G : Nat} (hP : Plug w F own g o G) {u u1 : V} {s : St} {k : Int} {b : Bool} {i : Int} {f : Nat} {t ty : ByteArray} {its : List V} {fs : List (ByteArray × V)} {p q : Option Addr} {c d : Nat} {ub : List Nat}
    (hu : u = .mk k b i f t ty its fs) (hc : CellsAt w g o (vcells k b i f t ty p its.length c q fs.length d)) (ho : OwnV w u (vcells k b i f t ty p its.length c q fs.length d) ub) (hn : ub.Nodup) (hd : ∀ y ∈ ub, y ∉ own) (hg : g ∈ own)
    (hch : child u s = some u1) :
    ∃ g1 o1 ucs1 ub1 own1, spotA p q u s = some ⟨g1, o1, none⟩ ∧ CellsAt w g1 o1 ucs1 ∧ OwnV w u1 ucs1 ub1 ∧ ub1.Nodup ∧ (∀ y ∈ ub1, y ∉ own1) ∧ g1 ∈ own1 ∧ Plug w (fun x => F (putC u s x)) own1 g1 o1 G ∧
      (∀ y, y ∈ own1 ∨ y ∈ ub1 → y ∈ own ∨ y ∈ ub) ∧ (∀ j, j < 8 → w.frozen? ⟨g1, o1 + j, none⟩ = false) ∧ g1 ∈ ub := by
  subst hu
  obtain ⟨p', c', q', d', b1, b2, he, rfl, l1, l2, hi, hf⟩ := ho
  obtain ⟨⟨rfl, rfl⟩, rfl, rfl⟩ : (p = p' ∧ c = c') ∧ q = q' ∧ d = d' := by simpa [vcells] using he
  obtain ⟨n, hix, -, hxi, hxf⟩ : ∃ n : Nat, childIx (.mk k b i f t ty its fs) s = some n ∧ True ∧ (s.it = true → its[n]? = some u1) ∧ (s.it = false → ∃ nm, fs[n]? = some (nm, u1)) := by
    unfold child at hch
    cases hx : childIx (.mk k b i f t ty its fs) s with
    | none => rw [hx] at hch; cases hch
    | some n =>
      rw [hx] at hch
      refine ⟨n, rfl, trivial, fun hi => ?_, fun hi => ?_⟩
      · simpa [hi, V.its] using hch
      · obtain ⟨x, hx, rfl⟩ : ∃ x, fs[n]? = some x ∧ x.2 = u1 := by simpa [hi, V.fs] using hch
        exact ⟨x.1, hx⟩
  cases hit : s.it with
  | true =>
    have hx := hxi hit
    rcases hi with ⟨rfl, _⟩ | ⟨gi, br, cur, rfl, rfl, hh, e1, e2, e3, hvs⟩
    · simp at hx
    obtain ⟨A, B, C, ccs, rfl, g1, g2, g3⟩ := hvs.put hx
    have hgo : gi ∉ own := hd gi (by simp)
    have hgg : g ≠ gi := fun e => hgo (e ▸ hg)
    simp only [List.cons_append, List.nodup_cons, List.nodup_append, List.mem_append, not_or] at hn
    refine ⟨gi, 0 + n * 8, ccs, B, gi :: (own ++ (A ++ (C ++ b2))), ?_, g1, g2, hn.2.1.2.1.1, ?_, by simp, ?_, ?_, ?_, by simp⟩
    · simp [spotA, hix, hit, shift]
    · intro y hy hm
      have hyo := hd y (by simp [hy])
      simp only [List.mem_cons, List.mem_append] at hm
      rcases hm with rfl | hm | hm | hm | hm
      · exact hn.1.1.2.1 hy
      · exact hyo hm
      · exact hn.2.1.2.2 y hm y (.inl hy) rfl
      · exact hn.2.1.2.1.2.2 y hy y hm rfl
      · exact hn.2.2.2 y (.inr (.inl hy)) y hm rfl
    · intro w' x xcs xb k1 k2 k3 k4 k5 k6
      have kA : Kept A w w' := fun y hy => k5 y (by simp [hy]) (fun e => hn.1.1.1 (e ▸ hy))
      have kC : Kept C w w' := fun y hy => k5 y (by simp [hy]) (fun e => hn.1.1.2.2 (e ▸ hy))
      have kb : Kept b2 w w' := fun y hy => k5 y (by simp [hy]) (fun e => hn.1.2 (e ▸ hy))
      have hput := g3 w' x xcs xb k1 k2 kA kC (k6.cell hh)
      obtain ⟨cur', m1, m2, m3⟩ := k6 _ _ _ hh
      have hpc : putC (.mk k b i f t ty its fs) s x = .mk k b i f t ty (its.set n x) fs := by simp [putC, hix, hit]
      have hown : OwnV w' (putC (.mk k b i f t ty its fs) s x) (vcells k b i f t ty (some ⟨gi, 0, none⟩) its.length c q fs.length d) ((gi :: (A ++ (xb ++ C))) ++ b2) := by
        rw [hpc]
        have hI : ItemsOwn w' (its.set n x) (some ⟨gi, 0, none⟩) c (gi :: (A ++ (xb ++ C))) := .inr ⟨gi, _, cur', rfl, rfl, m1, by rw [m2, e1], by simpa using e2, e3, hput⟩
        have hF : FieldsOwn w' fs q d b2 := (show FieldsOwn w fs q d b2 from hf).kept kb
        have := OwnV.intro (k := k) (b := b) (i := i) (f := f) (t := t) (ty := ty) (by simpa using l1) l2 hI hF
        simpa using this
      have hcell : CellsAt w' g o (vcells k b i f t ty (some ⟨gi, 0, none⟩) its.length c q fs.length d) := hc.kept (k5 g (by simp [hg]) hgg)
      have hA : ((gi :: (A ++ (xb ++ C))) ++ b2).Nodup := by
        simp only [List.cons_append, List.nodup_cons, List.nodup_append, List.mem_append, not_or]
        refine ⟨⟨⟨hn.1.1.1, ⟨fun h => k4 gi h (by simp), hn.1.1.2.2⟩⟩, hn.1.2⟩, ⟨hn.2.1.1, ⟨k3, hn.2.1.2.1.2.1, fun a ha y hy e => k4 a ha (by subst e; simp [hy])⟩, fun a ha y hy e => ?_⟩, hn.2.2.1, fun a ha y hy e => ?_⟩
        · subst e
          rcases hy with hy | hy
          · exact k4 a hy (by simp [ha])
          · exact hn.2.1.2.2 a ha a (.inr hy) rfl
        · subst e
          rcases ha with ha | ha | ha
          · exact hn.2.2.2 a (.inl ha) a hy rfl
          · exact k4 a ha (by simp [hy])
          · exact hn.2.2.2 a (.inr (.inr ha)) a hy rfl
      have hB : ∀ y ∈ (gi :: (A ++ (xb ++ C))) ++ b2, y ∉ own := by
        intro y hy hyo
        simp only [List.mem_append, List.mem_cons] at hy
        rcases hy with (rfl | hy | hy | hy) | hy
        · exact hgo hyo
        · exact hd y (by simp [hy]) hyo
        · exact k4 y hy (by simp [hyo])
        · exact hd y (by simp [hy]) hyo
        · exact hd y (by simp [hy]) hyo
      obtain ⟨cs, bs, r1, r2, r3, r4, r5⟩ := hP w' _ _ _ hcell hown hA hB (fun y hy hyg => k5 y (by simp [hy]) (fun e => hgo (e ▸ hy))) (fun cur e fz h => ⟨cur, by rw [k5 g (by simp [hg]) hgg]; exact h, rfl, fun _ _ => rfl⟩)
      refine ⟨cs, bs, r1, r2, r3, r4, fun y hy => ?_⟩
      have := r5 y hy
      simp only [List.mem_append, List.mem_cons] at this ⊢
      grind
    · intro y hy
      simp only [List.mem_append, List.mem_cons] at hy ⊢
      grind
    · intro j hj
      simp [World.frozen?, hh]
  | false =>
    obtain ⟨nm, hx⟩ := hxf hit
    rcases hf with ⟨rfl, _⟩ | ⟨gi, br, cur, rfl, rfl, hh, e1, e2, e3, hvs⟩
    · simp at hx
    obtain ⟨A, B, C, ccs, rfl, g1, g2, g3⟩ := hvs.put hx
    have hgo : gi ∉ own := hd gi (by simp)
    have hgg : g ≠ gi := fun e => hgo (e ▸ hg)
    have hub : b1.Nodup ∧ gi ∉ b1 ∧ gi ∉ A ∧ gi ∉ B ∧ gi ∉ C ∧ A.Nodup ∧ B.Nodup ∧ C.Nodup ∧ (∀ y ∈ b1, y ∉ A ∧ y ∉ B ∧ y ∉ C) ∧ (∀ y ∈ A, y ∉ B ∧ y ∉ C) ∧ (∀ y ∈ B, y ∉ C) := by
      simp only [List.nodup_cons, List.nodup_append, List.mem_append, List.mem_cons, not_or] at hn
      grind
    obtain ⟨n1, n2, n3, n4, n5, n6, n7, n8, n9, n10, n11⟩ := hub
    refine ⟨gi, 0 + (n * 9 + 1), ccs, B, gi :: (own ++ (b1 ++ (A ++ C))), ?_, by rw [← Nat.add_assoc]; exact g1, g2, n7, ?_, by simp, ?_, ?_, ?_, by simp⟩
    · simp [spotA, hix, hit, shift]
    · intro y hy hm
      have hyo := hd y (by simp [hy])
      simp only [List.mem_cons, List.mem_append] at hm
      grind
    · rw [← Nat.add_assoc]
      intro w' x xcs xb k1 k2 k3 k4 k5 k6
      have kA : Kept A w w' := fun y hy => k5 y (by simp [hy]) (fun e => n3 (e ▸ hy))
      have kC : Kept C w w' := fun y hy => k5 y (by simp [hy]) (fun e => n5 (e ▸ hy))
      have kb : Kept b1 w w' := fun y hy => k5 y (by simp [hy]) (fun e => n2 (e ▸ hy))
      have hput := g3 w' x xcs xb k1 k2 kA kC (k6.cell hh)
      obtain ⟨cur', m1, m2, m3⟩ := k6 _ _ _ hh
      have hpc : putC (.mk k b i f t ty its fs) s x = .mk k b i f t ty its (fs.modify n (fun y => (y.1, x))) := by simp [putC, hix, hit]
      have hown : OwnV w' (putC (.mk k b i f t ty its fs) s x) (vcells k b i f t ty p its.length c (some ⟨gi, 0, none⟩) fs.length d) (b1 ++ (gi :: (A ++ (xb ++ C)))) := by
        rw [hpc]
        have hF : FieldsOwn w' (fs.modify n (fun y => (y.1, x))) (some ⟨gi, 0, none⟩) d (gi :: (A ++ (xb ++ C))) := .inr ⟨gi, _, cur', rfl, rfl, m1, by rw [m2, e1], by simpa using e2, e3, hput⟩
        have hI : ItemsOwn w' its p c b1 := (show ItemsOwn w its p c b1 from hi).kept kb
        have := OwnV.intro (k := k) (b := b) (i := i) (f := f) (t := t) (ty := ty) l1 (by simpa using l2) hI hF
        simpa using this
      have hcell : CellsAt w' g o (vcells k b i f t ty p its.length c (some ⟨gi, 0, none⟩) fs.length d) := hc.kept (k5 g (by simp [hg]) hgg)
      have hA : (b1 ++ (gi :: (A ++ (xb ++ C)))).Nodup := by
        have k4' : ∀ y ∈ xb, ¬ y = gi ∧ y ∉ b1 ∧ y ∉ A ∧ y ∉ C := fun y hy => by
          have := k4 y hy
          simp only [List.mem_append, List.mem_cons, not_or] at this
          grind
        simp only [List.nodup_cons, List.nodup_append, List.mem_append, List.mem_cons, not_or]
        grind
      have hB : ∀ y ∈ b1 ++ (gi :: (A ++ (xb ++ C))), y ∉ own := by
        intro y hy hyo
        simp only [List.mem_append, List.mem_cons] at hy
        rcases hy with hy | rfl | hy | hy | hy
        · exact hd y (by simp [hy]) hyo
        · exact hgo hyo
        · exact hd y (by simp [hy]) hyo
        · exact k4 y hy (by simp [hyo])
        · exact hd y (by simp [hy]) hyo
      obtain ⟨cs, bs, r1, r2, r3, r4, r5⟩ := hP w' _ _ _ hcell hown hA hB (fun y hy hyg => k5 y (by simp [hy]) (fun e => hgo (e ▸ hy))) (fun cur e fz h => ⟨cur, by rw [k5 g (by simp [hg]) hgg]; exact h, rfl, fun _ _ => rfl⟩)
      refine ⟨cs, bs, r1, r2, r3, r4, fun y hy => ?_⟩
      have := r5 y hy
      simp only [List.mem_append, List.mem_cons] at this ⊢
      grind
    · intro y hy
      simp only [List.mem_append, List.mem_cons] at hy ⊢
      grind
    · intro j hj
      simp [World.frozen?, hh]

theorem heap_setCells_other (g : Nat) {b : Nat} (hb : b ≠ g) : ∀ (vs : List Value) (o : Nat) (w : World), (w.setCells g o vs).heap[b]? = w.heap[b]?
  | [], _, _ => rfl
  | v :: r, o, w => by
    rw [World.setCells, heap_setCells_other g hb r (o + 1)]
    exact Below.heap_setCell _ _ _ _ hb

theorem size_setCells (g : Nat) : ∀ (vs : List Value) (o : Nat) (w : World), (w.setCells g o vs).heap.size = w.heap.size
  | [], _, _ => rfl
  | v :: r, o, w => by rw [World.setCells, size_setCells g r (o + 1)]; simp [World.setCell]

theorem heap_setCells_same (g : Nat) {e : TypeId} {fz : Nat × Nat} : ∀ (vs : List Value) (o : Nat) (w : World) (cur : Array Value), w.heap[g]? = some (.cells cur e fz) →
    ∃ cur', (w.setCells g o vs).heap[g]? = some (.cells cur' e fz) ∧ cur'.size = cur.size ∧ ∀ j, (j < o ∨ o + vs.length ≤ j) → cur'[j]? = cur[j]?
  | [], _, _, cur, h => ⟨cur, h, rfl, fun _ _ => rfl⟩
  | v :: r, o, w, cur, h => by
    obtain ⟨cur', h1, h2, h3⟩ := heap_setCells_same g r (o + 1) _ _ (heap_setCell_same (j := o) h v)
    refine ⟨cur', h1, by simpa using h2, fun j hj => ?_⟩
    rw [h3 j (by simp only [List.length_cons] at hj; omega)]
    rw [Array.getElem?_setIfInBounds_ne (by simp only [List.length_cons] at hj; omega)]

theorem below_setCells {B : Nat} {a w : World} (h : Below B a w) {g : Nat} (hg : B ≤ g) : ∀ (vs : List Value) (o : Nat), Below B a (w.setCells g o vs)
  | [], _ => h
  | v :: r, o => by rw [World.setCells]; exact below_setCells (h.setCell hg v) hg r (o + 1)

/-- Where the walk of Set stands: at (g, o) lies u, and what is put there makes the whole. -/
def Here (w : World) (G : Nat) (obs : List Nat) (v : V) (path : List St) (j g o : Nat) (u : V) (ucs : Array Value) : Prop :=
  ∃ ub own F, CellsAt w g o ucs ∧ OwnV w u ucs ub ∧ ub.Nodup ∧ (∀ y ∈ ub, y ∉ own) ∧ g ∈ own ∧ Plug w F own g o G ∧ (∀ y, y ∈ own ∨ y ∈ ub → y = G ∨ y ∈ obs) ∧
    (∀ j, j < 8 → w.frozen? ⟨g, o + j, none⟩ = false) ∧ (∀ x, setV v path x = (setV u (path.drop j) x).map F) ∧ szV u ≤ szV v

theorem Here.start {w : World} {G : Nat} {obs : List Nat} {v : V} {ocs : Array Value} (path : List St) {e : TypeId} (h0 : w.heap[G]? = some (.cells ocs e (0, 0))) (ho : OwnV w v ocs obs) (hn : obs.Nodup) (hG : G ∉ obs) : Here w G obs v path 0 G 0 v ocs := by
  refine ⟨obs, [G], id, ?_, ho, hn, fun y hy h => hG (by simp at h; exact h ▸ hy), by simp, Plug.root w G, by simp, fun j hj => by simp [World.frozen?, h0], fun x => by simp, Nat.le_refl _⟩
  intro m x hx
  rw [Nat.zero_add]
  simp only [World.cell?, h0]
  exact hx

theorem Here.next {w : World} {G : Nat} {obs : List Nat} {v : V} {path : List St} {j g o : Nat} {k : Int} {b : Bool} {i : Int} {f : Nat} {t ty : ByteArray} {its : List V} {fs : List (ByteArray × V)} {p q : Option Addr} {c d : Nat} {u1 : V} {s : St}
    (h : Here w G obs v path j g o (.mk k b i f t ty its fs) (vcells k b i f t ty p its.length c q fs.length d)) (hs : path[j]? = some s) (hch : child (.mk k b i f t ty its fs) s = some u1) :
    ∃ g1 o1 ucs1, spotA p q (.mk k b i f t ty its fs) s = some ⟨g1, o1, none⟩ ∧ Here w G obs v path (j + 1) g1 o1 u1 ucs1 := by
  obtain ⟨ub, own, F, h1, h2, h3, h4, h5, h6, h7, _, h9, h10⟩ := h
  obtain ⟨g1, o1, ucs1, ub1, own1, k1, k2, k3, k4, k5, k6, k7, k8, k9, _⟩ := h6.step rfl h1 h2 h3 h4 h5 hch
  refine ⟨g1, o1, ucs1, k1, ub1, own1, _, k2, k3, k4, k5, k6, k7, fun y hy => h7 y (k8 y hy), k9, fun x => ?_, ?_⟩
  · rw [h9, drop_some hs, setV, hch]
    simp [Option.map_map, Function.comp_def]
  · have := (child_size hch).1; omega

theorem Here.no {w : World} {G : Nat} {obs : List Nat} {v : V} {path : List St} {j g o : Nat} {u : V} {ucs : Array Value} {s : St} (h : Here w G obs v path j g o u ucs) (hs : path[j]? = some s) (hch : child u s = none) (x : V) : setV v path x = none := by
  obtain ⟨ub, own, F, _, _, _, _, _, _, _, _, h9, _⟩ := h
  rw [h9, drop_some hs, setV, hch]
  rfl

theorem Here.done {w wr : World} {G : Nat} {obs : List Nat} {v : V} {path : List St} {g o : Nat} {u : V} {ucs : Array Value} (h : Here w G obs v path path.length g o u ucs) (hbel : Below w.heap.size w wr) {x : V} {xcs : Array Value} {xb : List Nat}
    (hx : OwnV wr x xcs xb) (hn : xb.Nodup) (hlow : ∀ y ∈ xb, w.heap.size ≤ y ∧ y < wr.heap.size) (hG : G < w.heap.size) (ho : ∀ y ∈ obs, y < w.heap.size) :
    wr.there g o 8 ∧ (g = G ∨ g ∈ obs) ∧ ∃ y cs bs, setV v path x = some y ∧ CellsAt (wr.setCells g o xcs.toList) G 0 cs ∧ OwnV (wr.setCells g o xcs.toList) y cs bs ∧ bs.Nodup ∧ G ∉ bs ∧ ∀ z ∈ bs, (z = G ∨ z ∈ obs) ∨ z ∈ xb := by
  obtain ⟨ub, own, F, h1, h2, h3, h4, h5, h6, h7, h8, h9, h10⟩ := h
  have hgo := h7 g (.inl h5)
  have hgl : g < w.heap.size := by rcases hgo with rfl | hgo; exact hG; exact ho _ hgo
  have hlt : ∀ y, y ∈ own → y < w.heap.size := fun y hy => by rcases h7 y (.inl hy) with rfl | hy; exact hG; exact ho _ hy
  have hxs := vsize hx
  have hus := vsize h2
  have ht : wr.there g o 8 := fun j hj => by
    constructor
    · rw [hbel.cell (p := ⟨g, _, none⟩) hgl, h1 j ucs[j] (by simp [hus, hj])]
      rfl
    · have := h8 j hj
      simp only [World.frozen?] at this ⊢
      rw [hbel.block g hgl]
      exact this
  have hgx : g ∉ xb := fun hm => by have := (hlow g hm).1; omega
  have hr := World.rangeAt_setCells_same wr g o xcs.toList (by simpa [hxs] using ht)
  refine ⟨ht, hgo, ?_⟩
  obtain ⟨cs, bs, r1, r2, r3, r4, r5⟩ := h6 (wr.setCells g o xcs.toList) x xcs xb (fun m y hy => hr m y (by simpa using hy)) (hx.kept (fun y hy => heap_setCells_other g (fun e => hgx (e ▸ hy)) _ _ _)) hn
    (fun y hy hm => by have := (hlow y hy).1; have := hlt y hm; omega) (fun y hy hyg => (heap_setCells_other g hyg _ _ _).trans (hbel.block y (hlt y hy)))
    (fun cur e fz hc => by
      obtain ⟨cur', m1, m2, m3⟩ := heap_setCells_same g xcs.toList o wr cur (by rw [hbel.block g hgl]; exact hc)
      exact ⟨cur', m1, m2, fun j hj => m3 j (by simpa [hxs] using hj)⟩)
  refine ⟨F x, cs, bs, ?_, r1, r2, r3, r4, fun z hz => ?_⟩
  · rw [h9, List.drop_length]; rfl
  · rcases r5 z hz with hz | hz
    · exact .inl (h7 z (.inl hz))
    · exact .inr hz

theorem okVs_set : ∀ {l : List V} {n : Nat} {x : V}, okVs l → okV x → okVs (l.set n x)
  | [], _, _, h, _ => h
  | v :: r, 0, x, h, hx => ⟨hx, h.2⟩
  | v :: r, n + 1, x, h, hx => ⟨h.1, okVs_set (n := n) h.2 hx⟩
theorem okFs_set : ∀ {l : List (ByteArray × V)} {n : Nat} {x : V}, okFs l → okV x → okFs (l.modify n (fun y => (y.1, x)))
  | [], 0, _, h, _ => h
  | [], n + 1, _, h, _ => h
  | v :: r, 0, x, h, hx => ⟨hx, h.2⟩
  | v :: r, n + 1, x, h, hx => by rw [List.modify_succ_cons]; exact ⟨h.1, okFs_set (n := n) h.2 hx⟩

theorem okV_putC {v : V} {s : St} {x : V} (h : okV v) (hx : okV x) : okV (putC v s x) := by
  obtain ⟨k, b, i, f, t, ty, its, fs⟩ := v
  unfold putC
  cases hc : childIx (.mk k b i f t ty its fs) s with
  | none => exact h
  | some n =>
    simp only []
    split
    · exact ⟨h.1, okVs_set h.2.1 hx, h.2.2⟩
    · exact ⟨h.1, h.2.1, okFs_set h.2.2 hx⟩

theorem okV_setV : ∀ {path : List St} {v x y : V}, okV v → okV x → setV v path x = some y → okV y
  | [], v, x, y, _, hx, h => by obtain rfl : x = y := by simpa [setV] using h
                                exact hx
  | s :: r, v, x, y, hv, hx, h => by
    unfold setV at h
    cases hc : child v s with
    | none => rw [hc] at h; cases h
    | some u =>
      rw [hc] at h
      simp only [Option.bind_some, Option.map_eq_some_iff] at h
      obtain ⟨z, hz, rfl⟩ := h
      exact okV_putC hv (okV_setV ((child_size hc).2 hv) hx hz)
end Go.Proofs.YtnmnmkdmnohbmaaGreatDoor

namespace Go.Proofs.YtnmnmkdmnohbmaaGreatDoor
open Go.RowKit

theorem there_of {w : World} {g o n : Nat} {cur : Array Value} {e : TypeId} (h : w.heap[g]? = some (.cells cur e (0, 0))) (hn : o + n ≤ cur.size) : w.there g o n := by
  intro j hj
  constructor
  · simp only [World.cell?, h]
    rw [Array.getElem?_eq_getElem (by omega)]
    rfl
  · simp [World.frozen?, h]

theorem ItemsOwn.putAt {w : World} {its : List V} {p : Option Addr} {c : Nat} {b1 : List Nat} (h : ItemsOwn w its p c b1) (hn : b1.Nodup) {n : Nat} {u : V} (hu : its[n]? = some u) :
    ∃ g, p = some ⟨g, 0, none⟩ ∧ g ∈ b1 ∧ (∃ ucs B, CellsAt w g (n * 8) ucs ∧ OwnV w u ucs B ∧ ∀ y ∈ B, y ∈ b1) ∧
      ∀ wr x xcs xb, Kept b1 w wr → OwnV wr x xcs xb → xb.Nodup → (∀ y ∈ xb, y ∉ b1) → wr.there g (n * 8) 8 ∧
        ∃ b1', ItemsOwn (wr.setCells g (n * 8) xcs.toList) (its.set n x) p c b1' ∧ b1'.Nodup ∧ ∀ y ∈ b1', y ∈ b1 ∨ y ∈ xb := by
  rcases h with ⟨rfl, _⟩ | ⟨g, br, cur, rfl, rfl, hh, e1, e2, e3, hvs⟩
  · simp at hu
  obtain ⟨A, B, C, ccs, rfl, g1, g2, g3⟩ := hvs.put hu
  have hnl := (List.getElem?_eq_some_iff.1 hu).1
  have hus := vsize g2
  rw [Nat.zero_add] at g1
  simp only [List.nodup_cons, List.nodup_append, List.mem_append, not_or] at hn
  obtain ⟨⟨n1, n2, n3⟩, n4, ⟨n5, n6, n7⟩, n8⟩ := hn
  refine ⟨g, rfl, by simp, ⟨ccs, B, g1, g2, fun y hy => by simp [hy]⟩, fun wr x xcs xb hk hx hxn hxd => ?_⟩
  have hxs := vsize hx
  have hg := hk g (by simp)
  have hh' := hg.trans hh
  have hgx : g ∉ xb := fun hm => hxd g hm (by simp)
  have ht : wr.there g (n * 8) 8 := there_of hh' (by omega)
  obtain ⟨cur', m1, m2, m3⟩ := heap_setCells_same g xcs.toList (n * 8) wr cur hh'
  have hr := World.rangeAt_setCells_same wr g (n * 8) xcs.toList (by simpa [hxs] using ht)
  refine ⟨ht, g :: (A ++ (xb ++ C)), .inr ⟨g, _, cur', rfl, rfl, m1, by rw [m2, e1], by simpa using e2, e3, ?_⟩, ?_, fun y hy => ?_⟩
  · refine g3 _ x xcs xb (by rw [Nat.zero_add]; exact fun m y hy => hr m y (by simpa using hy)) (hx.kept (fun y hy => heap_setCells_other g (fun e => hgx (e ▸ hy)) _ _ _)) ?_ ?_ ?_
    · exact fun y hy => (heap_setCells_other g (fun e => n1 (e ▸ hy)) _ _ _).trans (hk y (by simp [hy]))
    · exact fun y hy => (heap_setCells_other g (fun e => n3 (e ▸ hy)) _ _ _).trans (hk y (by simp [hy]))
    · intro j hj
      rw [Nat.zero_add] at hj
      simp only [World.cell?, m1, hh]
      exact m3 j (by simpa [hxs] using hj)
  · have hd : ∀ y ∈ xb, ¬ y = g ∧ y ∉ A ∧ y ∉ C := fun y hy => by
      have := hxd y hy
      simp only [List.mem_cons, List.mem_append, not_or] at this
      exact ⟨this.1, this.2.1, this.2.2.2⟩
    simp only [List.nodup_cons, List.nodup_append, List.mem_append, not_or]
    grind
  · simp only [List.mem_cons, List.mem_append] at hy ⊢
    grind

theorem OwnFs.putM {w : World} : ∀ {l : List (ByteArray × V)} {g o n : Nat} {bs : List Nat} {u : ByteArray × V}, OwnFs w l g o bs → l[n]? = some u →
    ∃ A B C ccs, bs = A ++ (B ++ C) ∧ w.cell? ⟨g, o + n * 9, none⟩ = some (.string u.1) ∧ CellsAt w g (o + n * 9 + 1) ccs ∧ OwnV w u.2 ccs B ∧
      ∀ w' x ccs' B', w'.cell? ⟨g, o + n * 9, none⟩ = some (.string x.1) → CellsAt w' g (o + n * 9 + 1) ccs' → OwnV w' x.2 ccs' B' → Kept A w w' → Kept C w w' → (∀ j, (j < o + n * 9 ∨ o + n * 9 + 9 ≤ j) → w'.cell? ⟨g, j, none⟩ = w.cell? ⟨g, j, none⟩) →
        OwnFs w' (l.set n x) g o (A ++ (B' ++ C))
  | [], _, _, _, _, _, _, h => by simp at h
  | v :: r, g, o, 0, bs, u, h, hn => by
    obtain rfl : v = u := by simpa using hn
    obtain ⟨b1, b2, cs, rfl, h0, h1, h2, h3⟩ := h
    refine ⟨[], b1, b2, cs, by simp, by simpa using h0, by simpa using h1, h2, fun w' x ccs' B' k0 k1 k2 _ k3 k4 => ?_⟩
    rw [List.set_cons_zero]
    exact ⟨B', b2, ccs', by simp, by simpa using k0, by simpa using k1, k2, h3.from k3 (fun j hj => k4 j (by omega))⟩
  | v :: r, g, o, n + 1, bs, u, h, hn => by
    obtain ⟨b1, b2, cs, rfl, h0, h1, h2, h3⟩ := h
    have hv := vsize h2
    obtain ⟨A, B, C, ccs, rfl, g0, g1, g2, g3⟩ := OwnFs.putM (n := n) h3 (by simpa using hn)
    have e : o + (n + 1) * 9 = o + 9 + n * 9 := by omega
    refine ⟨b1 ++ A, B, C, ccs, by simp, by rw [e]; exact g0, by rw [e]; exact g1, g2, fun w' x ccs' B' k0 k1 k2 kA kC k4 => ?_⟩
    rw [List.set_cons_succ]
    refine ⟨b1, A ++ (B' ++ C), cs, by simp, (k4 _ (by omega)).trans h0, fun j x hx => ?_, h2.kept (fun x hx => kA x (by simp [hx])), g3 w' x ccs' B' (by rw [← e]; exact k0) (by rw [← e]; exact k1) k2 (fun x hx => kA x (by simp [hx])) kC (fun j hj => k4 j (by omega))⟩
    have hj := (Array.getElem?_eq_some_iff.1 hx).1
    exact (k4 _ (by omega)).trans (h1 j x hx)

theorem FieldsOwn.putAt {w : World} {fs : List (ByteArray × V)} {p : Option Addr} {c : Nat} {b1 : List Nat} (h : FieldsOwn w fs p c b1) (hn : b1.Nodup) {n : Nat} {u : ByteArray × V} (hu : fs[n]? = some u) :
    ∃ g, p = some ⟨g, 0, none⟩ ∧ g ∈ b1 ∧
      ∀ wr (x : ByteArray × V) xcs xb, Kept b1 w wr → OwnV wr x.2 xcs xb → xb.Nodup → (∀ y ∈ xb, y ∉ b1) → wr.there g (n * 9) 9 ∧
        ∃ b1', FieldsOwn (wr.setCells g (n * 9) (.string x.1 :: xcs.toList)) (fs.set n x) p c b1' ∧ b1'.Nodup ∧ ∀ y ∈ b1', y ∈ b1 ∨ y ∈ xb := by
  rcases h with ⟨rfl, _⟩ | ⟨g, br, cur, rfl, rfl, hh, e1, e2, e3, hvs⟩
  · simp at hu
  obtain ⟨A, B, C, ccs, rfl, g0, g1, g2, g3⟩ := hvs.putM hu
  have hnl := (List.getElem?_eq_some_iff.1 hu).1
  have hus := vsize g2
  rw [Nat.zero_add] at g1 g0
  simp only [List.nodup_cons, List.nodup_append, List.mem_append, not_or] at hn
  obtain ⟨⟨n1, n2, n3⟩, n4, ⟨n5, n6, n7⟩, n8⟩ := hn
  refine ⟨g, rfl, by simp, fun wr x xcs xb hk hx hxn hxd => ?_⟩
  have hxs := vsize hx
  have hg := hk g (by simp)
  have hh' := hg.trans hh
  have hgx : g ∉ xb := fun hm => hxd g hm (by simp)
  have ht : wr.there g (n * 9) 9 := there_of hh' (by omega)
  obtain ⟨cur', m1, m2, m3⟩ := heap_setCells_same g (.string x.1 :: xcs.toList) (n * 9) wr cur hh'
  have hr := World.rangeAt_setCells_same wr g (n * 9) (.string x.1 :: xcs.toList) (by simpa [hxs] using ht)
  refine ⟨ht, g :: (A ++ (xb ++ C)), .inr ⟨g, _, cur', rfl, rfl, m1, by rw [m2, e1], by simpa using e2, e3, ?_⟩, ?_, fun y hy => ?_⟩
  · refine g3 _ x xcs xb ?_ ?_ (hx.kept (fun y hy => heap_setCells_other g (fun e => hgx (e ▸ hy)) _ _ _)) ?_ ?_ ?_
    · rw [Nat.zero_add]
      exact hr 0 _ (by simp)
    · rw [Nat.zero_add]
      intro m y hy
      have := hr (m + 1) y (by simpa using hy)
      rw [show n * 9 + 1 + m = n * 9 + (m + 1) by omega]
      exact this
    · exact fun y hy => (heap_setCells_other g (fun e => n1 (e ▸ hy)) _ _ _).trans (hk y (by simp [hy]))
    · exact fun y hy => (heap_setCells_other g (fun e => n3 (e ▸ hy)) _ _ _).trans (hk y (by simp [hy]))
    · intro j hj
      rw [Nat.zero_add] at hj
      simp only [World.cell?, m1, hh]
      exact m3 j (by simp [hxs]; omega)
  · have hd : ∀ y ∈ xb, ¬ y = g ∧ y ∉ A ∧ y ∉ C := fun y hy => by
      have := hxd y hy
      simp only [List.mem_cons, List.mem_append, not_or] at this
      exact ⟨this.1, this.2.1, this.2.2.2⟩
    simp only [List.nodup_cons, List.nodup_append, List.mem_append, not_or]
    grind
  · simp only [List.mem_cons, List.mem_append] at hy ⊢
    grind
end Go.Proofs.YtnmnmkdmnohbmaaGreatDoor

namespace Go.Proofs.YtnmnmkdmnohbmaaGreatDoor
open Go Go.RowKit Go.Maps Go.ChangeShapes

def nkey (s : ByteArray) : Lit := .string s.data.toList

theorem nkey_eq {a b : ByteArray} : nkey a = nkey b ↔ a.toList = b.toList := by
  rw [ByteArray.toList_eq, ByteArray.toList_eq]
  simp [nkey]

def itemsD : DataW Unit → List (DataW Unit)
  | .slice es _ => es
  | _ => []

theorem itemsD_row {w : World} {base : Nat} {e : TypeId} {q : IntKind} {v : Value} {zs : List Int} (h : w.ownsInts base e q v zs) : itemsD (rowDatum q v zs) = lits q zs := by
  rcases h.datum (H := Unit) with ⟨h1, h2⟩ | h1
  · rw [h1, h2]; rfl
  · rw [h1]; rfl

theorem lits_inj {q : IntKind} {l m : List Int} (h : lits (H := Unit) q l = lits q m) : l = m := by
  unfold lits at h
  exact (List.map_inj_right (fun a b hab => by cases hab; rfl)).1 h

/-- Has the member number j this name? -/
def named (bs : List (ByteArray × V)) (s : ByteArray) (j : Nat) : Bool := match bs[j]? with | some y => s.toList == y.1.toList | none => false

def idx (bs : List (ByteArray × V)) (free : List Nat) (s : ByteArray) : List Nat := free.filter (named bs s)

/-- At each name the map has the free members of that name, in order. -/
def GroupsIs (D : DataW Unit) (bs : List (ByteArray × V)) (free : List Nat) : Prop := IsMap D ∧ ∀ s, itemsD (D.atKey (nkey s) .nil) = lits .i64 ((idx bs free s).map (Nat.cast : Nat → Int))

theorem GroupsIs.start (bs : List (ByteArray × V)) : GroupsIs (.map []) bs [] := ⟨isMap_empty, fun _ => rfl⟩

theorem GroupsIs.found {D : DataW Unit} {bs : List (ByteArray × V)} {free : List Nat} (h : GroupsIs D bs free) {w : World} {base : Nat} {e : TypeId} {v : Value} {zs : List Int} {s : ByteArray} (ho : w.ownsInts base e .i64 v zs) (hat : D.atKey (nkey s) .nil = rowDatum .i64 v zs) :
    zs = (idx bs free s).map (Nat.cast : Nat → Int) := by
  have h1 := h.2 s
  rw [hat, itemsD_row ho] at h1
  exact lits_inj h1

theorem named_eq {bs : List (ByteArray × V)} {s t : ByteArray} (h : s.toList = t.toList) : named bs s = named bs t := by
  funext j; simp [named, h]

theorem GroupsIs.put {D : DataW Unit} {bs : List (ByteArray × V)} {free free' : List Nat} (h : GroupsIs D bs free) {w : World} {base : Nat} {e : TypeId} {v : Value} {zs : List Int} {s : ByteArray} (ho : w.ownsInts base e .i64 v zs)
    (h1 : zs = (idx bs free' s).map (Nat.cast : Nat → Int)) (h2 : ∀ t, s.toList ≠ t.toList → idx bs free' t = idx bs free t) : GroupsIs (D.put (nkey s) (rowDatum .i64 v zs)) bs free' := by
  refine ⟨h.1.put _ _, fun t => ?_⟩
  by_cases e : s.toList = t.toList
  · rw [← nkey_eq.2 e, atKey_put_same h.1 (show WideAt.IsKeyLit (nkey s) from (trivial : WideAt.IsKeyLit (.string s.data.toList))), itemsD_row ho, h1]
    unfold idx
    rw [named_eq e]
  · rw [atKey_put_other (fun hc => e (nkey_eq.1 hc).symm), h.2 t, h2 t e]

theorem idx_snoc {bs : List (ByteArray × V)} {n : Nat} {y : ByteArray × V} (hy : bs[n]? = some y) : idx bs (List.range (n + 1)) y.1 = idx bs (List.range n) y.1 ++ [n] := by
  unfold idx
  rw [List.range_succ, List.filter_append]
  congr 1
  simp [named, hy]
theorem idx_other {bs : List (ByteArray × V)} {n : Nat} {y : ByteArray × V} (hy : bs[n]? = some y) (t : ByteArray) (h : y.1.toList ≠ t.toList) : idx bs (List.range (n + 1)) t = idx bs (List.range n) t := by
  unfold idx
  rw [List.range_succ, List.filter_append]
  have : named bs t n = false := by simp [named, hy, Ne.symm h]
  simp [this]

/-- The first of the free ones that fits stands in its name's list. -/
theorem idx_find (bs : List (ByteArray × V)) (free : List Nat) (x : ByteArray × V) : free.find? (fits x bs) = (idx bs free x.1).find? (fits x bs) := by
  unfold idx
  rw [List.find?_filter]
  congr 1
  funext j
  have h : fits x bs j = (named bs x.1 j && fits x bs j) := by
    unfold named fits
    cases bs[j]? with
    | none => rfl
    | some y => simp only [memS]; cases (x.1.toList == y.1.toList) <;> simp
  rw [h]
  simp

theorem idx_drop_same (bs : List (ByteArray × V)) (free : List Nat) (s : ByteArray) {k j : Nat} (hn : free.Nodup) (hk : (idx bs free s)[k]? = some j) : idx bs (free.filter (fun i => i != j)) s = (idx bs free s).eraseIdx k := by
  have hd : (idx bs free s).Nodup := hn.filter _
  have h1 : idx bs (free.filter (fun i => i != j)) s = (idx bs free s).filter (fun i => i != j) := by
    unfold idx
    rw [List.filter_filter, List.filter_filter]
    apply List.filter_congr
    intro a _
    rw [Bool.and_comm]
  rw [h1]
  obtain ⟨hlt, hj⟩ := List.getElem?_eq_some_iff.1 hk
  rw [← List.Nodup.erase_eq_filter hd, ← hj, List.erase_eq_eraseIdx_of_idxOf]
  exact List.Nodup.idxOf_getElem hd k hlt

theorem idx_drop_other (bs : List (ByteArray × V)) (free : List Nat) (s t : ByteArray) {j : Nat} (hj : named bs s j = true) (h : s.toList ≠ t.toList) : idx bs (free.filter (fun i => i != j)) t = idx bs free t := by
  unfold idx
  rw [List.filter_filter]
  apply List.filter_congr
  intro a _
  by_cases e : a = j
  · subst e
    have : named bs t a = false := by
      unfold named at hj ⊢
      cases hb : bs[a]? with
      | none => rfl
      | some y =>
        rw [hb] at hj
        simp only [beq_iff_eq] at hj
        simp only [beq_eq_false_iff_ne, ne_eq]
        exact fun hc => h (hj.trans hc.symm)
    simp [this]
  · simp [e]

/-- The moved numbers. -/
def movedI (q : IntKind) (zs : List Int) (k : Nat) : List Value := (zs.drop (k + 1)).map (Value.int q)

theorem eraseIdx_eq {α : Type} (l : List α) (k : Nat) : l.eraseIdx k = l.take k ++ l.drop (k + 1) := List.eraseIdx_eq_take_drop_succ ..

theorem setCells_at (g : Nat) {e : TypeId} {fz : Nat × Nat} : ∀ (vs : List Value) (o : Nat) (w : World) (cur : Array Value), w.heap[g]? = some (.cells cur e fz) → o + vs.length ≤ cur.size →
    ∃ cur', (w.setCells g o vs).heap[g]? = some (.cells cur' e fz) ∧ cur'.size = cur.size ∧ (∀ j, j < o → cur'[j]? = cur[j]?) ∧ ∀ j u, vs[j]? = some u → cur'[o + j]? = some u
  | [], _, _, cur, h, _ => ⟨cur, h, rfl, fun _ _ => rfl, fun j u hu => by simp at hu⟩
  | v :: r, o, w, cur, h, hl => by
    simp only [List.length_cons] at hl
    obtain ⟨cur', h1, h2, h3, h4⟩ := setCells_at g r (o + 1) _ _ (heap_setCell_same (j := o) h v) (by simp; omega)
    refine ⟨cur', h1, by simpa using h2, fun j hj => ?_, fun j u hu => ?_⟩
    · rw [h3 j (by omega), Array.getElem?_setIfInBounds_ne (by omega)]
    · cases j with
      | zero =>
        obtain rfl : v = u := by simpa using hu
        rw [Nat.add_zero, h3 o (by omega), Array.getElem?_setIfInBounds_self]
        simp; omega
      | succ j =>
        have := h4 j u (by simpa using hu)
        rw [show o + (j + 1) = o + 1 + j by omega]
        exact this

theorem ownsInts_cells {w : World} {base : Nat} {e : TypeId} {q : IntKind} {g n cap : Nat} {zs : List Int} (h : w.ownsInts base e q (.slice (some ⟨g, 0, none⟩) n cap) zs) :
    n = zs.length ∧ n ≤ cap ∧ cap ≤ maxLen ∧ base ≤ g ∧ g < w.heap.size ∧ ∀ j z, zs[j]? = some z → w.cell? ⟨g, j, none⟩ = some (.int q z) := by
  obtain ⟨⟨_, h2⟩, _⟩ := h
  rcases h2 with ⟨hv, _⟩ | ⟨g', cap', cur, hv, hb, hh, hn, hc, hs, ht⟩
  · cases hv
  · simp only [Value.slice.injEq, Option.some.injEq, Addr.mk.injEq] at hv
    obtain ⟨⟨rfl, _⟩, rfl, rfl⟩ := hv
    refine ⟨rfl, hn, hc, hb, (Array.getElem?_eq_some_iff.1 hh).1, fun j z hz => ?_⟩
    simp only [World.cell?, hh]
    have hj : (zs.map (Value.int q))[j]? = some (.int q z) := by simp [hz]
    have := row_at ht j _ hj
    simpa using this

/-- What is behind number k is moved down by one. -/
theorem ownsInts_del {w : World} {base : Nat} {e : TypeId} {q : IntKind} {g n cap k : Nat} {zs : List Int} (h : w.ownsInts base e q (.slice (some ⟨g, 0, none⟩) n cap) zs) (hk : k < n) :
    (w.setCells g (0 + k * 1) (movedI q zs k)).ownsInts base e q (.slice (some ⟨g, 0, none⟩) (k + (n - (k + 1))) cap) (zs.eraseIdx k) ∧ w.grownBy (w.setCells g (0 + k * 1) (movedI q zs k)) (some g) ∧
    w.there g (0 + k * 1) (n - (k + 1)) ∧ (movedI q zs k).length = n - (k + 1) := by
  obtain ⟨⟨_, h2⟩, hw⟩ := h
  rcases h2 with ⟨hv, _⟩ | ⟨g', cap', cur, hv, hb, hh, hn, hc, hs, ht⟩
  · cases hv
  · simp only [Value.slice.injEq, Option.some.injEq, Addr.mk.injEq] at hv
    obtain ⟨⟨rfl, _⟩, rfl, rfl⟩ := hv
    simp only [Nat.mul_one, Nat.zero_add] at *
    have hml : (movedI q zs k).length = zs.length - (k + 1) := by simp [movedI]
    obtain ⟨cur', h1, h2, h3, h4⟩ := setCells_at g (movedI q zs k) k w cur hh (by rw [hml]; omega)
    refine ⟨⟨⟨by simp [List.length_eraseIdx], .inr ⟨g, cap, cur', ?_, hb, h1, ?_, hc, ?_, ?_⟩⟩, fun z hz => hw z (List.mem_of_mem_eraseIdx hz)⟩, ⟨?_, ?_, ?_, ?_, ?_⟩, there_of hh (by omega), hml⟩
    · rw [List.length_eraseIdx]; simp [hk]; omega
    · rw [List.length_eraseIdx]; simp [hk]; omega
    · rw [h2, hs, Nat.mul_one]
    · apply List.ext_getElem?
      intro j
      rw [List.getElem?_take]
      have hel : (zs.eraseIdx k).length = zs.length - 1 := by rw [List.length_eraseIdx]; simp [hk]
      by_cases hj : j < zs.length - 1
      · rw [if_pos (by simpa [hel] using hj), Array.getElem?_toList, List.getElem?_map]
        by_cases hjk : j < k
        · rw [h3 j hjk, List.getElem?_eraseIdx_of_lt hjk]
          have := row_at ht j (.int q zs[j]) (by simp [show j < zs.length by omega])
          rw [Nat.zero_add] at this
          rw [this, List.getElem?_eq_getElem (by omega)]
          rfl
        · have := h4 (j - k) (.int q zs[j + 1]) (by
            simp only [movedI, List.getElem?_map, List.getElem?_drop]
            rw [show k + 1 + (j - k) = j + 1 by omega, List.getElem?_eq_getElem (by omega)]
            rfl)
          rw [show k + (j - k) = j by omega] at this
          rw [this, List.getElem?_eraseIdx_of_ge (by omega), List.getElem?_eq_getElem (by omega)]
          rfl
      · rw [if_neg (by simpa [hel] using hj)]
        rw [List.getElem?_eq_none (by simp [hel]; omega)]
    all_goals first
      | exact (below_setCells (Below.refl 0 w) (Nat.zero_le g) _ _).os
      | exact (below_setCells (Below.refl 0 w) (Nat.zero_le g) _ _).tape
      | exact (below_setCells (Below.refl 0 w) (Nat.zero_le g) _ _).output
      | exact (below_setCells (Below.refl 0 w) (Nat.zero_le g) _ _).size
      | exact fun j _ hj => heap_setCells_other g (fun e => hj (by rw [e])) _ _ _

/-- append of a part of a list behind another part of it, where there is room. -/
theorem wp_append_cells {P : Program} {o : Oper} {a : Act} {w : World} {K : Act → World → Prop} {Q : Exit → Act → World → Prop}
    (s x : Operand) (t : TypeId) (hop : o.op = Op.call { callee := Callee.builtin Builtin.append, args := #[s, x], argTypes := #[t, t] })
    (e : TypeId) (i : TypeInfo) (size : Nat) (h1 : P.underlying t = some (.slice e)) (h2 : P.info? e = some i) (h4 : i.size = size)
    (b off n cap : Nat) (hs : a.eval s = .slice (some ⟨b, off, none⟩) n cap)
    (ad : Addr) (m c : Nat) (news : List Value) (hx : a.eval x = .slice (some ad) m c) (hn : news.length = m * size) (hc : ∀ j u, news[j]? = some u → w.cell? (ad.add j) = some u) (h1c : ∀ u ∈ news, u.oneCell' = true)
    (hroom : n + m ≤ cap) (hspare : ∀ j, j < news.length → (w.cell? ⟨b, off + n * size + j, none⟩).isSome = true ∧ w.frozen? ⟨b, off + n * size + j, none⟩ = false)
    (hK : K (a.put o.dst (.slice (some ⟨b, off, none⟩) (n + m) cap)) (w.setCells b (off + n * size) news)) : o.wp P a w K Q := by
  subst h4
  have hrun := run_append_room_cells (P := P) w t o.type e i h1 h2 b off n cap ad m c news hn hc h1c hroom (fun j hj => (hspare j hj).1) (fun j hj => (hspare j hj).2)
  unfold Oper.wp
  simp [execOp, hop, resolve, invoke, builtin, hs, hx, hrun, Result.andThen]
  exact hK

theorem grown_of_below {w w' : World} (h : Below w.heap.size w w') (row : Option Nat) : w.grownBy w' row := ⟨h.os, h.tape, h.output, h.size, fun k hk _ => h.block k hk⟩

theorem ownsGroups_below {w w' : World} {P : Program} {k e : TypeId} {q : IntKind} {base b n : Nat} {D : DataW Unit} (h : w.ownsGroups P k base e q b n D) (hb : Below w.heap.size w w') : w'.ownsGroups P k base e q b n D := by
  obtain ⟨es, clock, h1, F, h3, h4, h5, h6, h7⟩ := h
  have hg := grown_of_below hb none
  have hk : ∀ v zs, w.ownsInts base e q v zs → w'.ownsInts base e q v zs := fun v zs ho => ho.kept hg (by cases v.ownBlock <;> simp)
  have hs : ∀ x ∈ es.toList, ∀ z, rowElem (H := Unit) w base e q x.val = some z → rowElem w' base e q x.val = some z := fun x _ z hz => by
    obtain ⟨zs, ho, rfl⟩ := rowElem_inv hz
    exact rowElem_mk (hk _ _ ho)
  obtain ⟨F2, hm, _⟩ := F.stay hs
  refine ⟨es, clock, (hb.block b (Array.getElem?_eq_some_iff.1 h1).1).trans h1, F2, h3, by rw [h4, hm], h5, fun x hx zs ho => ?_, h7⟩
  obtain ⟨y, hy⟩ := F.reads x hx
  obtain ⟨z, hz, _⟩ := Go.WideElems.rd_val hy
  obtain ⟨zs', ho', _⟩ := rowElem_inv hz
  rw [ho.unique (hk _ _ ho')]
  exact h6 x hx _ ho'
end Go.Proofs.YtnmnmkdmnohbmaaGreatDoor

namespace Go.Proofs.YtnmnmkdmnohbmaaGreatDoor
open Go Go.RowKit Go.Shelf
attribute [local go_sem] run_store_float Oper.semAt_some

/-- The steps to the items. -/
def itemKids : List V → Nat → List (St × V)
  | [], _ => []
  | v :: r, i => (⟨⟨#[]⟩, (i : Int), true⟩, v) :: itemKids r (i + 1)
def fieldKids (fs : List (ByteArray × V)) : List (St × V) := fs.map (fun x => (⟨x.1, 0, false⟩, x.2))
/-- The children with their steps. -/
def kidsV : V → List (St × V)
  | .mk k _ _ _ _ _ its fs => if kd k = 5 then itemKids its 0 else if kd k = 6 then fieldKids fs else []

theorem itemKids_length : ∀ (l : List V) (i : Nat), (itemKids l i).length = l.length
  | [], _ => rfl
  | _ :: r, i => by simp [itemKids, itemKids_length r (i + 1)]
theorem itemKids_get : ∀ (l : List V) (i k : Nat) (x : V), l[k]? = some x → (itemKids l i)[k]? = some (⟨⟨#[]⟩, ((i + k : Nat) : Int), true⟩, x)
  | [], _, _, _, h => by simp at h
  | v :: r, i, 0, x, h => by obtain rfl : v = x := by simpa using h
                             simp [itemKids]
  | v :: r, i, k + 1, x, h => by
    have := itemKids_get r (i + 1) k x (by simpa using h)
    simp only [itemKids, List.getElem?_cons_succ]
    rw [this, show i + 1 + k = i + (k + 1) by omega]
theorem fieldKids_get (l : List (ByteArray × V)) (k : Nat) (x : ByteArray × V) (h : l[k]? = some x) : (fieldKids l)[k]? = some (⟨x.1, 0, false⟩, x.2) := by simp [fieldKids, h]

def isKid (v : V) (s : St) (u : V) : Prop := (s, u) ∈ kidsV v

theorem isKid_size {v : V} {s : St} {u : V} (h : isKid v s u) : szV u + 1 ≤ szV v := by
  unfold isKid at h
  obtain ⟨k, b, i, f, t, ty, its, fs⟩ := v
  have hi : ∀ (l : List V) (n : Nat), (s, u) ∈ itemKids l n → u ∈ l := by
    intro l
    induction l with
    | nil => intro n h; simp [itemKids] at h
    | cons v r ih =>
      intro n h
      simp only [itemKids, List.mem_cons, Prod.mk.injEq] at h
      rcases h with ⟨_, rfl⟩ | h
      · simp
      · exact List.mem_cons_of_mem _ (ih _ h)
  simp only [kidsV] at h
  simp only [szV]
  split at h
  · have := szVs_mem (hi _ _ h); omega
  · split at h
    · simp only [fieldKids, List.mem_map, Prod.mk.injEq] at h
      obtain ⟨x, hx, _, rfl⟩ := h
      have := szFs_mem hx
      omega
    · simp at h

/-- A child as it comes: its step, the value, its cells. -/
abbrev Kid (n₀ : Nat) (w : World) (v : V) := { x : St × V × Array Value // IsV n₀ w x.2.1 x.2.2 ∧ isKid v x.1 x.2.1 }
def Kid.sv {n₀ : Nat} {w : World} {v : V} (x : Kid n₀ w v) : St × V := (x.1.1, x.1.2.1)
def kidEnc (n₀ : Nat) (w : World) (v : V) (x : Kid n₀ w v) : Array Value := #[.agg x.1.1.cells, .agg x.1.2.2]

theorem alloc_abides {α : Type} {B : Nat} {J : List α → World → Prop} (hJ : AbidesFrom B J) {s : List α} {W W' : World} (h : J s W) (hb : Below W.heap.size W W') : J s W' := hJ s W W' none h (grown_of_below hb none) (fun r e => by cases e)

set_option maxRecDepth 100000 in
set_option maxHeartbeats 2000000 in
theorem kids_stops (n : Nat) (hn : 1 ≤ n) (n₀ Bv : Nat) (v : V) (cs : Array Value) (w : World) (hBv : Bv < w.heap.size) (hn₀ : n₀ ≤ w.heap.size) (hb : CellsAt w Bv 0 cs) (hv : IsV n₀ w v cs) :
    SeqStopsK Fence.wide n Tryz.prog 40 #[.pointer (some ⟨Bv, 0, none⟩)] (kidEnc n₀ w v) (Below n₀) (fun xs => xs.map Kid.sv = kidsV v) (fun pre => pre.map Kid.sv <+: kidsV v) (kidsV v).length w := by
  intro l J Jx W hW hJ hJx hY h0
  obtain ⟨k, b, i, f, t, ty, its, fs⟩ := v
  have hmemI : kd k = 5 → ∀ (j : Nat) x, (itemKids its 0)[j]? = some x → isKid (.mk k b i f t ty its fs) x.1 x.2 := fun h j x hx => by
    simp only [isKid, kidsV]
    rw [if_pos h]
    exact List.mem_of_getElem? hx
  have hmemF : kd k = 6 → ∀ (j : Nat) x, (fieldKids fs)[j]? = some x → isKid (.mk k b i f t ty its fs) x.1 x.2 := fun h j x hx => by
    simp only [isKid, kidsV]
    rw [if_neg (by omega), if_pos h]
    exact List.mem_of_getElem? hx
  have HMI := Lib.hid hmemI
  have HMF := Lib.hid hmemF
  clear hmemI hmemF
  have hv0 := hv
  obtain ⟨p, c, q, d, rfl, hi, hf, l1, l2⟩ := hv
  unfold lenMax at l1 l2
  have hbW := hb.below hW hBv
  obtain ⟨a0, a1, a2, a3, a4, a5, a6, a7⟩ := hbW.all0
  have K1 := kind_any k b i f t ty p its.length c q fs.length d
  have hkv : kidsV (.mk k b i f t ty its fs) = if kd k = 5 then itemKids its 0 else if kd k = 6 then fieldKids fs else [] := rfl
  rw [hkv] at hY ⊢
  have HI := Lib.hid hi
  have HF := Lib.hid hf
  have HJ := Lib.hid hJ
  have HJX := Lib.hid hJx
  have HY := Lib.hid hY
  have H0 := Lib.hid h0
  have HB := Lib.hid (hW.mono hn₀)
  clear hi hf hJ hJx hY h0 hv0 hkv
  generalize kd k = κ at *
  have hBW : Bv < W.heap.size := Nat.lt_of_lt_of_le hBv hW.size
  by_cases h5 : κ = 5
  · subst h5
    have HY := Lib.hid (by have := HY.out; rw [if_pos rfl] at this; exact this)
    rw [if_pos rfl]
    refine callsIn_of_wp Tryz.func40 rfl trivial ?_ rfl
    simp only [Tryz.ntmps40, List.size_toArray, List.length_cons, List.length_nil, Nat.reduceAdd, Nat.reduceSub, Array.replicate_succ, Array.replicate_zero, List.push_toArray, List.append_toArray, List.nil_append, List.cons_append]
    gi_wp2_with (refine ⟨trivial, ?_⟩; gi_at_call 36; refine (callsIn_wide.2 (K1 _)).mono ?_; rintro e w1 ⟨rfl, hb1⟩; obtain ⟨c0, c1, c2, c3, c4, c5, c6, c7⟩ := (hbW.below hb1 hBW).all0)
    have hJ1 := alloc_abides HJ.out H0.out hb1
    have HB1 := HB.out.trans (hb1.mono (by have := hW.size; omega))
    have HJ1 := Lib.hid hJ1
    clear c0 c1 c2 c3 c4 c5 c6 c7 a0 a1 a2 a3 a4 a5 a6 a7 hJ1
    gi_loopw [14] (fun ii wr => ∃ j : Nat, j ≤ its.length ∧ ii = .int .i64 j ∧ ∃ pre : List (Kid n₀ w (.mk k b i f t ty its fs)), Hid (pre.map Kid.sv = (itemKids its 0).take j) ∧ Hid (J pre wr) ∧ Below n₀ w wr) (fun ii _ => its.length - (intOf ii).toNat)
    case atStart => exact ⟨0, by omega, rfl, [], Lib.hid rfl, HJ1, HB1⟩
    case round =>
      clear hb1 HB1 HJ1
      obtain ⟨j, hj, rfl, pre, hpre, hJp, hbel⟩ := hrel
      by_cases h1 : j < its.length
      · obtain ⟨x, hx⟩ : ∃ x, its[j]? = some x := ⟨its[j], by simp [h1]⟩
        rcases HI.out with h0 | ⟨g, o, rfl, hg, hvs⟩
        · subst h0; simp at h1
        obtain ⟨csx, hcx, hvx⟩ := hvs.get hx
        have hcx := hcx.below hbel hg
        have hgr : g < wr.heap.size := Nat.lt_of_lt_of_le (Nat.lt_of_lt_of_le hg hn₀) hbel.size
        have hkid := itemKids_get its 0 j x hx
        rw [Nat.zero_add] at hkid
        have hisk := HMI.out (by simp) j _ hkid
        obtain ⟨xk, xb, xi, xf, xt, xty, xits, xfs⟩ := x
        have hvx0 := hvx
        obtain ⟨xp, xc, xq, xd, rfl, _, _, _, _⟩ := hvx
        obtain ⟨c0, c1, c2, c3, c4, c5, c6, c7⟩ := hcx.all
        have hlen : pre.length < (itemKids its 0).length := by
          have := congrArg List.length hpre.out
          rw [List.length_map, List.length_take] at this
          rw [itemKids_length] at this ⊢
          omega
        obtain ⟨W1, hW1⟩ : ∃ W1, wr.alloc (.cells (vcells xk xb xi xf xt xty xp xits.length xc xq xfs.length xd) 27) = W1 := ⟨_, rfl⟩
        have hb1 : Below wr.heap.size wr W1 := by rw [← hW1]; exact (Below.refl _ _).alloc (Nat.le_refl _) _
        obtain ⟨d0, d1, d2, d3, d4, d5, d6, d7⟩ := (show CellsAt W1 wr.heap.size 0 (vcells xk xb xi xf xt xty xp xits.length xc xq xfs.length xd) by rw [← hW1]; exact cellsAt_alloc _ _ _ _).all0
        have hJ1 := alloc_abides HJ.out hJp.out hb1
        obtain ⟨fn, tmps, assign, body, hy, hR⟩ := HY.out pre ⟨(⟨⟨#[]⟩, (j : Int), true⟩, .mk xk xb xi xf xt xty xits xfs, vcells xk xb xi xf xt xty xp xits.length xc xq xfs.length xd), hvx0, hisk⟩ W1 hJ1 hlen
        have HR := Lib.hid hR
        dsimp only [kidEnc, St.cells] at hy
        have HKID := Lib.hid hkid
        clear hR hvs hcx hkid hJ1 hx
        gi_wp2
        refine HR.out.mono ?_
        rintro e W3 (⟨rfl, hJ3, hk3⟩ | ⟨rfl, hJx3⟩)
        · have hbel3 := hbel.trans ((hb1.mono (by have := hbel.size; omega)).trans hk3)
          gi_wp2
          go_roundw
          case rel =>
            refine ⟨j + 1, by omega, by go_num, _, Lib.hid ?_, Lib.hid hJ3, hbel3⟩
            rw [List.map_append, hpre.out, List.take_add_one, HKID.out]
            simp [Kid.sv]
          case measure => simp [intOf]; omega
        · gi_wp2
          refine bodyPost_ret (results_none rfl _ _ _) rfl ?_
          refine ⟨⟨_, rfl⟩, .inr ⟨_, ?_, hJx3⟩⟩
          have h : (itemKids its 0).take (j + 1) <+: itemKids its 0 := List.take_prefix _ _
          rw [List.take_add_one, HKID.out, ← hpre.out] at h
          rw [List.map_append]
          simpa [Kid.sv] using h
      · have hall := hpre.out
        rw [List.take_of_length_le (by rw [itemKids_length]; omega)] at hall
        gi_wp2
        go_end0
        exact ⟨⟨_, rfl⟩, .inl ⟨_, hall, hJp.out⟩⟩
  · by_cases h6 : κ = 6
    · subst h6
      have HY := Lib.hid (by have := HY.out; rw [if_neg (by decide), if_pos rfl] at this; exact this)
      rw [if_neg (by decide), if_pos rfl]
      refine callsIn_of_wp Tryz.func40 rfl trivial ?_ rfl
      simp only [Tryz.ntmps40, List.size_toArray, List.length_cons, List.length_nil, Nat.reduceAdd, Nat.reduceSub, Array.replicate_succ, Array.replicate_zero, List.push_toArray, List.append_toArray, List.nil_append, List.cons_append]
      gi_wp2_with (refine ⟨trivial, ?_⟩; gi_at_call 36; refine (callsIn_wide.2 (K1 _)).mono ?_; rintro e w1 ⟨rfl, hb1⟩; obtain ⟨c0, c1, c2, c3, c4, c5, c6, c7⟩ := (hbW.below hb1 hBW).all0)
      have hJ1 := alloc_abides HJ.out H0.out hb1
      have HB1 := HB.out.trans (hb1.mono (by have := hW.size; omega))
      have HJ1 := Lib.hid hJ1
      clear c0 c1 c2 c3 c4 c5 c6 c7 a0 a1 a2 a3 a4 a5 a6 a7 hJ1
      gi_loopw [31] (fun ii wr => ∃ j : Nat, j ≤ fs.length ∧ ii = .int .i64 j ∧ ∃ pre : List (Kid n₀ w (.mk k b i f t ty its fs)), Hid (pre.map Kid.sv = (fieldKids fs).take j) ∧ Hid (J pre wr) ∧ Below n₀ w wr) (fun ii _ => fs.length - (intOf ii).toNat)
      case atStart => exact ⟨0, by omega, rfl, [], Lib.hid rfl, HJ1, HB1⟩
      case round =>
        clear hb1 HB1 HJ1
        obtain ⟨j, hj, rfl, pre, hpre, hJp, hbel⟩ := hrel
        by_cases h1 : j < fs.length
        · obtain ⟨x, hx⟩ : ∃ x, fs[j]? = some x := ⟨fs[j], by simp [h1]⟩
          rcases HF.out with h0 | ⟨g, o, rfl, hg, hvs⟩
          · subst h0; simp at h1
          obtain ⟨hnm, csx, hcx, hvx⟩ := hvs.get hx
          have hnm := (hbel.cell (p := ⟨g, _, none⟩) hg).trans hnm
          have hcx := hcx.below hbel hg
          have hgr : g < wr.heap.size := Nat.lt_of_lt_of_le (Nat.lt_of_lt_of_le hg hn₀) hbel.size
          have hkid := fieldKids_get fs j x hx
          have hisk := HMF.out (by simp) j _ hkid
          obtain ⟨xn, xk, xb, xi, xf, xt, xty, xits, xfs⟩ := x
          have hvx0 := hvx
          obtain ⟨xp, xc, xq, xd, rfl, _, _, _, _⟩ := hvx
          obtain ⟨c0, c1, c2, c3, c4, c5, c6, c7⟩ := hcx.all
          have hlen : pre.length < (fieldKids fs).length := by
            have := congrArg List.length hpre.out
            rw [List.length_map, List.length_take] at this
            simp only [fieldKids, List.length_map] at this ⊢
            omega
          obtain ⟨W1, hW1⟩ : ∃ W1, wr.alloc (.cells (mcells xn xk xb xi xf xt xty xp xits.length xc xq xfs.length xd) 63) = W1 := ⟨_, rfl⟩
          have hb1 : Below wr.heap.size wr W1 := by rw [← hW1]; exact (Below.refl _ _).alloc (Nat.le_refl _) _
          obtain ⟨d0, d1, d2, d3, d4, d5, d6, d7, d8⟩ := (show CellsAt W1 wr.heap.size 0 (mcells xn xk xb xi xf xt xty xp xits.length xc xq xfs.length xd) by rw [← hW1]; exact cellsAt_alloc _ _ _ _).all9
          have hJ1 := alloc_abides HJ.out hJp.out hb1
          obtain ⟨fn, tmps, assign, body, hy, hR⟩ := HY.out pre ⟨(⟨xn, 0, false⟩, .mk xk xb xi xf xt xty xits xfs, vcells xk xb xi xf xt xty xp xits.length xc xq xfs.length xd), hvx0, hisk⟩ W1 hJ1 hlen
          have HR := Lib.hid hR
          dsimp only [kidEnc, St.cells] at hy
          have HKID := Lib.hid hkid
          clear hR hvs hcx hkid hJ1 hx
          gi_wp2
          refine HR.out.mono ?_
          rintro e W3 (⟨rfl, hJ3, hk3⟩ | ⟨rfl, hJx3⟩)
          · have hbel3 := hbel.trans ((hb1.mono (by have := hbel.size; omega)).trans hk3)
            gi_wp2
            go_roundw
            case rel =>
              refine ⟨j + 1, by omega, by go_num, _, Lib.hid ?_, Lib.hid hJ3, hbel3⟩
              rw [List.map_append, hpre.out, List.take_add_one, HKID.out]
              simp [Kid.sv]
            case measure => simp [intOf]; omega
          · gi_wp2
            refine bodyPost_ret (results_none rfl _ _ _) rfl ?_
            refine ⟨⟨_, rfl⟩, .inr ⟨_, ?_, hJx3⟩⟩
            have h : (fieldKids fs).take (j + 1) <+: fieldKids fs := List.take_prefix _ _
            rw [List.take_add_one, HKID.out, ← hpre.out] at h
            rw [List.map_append]
            simpa [Kid.sv] using h
        · have hall := hpre.out
          rw [List.take_of_length_le (by simp only [fieldKids, List.length_map]; omega)] at hall
          gi_wp2
          go_end0
          exact ⟨⟨_, rfl⟩, .inl ⟨_, hall, hJp.out⟩⟩
    · have HY := Lib.hid (by have := HY.out; rw [if_neg h5, if_neg h6] at this; exact this)
      rw [if_neg h5, if_neg h6]
      refine callsIn_of_wp Tryz.func40 rfl trivial ?_ rfl
      simp only [Tryz.ntmps40, List.size_toArray, List.length_cons, List.length_nil, Nat.reduceAdd, Nat.reduceSub, Array.replicate_succ, Array.replicate_zero, List.push_toArray, List.append_toArray, List.nil_append, List.cons_append]
      gi_wp2_with (refine ⟨trivial, ?_⟩; gi_at_call 36; refine (callsIn_wide.2 (K1 _)).mono ?_; rintro e w1 ⟨rfl, hb1⟩; obtain ⟨c0, c1, c2, c3, c4, c5, c6, c7⟩ := (hbW.below hb1 hBW).all0)
      have hJ1 := alloc_abides HJ.out H0.out hb1
      go_end0
      exact ⟨⟨_, rfl⟩, .inl ⟨[], rfl, hJ1⟩⟩
end Go.Proofs.YtnmnmkdmnohbmaaGreatDoor

namespace Go.Proofs.YtnmnmkdmnohbmaaGreatDoor
open Go.RowKit
attribute [local go_sem] run_store_float St.cells

theorem block_of_cells {w : World} {g : Nat} {cs : Array Value} {e : TypeId} (h : w.heap[g]? = some (.cells cs e (0, 0))) : CellsAt w g 0 cs := by
  intro m x hx
  rw [Nat.zero_add]
  simp only [World.cell?, h]
  exact hx

theorem Here.facts {w : World} {G : Nat} {obs : List Nat} {v : V} {path : List St} {j g o : Nat} {u : V} {ucs : Array Value} (h : Here w G obs v path j g o u ucs) (hG : G < w.heap.size) (ho : ∀ y ∈ obs, y < w.heap.size) :
    CellsAt w g o ucs ∧ g < w.heap.size ∧ IsV w.heap.size w u ucs := by
  obtain ⟨ub, own, F, h1, h2, h3, h4, h5, h6, h7, _, _, _⟩ := h
  have hlt : ∀ y, y ∈ own ∨ y ∈ ub → y < w.heap.size := fun y hy => by rcases h7 y hy with rfl | hy; exact hG; exact ho _ hy
  exact ⟨h1, hlt g (.inl h5), h2.isV (fun y hy => hlt y (.inr hy))⟩

end Go.Proofs.YtnmnmkdmnohbmaaGreatDoor

namespace Go.Proofs.YtnmnmkdmnohbmaaGreatDoor
open Go Go.RowKit Go.Shelf
attribute [local go_sem] run_store_float Oper.semAt_some

mutual
/-- The number of parts. -/
def cntV : V → Nat
  | .mk k _ _ _ _ _ its fs => 1 + if kd k = 5 then cntVs its else if kd k = 6 then cntFs fs else 0
def cntVs : List V → Nat
  | [] => 0
  | v :: r => cntV v + cntVs r
def cntFs : List (ByteArray × V) → Nat
  | [] => 0
  | x :: r => cntV x.2 + cntFs r
end

mutual
theorem cntV_le : ∀ v : V, cntV v ≤ szV v
  | .mk k b i f t ty its fs => by
    have h1 := cntVs_le its
    have h2 := cntFs_le fs
    rw [cntV]
    simp only [szV]
    split
    · omega
    · split <;> omega
theorem cntVs_le : ∀ l : List V, cntVs l ≤ szV.szVs l
  | [] => by rw [cntVs]; omega
  | v :: r => by have h1 := cntV_le v; have h2 := cntVs_le r; rw [cntVs]; simp only [szV.szVs]; omega
theorem cntFs_le : ∀ l : List (ByteArray × V), cntFs l ≤ szV.szFs l
  | [] => by rw [cntFs]; omega
  | x :: r => by have h1 := cntV_le x.2; have h2 := cntFs_le r; rw [cntFs]; simp only [szV.szFs]; omega
end

theorem children_any (cs : Array Value) (w : World) (h : cs.size = 8) : Calls Tryz.prog 19 #[.agg cs] w (fun e w' => e = .returned (.func (.func 40) #[] #[.pointer (some ⟨w.heap.size, 0, none⟩)]) ∧ w' = w.alloc (.cells cs 27)) := by
  go_enter Tryz.func19, Tryz.ntmps19
  have hmf : ∀ (fn : Fn) (first cap : Array Value) (w : World), (Instr.makeFunc fn first cap).run Tryz.prog w = .ok (.func fn first cap) w := fun _ _ _ _ => rfl
  go_wp2
  go_ret
  exact ⟨rfl, rfl⟩

/-- The count behind some children. -/
def sumC (l : List (St × V)) : Int := l.foldl (fun s x => wrap64 (s + (cntV x.2 : Int))) 1
theorem sumC_snoc (l : List (St × V)) (x : St × V) : sumC (l ++ [x]) = wrap64 (sumC l + (cntV x.2 : Int)) := by simp [sumC]

theorem sumC_small : ∀ (l : List (St × V)) (s : Nat), s + (l.map (fun x => cntV x.2)).sum ≤ 1000000000 → l.foldl (fun s x => wrap64 (s + (cntV x.2 : Int))) (s : Int) = ((s + (l.map (fun x => cntV x.2)).sum : Nat) : Int)
  | [], s, _ => by simp
  | x :: r, s, h => by
    simp only [List.map_cons, List.sum_cons] at h ⊢
    have e : wrap64 ((s : Int) + (cntV x.2 : Int)) = ((s + cntV x.2 : Nat) : Int) := by rw [IntWalk.wrap64_in _ ⟨by omega, by omega⟩]; omega
    rw [List.foldl_cons, e, sumC_small r (s + cntV x.2) (by omega)]
    omega

theorem itemKids_sum : ∀ (l : List V) (i : Nat), ((itemKids l i).map (fun x => cntV x.2)).sum = cntVs l
  | [], _ => by rw [cntVs]; rfl
  | v :: r, i => by rw [cntVs]; simp only [itemKids, List.map_cons, List.sum_cons, itemKids_sum r (i + 1)]
theorem fieldKids_sum : ∀ (l : List (ByteArray × V)), ((fieldKids l).map (fun x => cntV x.2)).sum = cntFs l
  | [] => by rw [cntFs]; rfl
  | x :: r => by
    have h := fieldKids_sum r
    simp only [fieldKids] at h ⊢
    rw [cntFs]
    simp only [List.map_cons, List.sum_cons, h]

theorem sumC_kids (v : V) (h : szV v ≤ 1000000000) : sumC (kidsV v) = (cntV v : Int) := by
  have hle := cntV_le v
  obtain ⟨k, b, i, f, t, ty, its, fs⟩ := v
  have e : 1 + ((kidsV (.mk k b i f t ty its fs)).map (fun x => cntV x.2)).sum = cntV (.mk k b i f t ty its fs) := by
    rw [cntV]
    simp only [kidsV]
    split
    · rw [itemKids_sum]
    · split
      · rw [fieldKids_sum]
      · rfl
  have := sumC_small (kidsV (.mk k b i f t ty its fs)) 1 (by omega)
  rw [e] at this
  exact this

end Go.Proofs.YtnmnmkdmnohbmaaGreatDoor
