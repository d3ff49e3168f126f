/- Several texts in one: Helper text: a region that draws its order, by what holds of each set of its operations that are done. Helper text: two copies and two boxes, laid in whatever order: what stands when some of it is done. Conditions: none. -/
import Derived.Test.YtldjbgklmeigmaaGreatDoorPackA
import Derived.Test.YtldjbgklmeigmaaGreatDoorPackE
namespace Go.Proofs.YtldjbgklmeigmaaGreatDoor
open Go Go.RowKit
section
variable {P : Program} {ops : Array Oper} {Q : Exit → Act → World → Prop}

/-- What each operation waits for. -/
def depsOf (ops : Array Oper) : List (List Nat) := ops.toList.map (fun o => (o.after.toList.filter (Region.binds .any)).map (·.on))
/-- May operation i come now? -/
def can (deps : List (List Nat)) (ls : List Bool) (i : Nat) : Bool := !(ls.getD i true) && (match deps[i]? with | some d => d.all (fun j => ls.getD j false) | none => false)

theorem getD_ls (ls : List Bool) (i : Nat) (b : Bool) : ls.toArray.getD i b = ls.getD i b := by
  rw [Array.getD_eq_getD_getElem?, List.getD_eq_getElem?_getD, List.getElem?_toArray]
theorem mem_ready_can {ls : List Bool} {i : Nat} : i ∈ Region.ready .any ops ls.toArray ↔ can (depsOf ops) ls i = true := by
  rw [mem_ready]
  unfold can depsOf
  rw [getD_ls, List.getElem?_map, Array.getElem?_toList]
  cases ho : ops[i]? with
  | none => simp
  | some o =>
    simp only [Option.map_some, Bool.and_eq_true, Bool.not_eq_true', Option.some.injEq, exists_eq_left', List.all_eq_true, List.mem_map, List.mem_filter, Array.mem_toList_iff, getD_ls]
    constructor
    · rintro ⟨h1, h2⟩
      refine ⟨h1, ?_⟩
      rintro j ⟨e, ⟨he, hb⟩, rfl⟩
      exact h2 e he hb
    · rintro ⟨h1, h2⟩
      exact ⟨h1, fun e he hb => h2 _ ⟨e, ⟨he, hb⟩, rfl⟩⟩
theorem can_lt {deps : List (List Nat)} {ls : List Bool} {i : Nat} (h : can deps ls i = true) : ls[i]? = some false := by
  unfold can at h
  simp only [Bool.and_eq_true, Bool.not_eq_true'] at h
  have h1 := h.1
  rw [List.getD_eq_getElem?_getD] at h1
  cases hg : ls[i]? with
  | none => rw [hg] at h1; cases h1
  | some b => rw [hg] at h1; simp at h1; rw [h1]

theorem count_set : ∀ (ls : List Bool) (i : Nat), ls[i]? = some false → (ls.set i true).countP (· == false) + 1 = ls.countP (· == false)
  | [], _, h => by simp at h
  | b :: r, 0, h => by
    simp at h
    subst h
    simp
  | b :: r, i + 1, h => by
    have := count_set r i (by simpa using h)
    simp only [List.set_cons_succ, List.countP_cons]
    omega

theorem wpAny_states (I : List Bool → Act → World → Prop)
    (step : ∀ ls a w i, I ls a w → can (depsOf ops) ls i = true → wpOp P ops Q i (I (ls.set i true)) a w)
    (fin : ∀ ls a w, (∀ i, can (depsOf ops) ls i = false) → I ls a w → Q .normal a w) :
    ∀ (fuel : Nat) (ls : List Bool) (a : Act) (w : World), ls.countP (· == false) ≤ fuel → I ls a w → wpAny P .any ops Q fuel ls.toArray a w := by
  have hend : ∀ ls a w, Region.ready .any ops ls.toArray = [] → I ls a w → Q .normal a w := fun ls a w h hI => fin ls a w (fun i => by
    cases hc : can (depsOf ops) ls i with
    | false => rfl
    | true => exact absurd (mem_ready_can.2 hc) (by rw [h]; simp)) hI
  intro fuel
  induction fuel with
  | zero =>
    intro ls a w hc hI
    have hr : Region.ready .any ops ls.toArray = [] := by
      rw [List.eq_nil_iff_forall_not_mem]
      intro i hi
      have h1 := can_lt (mem_ready_can.1 hi)
      have := count_set ls i h1
      omega
    exact ⟨hr, hend _ _ _ hr hI⟩
  | succ fuel ih =>
    intro ls a w hc hI
    refine ⟨fun h => hend _ _ _ h hI, fun i hi => ?_⟩
    have hcan := mem_ready_can.1 hi
    have hcs := count_set ls i (can_lt hcan)
    refine wpOp_mono (fun a' w' h => ?_) (step ls a w i hI hcan)
    rw [show ls.toArray.setIfInBounds i true = (ls.set i true).toArray by simp]
    exact ih _ a' w' (by omega) h

/-- A region that draws its order: an invariant for each set of operations done. -/
theorem wp_region_states {id : Nat} {a : Act} {w : World} {l : List Oper} (deps : List (List Nat)) (hm : P.follows .mixedOrders = true) (hd : depsOf l.toArray = deps)
    (I : Act → World → List Bool → Act → World → Prop) (h0 : I a w (List.replicate l.length false) a { w with drawn := w.drawn + 1 })
    (step : ∀ ls a' w' i, I a w ls a' w' → can deps ls i = true → wpOp P l.toArray Q i (I a w (ls.set i true)) a' w')
    (fin : ∀ ls a' w', (∀ i, can deps ls i = false) → I a w ls a' w' → Q .normal a' w') : (Code.region id l.toArray true).wp P Q a w := by
  subst hd
  refine wp_region_any hm ?_
  have := wpAny_states (ops := l.toArray) (I a w) step fin l.toArray.size (List.replicate l.length false) a { w with drawn := w.drawn + 1 } (by refine Nat.le_trans List.countP_le_length ?_; simp) h0
  simpa using this

theorem wpOp_plain {i : Nat} {o : Oper} {N : Act → World → Prop} {a : Act} {w : World} (ho : ops[i]? = some o) (hg : o.guard = none) (h : ∀ K : Act → World → Prop, (∀ a' w', N a' w' → K a' w') → o.wp P a w K Q) : wpOp P ops Q i N a w := by
  unfold wpOp
  rw [ho]
  simp only [Region.wanted, hg, if_true]
  exact .inl (h N (fun _ _ h => h))
end
end Go.Proofs.YtldjbgklmeigmaaGreatDoor

namespace Go.Proofs.YtldjbgklmeigmaaGreatDoor
open Go Go.RowKit

/-- What stands of two copies (their cells in c9, c10 once they are stored in the boxes g9, g10). -/
structure TwoF (W0 W : World) (x y : V) (csx csy : Array Value) (l0 l1 l2 l3 l4 l5 l6 l7 : Bool) (v25 v26 v27 v28 : Value) (c9 c10 : Array Value) (g9 g10 : Nat) (bx bz : List Nat) : Prop where
  below : Below W0.heap.size W0 W
  h25 : l0 = true → v25 = .agg csx
  h27 : l2 = true → v27 = .agg csy
  h26 : l1 = true → ∃ cs, v26 = .agg cs ∧ OwnV W x cs bx
  h28 : l3 = true → ∃ cs, v28 = .agg cs ∧ OwnV W y cs bz
  nx : bx.Nodup
  ny : bz.Nodup
  rx : ∀ b ∈ bx, W0.heap.size ≤ b ∧ b < W.heap.size
  ry : ∀ b ∈ bz, W0.heap.size ≤ b ∧ b < W.heap.size
  dxy : ∀ b ∈ bx, b ∉ bz
  h9 : l4 = true → W0.heap.size ≤ g9 ∧ g9 < W.heap.size ∧ W.heap[g9]? = some (.cells c9 34 (0, 0)) ∧ g9 ∉ bx ∧ g9 ∉ bz ∧ c9.size = 8
  h10 : l5 = true → W0.heap.size ≤ g10 ∧ g10 < W.heap.size ∧ W.heap[g10]? = some (.cells c10 34 (0, 0)) ∧ g10 ∉ bx ∧ g10 ∉ bz ∧ c10.size = 8
  ne : l4 = true → l5 = true → g9 ≠ g10
  e6 : l6 = true → v26 = .agg c9
  e7 : l7 = true → v28 = .agg c10
  i6 : l6 = true → l1 = true ∧ l4 = true
  i7 : l7 = true → l3 = true ∧ l5 = true

section
variable {W0 W W' : World} {x y : V} {csx csy : Array Value} {l0 l1 l2 l3 l4 l5 l6 l7 : Bool} {v25 v26 v27 v28 : Value} {c9 c10 : Array Value} {g9 g10 : Nat} {bx bz : List Nat}
theorem TwoF.start (W0 W : World) (hb : Below W0.heap.size W0 W) (x y : V) (csx csy : Array Value) (v25 v26 v27 v28 : Value) : TwoF W0 W x y csx csy false false false false false false false false v25 v26 v27 v28 #[] #[] 0 0 [] [] :=
  ⟨hb, by simp, by simp, by simp, by simp, by simp, by simp, by simp, by simp, by simp, by simp, by simp, by simp, by simp, by simp, by simp, by simp⟩
theorem TwoF.grow (h : TwoF W0 W x y csx csy l0 l1 l2 l3 l4 l5 l6 l7 v25 v26 v27 v28 c9 c10 g9 g10 bx bz) (hb : Below W.heap.size W W') : TwoF W0 W' x y csx csy l0 l1 l2 l3 l4 l5 l6 l7 v25 v26 v27 v28 c9 c10 g9 g10 bx bz :=
  ⟨h.below.trans (hb.mono h.below.size), h.h25, h.h27,
    fun e => by obtain ⟨cs, h1, h2⟩ := h.h26 e; exact ⟨cs, h1, h2.kept (Kept.below hb (fun b hb => (h.rx b hb).2))⟩,
    fun e => by obtain ⟨cs, h1, h2⟩ := h.h28 e; exact ⟨cs, h1, h2.kept (Kept.below hb (fun b hb => (h.ry b hb).2))⟩,
    h.nx, h.ny, fun b hb' => ⟨(h.rx b hb').1, Nat.lt_of_lt_of_le (h.rx b hb').2 hb.size⟩, fun b hb' => ⟨(h.ry b hb').1, Nat.lt_of_lt_of_le (h.ry b hb').2 hb.size⟩, h.dxy,
    fun e => by obtain ⟨h1, h2, h3, h4, h5⟩ := h.h9 e; exact ⟨h1, Nat.lt_of_lt_of_le h2 hb.size, (hb.block _ h2).trans h3, h4, h5⟩,
    fun e => by obtain ⟨h1, h2, h3, h4, h5⟩ := h.h10 e; exact ⟨h1, Nat.lt_of_lt_of_le h2 hb.size, (hb.block _ h2).trans h3, h4, h5⟩,
    h.ne, h.e6, h.e7, h.i6, h.i7⟩
theorem TwoF.load0 (h : TwoF W0 W x y csx csy false l1 l2 l3 l4 l5 l6 l7 v25 v26 v27 v28 c9 c10 g9 g10 bx bz) : TwoF W0 W x y csx csy true l1 l2 l3 l4 l5 l6 l7 (.agg csx) v26 v27 v28 c9 c10 g9 g10 bx bz :=
  { h with h25 := fun _ => rfl }
theorem TwoF.load2 (h : TwoF W0 W x y csx csy l0 l1 false l3 l4 l5 l6 l7 v25 v26 v27 v28 c9 c10 g9 g10 bx bz) : TwoF W0 W x y csx csy l0 l1 true l3 l4 l5 l6 l7 v25 v26 (.agg csy) v28 c9 c10 g9 g10 bx bz :=
  { h with h27 := fun _ => rfl }
theorem TwoF.call1 (h : TwoF W0 W x y csx csy l0 false l2 l3 l4 l5 l6 l7 v25 v26 v27 v28 c9 c10 g9 g10 bx bz) {cs : Array Value} {bs : List Nat} (ho : OwnV W' x cs bs) (hn : bs.Nodup) (hr : ∀ b ∈ bs, W.heap.size ≤ b ∧ b < W'.heap.size) (hb : Below W.heap.size W W') :
    TwoF W0 W' x y csx csy l0 true l2 l3 l4 l5 l6 l7 v25 (.agg cs) v27 v28 c9 c10 g9 g10 bs bz :=
  { h.grow hb with
    h26 := fun _ => ⟨cs, rfl, ho⟩
    nx := hn
    rx := fun b hb' => ⟨Nat.le_trans h.below.size (hr b hb').1, (hr b hb').2⟩
    dxy := fun b hb' hz => by have := (hr b hb').1; have := (h.ry b hz).2; omega
    h9 := fun e => by obtain ⟨h1, h2, h3, h4, h5⟩ := (h.grow hb).h9 e; exact ⟨h1, h2, h3, fun hz => by have := (hr _ hz).1; have := (h.h9 e).2.1; omega, h5⟩
    h10 := fun e => by obtain ⟨h1, h2, h3, h4, h5⟩ := (h.grow hb).h10 e; exact ⟨h1, h2, h3, fun hz => by have := (hr _ hz).1; have := (h.h10 e).2.1; omega, h5⟩
    e6 := fun e => by have := (h.i6 e).1; cases this
    i6 := fun e => ⟨rfl, (h.i6 e).2⟩ }
theorem TwoF.call3 (h : TwoF W0 W x y csx csy l0 l1 l2 false l4 l5 l6 l7 v25 v26 v27 v28 c9 c10 g9 g10 bx bz) {cs : Array Value} {bs : List Nat} (ho : OwnV W' y cs bs) (hn : bs.Nodup) (hr : ∀ b ∈ bs, W.heap.size ≤ b ∧ b < W'.heap.size) (hb : Below W.heap.size W W') :
    TwoF W0 W' x y csx csy l0 l1 l2 true l4 l5 l6 l7 v25 v26 v27 (.agg cs) c9 c10 g9 g10 bx bs :=
  { h.grow hb with
    h28 := fun _ => ⟨cs, rfl, ho⟩
    ny := hn
    ry := fun b hb' => ⟨Nat.le_trans h.below.size (hr b hb').1, (hr b hb').2⟩
    dxy := fun b hx hb' => by have := (hr b hb').1; have := (h.rx b hx).2; omega
    h9 := fun e => by obtain ⟨h1, h2, h3, h4, h5, h6⟩ := (h.grow hb).h9 e; exact ⟨h1, h2, h3, h4, fun hz => by have := (hr _ hz).1; have := (h.h9 e).2.1; omega, h6⟩
    h10 := fun e => by obtain ⟨h1, h2, h3, h4, h5, h6⟩ := (h.grow hb).h10 e; exact ⟨h1, h2, h3, h4, fun hz => by have := (hr _ hz).1; have := (h.h10 e).2.1; omega, h6⟩
    e7 := fun e => by have := (h.i7 e).1; cases this
    i7 := fun e => ⟨rfl, (h.i7 e).2⟩ }
theorem TwoF.alloc4 (h : TwoF W0 W x y csx csy l0 l1 l2 l3 false l5 l6 l7 v25 v26 v27 v28 c9 c10 g9 g10 bx bz) (cs : Array Value) (hs : cs.size = 8) :
    TwoF W0 (W.alloc (.cells cs 34)) x y csx csy l0 l1 l2 l3 true l5 l6 l7 v25 v26 v27 v28 cs c10 W.heap.size g10 bx bz :=
  { h.grow ((Below.refl W.heap.size W).alloc (Nat.le_refl _) (.cells cs 34)) with
    h9 := fun _ => ⟨h.below.size, by simp, heap_new _ _, fun hz => by have := (h.rx _ hz).2; omega, fun hz => by have := (h.ry _ hz).2; omega, hs⟩
    ne := fun _ e hc => by have := (h.h10 e).2.1; omega
    e6 := fun e => by have := (h.i6 e).2; cases this
    i6 := fun e => ⟨(h.i6 e).1, rfl⟩ }
theorem TwoF.alloc5 (h : TwoF W0 W x y csx csy l0 l1 l2 l3 l4 false l6 l7 v25 v26 v27 v28 c9 c10 g9 g10 bx bz) (cs : Array Value) (hs : cs.size = 8) :
    TwoF W0 (W.alloc (.cells cs 34)) x y csx csy l0 l1 l2 l3 l4 true l6 l7 v25 v26 v27 v28 c9 cs g9 W.heap.size bx bz :=
  { h.grow ((Below.refl W.heap.size W).alloc (Nat.le_refl _) (.cells cs 34)) with
    h10 := fun _ => ⟨h.below.size, by simp, heap_new _ _, fun hz => by have := (h.rx _ hz).2; omega, fun hz => by have := (h.ry _ hz).2; omega, hs⟩
    ne := fun e _ hc => by have := (h.h9 e).2.1; omega
    e7 := fun e => by have := (h.i7 e).2; cases this
    i7 := fun e => ⟨(h.i7 e).1, rfl⟩ }
theorem TwoF.store6 (h : TwoF W0 W x y csx csy l0 true l2 l3 true l5 l6 l7 v25 v26 v27 v28 c9 c10 g9 g10 bx bz) (cs : Array Value) (hv : v26 = .agg cs) (hs : cs.size = 8) :
    TwoF W0 (W.setRow g9 cs) x y csx csy l0 true l2 l3 true l5 true l7 v25 v26 v27 v28 cs c10 g9 g10 bx bz := by
  obtain ⟨h1, h2, h3, h4, h5, h6⟩ := h.h9 rfl
  exact
  { h with
    below := below_setRow h.below h1 cs
    h26 := fun e => by obtain ⟨cs', q1, q2⟩ := h.h26 e; exact ⟨cs', q1, q2.kept (Kept.setRow (fun _ _ => rfl) h4 _)⟩
    h28 := fun e => by obtain ⟨cs', q1, q2⟩ := h.h28 e; exact ⟨cs', q1, q2.kept (Kept.setRow (fun _ _ => rfl) h5 _)⟩
    rx := fun b hb => by rw [setRow_size]; exact h.rx b hb
    ry := fun b hb => by rw [setRow_size]; exact h.ry b hb
    h9 := fun _ => ⟨h1, by rw [setRow_size]; exact h2, setRow_heap _ _ _ _ _ _ h3, h4, h5, hs⟩
    h10 := fun e => by obtain ⟨q1, q2, q3, q4, q5⟩ := h.h10 e; exact ⟨q1, by rw [setRow_size]; exact q2, (setRow_other _ _ _ _ (fun e' => h.ne rfl e e'.symm)).trans q3, q4, q5⟩
    e6 := fun _ => hv
    i6 := fun _ => ⟨rfl, rfl⟩ }
theorem TwoF.store7 (h : TwoF W0 W x y csx csy l0 l1 l2 true l4 true l6 l7 v25 v26 v27 v28 c9 c10 g9 g10 bx bz) (cs : Array Value) (hv : v28 = .agg cs) (hs : cs.size = 8) :
    TwoF W0 (W.setRow g10 cs) x y csx csy l0 l1 l2 true l4 true l6 true v25 v26 v27 v28 c9 cs g9 g10 bx bz := by
  obtain ⟨h1, h2, h3, h4, h5, h6⟩ := h.h10 rfl
  exact
  { h with
    below := below_setRow h.below h1 cs
    h26 := fun e => by obtain ⟨cs', q1, q2⟩ := h.h26 e; exact ⟨cs', q1, q2.kept (Kept.setRow (fun _ _ => rfl) h4 _)⟩
    h28 := fun e => by obtain ⟨cs', q1, q2⟩ := h.h28 e; exact ⟨cs', q1, q2.kept (Kept.setRow (fun _ _ => rfl) h5 _)⟩
    rx := fun b hb => by rw [setRow_size]; exact h.rx b hb
    ry := fun b hb => by rw [setRow_size]; exact h.ry b hb
    h10 := fun _ => ⟨h1, by rw [setRow_size]; exact h2, setRow_heap _ _ _ _ _ _ h3, h4, h5, hs⟩
    h9 := fun e => by obtain ⟨q1, q2, q3, q4, q5⟩ := h.h9 e; exact ⟨q1, by rw [setRow_size]; exact q2, (setRow_other _ _ _ _ (fun e' => h.ne e rfl e')).trans q3, q4, q5⟩
    e7 := fun _ => hv
    i7 := fun _ => ⟨rfl, rfl⟩ }
end
abbrev twoDeps : List (List Nat) := [[], [0], [], [2, 1], [], [], [4, 1, 3, 0, 1, 4, 5], [5, 3, 6, 0, 1, 2, 3, 4, 5, 6]]
theorem two_can6 {l0 l1 l2 l3 l4 l5 l6 l7 : Bool} (h : can twoDeps [l0, l1, l2, l3, l4, l5, l6, l7] 6 = true) : l6 = false ∧ l4 = true ∧ l1 = true ∧ l3 = true ∧ l0 = true ∧ l5 = true := by
  simpa [can, and_assoc, and_left_comm] using h
theorem two_can7 {l0 l1 l2 l3 l4 l5 l6 l7 : Bool} (h : can twoDeps [l0, l1, l2, l3, l4, l5, l6, l7] 7 = true) : l0 = true ∧ l1 = true ∧ l2 = true ∧ l3 = true ∧ l4 = true ∧ l5 = true ∧ l7 = false ∧ l6 = true := by
  simpa [can, and_assoc, and_left_comm] using h
theorem two_end {l0 l1 l2 l3 l4 l5 l6 l7 : Bool} (h : ∀ i, can twoDeps [l0, l1, l2, l3, l4, l5, l6, l7] i = false) : l0 = true ∧ l1 = true ∧ l2 = true ∧ l3 = true ∧ l4 = true ∧ l5 = true ∧ l6 = true ∧ l7 = true := by
  obtain rfl : l0 = true := by simpa [can] using h 0
  obtain rfl : l2 = true := by simpa [can] using h 2
  obtain rfl : l4 = true := by simpa [can] using h 4
  obtain rfl : l5 = true := by simpa [can] using h 5
  obtain rfl : l1 = true := by simpa [can] using h 1
  obtain rfl : l3 = true := by simpa [can] using h 3
  obtain rfl : l6 = true := by simpa [can] using h 6
  obtain rfl : l7 = true := by simpa [can] using h 7
  simp
/-- The same with the frame: the slots of the boxes, of the two values loaded and of the two copies. -/
def twoI (s9 s10 s25 s26 s27 s28 : Nat) (x y : V) (csx csy : Array Value) (a0 : Act) (W0 : World) (ls : List Bool) (a : Act) (W : World) : Prop :=
  ∃ (l0 l1 l2 l3 l4 l5 l6 l7 : Bool) (v25 v26 v27 v28 : Value) (c9 c10 : Array Value) (g9 g10 : Nat) (bx bz : List Nat), ls = [l0, l1, l2, l3, l4, l5, l6, l7] ∧
    a = { a0 with tmps := (((((a0.tmps.setIfInBounds s25 v25).setIfInBounds s26 v26).setIfInBounds s27 v27).setIfInBounds s28 v28).setIfInBounds s9 (if l4 = true then .pointer (some ⟨g9, 0, none⟩) else undef)).setIfInBounds s10 (if l5 = true then .pointer (some ⟨g10, 0, none⟩) else undef) } ∧
    TwoF W0 W x y csx csy l0 l1 l2 l3 l4 l5 l6 l7 v25 v26 v27 v28 c9 c10 g9 g10 bx bz
end Go.Proofs.YtldjbgklmeigmaaGreatDoor
