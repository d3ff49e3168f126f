/- Helper text: a region that draws its order, by what holds of each set of its operations that are done. Conditions: none. -/
import Derived.Test.YtnmnmkdmnohbmaaDoorDraw
namespace Go.Proofs.YtnmnmkdmnohbmaaDoor
open Go Go.RowKit
section
variable {P : Program} {ops : Array Oper} {Q : Exit → Act → World → Prop}

/-- What each operation waits for. -/
def depsOf (ops : Array Oper) : List (List Nat) := ops.toList.map (fun o => (o.after.toList.filter (Region.binds .any)).map (·.on))
/-- May operation i come now? -/
def can (deps : List (List Nat)) (ls : List Bool) (i : Nat) : Bool := !(ls.getD i true) && (match deps[i]? with | some d => d.all (fun j => ls.getD j false) | none => false)

theorem getD_ls (ls : List Bool) (i : Nat) (b : Bool) : ls.toArray.getD i b = ls.getD i b := by
  rw [Array.getD_eq_getD_getElem?, List.getD_eq_getElem?_getD, List.getElem?_toArray]
theorem mem_ready_can {ls : List Bool} {i : Nat} : i ∈ Region.ready .any ops ls.toArray ↔ can (depsOf ops) ls i = true := by
  rw [mem_ready]
  unfold can depsOf
  rw [getD_ls, List.getElem?_map, Array.getElem?_toList]
  cases ho : ops[i]? with
  | none => simp
  | some o =>
    simp only [Option.map_some, Bool.and_eq_true, Bool.not_eq_true', Option.some.injEq, exists_eq_left', List.all_eq_true, List.mem_map, List.mem_filter, Array.mem_toList_iff, getD_ls]
    constructor
    · rintro ⟨h1, h2⟩
      refine ⟨h1, ?_⟩
      rintro j ⟨e, ⟨he, hb⟩, rfl⟩
      exact h2 e he hb
    · rintro ⟨h1, h2⟩
      exact ⟨h1, fun e he hb => h2 _ ⟨e, ⟨he, hb⟩, rfl⟩⟩
theorem can_lt {deps : List (List Nat)} {ls : List Bool} {i : Nat} (h : can deps ls i = true) : ls[i]? = some false := by
  unfold can at h
  simp only [Bool.and_eq_true, Bool.not_eq_true'] at h
  have h1 := h.1
  rw [List.getD_eq_getElem?_getD] at h1
  cases hg : ls[i]? with
  | none => rw [hg] at h1; cases h1
  | some b => rw [hg] at h1; simp at h1; rw [h1]

theorem count_set : ∀ (ls : List Bool) (i : Nat), ls[i]? = some false → (ls.set i true).countP (· == false) + 1 = ls.countP (· == false)
  | [], _, h => by simp at h
  | b :: r, 0, h => by
    simp at h
    subst h
    simp
  | b :: r, i + 1, h => by
    have := count_set r i (by simpa using h)
    simp only [List.set_cons_succ, List.countP_cons]
    omega

theorem wpAny_states (I : List Bool → Act → World → Prop)
    (step : ∀ ls a w i, I ls a w → can (depsOf ops) ls i = true → wpOp P ops Q i (I (ls.set i true)) a w)
    (fin : ∀ ls a w, (∀ i, can (depsOf ops) ls i = false) → I ls a w → Q .normal a w) :
    ∀ (fuel : Nat) (ls : List Bool) (a : Act) (w : World), ls.countP (· == false) ≤ fuel → I ls a w → wpAny P .any ops Q fuel ls.toArray a w := by
  have hend : ∀ ls a w, Region.ready .any ops ls.toArray = [] → I ls a w → Q .normal a w := fun ls a w h hI => fin ls a w (fun i => by
    cases hc : can (depsOf ops) ls i with
    | false => rfl
    | true => exact absurd (mem_ready_can.2 hc) (by rw [h]; simp)) hI
  intro fuel
  induction fuel with
  | zero =>
    intro ls a w hc hI
    have hr : Region.ready .any ops ls.toArray = [] := by
      rw [List.eq_nil_iff_forall_not_mem]
      intro i hi
      have h1 := can_lt (mem_ready_can.1 hi)
      have := count_set ls i h1
      omega
    exact ⟨hr, hend _ _ _ hr hI⟩
  | succ fuel ih =>
    intro ls a w hc hI
    refine ⟨fun h => hend _ _ _ h hI, fun i hi => ?_⟩
    have hcan := mem_ready_can.1 hi
    have hcs := count_set ls i (can_lt hcan)
    refine wpOp_mono (fun a' w' h => ?_) (step ls a w i hI hcan)
    rw [show ls.toArray.setIfInBounds i true = (ls.set i true).toArray by simp]
    exact ih _ a' w' (by omega) h

/-- A region that draws its order: an invariant for each set of operations done. -/
theorem wp_region_states {id : Nat} {a : Act} {w : World} {l : List Oper} (deps : List (List Nat)) (hm : P.follows .mixedOrders = true) (hd : depsOf l.toArray = deps)
    (I : Act → World → List Bool → Act → World → Prop) (h0 : I a w (List.replicate l.length false) a { w with drawn := w.drawn + 1 })
    (step : ∀ ls a' w' i, I a w ls a' w' → can deps ls i = true → wpOp P l.toArray Q i (I a w (ls.set i true)) a' w')
    (fin : ∀ ls a' w', (∀ i, can deps ls i = false) → I a w ls a' w' → Q .normal a' w') : (Code.region id l.toArray true).wp P Q a w := by
  subst hd
  refine wp_region_any hm ?_
  have := wpAny_states (ops := l.toArray) (I a w) step fin l.toArray.size (List.replicate l.length false) a { w with drawn := w.drawn + 1 } (by refine Nat.le_trans List.countP_le_length ?_; simp) h0
  simpa using this

theorem wpOp_plain {i : Nat} {o : Oper} {N : Act → World → Prop} {a : Act} {w : World} (ho : ops[i]? = some o) (hg : o.guard = none) (h : ∀ K : Act → World → Prop, (∀ a' w', N a' w' → K a' w') → o.wp P a w K Q) : wpOp P ops Q i N a w := by
  unfold wpOp
  rw [ho]
  simp only [Region.wanted, hg, if_true]
  exact .inl (h N (fun _ _ h => h))
end
end Go.Proofs.YtnmnmkdmnohbmaaDoor
