/- Helper text: a plan for a region that draws its order, inside the round of a range over a function. Conditions: none. -/
import Derived.Test.YtnmnmkdmnohbmaaDoorPlan
import Derived.RangeFuncNested
import Derived.OrdersIn
namespace Go.Proofs.YtnmnmkdmnohbmaaDoor
open Go Go.RowKit
section
variable {P : Program} {ops : Array Oper} {Q : Exit → Act → World → Prop} {md : Region.Mode}

def plainOps (ops : Array Oper) : Bool := ops.all fun o => match o.op with | .defer _ => false | _ => true

theorem plainOps_spec (h : plainOps ops = true) {i : Nat} {o : Oper} (ho : ops[i]? = some o) : ∀ c, o.op ≠ .defer c := by
  intro c hc
  have hm := Array.all_eq_true'.1 h o (Array.mem_of_getElem? ho)
  rw [hc] at hm
  cases hm

theorem wpOpIn_of_wpOp {n l i : Nat} {K : Act → World → Prop} {a : Act} {w : World} (hd : plainOps ops = true) (hL : ∀ a w, ¬ Q .outgrown a w) (h : wpOp P ops Q i K a w) : wpOpIn (Fence.wide.inRound l) n P ops Q i K a w := by
  unfold wpOp at h
  unfold wpOpIn
  cases ho : ops[i]? with
  | none => rw [ho] at h; exact h
  | some o =>
    rw [ho] at h
    simp only [] at h ⊢
    split
    · rename_i hw
      rw [if_pos hw] at h
      rcases h with h | ⟨_, a', w', h⟩
      · refine ⟨fun _ _ => trivial, ?_⟩
        rw [Oper.semAt_eq _ _ _ (plainOps_spec hd ho)]
        unfold Oper.wp at h
        generalize (execOp a.eval o).run P w = r at *
        cases r with
        | ok x w' =>
          cases x <;> simp only [Oper.upon, Oper.uponIn] at h ⊢
          case value u => exact h
          case skip => exact h
          case defer d => exact h
          case enter f args => exact ⟨fun hx => absurd hx (by simp [Fence.inRound, Fence.wide]), CallsIn.inRound l (callsIn_wide.2 h)⟩
          case row row args =>
            refine ⟨fun hx => absurd hx (by simp [Fence.inRound, Fence.wide]), fun c cs _ => ?_⟩
            obtain ⟨v, w', r, s⟩ := h c cs
            exact ⟨v, w', r, (stepsIn_wide (P := P)).2 s⟩
        | halt x w' =>
          cases x <;> exact h
      · exact absurd h (hL a' w')
    · rename_i hw
      rw [if_neg hw] at h
      exact ⟨fun _ _ => trivial, h⟩

theorem wpAnyIn_of_wpAny {n l : Nat} (hd : plainOps ops = true) (hL : ∀ a w, ¬ Q .outgrown a w) : ∀ (fuel : Nat) (listed : Array Bool) (a : Act) (w : World), wpAny P md ops Q fuel listed a w → wpAnyIn (Fence.wide.inRound l) n P md ops Q fuel listed a w
  | 0, _, _, _, h => h
  | fuel + 1, listed, a, w, h => ⟨h.1, fun i hi => wpOpIn_of_wpOp hd hL (wpOp_mono (fun a' w' h' => wpAnyIn_of_wpAny hd hL fuel _ a' w' h') (h.2 i hi))⟩

theorem wpR_region_plan {id n r : Nat} {a : Act} {w : World} {l : List Oper} (m : Nat) (segs : List (Nat × List Nat)) (C : World → Prop) (hm : P.follows .mixedOrders = true) (hB : planB l.toArray m segs = true) (hd : plainOps l.toArray = true) (hL : ∀ a w, ¬ Q .outgrown a w)
    (hC : C { w with drawn := w.drawn + 1 }) (hQ : ∀ c a t w, Q (.panic c) { a with tmps := t } w → Q (.panic c) a w)
    (h : wpSegs P l.toArray C Q segs a { w with drawn := w.drawn + 1 }) : (Code.region id l.toArray true).wpIn (Fence.wide.inRound r) n P Q a w := by
  simp only [planB, Bool.and_eq_true, decide_eq_true_eq] at hB
  refine wpIn_region_any hm (wpAnyIn_of_wpAny hd hL _ _ _ _ (wpAny_of_C (m := m) (C := C) _ _ _ _ ?_))
  rw [← hB.1.2]
  exact wpAnyC_segs hB.1.1 hQ segs _ a _ (by simp [hB.1.2]) hC (by rw [hB.1.2]; exact hB.2) h

theorem wpR_region_plan_below {id n r : Nat} {a : Act} {w : World} {l : List Oper} (m : Nat) (segs : List (Nat × List Nat)) (hm : P.follows .mixedOrders = true) (hB : planB l.toArray m segs = true) (hd : plainOps l.toArray = true) (hL : ∀ a w, ¬ Q .outgrown a w)
    (hQ : ∀ c a t w, Q (.panic c) { a with tmps := t } w → Q (.panic c) a w) (h : wpSegs P l.toArray (Cls w) Q segs a { w with drawn := w.drawn + 1 }) : (Code.region id l.toArray true).wpIn (Fence.wide.inRound r) n P Q a w :=
  wpR_region_plan m segs (Cls w) hm hB hd hL (cls_drew w) hQ h
end
end Go.Proofs.YtnmnmkdmnohbmaaDoor
