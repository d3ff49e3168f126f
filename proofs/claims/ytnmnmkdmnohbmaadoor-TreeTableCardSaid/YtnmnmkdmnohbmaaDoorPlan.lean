/- Helper text: plans for regions that draw their order, with forks. Conditions: none. -/
import Derived.Test.YtnmnmkdmnohbmaaDoorFork
namespace Go.Proofs.YtnmnmkdmnohbmaaDoor
open Go Go.RowKit
section
variable {P : Program} {ops : Array Oper} {Q : Exit → Act → World → Prop} {md : Region.Mode} {C : World → Prop} {m : Nat}

/-- A plan: heads that are only read, operations in their forced order that stay in the class, a tail, a fork of two operations of the class. -/
inductive Plan where
  | done
  | heads (l : List Nat) (p : Plan)
  | chain (l : List Nat) (p : Plan)
  | tail (l : List Nat)
  | fork (i : Nat) (p : Plan) (j : Nat) (q : Plan)

def wpPlan (P : Program) (ops : Array Oper) (C : World → Prop) (Q : Exit → Act → World → Prop) : Plan → Act → World → Prop
  | .done, a, w => Q .normal a w
  | .heads l p, a, w => wpQuiet P ops C (fun a' => wpPlan P ops C Q p a' w) (pickOps ops l) a
  | .chain l p, a, w => wpListC P ops C Q (wpPlan P ops C Q p) (pickOps ops l) a w
  | .tail l, a, w => wpList P ops Q (pickOps ops l) a w
  | .fork i p j q, a, w => wpListC P ops C Q (wpPlan P ops C Q p) (pickOps ops [i]) a w ∧ wpListC P ops C Q (wpPlan P ops C Q q) (pickOps ops [j]) a w

def planLen : Plan → Nat
  | .done => 0
  | .heads l p => l.length + planLen p
  | .chain l p => l.length + planLen p
  | .tail l => l.length
  | .fork _ p _ _ => planLen p + 1

def planOk (md : Region.Mode) (ops : Array Oper) (m : Nat) : Plan → Array Bool → Bool
  | .done, listed => (Region.ready md ops listed).isEmpty
  | .heads l p, listed => headsB md ops m l listed && planOk md ops m p (listAll l listed)
  | .chain l p, listed => chainB md ops l listed && planOk md ops m p (listAll l listed)
  | .tail l, listed => l.all (fun i => decide (m ≤ i)) && chainB md ops l listed && (Region.ready md ops (listAll l listed)).isEmpty
  | .fork i p j q, listed => decide (Region.ready md ops listed = [i, j]) && decide (planLen p = planLen q) && planOk md ops m p (listed.setIfInBounds i true) && planOk md ops m q (listed.setIfInBounds j true)

theorem wpAnyC_plan (hs : Region.noSelect ops = true) (hQ : ∀ c a t w, Q (.panic c) { a with tmps := t } w → Q (.panic c) a w) :
    ∀ (p : Plan) (listed : Array Bool) (a : Act) (w : World), listed.size = ops.size → C w → planOk md ops m p listed = true →
      wpPlan P ops C Q p a w → wpAnyC P md ops C m Q (planLen p) listed a w
  | .done, listed, a, w, _, _, hB, h => ⟨by simpa [planOk] using hB, h⟩
  | .heads l p, listed, a, w, hz, hC, hB, h => by
    simp only [planOk, Bool.and_eq_true] at hB
    exact wpAnyC_heads hs hQ hC l listed a hz hB.1 (fun a' h' => wpAnyC_plan hs hQ p _ a' w (by rw [listAll_size]; exact hz) hC hB.2 h') h
  | .chain l p, listed, a, w, hz, hC, hB, h => by
    simp only [planOk, Bool.and_eq_true] at hB
    exact wpAnyC_listC l listed a w hC hB.1 (fun a' w' hC' h' => wpAnyC_plan hs hQ p _ a' w' (by rw [listAll_size]; exact hz) hC' hB.2 h') h
  | .tail l, listed, a, w, hz, hC, hB, h => by
    simp only [planOk, Bool.and_eq_true] at hB
    exact wpAnyC_list l listed a w hB.1.1 hB.1.2 (by simpa using hB.2) h
  | .fork i p j q, listed, a, w, hz, hC, hB, h => by
    simp only [planOk, Bool.and_eq_true, decide_eq_true_eq] at hB
    obtain ⟨⟨⟨hr, he⟩, h1⟩, h2⟩ := hB
    refine ⟨fun h0 => (by rw [hr] at h0; cases h0), fun x hx => ?_⟩
    have hx' := hx
    rw [hr] at hx
    simp only [List.mem_cons, List.not_mem_nil, or_false] at hx
    rcases hx with rfl | rfl
    · exact wpOp_of_listC hC hx' (fun a'' w'' hC hN => wpAnyC_plan hs hQ p _ a'' w'' (by simpa using hz) hC h1 hN) h.1
    · show wpOp P ops Q x (fun a' w' => (x < m → C w') ∧ wpAnyC P md ops C m Q (planLen p) (listed.setIfInBounds x true) a' w') a w
      rw [he]
      exact wpOp_of_listC hC hx' (fun a'' w'' hC hN => wpAnyC_plan hs hQ q _ a'' w'' (by simpa using hz) hC h2 hN) h.2

def planBool (ops : Array Oper) (m : Nat) (p : Plan) : Bool :=
  Region.noSelect ops && decide (planLen p = ops.size) && planOk .any ops m p (Array.replicate ops.size false)

theorem wp_region_tree_below {id : Nat} {a : Act} {w : World} {l : List Oper} (m : Nat) (p : Plan) (hm : P.follows .mixedOrders = true) (hB : planBool l.toArray m p = true)
    (hQ : ∀ c a t w, Q (.panic c) { a with tmps := t } w → Q (.panic c) a w) (h : wpPlan P l.toArray (Cls w) Q p a { w with drawn := w.drawn + 1 }) : (Code.region id l.toArray true).wp P Q a w := by
  simp only [planBool, Bool.and_eq_true, decide_eq_true_eq] at hB
  refine wp_region_any hm (wpAny_of_C (m := m) (C := Cls w) _ _ _ _ ?_)
  rw [← hB.1.2]
  exact wpAnyC_plan hB.1.1 hQ p _ a _ (by rw [Array.size_replicate]; exact hB.1.2) (cls_drew w) (by rw [hB.1.2]; exact hB.2) h
end
end Go.Proofs.YtnmnmkdmnohbmaaDoor
