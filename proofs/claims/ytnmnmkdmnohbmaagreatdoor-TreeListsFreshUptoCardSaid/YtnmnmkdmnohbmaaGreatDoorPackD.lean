/- Several texts in one: Helper text: a rule for regions that draw their order, where two operations may come in either order. Helper text: plans for regions that draw their order, with forks. Helper text: a plan for a region that draws its order, with operations that read nothing taken first of all. The reference's copy of a fault. The reference's sort: merged, two halves at a time, each once. Helper text: a list of faults whose lists of places and of steps lie in memory of their own, no two in the same. The reference's union of lists of faults. Conditions: none. -/
import Derived.Test.YtnmnmkdmnohbmaaGreatDoorPackA
import Derived.Test.YtnmnmkdmnohbmaaGreatDoorPackB
import Derived.Test.YtnmnmkdmnohbmaaGreatDoorPackC
namespace Go.Proofs.YtnmnmkdmnohbmaaGreatDoor
open Go Go.RowKit
section
variable {P : Program} {ops : Array Oper} {Q : Exit → Act → World → Prop} {md : Region.Mode} {C : World → Prop} {m : Nat}

theorem wpOp_of_listC {N : Act → World → Prop} {i fuel : Nat} {listed : Array Bool} {a : Act} {w : World} (hC : C w) (hi : i ∈ Region.ready md ops listed)
    (hN : ∀ a' w', C w' → N a' w' → wpAnyC P md ops C m Q fuel (listed.setIfInBounds i true) a' w') (h : wpListC P ops C Q N (pickOps ops [i]) a w) :
    wpOp P ops Q i (fun a' w' => (i < m → C w') ∧ wpAnyC P md ops C m Q fuel (listed.setIfInBounds i true) a' w') a w := by
  obtain ⟨_, o, ho, _⟩ := mem_ready.1 hi
  rw [pickOps_cons ho] at h
  unfold wpOp
  rw [ho]
  simp only []
  unfold wpListC at h
  by_cases hw : Region.wanted o (yielded ops a.tmps) = true
  · rw [if_pos hw] at h
    rw [if_pos hw]
    exact .inl (Oper.wp_mono (fun a' w' h' => ⟨fun _ => h'.1, hN a' w' h'.1 h'.2⟩) h)
  · rw [if_neg hw] at h
    rw [if_neg hw]
    exact ⟨fun _ => hC, hN _ w hC h⟩

/-- The Bool that the kernel is asked: heads, then a fork. -/
def forkB (ops : Array Oper) (m : Nat) (l0 : List Nat) (i1 i2 : Nat) (s1 s2 : List (Nat × List Nat)) : Bool :=
  Region.noSelect ops && decide (l0.length + (segsLen s1 + 1) = ops.size) && decide (segsLen s1 = segsLen s2) && headsB .any ops m l0 (Array.replicate ops.size false) &&
    decide (Region.ready .any ops (listAll l0 (Array.replicate ops.size false)) = [i1, i2]) &&
    segsB .any ops m s1 ((listAll l0 (Array.replicate ops.size false)).setIfInBounds i1 true) && segsB .any ops m s2 ((listAll l0 (Array.replicate ops.size false)).setIfInBounds i2 true)

theorem wp_region_fork_below {id : Nat} {a : Act} {w : World} {l : List Oper} (m : Nat) (l0 : List Nat) (i1 i2 : Nat) (s1 s2 : List (Nat × List Nat)) (hm : P.follows .mixedOrders = true) (hB : forkB l.toArray m l0 i1 i2 s1 s2 = true)
    (hQ : ∀ c a t w, Q (.panic c) { a with tmps := t } w → Q (.panic c) a w)
    (h : wpQuiet P l.toArray (Cls w) (fun a' => wpListC P l.toArray (Cls w) Q (wpSegs P l.toArray (Cls w) Q s1) (pickOps l.toArray [i1]) a' { w with drawn := w.drawn + 1 } ∧
      wpListC P l.toArray (Cls w) Q (wpSegs P l.toArray (Cls w) Q s2) (pickOps l.toArray [i2]) a' { w with drawn := w.drawn + 1 }) (pickOps l.toArray l0) a) : (Code.region id l.toArray true).wp P Q a w := by
  simp only [forkB, Bool.and_eq_true, decide_eq_true_eq] at hB
  obtain ⟨⟨⟨⟨⟨⟨hs, hl⟩, he⟩, hh⟩, hr⟩, h1⟩, h2⟩ := hB
  refine wp_region_any hm (wpAny_of_C (m := m) (C := Cls w) _ _ _ _ ?_)
  rw [← hl]
  refine wpAnyC_heads hs hQ (cls_drew w) l0 _ a (by rw [Array.size_replicate]; exact hl) (by rw [hl]; exact hh) (fun a' h' => ?_) h
  rw [hl]
  refine ⟨fun h0 => (by rw [hr] at h0; cases h0), fun j hj => ?_⟩
  have hj' := hj
  rw [hr] at hj
  simp only [List.mem_cons, List.not_mem_nil, or_false] at hj
  rcases hj with rfl | rfl
  · exact wpOp_of_listC (cls_drew w) hj' (fun a'' w'' hC hN => wpAnyC_segs hs hQ s1 _ a'' w'' (by simp [listAll_size]) hC h1 hN) h'.1
  · rw [he]
    exact wpOp_of_listC (cls_drew w) hj' (fun a'' w'' hC hN => wpAnyC_segs hs hQ s2 _ a'' w'' (by simp [listAll_size]) hC h2 hN) h'.2
end
end Go.Proofs.YtnmnmkdmnohbmaaGreatDoor

namespace Go.Proofs.YtnmnmkdmnohbmaaGreatDoor
open Go Go.RowKit
section
variable {P : Program} {ops : Array Oper} {Q : Exit → Act → World → Prop} {md : Region.Mode} {C : World → Prop} {m : Nat}

/-- A plan: heads that are only read, operations in their forced order that stay in the class, a tail, a fork of two operations of the class. -/
inductive Plan where
  | done
  | heads (l : List Nat) (p : Plan)
  | chain (l : List Nat) (p : Plan)
  | tail (l : List Nat)
  | fork (i : Nat) (p : Plan) (j : Nat) (q : Plan)

def wpPlan (P : Program) (ops : Array Oper) (C : World → Prop) (Q : Exit → Act → World → Prop) : Plan → Act → World → Prop
  | .done, a, w => Q .normal a w
  | .heads l p, a, w => wpQuiet P ops C (fun a' => wpPlan P ops C Q p a' w) (pickOps ops l) a
  | .chain l p, a, w => wpListC P ops C Q (wpPlan P ops C Q p) (pickOps ops l) a w
  | .tail l, a, w => wpList P ops Q (pickOps ops l) a w
  | .fork i p j q, a, w => wpListC P ops C Q (wpPlan P ops C Q p) (pickOps ops [i]) a w ∧ wpListC P ops C Q (wpPlan P ops C Q q) (pickOps ops [j]) a w

def planLen : Plan → Nat
  | .done => 0
  | .heads l p => l.length + planLen p
  | .chain l p => l.length + planLen p
  | .tail l => l.length
  | .fork _ p _ _ => planLen p + 1

def planOk (md : Region.Mode) (ops : Array Oper) (m : Nat) : Plan → Array Bool → Bool
  | .done, listed => (Region.ready md ops listed).isEmpty
  | .heads l p, listed => headsB md ops m l listed && planOk md ops m p (listAll l listed)
  | .chain l p, listed => chainB md ops l listed && planOk md ops m p (listAll l listed)
  | .tail l, listed => l.all (fun i => decide (m ≤ i)) && chainB md ops l listed && (Region.ready md ops (listAll l listed)).isEmpty
  | .fork i p j q, listed => decide (Region.ready md ops listed = [i, j]) && decide (planLen p = planLen q) && planOk md ops m p (listed.setIfInBounds i true) && planOk md ops m q (listed.setIfInBounds j true)

theorem wpAnyC_plan (hs : Region.noSelect ops = true) (hQ : ∀ c a t w, Q (.panic c) { a with tmps := t } w → Q (.panic c) a w) :
    ∀ (p : Plan) (listed : Array Bool) (a : Act) (w : World), listed.size = ops.size → C w → planOk md ops m p listed = true →
      wpPlan P ops C Q p a w → wpAnyC P md ops C m Q (planLen p) listed a w
  | .done, listed, a, w, _, _, hB, h => ⟨by simpa [planOk] using hB, h⟩
  | .heads l p, listed, a, w, hz, hC, hB, h => by
    simp only [planOk, Bool.and_eq_true] at hB
    exact wpAnyC_heads hs hQ hC l listed a hz hB.1 (fun a' h' => wpAnyC_plan hs hQ p _ a' w (by rw [listAll_size]; exact hz) hC hB.2 h') h
  | .chain l p, listed, a, w, hz, hC, hB, h => by
    simp only [planOk, Bool.and_eq_true] at hB
    exact wpAnyC_listC l listed a w hC hB.1 (fun a' w' hC' h' => wpAnyC_plan hs hQ p _ a' w' (by rw [listAll_size]; exact hz) hC' hB.2 h') h
  | .tail l, listed, a, w, hz, hC, hB, h => by
    simp only [planOk, Bool.and_eq_true] at hB
    exact wpAnyC_list l listed a w hB.1.1 hB.1.2 (by simpa using hB.2) h
  | .fork i p j q, listed, a, w, hz, hC, hB, h => by
    simp only [planOk, Bool.and_eq_true, decide_eq_true_eq] at hB
    obtain ⟨⟨⟨hr, he⟩, h1⟩, h2⟩ := hB
    refine ⟨fun h0 => (by rw [hr] at h0; cases h0), fun x hx => ?_⟩
    have hx' := hx
    rw [hr] at hx
    simp only [List.mem_cons, List.not_mem_nil, or_false] at hx
    rcases hx with rfl | rfl
    · exact wpOp_of_listC hC hx' (fun a'' w'' hC hN => wpAnyC_plan hs hQ p _ a'' w'' (by simpa using hz) hC h1 hN) h.1
    · show wpOp P ops Q x (fun a' w' => (x < m → C w') ∧ wpAnyC P md ops C m Q (planLen p) (listed.setIfInBounds x true) a' w') a w
      rw [he]
      exact wpOp_of_listC hC hx' (fun a'' w'' hC hN => wpAnyC_plan hs hQ q _ a'' w'' (by simpa using hz) hC h2 hN) h.2

def planBool (ops : Array Oper) (m : Nat) (p : Plan) : Bool :=
  Region.noSelect ops && decide (planLen p = ops.size) && planOk .any ops m p (Array.replicate ops.size false)

theorem wp_region_tree_below {id : Nat} {a : Act} {w : World} {l : List Oper} (m : Nat) (p : Plan) (hm : P.follows .mixedOrders = true) (hB : planBool l.toArray m p = true)
    (hQ : ∀ c a t w, Q (.panic c) { a with tmps := t } w → Q (.panic c) a w) (h : wpPlan P l.toArray (Cls w) Q p a { w with drawn := w.drawn + 1 }) : (Code.region id l.toArray true).wp P Q a w := by
  simp only [planBool, Bool.and_eq_true, decide_eq_true_eq] at hB
  refine wp_region_any hm (wpAny_of_C (m := m) (C := Cls w) _ _ _ _ ?_)
  rw [← hB.1.2]
  exact wpAnyC_plan hB.1.1 hQ p _ a _ (by rw [Array.size_replicate]; exact hB.1.2) (cls_drew w) (by rw [hB.1.2]; exact hB.2) h
end
end Go.Proofs.YtnmnmkdmnohbmaaGreatDoor

namespace Go.Proofs.YtnmnmkdmnohbmaaGreatDoor
open Go Go.RowKit
section
variable {P : Program} {ops : Array Oper} {Q : Exit → Act → World → Prop} {md : Region.Mode} {C : World → Prop} {m : Nat}

abbrev AnyW : World → Prop := fun _ => True

theorem wpAnyC_firstF {i : Nat} {oi : Oper} {v : Value} (hi : ops[i]? = some oi) (hmi : m ≤ i) (hsel : ∀ (j : Nat) (o : Oper) cs b, ops[j]? = some o → o.op ≠ .select cs b)
    (hQ : ∀ c a t w, Q (.panic c) { a with tmps := t } w → Q (.panic c) a w) :
    ∀ (fuel : Nat) (listed : Array Bool) (a : Act) (w : World),
      (∀ j oj, ops[j]? = some oj → j ≠ i → listed.getD j true = false → (∀ e ∈ oj.after, Region.binds md e = true → e.on ≠ i) → oi.apart ops oj = true) →
      i ∈ Region.ready md ops listed → YieldsC P ops AnyW oi v a →
      wpAnyC P md ops C m Q fuel (listed.setIfInBounds i true) (a.put oi.dst v) w → wpAnyC P md ops C m Q (fuel + 1) listed a w := by
  intro fuel
  induction fuel with
  | zero =>
    intro listed a w _ hr hy H
    refine ⟨fun h => (by rw [h] at hr; cases hr), fun j hj => ?_⟩
    by_cases hji : j = i
    · subst hji; exact hy.wpOp hi trivial ⟨fun h => absurd h (by omega), H⟩
    · have := ready_mono hj hji
      rw [H.1] at this
      cases this
  | succ fuel ih =>
    intro listed a w hfree hr hy H
    refine ⟨fun h => (by rw [h] at hr; cases hr), fun j hj => ?_⟩
    by_cases hji : j = i
    · subst hji; exact hy.wpOp hi trivial ⟨fun h => absurd h (by omega), H⟩
    · have h1 := H.2 j (ready_mono hj hji)
      obtain ⟨hjun, oj, hoj, hall⟩ := mem_ready.1 hj
      have hiun := (mem_ready.1 hr).1
      have hnot : ∀ e ∈ oj.after, Region.binds md e = true → e.on ≠ i := fun e he hb heq => by
        have h1 := hall e he hb
        rw [heq, getD_both hiun] at h1
        cases h1
      have h2 := wpOp_putC hoj (hfree j oj hoj hji hjun hnot) (fun cs b => hsel i oi cs b hi) (fun cs b => hsel j oj cs b hoj) hQ hy h1
      have hfree' : ∀ k ok, ops[k]? = some ok → k ≠ i → (listed.setIfInBounds j true).getD k true = false →
          (∀ e ∈ ok.after, Region.binds md e = true → e.on ≠ i) → oi.apart ops ok = true := fun k ok hk hki hun hno => by
        refine hfree k ok hk hki ?_ hno
        by_cases hjk : j = k
        · subst hjk; exact hjun
        · rw [getD_set_ne true hjk] at hun; exact hun
      refine wpOp_mono (fun a' w' h3 => ⟨h3.2.1, ih (listed.setIfInBounds j true) a' w' hfree' (ready_mono hr (Ne.symm hji)) h3.1 ?_⟩) h2
      rw [Array.setIfInBounds_comm _ _ hji]
      exact h3.2.2

def freesB (md : Region.Mode) (ops : Array Oper) (m : Nat) : List Nat → Array Bool → Bool
  | [], _ => true
  | i :: r, listed => readAt ops i && decide (m ≤ i) && (Region.ready md ops listed).contains i && Region.free md ops listed i && freesB md ops m r (listed.setIfInBounds i true)

theorem wpAnyC_frees (hs : Region.noSelect ops = true) (hQ : ∀ c a t w, Q (.panic c) { a with tmps := t } w → Q (.panic c) a w) {w : World} {N : Act → Prop} {fuel : Nat} :
    ∀ (l : List Nat) (listed : Array Bool) (a : Act), freesB md ops m l listed = true →
      (∀ a', N a' → wpAnyC P md ops C m Q fuel (listAll l listed) a' w) → wpQuiet P ops AnyW N (pickOps ops l) a → wpAnyC P md ops C m Q (l.length + fuel) listed a w
  | [], listed, a, _, hN, h => by simp only [List.length_nil, Nat.zero_add]; exact hN _ h
  | i :: r, listed, a, hB, hN, h => by
    simp only [freesB, Bool.and_eq_true, decide_eq_true_eq] at hB
    obtain ⟨⟨⟨⟨hr, hmi⟩, hready⟩, hf⟩, hB'⟩ := hB
    unfold readAt at hr
    cases ho : ops[i]? with
    | none => rw [ho] at hr; cases hr
    | some o =>
      rw [ho] at hr
      simp only [Bool.and_eq_true] at hr
      rw [pickOps_cons ho] at h
      rw [show (i :: r).length + fuel = (r.length + fuel) + 1 by simp only [List.length_cons]; omega]
      by_cases hw : Region.wanted o (yielded ops a.tmps) = true
      · simp only [wpQuiet, if_pos hw] at h
        obtain ⟨v, h1, h2⟩ := h
        exact wpAnyC_firstF ho hmi (Region.noSelect_spec hs) hQ _ listed a w (Region.free_spec ho hf) (by simpa using hready) (yields_of_quiet hr.1 hw h1) (wpAnyC_frees hs hQ r _ _ hB' hN h2)
      · have hw' : Region.wanted o (yielded ops a.tmps) = false := by simpa using hw
        simp only [wpQuiet, if_neg hw] at h
        exact wpAnyC_firstF ho hmi (Region.noSelect_spec hs) hQ _ listed a w (Region.free_spec ho hf) (by simpa using hready) (.inr ⟨hw', rfl⟩) (wpAnyC_frees hs hQ r _ _ hB' hN h)

def planF (ops : Array Oper) (m : Nat) (frees : List Nat) (segs : List (Nat × List Nat)) : Bool :=
  Region.noSelect ops && decide (frees.length + segsLen segs = ops.size) && freesB .any ops m frees (Array.replicate ops.size false) && segsB .any ops m segs (listAll frees (Array.replicate ops.size false))

theorem wp_region_free {id : Nat} {a : Act} {w : World} {l : List Oper} (m : Nat) (frees : List Nat) (segs : List (Nat × List Nat)) (hm : P.follows .mixedOrders = true) (hB : planF l.toArray m frees segs = true)
    (hQ : ∀ c a t w, Q (.panic c) { a with tmps := t } w → Q (.panic c) a w)
    (h : wpQuiet P l.toArray AnyW (fun a' => wpSegs P l.toArray (Cls w) Q segs a' { w with drawn := w.drawn + 1 }) (pickOps l.toArray frees) a) : (Code.region id l.toArray true).wp P Q a w := by
  simp only [planF, Bool.and_eq_true, decide_eq_true_eq] at hB
  refine wp_region_any hm (wpAny_of_C (m := m) (C := Cls w) _ _ _ _ ?_)
  rw [← hB.1.1.2]
  exact wpAnyC_frees hB.1.1.1 hQ frees _ a (by rw [hB.1.1.2]; exact hB.1.2) (fun a' h' => wpAnyC_segs hB.1.1.1 hQ segs _ a' _ (by rw [listAll_size]; simp [hB.1.1.2]) (cls_drew w) (by rw [hB.1.1.2]; exact hB.2) h') h
end
end Go.Proofs.YtnmnmkdmnohbmaaGreatDoor

namespace Go.Proofs.YtnmnmkdmnohbmaaGreatDoor
open Go.RowKit

def cleanF (x : Fl) : Fl := ⟨x.k, x.pos, x.path.map bareS⟩

def posC (l : List (Int × Int)) : List Value := l.flatMap (fun r => [.int .i64 r.1, .int .i64 r.2])
def stC (l : List St) : List Value := l.flatMap (fun s => s.cells.toList)

theorem posC_at : ∀ (l : List (Int × Int)) (j : Nat) (r : Int × Int), l[j]? = some r → (posC l)[j * 2]? = some (.int .i64 r.1) ∧ (posC l)[j * 2 + 1]? = some (.int .i64 r.2)
  | [], _, _, h => by simp at h
  | a :: t, 0, r, h => by
    obtain rfl : a = r := by simpa using h
    exact ⟨rfl, rfl⟩
  | a :: t, j + 1, r, h => by
    have := posC_at t j r (by simpa using h)
    rw [show (j + 1) * 2 = j * 2 + 2 by omega]
    exact this
theorem stC_at : ∀ (l : List St) (j : Nat) (s : St), l[j]? = some s → (stC l)[j * 3]? = some (.string s.nm) ∧ (stC l)[j * 3 + 1]? = some (.int .i64 s.ix) ∧ (stC l)[j * 3 + 2]? = some (.bool s.it)
  | [], _, _, h => by simp at h
  | a :: t, 0, r, h => by
    obtain rfl : a = r := by simpa using h
    exact ⟨rfl, rfl, rfl⟩
  | a :: t, j + 1, r, h => by
    have := stC_at t j r (by simpa using h)
    rw [show (j + 1) * 3 = j * 3 + 3 by omega]
    exact this

theorem stC_app (l : List St) (s : List St) : stC (l ++ s) = stC l ++ stC s := by simp [stC]
theorem grown_sr (w : World) (g : Nat) (cs : Array Value) : w.grownBy (w.setRow g cs) (some g) :=
  ⟨rfl, rfl, rfl, by simp, fun k _ hk => setRow_other w g k cs (fun e => hk (by rw [e]))⟩
theorem grown_ofb {w w' : World} (h : Below w.heap.size w w') (row : Option Nat) : w.grownBy w' row := ⟨h.os, h.tape, h.output, h.size, fun k hk _ => h.block k hk⟩
theorem grown_sc (w : World) (a : Addr) (v : Value) : w.grownBy (w.setCell a v) (some a.block) :=
  ⟨rfl, rfl, rfl, by simp [World.setCell], fun k _ hk => Below.heap_setCell w a v k (fun e => hk (by rw [e]))⟩
theorem row_cells0 {w : World} {B : Nat} {e : TypeId} {sz n g : Nat} {v : Value} {xs : List Value} (h : w.ownsRow B e sz v n xs) (hg : v.ownBlock = some g) : ∃ cur, w.heap[g]? = some (.cells cur e (0, 0)) := by
  rcases h.2 with ⟨rfl, _⟩ | ⟨g', cap, cur, rfl, _, hh, _⟩
  · cases hg
  · cases hg
    exact ⟨cur, hh⟩
theorem row_apart {w : World} {B B' : Nat} {e e' : TypeId} {sz sz' n n' : Nat} {v v' : Value} {xs xs' : List Value} (h : w.ownsRow B e sz v n xs) (h' : w.ownsRow B' e' sz' v' n' xs') (hne : e ≠ e') : v.ownBlock = none ∨ v.ownBlock ≠ v'.ownBlock := by
  cases hv : v.ownBlock with
  | none => exact .inl rfl
  | some g =>
    refine .inr (fun e1 => ?_)
    obtain ⟨c1, h1⟩ := row_cells0 h hv
    obtain ⟨c2, h2⟩ := row_cells0 h' e1.symm
    rw [h1] at h2
    cases h2
    exact hne rfl
theorem rowAt1 {w : World} {B : Nat} {e : TypeId} {sz n : Nat} {v : Value} {xs : List Value} (h : w.ownsRow B e sz v n xs) (hn : 0 < n) :
    ∃ g cap, v = .slice (some ⟨g, 0, none⟩) n cap ∧ B ≤ g ∧ g < w.heap.size ∧ ∀ i u, xs[i]? = some u → w.cell? ⟨g, i, none⟩ = some u := by
  rcases h.2 with ⟨_, h0⟩ | ⟨g, cap, cur, hv, hb, hh, hn', hc, hs, ht⟩
  · omega
  · refine ⟨g, cap, hv, hb, (Array.getElem?_eq_some_iff.1 hh).1, fun i u hu => ?_⟩
    rw [← ht, List.getElem?_take] at hu
    split at hu
    · simp only [World.cell?, hh]
      simpa using hu
    · cases hu
theorem row_shape {w : World} {B : Nat} {e : TypeId} {sz n : Nat} {v : Value} {xs : List Value} (h : w.ownsRow B e sz v n xs) : ∃ p c, v = .slice p n c := by
  rcases h.2 with ⟨rfl, rfl⟩ | ⟨g, cap, cur, rfl, _⟩
  · exact ⟨_, _, rfl⟩
  · exact ⟨_, _, rfl⟩

theorem posAt_row {w : World} {B : Nat} {v : Value} {l : List (Int × Int)} (h : w.ownsRow B 44 2 v l.length (posC l)) : ∃ p c, v = .slice p l.length c ∧ PosAt w.heap.size w p l := by
  by_cases hl : 0 < l.length
  · obtain ⟨g, cap, rfl, hb, hg, hc⟩ := rowAt1 h hl
    refine ⟨_, _, rfl, .inr ⟨g, 0, rfl, hg, fun i s hs => ?_⟩⟩
    obtain ⟨h1, h2⟩ := posC_at l i s hs
    rw [Nat.zero_add]
    exact ⟨hc _ _ h1, hc _ _ h2⟩
  · obtain ⟨p, c, rfl⟩ := row_shape h
    exact ⟨p, c, rfl, .inl (List.length_eq_zero_iff.1 (by omega))⟩
theorem stepsAt_row {w : World} {B : Nat} {v : Value} {l : List St} (h : w.ownsRow B 69 3 v l.length (stC l)) : ∃ p c, v = .slice p l.length c ∧ StepsAt w.heap.size w p l := by
  by_cases hl : 0 < l.length
  · obtain ⟨g, cap, rfl, hb, hg, hc⟩ := rowAt1 h hl
    refine ⟨_, _, rfl, .inr ⟨g, 0, rfl, hg, fun i s hs => ?_⟩⟩
    obtain ⟨h1, h2, h3⟩ := stC_at l i s hs
    rw [Nat.zero_add]
    exact ⟨hc _ _ h1, hc _ _ h2, hc _ _ h3⟩
  · obtain ⟨p, c, rfl⟩ := row_shape h
    exact ⟨p, c, rfl, .inl (List.length_eq_zero_iff.1 (by omega))⟩

/-- A fault whose two lists lie in rows of the call's own. -/
def OwnLF (B : Nat) (w : World) (x : LF) : Prop :=
  w.ownsRow B 44 2 x.pv x.f.pos.length (posC x.f.pos) ∧ w.ownsRow B 69 3 x.qv x.f.path.length (stC x.f.path) ∧ x.f.pos.length ≤ big ∧ x.f.path.length ≤ big
theorem OwnLF.lok {B : Nat} {w : World} {x : LF} (h : OwnLF B w x) : LOk w.heap.size w x := by
  obtain ⟨h1, h2, h3, h4⟩ := h
  obtain ⟨p, c, e, hp⟩ := posAt_row h1
  obtain ⟨q, d, e2, hq⟩ := stepsAt_row h2
  exact ⟨⟨p, c, e, hp, h3⟩, q, d, e2, hq, h4⟩
theorem OwnLF.kept {B B' : Nat} {w w' : World} {x : LF} {sz n : Nat} {v : Value} {xs : List Value} (h : OwnLF B w x) (hr : w.ownsRow B' 42 sz v n xs) (hg : w.grownBy w' v.ownBlock) : OwnLF B w' x :=
  ⟨h.1.kept hg (row_apart h.1 hr (by decide)), h.2.1.kept hg (row_apart h.2.1 hr (by decide)), h.2.2⟩
theorem row_lower {w : World} {B B' : Nat} {e : TypeId} {sz n : Nat} {v : Value} {xs : List Value} (h : w.ownsRow B e sz v n xs) (hB : B' ≤ B) : w.ownsRow B' e sz v n xs := by
  obtain ⟨hl, h2⟩ := h
  refine ⟨hl, ?_⟩
  rcases h2 with h2 | ⟨g, cap, cur, hv, hb, hr⟩
  · exact .inl h2
  · exact .inr ⟨g, cap, cur, hv, by omega, hr⟩
theorem OwnLF.below {B : Nat} {w w' : World} {x : LF} (h : OwnLF B w x) (hb : Below w.heap.size w w') : OwnLF B w' x :=
  ⟨h.1.kept (grown_ofb hb none) (by cases x.pv.ownBlock <;> simp), h.2.1.kept (grown_ofb hb none) (by cases x.qv.ownBlock <;> simp), h.2.2⟩
theorem OwnLF.lower {B B' : Nat} {w : World} {x : LF} (h : OwnLF B w x) (hB : B' ≤ B) : OwnLF B' w x := ⟨row_lower h.1 hB, row_lower h.2.1 hB, h.2.2⟩

set_option maxRecDepth 100000 in
set_option maxHeartbeats 4000000 in
theorem CopyFault_any (x : LF) (B : Nat) (w : World) (hx : LOk B w x) (hB : B ≤ w.heap.size) :
    Calls Tryz.prog 23 #[.agg x.cells] w (fun e w' => ∃ x' : LF, e = .returned (.agg x'.cells) ∧ x'.f = cleanF x.f ∧ OwnLF w.heap.size w' x' ∧ Below w.heap.size w w') := by
  obtain ⟨⟨k, pos, path⟩, pv, qv⟩ := x
  obtain ⟨⟨p, c, h1, h2, h3⟩, q, d, h4, h5, h6⟩ := hx
  dsimp only at *
  subst h1 h4
  unfold big at h3 h6
  have hp := h2.up hB
  have hq := h5.up hB
  have HP := Lib.hid hp
  have HQ := Lib.hid hq
  have HB := Lib.hid hB
  clear h2 h5 hp hq hB
  simp only [LF.cells]
  go_enter Tryz.func23, Tryz.ntmps23
  go_wp2
  obtain ⟨wa, hW⟩ : ∃ wa, ((w.alloc (.cells #[.int .i64 k, .slice p pos.length c, .slice q path.length d] 42)).alloc (.cells #[.int .i64 0, .slice none 0 0, .slice none 0 0] 42)).alloc (.cells #[.int .i64 k, .slice none 0 0, .slice none 0 0] 42) = wa := ⟨_, rfl⟩
  have hsz : wa.heap.size = w.heap.size + 1 + 1 + 1 := by rw [← hW]; simp
  have h0 : wa.heap[w.heap.size]? = some (.cells #[.int .i64 k, .slice p pos.length c, .slice q path.length d] 42 (0, 0)) := by
    rw [← hW, Below.heap_alloc _ _ _ (by simp; omega), Below.heap_alloc _ _ _ (by simp)]
    exact heap_new w _
  have h1 : wa.heap[w.heap.size + 1]? = some (.cells #[.int .i64 0, .slice none 0 0, .slice none 0 0] 42 (0, 0)) := by
    rw [← hW, Below.heap_alloc _ _ _ (by simp)]
    have := heap_new (w.alloc (.cells #[.int .i64 k, .slice p pos.length c, .slice q path.length d] 42)) (.cells #[.int .i64 0, .slice none 0 0, .slice none 0 0] 42)
    rwa [World.size_alloc] at this
  have h2 : wa.heap[w.heap.size + 1 + 1]? = some (.cells #[.int .i64 k, .slice none 0 0, .slice none 0 0] 42 (0, 0)) := by
    have := heap_new ((w.alloc (.cells #[.int .i64 k, .slice p pos.length c, .slice q path.length d] 42)).alloc (.cells #[.int .i64 0, .slice none 0 0, .slice none 0 0] 42)) (.cells #[.int .i64 k, .slice none 0 0, .slice none 0 0] 42)
    rw [World.size_alloc, World.size_alloc] at this
    rwa [← hW]
  have hbel : Below w.heap.size w wa := by rw [← hW]; exact (((Below.refl _ _).alloc (Nat.le_refl _) _).alloc (by simp) _).alloc (by simp; omega) _
  rw [hW]
  have H0 := Lib.hid h0
  have H1 := Lib.hid h1
  have H2 := Lib.hid h2
  have HSZ := Lib.hid hsz
  have HBE := Lib.hid hbel
  clear h0 h1 h2 hsz hbel hW
  go_loopw [4] (fun ii wr => ∃ j : Nat, j ≤ pos.length ∧ ii = .int .i64 j ∧ ∃ sv, Hid (wr.heap[w.heap.size + 1 + 1]? = some (.cells #[.int .i64 k, sv, .slice none 0 0] 42 (0, 0))) ∧ Hid (wr.ownsRow (w.heap.size + 1 + 1 + 1) 44 2 sv j (posC (pos.take j))) ∧ Hid (Below (w.heap.size + 1 + 1) wa wr)) (fun ii _ => pos.length - (intOf ii).toNat)
  case atStart => exact ⟨0, by omega, rfl, _, H2, Lib.hid (World.ownsRow_nil _ _ _ _), Lib.hid (Below.refl _ _)⟩
  case round =>
    obtain ⟨j, hj, rfl, sv, hL, hG, hbel2⟩ := hrel
    have gA : wr.cell? ⟨w.heap.size, 1, none⟩ = some (.slice p pos.length c) := by
      rw [hbel2.out.cell (p := ⟨w.heap.size, 1, none⟩) (by simp only []; omega)]
      simp [World.cell?, H0.out]
    obtain ⟨sp, sc, rfl⟩ := row_shape hG.out
    have hsL : w.heap.size + 1 + 1 < wr.heap.size := (Array.getElem?_eq_some_iff.1 hL.out).1
    have hsA : w.heap.size < wr.heap.size := by omega
    by_cases h1 : j < pos.length
    · obtain ⟨x, hx⟩ : ∃ x, pos[j]? = some x := ⟨pos[j], by simp [h1]⟩
      rcases HP.out with hp | ⟨b, o, rfl, hb, hc⟩
      · subst hp; simp at h1
      obtain ⟨a1, a2⟩ := hc j x hx
      have hbw : Below w.heap.size w wr := HBE.out.trans (hbel2.out.mono (by omega))
      have a1 := (hbw.cell (p := ⟨b, o + j * 2, none⟩) hb).trans a1
      have a2 := (hbw.cell (p := ⟨b, o + j * 2 + 1, none⟩) hb).trans a2
      have hbl : b < wr.heap.size := by omega
      have gG : wr.cell? ⟨w.heap.size + 1 + 1, 1, none⟩ = some (.slice sp j sc) := by simp [World.cell?, hL.out]
      have HX := Lib.hid hx
      obtain ⟨x1, x2⟩ := x
      dsimp only at a1 a2
      clear hc hx hbw
      go_wp2
      refine wp_region_plan_below 8 [(0, [0, 1, 2, 3, 4, 5, 6]), (1, [7]), (2, [8, 9, 10])] (by kernel_rfl) (by kernel_rfl) (fun _ _ _ _ h => h) ?_
      simp only [wpSegs, pickOps, List.getElem?_toArray, List.getElem?_cons_zero, List.getElem?_cons_succ]
      have kc := cell_cls wr
      iterate 7 (go_big_quiet_step (fail))
      refine wpQuiet_nil ?_
      clear kc
      refine wpListC_plain rfl (fun K hK => ?_)
      go_step
      obtain ⟨W3, hW⟩ : ∃ W3, (wr.alloc (.cells #[.int .i64 x1, .int .i64 x2] 44)).drew = W3 := ⟨_, rfl⟩
      have hbr3 : Below wr.heap.size wr W3 := by rw [← hW]; exact Below.drew ((Below.refl wr.heap.size wr).alloc (Nat.le_refl _) _)
      have hnew : CellsAt W3 wr.heap.size 0 #[.int .i64 x1, .int .i64 x2] := by rw [← hW]; exact cellsAt_alloc wr _ _ (0, 0)
      rw [hW]
      clear hW
      refine hK _ _ (cls_of_below hbr3) ?_
      clear hK K
      refine wpListC_nil ?_
      refine wpList_plain rfl (fun K hK => ?_)
      have HG3 := hG.out.kept (grown_ofb hbr3 none) (by cases (Value.slice sp j sc).ownBlock <;> simp)
      refine wp_append_x (P := Tryz.prog) W3 (.tmp 17) (.tmp 23) 40 rfl (w.heap.size + 1 + 1 + 1) 44 (.agg #[.int .i64 0, .int .i64 0]) 2 16 Tryz.underlying40 (by kernel_rfl) rfl (by decide) (.slice sp j sc) j _ rfl HG3 ⟨wr.heap.size, 0, none⟩ 1 1 [.int .i64 x1, .int .i64 x2] rfl (by decide) rfl ?c1 ?c2 ?c3 ?c4 ?c5 ?_
      case c1 =>
        intro m u hu
        have := hnew m u (by simpa using hu)
        rw [addr_add]
        exact this
      case c2 => intro u hu; simp at hu; rcases hu with rfl | rfl <;> rfl
      case c3 => unfold maxLen; omega
      case c4 => omega
      case c5 => have := hbr3.size; omega
      intro v' w' hrow hgr hv'
      refine hK _ _ ?_
      clear hK K
      have hLw' : w'.heap[w.heap.size + 1 + 1]? = some (.cells #[.int .i64 k, .slice sp j sc, .slice none 0 0] 42 (0, 0)) := by
        rw [hgr.block _ (by have := hbr3.size; omega) (fun e => by have := (HG3.lt _ e.symm).1; omega), hbr3.block _ hsL]
        exact hL.out
      have hfin := heap_setCell_same (j := 1) hLw' v'
      have hrow' := hrow.kept (grown_sc w' ⟨w.heap.size + 1 + 1, 1, none⟩ v') (.inr fun e => by have := (hrow.lt (w.heap.size + 1 + 1) e).1; omega)
      have hbw' : Below (w.heap.size + 1 + 1) wa (w'.setCell ⟨w.heap.size + 1 + 1, 1, none⟩ v') :=
        ((hbel2.out.trans (hbr3.mono (by omega))).grown hgr (by have := hbr3.size; omega) (fun y hy => by have := (HG3.lt y hy).1; omega)).setCell (Nat.le_refl _) _
      have hc6 : w'.cell? ⟨w.heap.size + 1 + 1, 1, none⟩ = some (.slice sp j sc) := by simp [World.cell?, hLw']
      have hf6 : w'.frozen? ⟨w.heap.size + 1 + 1, 1, none⟩ = false := by simp [World.frozen?, hLw']
      obtain ⟨g', cap', rfl⟩ : ∃ g' cap', v' = .slice (some ⟨g', 0, none⟩) (j + 1) cap' := by
        rcases hrow.2 with ⟨_, h⟩ | ⟨g', cap', cur, h, _⟩
        · omega
        · exact ⟨g', cap', h⟩
      have HFIN := Lib.hid hfin
      have HGF := Lib.hid hrow'
      have HBW := Lib.hid hbw'
      clear hfin hrow' hbw' hLw' hrow hgr hv' HG3 hbr3 hnew
      go_wp2
      go_roundw
      case rel =>
        refine ⟨j + 1, by omega, by go_num, .slice (some ⟨g', 0, none⟩) (j + 1) cap', HFIN, Lib.hid ?_, HBW⟩
        rw [List.take_add_one, HX.out]
        have h := HGF.out
        simpa [posC] using h
      case measure => simp [intOf]; omega
    · obtain rfl : j = pos.length := by omega
      rw [List.take_of_length_le (Nat.le_refl _)] at hG
      have HPV := Lib.hid hG.out
      have HQ2 := Lib.hid hbel2.out
      go_wp2
      clear gA hsA hsL h1 hj
      have HL1 := hL
      clear hL hG hbel2
      go_loopw [5] (fun ii wr2 => ∃ j : Nat, j ≤ path.length ∧ ii = .int .i64 j ∧ ∃ sv, Hid (wr2.heap[w.heap.size + 1 + 1]? = some (.cells #[.int .i64 k, .slice sp pos.length sc, sv] 42 (0, 0))) ∧ Hid (wr2.ownsRow (w.heap.size + 1 + 1 + 1) 69 3 sv j (stC ((path.take j).map bareS))) ∧ Hid (Below (w.heap.size + 1 + 1) wa wr2) ∧ Hid (wr2.ownsRow (w.heap.size + 1 + 1 + 1) 44 2 (.slice sp pos.length sc) pos.length (posC pos))) (fun ii _ => path.length - (intOf ii).toNat)
      case atStart => exact ⟨0, by omega, rfl, _, HL1, Lib.hid (World.ownsRow_nil _ _ _ _), HQ2, HPV⟩
      case round =>
        clear HL1 HPV HQ2
        obtain ⟨j, hj, rfl, sv, hL, hG, hbel2, hPR⟩ := hrel
        have gA : wr.cell? ⟨w.heap.size, 2, none⟩ = some (.slice q path.length d) := by
          rw [hbel2.out.cell (p := ⟨w.heap.size, 2, none⟩) (by simp only []; omega)]
          simp [World.cell?, H0.out]
        obtain ⟨ssp, ssc, rfl⟩ := row_shape hG.out
        have hsL : w.heap.size + 1 + 1 < wr.heap.size := (Array.getElem?_eq_some_iff.1 hL.out).1
        have hsA : w.heap.size < wr.heap.size := by omega
        by_cases h1 : j < path.length
        · obtain ⟨x, hx⟩ : ∃ x, path[j]? = some x := ⟨path[j], by simp [h1]⟩
          rcases HQ.out with hp | ⟨b, o, rfl, hb, hc⟩
          · subst hp; simp at h1
          obtain ⟨a1, a2, a3⟩ := hc j x hx
          have hbw : Below w.heap.size w wr := HBE.out.trans (hbel2.out.mono (by omega))
          have a1 := (hbw.cell (p := ⟨b, o + j * 3, none⟩) hb).trans a1
          have a2 := (hbw.cell (p := ⟨b, o + j * 3 + 1, none⟩) hb).trans a2
          have a3 := (hbw.cell (p := ⟨b, o + j * 3 + 2, none⟩) hb).trans a3
          have hbl : b < wr.heap.size := by omega
          have gG : wr.cell? ⟨w.heap.size + 1 + 1, 2, none⟩ = some (.slice ssp j ssc) := by simp [World.cell?, hL.out]
          have HX := Lib.hid hx
          obtain ⟨xn, xi, xt⟩ := x
          dsimp only at a1 a2 a3
          clear hc hx hbw
          cases xt
          · go_wp2
            have kc := cell_cls wr
            refine wp_region_plan_below 10 [(0, [0, 1, 2, 3, 4, 5, 6, 7, 8]), (1, [9]), (2, [10, 11, 12])] (by kernel_rfl) (by kernel_rfl) (fun _ _ _ _ h => h) ?_
            simp only [wpSegs, pickOps, List.getElem?_toArray, List.getElem?_cons_zero, List.getElem?_cons_succ]
            iterate 9 (go_big_quiet_step (fail))
            refine wpQuiet_nil ?_
            clear kc
            refine wpListC_plain rfl (fun K hK => ?_)
            go_step
            obtain ⟨W3, hW⟩ : ∃ W3, (wr.alloc (.cells #[.string xn, .int .i64 0, .bool false] 69)).drew = W3 := ⟨_, rfl⟩
            have hbr3 : Below wr.heap.size wr W3 := by rw [← hW]; exact Below.drew ((Below.refl wr.heap.size wr).alloc (Nat.le_refl _) _)
            have hnew : CellsAt W3 wr.heap.size 0 #[.string xn, .int .i64 0, .bool false] := by rw [← hW]; exact cellsAt_alloc wr _ _ (0, 0)
            rw [hW]
            clear hW
            refine hK _ _ (cls_of_below hbr3) ?_
            clear hK K
            refine wpListC_nil ?_
            refine wpList_plain rfl (fun K hK => ?_)
            have HG3 := hG.out.kept (grown_ofb hbr3 none) (by cases (Value.slice ssp j ssc).ownBlock <;> simp)
            refine wp_append_x (P := Tryz.prog) W3 (.tmp 52) (.tmp 60) 30 rfl (w.heap.size + 1 + 1 + 1) 69 (.agg #[.string ⟨#[]⟩, .int .i64 0, .bool false]) 3 32 Tryz.underlying30 (by kernel_rfl) rfl (by decide) (.slice ssp j ssc) j _ rfl HG3 ⟨wr.heap.size, 0, none⟩ 1 1 [.string xn, .int .i64 0, .bool false] rfl (by decide) rfl ?c1 ?c2 ?c3 ?c4 ?c5 ?_
            case c1 =>
              intro m u hu
              have := hnew m u (by simpa using hu)
              rw [addr_add]
              exact this
            case c2 => intro u hu; simp at hu; rcases hu with rfl | rfl | rfl <;> rfl
            case c3 => unfold maxLen; omega
            case c4 => omega
            case c5 => have := hbr3.size; omega
            intro v' w' hrow hgr hv'
            refine hK _ _ ?_
            clear hK K
            have hLw' : w'.heap[w.heap.size + 1 + 1]? = some (.cells #[.int .i64 k, .slice sp pos.length sc, .slice ssp j ssc] 42 (0, 0)) := by
              rw [hgr.block _ (by have := hbr3.size; omega) (fun e => by have := (HG3.lt _ e.symm).1; omega), hbr3.block _ hsL]
              exact hL.out
            have hfin := heap_setCell_same (j := 2) hLw' v'
            have hrow' := hrow.kept (grown_sc w' ⟨w.heap.size + 1 + 1, 2, none⟩ v') (.inr fun e => by have := (hrow.lt (w.heap.size + 1 + 1) e).1; omega)
            have hbw' : Below (w.heap.size + 1 + 1) wa (w'.setCell ⟨w.heap.size + 1 + 1, 2, none⟩ v') :=
              ((hbel2.out.trans (hbr3.mono (by omega))).grown hgr (by have := hbr3.size; omega) (fun y hy => by have := (HG3.lt y hy).1; omega)).setCell (Nat.le_refl _) _
            have hc6 : w'.cell? ⟨w.heap.size + 1 + 1, 2, none⟩ = some (.slice ssp j ssc) := by simp [World.cell?, hLw']
            have hf6 : w'.frozen? ⟨w.heap.size + 1 + 1, 2, none⟩ = false := by simp [World.frozen?, hLw']
            obtain ⟨g', cap', rfl⟩ : ∃ g' cap', v' = .slice (some ⟨g', 0, none⟩) (j + 1) cap' := by
              rcases hrow.2 with ⟨_, h⟩ | ⟨g', cap', cur, h, _⟩
              · omega
              · exact ⟨g', cap', h⟩
            have HFIN := Lib.hid hfin
            have HGF := Lib.hid hrow'
            have HBW := Lib.hid hbw'
            have hPR' : (w'.setCell ⟨w.heap.size + 1 + 1, 2, none⟩ (.slice (some ⟨g', 0, none⟩) (j + 1) cap')).ownsRow (w.heap.size + 1 + 1 + 1) 44 2 (.slice sp pos.length sc) pos.length (posC pos) := ((hPR.out.kept (grown_ofb hbr3 none) (by cases (Value.slice sp pos.length sc).ownBlock <;> simp)).kept hgr (row_apart (hPR.out.kept (grown_ofb hbr3 none) (by cases (Value.slice sp pos.length sc).ownBlock <;> simp)) HG3 (by decide))).kept (grown_sc w' ⟨w.heap.size + 1 + 1, 2, none⟩ _) (.inr fun e => by have := (hPR.out.lt (w.heap.size + 1 + 1) e).1; omega)
            have HPR := Lib.hid hPR'
            clear hPR' hfin hrow' hbw' hLw' hrow hgr hv' HG3 hbr3 hnew
            go_wp2
            go_roundw
            case rel =>
              refine ⟨j + 1, by omega, by go_num, .slice (some ⟨g', 0, none⟩) (j + 1) cap', HFIN, Lib.hid ?_, HBW, HPR⟩
              rw [List.take_add_one, HX.out]
              have h := HGF.out
              rw [List.map_append, stC_app]
              exact h
            case measure => simp [intOf]; omega
          · go_wp2
            have kc := cell_cls wr
            refine wp_region_plan_below 10 [(0, [0, 1, 2, 3, 4, 5, 6, 7, 8]), (1, [9]), (2, [10, 11, 12])] (by kernel_rfl) (by kernel_rfl) (fun _ _ _ _ h => h) ?_
            simp only [wpSegs, pickOps, List.getElem?_toArray, List.getElem?_cons_zero, List.getElem?_cons_succ]
            iterate 9 (go_big_quiet_step (fail))
            refine wpQuiet_nil ?_
            clear kc
            refine wpListC_plain rfl (fun K hK => ?_)
            go_step
            obtain ⟨W3, hW⟩ : ∃ W3, (wr.alloc (.cells #[.string ⟨#[]⟩, .int .i64 xi, .bool true] 69)).drew = W3 := ⟨_, rfl⟩
            have hbr3 : Below wr.heap.size wr W3 := by rw [← hW]; exact Below.drew ((Below.refl wr.heap.size wr).alloc (Nat.le_refl _) _)
            have hnew : CellsAt W3 wr.heap.size 0 #[.string ⟨#[]⟩, .int .i64 xi, .bool true] := by rw [← hW]; exact cellsAt_alloc wr _ _ (0, 0)
            rw [hW]
            clear hW
            refine hK _ _ (cls_of_below hbr3) ?_
            clear hK K
            refine wpListC_nil ?_
            refine wpList_plain rfl (fun K hK => ?_)
            have HG3 := hG.out.kept (grown_ofb hbr3 none) (by cases (Value.slice ssp j ssc).ownBlock <;> simp)
            refine wp_append_x (P := Tryz.prog) W3 (.tmp 40) (.tmp 48) 30 rfl (w.heap.size + 1 + 1 + 1) 69 (.agg #[.string ⟨#[]⟩, .int .i64 0, .bool false]) 3 32 Tryz.underlying30 (by kernel_rfl) rfl (by decide) (.slice ssp j ssc) j _ rfl HG3 ⟨wr.heap.size, 0, none⟩ 1 1 [.string ⟨#[]⟩, .int .i64 xi, .bool true] rfl (by decide) rfl ?c1 ?c2 ?c3 ?c4 ?c5 ?_
            case c1 =>
              intro m u hu
              have := hnew m u (by simpa using hu)
              rw [addr_add]
              exact this
            case c2 => intro u hu; simp at hu; rcases hu with rfl | rfl | rfl <;> rfl
            case c3 => unfold maxLen; omega
            case c4 => omega
            case c5 => have := hbr3.size; omega
            intro v' w' hrow hgr hv'
            refine hK _ _ ?_
            clear hK K
            have hLw' : w'.heap[w.heap.size + 1 + 1]? = some (.cells #[.int .i64 k, .slice sp pos.length sc, .slice ssp j ssc] 42 (0, 0)) := by
              rw [hgr.block _ (by have := hbr3.size; omega) (fun e => by have := (HG3.lt _ e.symm).1; omega), hbr3.block _ hsL]
              exact hL.out
            have hfin := heap_setCell_same (j := 2) hLw' v'
            have hrow' := hrow.kept (grown_sc w' ⟨w.heap.size + 1 + 1, 2, none⟩ v') (.inr fun e => by have := (hrow.lt (w.heap.size + 1 + 1) e).1; omega)
            have hbw' : Below (w.heap.size + 1 + 1) wa (w'.setCell ⟨w.heap.size + 1 + 1, 2, none⟩ v') :=
              ((hbel2.out.trans (hbr3.mono (by omega))).grown hgr (by have := hbr3.size; omega) (fun y hy => by have := (HG3.lt y hy).1; omega)).setCell (Nat.le_refl _) _
            have hc6 : w'.cell? ⟨w.heap.size + 1 + 1, 2, none⟩ = some (.slice ssp j ssc) := by simp [World.cell?, hLw']
            have hf6 : w'.frozen? ⟨w.heap.size + 1 + 1, 2, none⟩ = false := by simp [World.frozen?, hLw']
            obtain ⟨g', cap', rfl⟩ : ∃ g' cap', v' = .slice (some ⟨g', 0, none⟩) (j + 1) cap' := by
              rcases hrow.2 with ⟨_, h⟩ | ⟨g', cap', cur, h, _⟩
              · omega
              · exact ⟨g', cap', h⟩
            have HFIN := Lib.hid hfin
            have HGF := Lib.hid hrow'
            have HBW := Lib.hid hbw'
            have hPR' : (w'.setCell ⟨w.heap.size + 1 + 1, 2, none⟩ (.slice (some ⟨g', 0, none⟩) (j + 1) cap')).ownsRow (w.heap.size + 1 + 1 + 1) 44 2 (.slice sp pos.length sc) pos.length (posC pos) := ((hPR.out.kept (grown_ofb hbr3 none) (by cases (Value.slice sp pos.length sc).ownBlock <;> simp)).kept hgr (row_apart (hPR.out.kept (grown_ofb hbr3 none) (by cases (Value.slice sp pos.length sc).ownBlock <;> simp)) HG3 (by decide))).kept (grown_sc w' ⟨w.heap.size + 1 + 1, 2, none⟩ _) (.inr fun e => by have := (hPR.out.lt (w.heap.size + 1 + 1) e).1; omega)
            have HPR := Lib.hid hPR'
            clear hPR' hfin hrow' hbw' hLw' hrow hgr hv' HG3 hbr3 hnew
            go_wp2
            go_roundw
            case rel =>
              refine ⟨j + 1, by omega, by go_num, .slice (some ⟨g', 0, none⟩) (j + 1) cap', HFIN, Lib.hid ?_, HBW, HPR⟩
              rw [List.take_add_one, HX.out]
              have h := HGF.out
              rw [List.map_append, stC_app]
              exact h
            case measure => simp [intOf]; omega
        · obtain rfl : j = path.length := by omega
          rw [List.take_of_length_le (Nat.le_refl _)] at hG
          have g0 : wr.cell? ⟨w.heap.size + 1 + 1, 0, none⟩ = some (.int .i64 k) := by simp [World.cell?, hL.out]
          have g1 : wr.cell? ⟨w.heap.size + 1 + 1, 1, none⟩ = some (.slice sp pos.length sc) := by simp [World.cell?, hL.out]
          have g2 : wr.cell? ⟨w.heap.size + 1 + 1, 2, none⟩ = some (.slice ssp path.length ssc) := by simp [World.cell?, hL.out]
          have hr1 : wr.heap[w.heap.size + 1]? = some (.cells #[.int .i64 0, .slice none 0 0, .slice none 0 0] 42 (0, 0)) := (hbel2.out.block _ (by omega)).trans H1.out
          have HR1 := Lib.hid hr1
          clear hr1
          go_upto_region 12 with (fail)
          go_step
          refine wpList_plain rfl (fun K hK => ?_)
          go_step
          refine hK _ _ ?_
          clear hK K
          refine wpList_plain rfl (fun K hK => ?_)
          refine wp_store_row (P := Tryz.prog) 42 (.tmp 2) (.tmp 63) rfl (w.heap.size + 1) #[.int .i64 k, .slice sp pos.length sc, .slice ssp path.length ssc] rfl rfl 42 _ HR1.out (by kernel_rfl) rfl (by simp [Value.oneCell']) ?_
          refine hK _ _ ?_
          clear hK K
          have hnew : (wr.setRow (w.heap.size + 1) #[.int .i64 k, .slice sp pos.length sc, .slice ssp path.length ssc]).heap[w.heap.size + 1]? = some (.cells #[.int .i64 k, .slice sp pos.length sc, .slice ssp path.length ssc] 42 (0, 0)) := setRow_heap _ _ _ _ _ _ HR1.out
          have hwfin : Below w.heap.size w (wr.setRow (w.heap.size + 1) #[.int .i64 k, .slice sp pos.length sc, .slice ssp path.length ssc]) := below_setRow (HBE.out.trans (hbel2.out.mono (by omega))) (by omega) _
          have hg := grown_sr wr (w.heap.size + 1) #[.int .i64 k, .slice sp pos.length sc, .slice ssp path.length ssc]
          have hr1 := hPR.out.kept hg (.inr fun e => by have := (hPR.out.lt (w.heap.size + 1) e).1; omega)
          have hr2 := hG.out.kept hg (.inr fun e => by have := (hG.out.lt (w.heap.size + 1) e).1; omega)
          have hsz := setRow_size wr (w.heap.size + 1) #[.int .i64 k, .slice sp pos.length sc, .slice ssp path.length ssc]
          generalize wr.setRow (w.heap.size + 1) #[.int .i64 k, .slice sp pos.length sc, .slice ssp path.length ssc] = wz at *
          have r0 : wz.cell? ⟨w.heap.size + 1, 0, none⟩ = some (.int .i64 k) := by simp [World.cell?, hnew]
          have r1 : wz.cell? ⟨w.heap.size + 1, 1, none⟩ = some (.slice sp pos.length sc) := by simp [World.cell?, hnew]
          have r2 : wz.cell? ⟨w.heap.size + 1, 2, none⟩ = some (.slice ssp path.length ssc) := by simp [World.cell?, hnew]
          have hpost : ∃ x' : LF, Ending.returned (.agg #[.int .i64 k, .slice sp pos.length sc, .slice ssp path.length ssc]) = .returned (.agg x'.cells) ∧ x'.f = cleanF ⟨k, pos, path⟩ ∧ OwnLF w.heap.size wz x' ∧ Below w.heap.size w wz :=
            ⟨⟨⟨k, pos, path.map bareS⟩, _, _⟩, rfl, rfl, ⟨row_lower hr1 (by omega), row_lower (by rw [List.length_map]; exact hr2) (by omega), by unfold big; omega, by unfold big; simpa using h6⟩, hwfin⟩
          have HPO := Lib.hid hpost
          clear hpost hwfin hr1 hr2 hnew hg
          go_wp2
          exact bodyPost_ret (v := .agg #[.int .i64 k, .slice sp pos.length sc, .slice ssp path.length ssc]) (by simp [results, Tryz.results23, go_sem, r0, r1, r2]) rfl HPO.out
end Go.Proofs.YtnmnmkdmnohbmaaGreatDoor

namespace Go.Proofs.YtnmnmkdmnohbmaaGreatDoor
open Go.RowKit

/-- Two rising lists merged; what is alike once. -/
def mrg {α : Type} (c : α → α → Int) : List α → List α → List α
  | [], b => b
  | x :: a, [] => x :: a
  | x :: a, y :: b => if c x y < 0 then x :: mrg c a (y :: b) else if c x y = 0 then x :: mrg c a b else y :: mrg c (x :: a) b
termination_by a b => a.length + b.length

def ordL {α : Type} (c : α → α → Int) : Nat → List α → List α
  | 0, l => l
  | n + 1, l => if l.length < 2 then l else mrg c (ordL c n (l.take (l.length / 2))) (ordL c n (l.drop (l.length / 2)))

theorem mrg_nil {α : Type} (c : α → α → Int) (a : List α) : mrg c a [] = a := by cases a <;> simp [mrg]

theorem mrg_len {α : Type} (c : α → α → Int) : ∀ a b : List α, (mrg c a b).length ≤ a.length + b.length
  | [], b => by simp [mrg]
  | x :: a, [] => by simp [mrg]
  | x :: a, y :: b => by
    rw [mrg]
    split
    · have := mrg_len c a (y :: b); simp only [List.length_cons] at this ⊢; omega
    · split
      · have := mrg_len c a b; simp only [List.length_cons] at this ⊢; omega
      · have := mrg_len c (x :: a) b; simp only [List.length_cons] at this ⊢; omega
termination_by a b => a.length + b.length

theorem mrg_mem {α : Type} (c : α → α → Int) : ∀ (a b : List α) (z : α), z ∈ mrg c a b → z ∈ a ∨ z ∈ b
  | [], b, z, h => by rw [mrg] at h; exact .inr h
  | x :: a, [], z, h => by rw [mrg] at h; exact .inl h
  | x :: a, y :: b, z, h => by
    rw [mrg] at h
    split at h
    · rcases List.mem_cons.1 h with rfl | h
      · simp
      · have := mrg_mem c a (y :: b) z h; simp only [List.mem_cons] at this ⊢; rcases this with h | h | h <;> simp [h]
    · split at h
      · rcases List.mem_cons.1 h with rfl | h
        · simp
        · have := mrg_mem c a b z h; simp only [List.mem_cons] at this ⊢; rcases this with h | h <;> simp [h]
      · rcases List.mem_cons.1 h with rfl | h
        · simp
        · have := mrg_mem c (x :: a) b z h; simp only [List.mem_cons] at this ⊢; rcases this with (h | h) | h <;> simp [h]
termination_by a b => a.length + b.length

theorem ordL_len {α : Type} (c : α → α → Int) : ∀ (n : Nat) (l : List α), (ordL c n l).length ≤ l.length
  | 0, l => by rw [ordL]; omega
  | n + 1, l => by
    rw [ordL]
    split
    · omega
    · have h1 := ordL_len c n (l.take (l.length / 2))
      have h2 := ordL_len c n (l.drop (l.length / 2))
      have h3 := mrg_len c (ordL c n (l.take (l.length / 2))) (ordL c n (l.drop (l.length / 2)))
      simp only [List.length_take, List.length_drop] at h1 h2
      omega

theorem ordL_mem {α : Type} (c : α → α → Int) : ∀ (n : Nat) (l : List α) (z : α), z ∈ ordL c n l → z ∈ l
  | 0, l, z, h => by rwa [ordL] at h
  | n + 1, l, z, h => by
    rw [ordL] at h
    split at h
    · exact h
    · rcases mrg_mem c _ _ z h with h | h
      · exact List.mem_of_mem_take (ordL_mem c n _ z h)
      · exact List.mem_of_mem_drop (ordL_mem c n _ z h)

def fC (l : List LF) : List Value := l.flatMap (fun x => [.int .i64 x.f.k, x.pv, x.qv])
theorem fC_app (l s : List LF) : fC (l ++ s) = fC l ++ fC s := by simp [fC]
theorem fC_at : ∀ (l : List LF) (j : Nat) (s : LF), l[j]? = some s → (fC l)[j * 3]? = some (.int .i64 s.f.k) ∧ (fC l)[j * 3 + 1]? = some s.pv ∧ (fC l)[j * 3 + 2]? = some s.qv
  | [], _, _, h => by simp at h
  | a :: t, 0, r, h => by
    obtain rfl : a = r := by simpa using h
    exact ⟨rfl, rfl, rfl⟩
  | a :: t, j + 1, r, h => by
    have := fC_at t j r (by simpa using h)
    rw [show (j + 1) * 3 = j * 3 + 3 by omega]
    exact this

theorem fsAt_row {w : World} {B : Nat} {v : Value} {l : List LF} (h : w.ownsRow B 42 3 v l.length (fC l)) (hl : ∀ x ∈ l, LOk w.heap.size w x) : ∃ p c, v = .slice p l.length c ∧ FsAt w.heap.size w p l := by
  by_cases h0 : 0 < l.length
  · obtain ⟨g, cap, rfl, hb, hg, hc⟩ := rowAt1 h h0
    refine ⟨_, _, rfl, .inr ⟨g, 0, rfl, hg, fun i s hs => ?_⟩, hl⟩
    obtain ⟨h1, h2, h3⟩ := fC_at l i s hs
    rw [Nat.zero_add]
    exact ⟨hc _ _ h1, hc _ _ h2, hc _ _ h3⟩
  · obtain ⟨p, c, rfl⟩ := row_shape h
    exact ⟨p, c, rfl, .inl (List.length_eq_zero_iff.1 (by omega)), hl⟩

theorem FsAt.take {B : Nat} {w : World} {p : Option Addr} {l : List LF} (h : FsAt B w p l) (n : Nat) : FsAt B w p (l.take n) := by
  refine ⟨?_, fun x hx => h.2 x (List.mem_of_mem_take hx)⟩
  rcases h.1 with h | ⟨b, o, rfl, hB, hc⟩
  · exact .inl (by rw [h]; simp)
  · refine .inr ⟨b, o, rfl, hB, fun i x hx => hc i x ?_⟩
    rw [List.getElem?_take] at hx
    split at hx
    · exact hx
    · cases hx
theorem FsAt.drop {B : Nat} {w : World} {b o : Nat} {l : List LF} (h : FsAt B w (some ⟨b, o, none⟩) l) (n : Nat) : FsAt B w (some ⟨b, o + n * 3, none⟩) (l.drop n) := by
  refine ⟨?_, fun x hx => h.2 x (List.mem_of_mem_drop hx)⟩
  rcases h.1 with h | ⟨b', o', e, hB, hc⟩
  · exact .inl (by rw [h]; simp)
  · cases e
    refine .inr ⟨_, _, rfl, hB, fun i x hx => ?_⟩
    rw [List.getElem?_drop] at hx
    have := hc (n + i) x hx
    rw [show o + n * 3 + i * 3 = o + (n + i) * 3 by omega]
    exact this

abbrev cF (x y : LF) : Int := cmpF x.f y.f

theorem LOk.one {B : Nat} {w : World} {x : LF} (h : LOk B w x) : x.pv.oneCell' = true ∧ x.qv.oneCell' = true := by
  obtain ⟨⟨p, c, h1, _⟩, q, d, h2, _⟩ := h
  rw [h1, h2]
  exact ⟨rfl, rfl⟩

/-- What a slice of faults gives at a place. -/
theorem FsAt.get {B : Nat} {w : World} {p : Option Addr} {l : List LF} (h : FsAt B w p l) {i : Nat} {x : LF} (hx : l[i]? = some x) :
    ∃ b o, p = some ⟨b, o, none⟩ ∧ b < B ∧ w.cell? ⟨b, o + i * 3, none⟩ = some (.int .i64 x.f.k) ∧ w.cell? ⟨b, o + i * 3 + 1, none⟩ = some x.pv ∧ w.cell? ⟨b, o + i * 3 + 2, none⟩ = some x.qv ∧ LOk B w x := by
  rcases h.1 with h0 | ⟨b, o, e, hB, hc⟩
  · subst h0; simp at hx
  · obtain ⟨h1, h2, h3⟩ := hc i x hx
    exact ⟨b, o, e, hB, h1, h2, h3, h.2 x (List.mem_of_getElem? hx)⟩

theorem mrg_lt {α : Type} {c : α → α → Int} {a b : List α} {i j : Nat} {x y : α} (hx : a[i]? = some x) (hy : b[j]? = some y) (h : c x y < 0) : mrg c (a.drop i) (b.drop j) = x :: mrg c (a.drop (i + 1)) (b.drop j) := by
  rw [drop_some hx, drop_some hy, mrg, if_pos h]
theorem mrg_eq {α : Type} {c : α → α → Int} {a b : List α} {i j : Nat} {x y : α} (hx : a[i]? = some x) (hy : b[j]? = some y) (h : c x y = 0) : mrg c (a.drop i) (b.drop j) = x :: mrg c (a.drop (i + 1)) (b.drop (j + 1)) := by
  rw [drop_some hx, drop_some hy, mrg, if_neg (by omega), if_pos h]
theorem mrg_gt {α : Type} {c : α → α → Int} {a b : List α} {i j : Nat} {x y : α} (hx : a[i]? = some x) (hy : b[j]? = some y) (h : 0 < c x y) : mrg c (a.drop i) (b.drop j) = y :: mrg c (a.drop i) (b.drop (j + 1)) := by
  rw [drop_some hx, drop_some hy, mrg, if_neg (by omega), if_neg (by omega)]
theorem mrg_left {α : Type} {c : α → α → Int} {a b : List α} {i j : Nat} {x : α} (hx : a[i]? = some x) (hj : b.length ≤ j) : mrg c (a.drop i) (b.drop j) = x :: mrg c (a.drop (i + 1)) (b.drop j) := by
  rw [List.drop_eq_nil_iff.2 hj, mrg_nil, mrg_nil, drop_some hx]
theorem mrg_right {α : Type} {c : α → α → Int} {a b : List α} {i j : Nat} {y : α} (hi : a.length ≤ i) (hy : b[j]? = some y) : mrg c (a.drop i) (b.drop j) = y :: mrg c (a.drop i) (b.drop (j + 1)) := by
  rw [List.drop_eq_nil_iff.2 hi, mrg, mrg, drop_some hy]

set_option maxRecDepth 100000 in
set_option maxHeartbeats 8000000 in
theorem ordered_at : ∀ (N : Nat) (l : List LF), l.length ≤ N → l.length ≤ big → ∀ (p : Option Addr) (c : Nat) (w : World), l.length ≤ c → FsAt w.heap.size w p l →
    Calls Tryz.prog 31 #[.slice p l.length c] w (fun e w' => ∃ p' c', e = .returned (.slice p' (ordL cF N l).length c') ∧ FsAt w'.heap.size w' p' (ordL cF N l) ∧ Below w.heap.size w w' ∧ (p' = p ∨ ∀ ad, p' = some ad → w.heap.size ≤ ad.block)) := by
  intro N
  induction N with
  | zero =>
    intro l hN _ p c w hc hF
    obtain rfl : l = [] := List.length_eq_zero_iff.1 (by omega)
    have HF := Lib.hid hF
    clear hF
    go_enter Tryz.func31, Tryz.ntmps31
    go_wp2
    go_ret
    exact ⟨p, c, rfl, HF.out, Below.refl _ _, .inl rfl⟩
  | succ N ih =>
    intro l hN hbig p c w hc hF
    unfold big at hbig
    by_cases h2 : l.length < 2
    · have e : ordL cF (N + 1) l = l := by rw [ordL, if_pos h2]
      rw [e]
      have HF := Lib.hid hF
      clear hF ih e
      have hd : decide ((l.length : Int) < 2) = true := decide_eq_true (by omega)
      go_enter Tryz.func31, Tryz.ntmps31
      go_wp2
      go_ret
      exact ⟨p, c, rfl, HF.out, Below.refl _ _, .inl rfl⟩
    · have e : ordL cF (N + 1) l = mrg cF (ordL cF N (l.take (l.length / 2))) (ordL cF N (l.drop (l.length / 2))) := by rw [ordL, if_neg h2]
      rw [e]
      clear e
      obtain ⟨b, o, rfl⟩ : ∃ b o, p = some ⟨b, o, none⟩ := by
        rcases hF.1 with h | ⟨b, o, rfl, _⟩
        · rw [h] at h2; simp at h2
        · exact ⟨b, o, rfl⟩
      have C1 : Hid (∀ W, Below w.heap.size w W → Calls Tryz.prog 31 #[.slice (some ⟨b, o, none⟩) (l.length / 2) c] W (fun e w' => ∃ p' c', e = .returned (.slice p' (ordL cF N (l.take (l.length / 2))).length c') ∧ FsAt w'.heap.size w' p' (ordL cF N (l.take (l.length / 2))) ∧ Below W.heap.size W w')) := Lib.hid (fun W h => by
        have := ih (l.take (l.length / 2)) (by rw [List.length_take]; omega) (by rw [List.length_take]; unfold big; omega) (some ⟨b, o, none⟩) c W (by rw [List.length_take]; omega) (((hF.below h).up h.size).take _)
        rw [show (l.take (l.length / 2)).length = l.length / 2 by rw [List.length_take]; omega] at this
        exact this.mono fun e w' ⟨p', c', a1, a2, a3, _⟩ => ⟨p', c', a1, a2, a3⟩)
      have C2 : Hid (∀ W, Below w.heap.size w W → Calls Tryz.prog 31 #[.slice (some ⟨b, o + l.length / 2 * 3, none⟩) (l.length - l.length / 2) (c - l.length / 2)] W (fun e w' => ∃ p' c', e = .returned (.slice p' (ordL cF N (l.drop (l.length / 2))).length c') ∧ FsAt w'.heap.size w' p' (ordL cF N (l.drop (l.length / 2))) ∧ Below W.heap.size W w')) := Lib.hid (fun W h => by
        have := ih (l.drop (l.length / 2)) (by rw [List.length_drop]; omega) (by rw [List.length_drop]; unfold big; omega) (some ⟨b, o + l.length / 2 * 3, none⟩) (c - l.length / 2) W (by rw [List.length_drop]; omega) (((hF.below h).up h.size).drop _)
        rw [List.length_drop] at this
        exact this.mono fun e w' ⟨p', c', a1, a2, a3, _⟩ => ⟨p', c', a1, a2, a3⟩)
      have la := ordL_len cF N (l.take (l.length / 2))
      have lb := ordL_len cF N (l.drop (l.length / 2))
      rw [List.length_take] at la
      rw [List.length_drop] at lb
      clear hF ih
      generalize ordL cF N (l.take (l.length / 2)) = A at *
      generalize ordL cF N (l.drop (l.length / 2)) = Bl at *
      generalize hh : l.length / 2 = h at *
      generalize hn : l.length = n at *
      have HH := Lib.hid hh
      have HN := Lib.hid hn
      clear hh hn
      have tk1 := trivial
      have tk2 := trivial
      go_enter Tryz.func31, Tryz.ntmps31
      go_upto_region 4 with (fail)
      have hcast : ((n : Int) / 2) = (h : Int) := by have := HH.out; omega
      have hhn : h ≤ n := by have := HH.out; omega
      have hhc : h ≤ c := by omega
      rw [hcast]
      clear hcast
      have hce : ¬ c = h := by have := HH.out; omega
      have hce2 : ¬ h = c := by have := HH.out; omega
      have hce3 : ¬ c ≤ h := by have := HH.out; omega
      go_upto_region 6 with (go_at_call 31; first
        | (clear tk1; refine (C1.out _ (Below.refl _ _)).mono ?_; rintro e w1 ⟨pa, ca, rfl, hA, hb1⟩; have HA := Lib.hid hA; have HB1 := Lib.hid hb1; clear hA hb1)
        | (clear tk2; refine (C2.out _ HB1.out).mono ?_; rintro e w2 ⟨pb, cb, rfl, hB, hb2⟩; have HB := Lib.hid hB; have HB2 := Lib.hid hb2; clear hB hb2))
      obtain ⟨i0, hi, hz0, hz1, hz2⟩ := info_parts (show (Tryz.prog.info? 42).map (fun i => (i.zero, i.size, i.bytes)) = some (some (.agg #[.int .i64 0, .slice none 0 0, .slice none 0 0]), 3, 56) by kernel_rfl)
      go_step
      iterate 2
        refine wpList_plain rfl (fun K hK => ?_)
        go_step
        refine hK _ _ ?_
        clear hK K
      refine wpList_make_own (P := Tryz.prog) w2 rfl (.const (.int .i64 0)) (.tmp 26) 28 rfl w2.heap.size 42 i0 _ 3 Tryz.underlying28 hi hz0 hz1 .i64 .i64 _ n rfl rfl rfl (by rw [hz2]; omega) (by unfold maxLen; omega) (Nat.le_refl _) ?_
      intro W0 hrow hgr
      have hb3 : Below w2.heap.size w2 W0 := ⟨hgr.os, hgr.tape, hgr.output, hgr.size, fun k hk => hgr.block k hk (by simp)⟩
      have HROW := Lib.hid hrow
      have HSZ := Lib.hid hb3.size
      have HFA : Hid (FsAt w2.heap.size W0 pa A) := Lib.hid (((HA.out.below HB2.out).up HB2.out.size).below hb3)
      have HFB : Hid (FsAt w2.heap.size W0 pb Bl) := Lib.hid (HB.out.below hb3)
      have HSW : Hid (w.heap.size ≤ w2.heap.size) := Lib.hid (Nat.le_trans HB1.out.size HB2.out.size)
      have HBW0 : Hid (Below w.heap.size w W0) := Lib.hid (HB1.out.trans ((HB2.out.trans (hb3.mono HB2.out.size)).mono HB1.out.size))
      clear hrow hgr hb3 hi hz0 hz1 hz2 HA HB HB1 HB2 C1 C2 hce hce2 hce3 hhc hhn
      go_wp2
      go_loopw [6, 7, 8] (fun s6 s7 s8 wr => ∃ i j : Nat, i ≤ A.length ∧ j ≤ Bl.length ∧ s7 = .int .i64 i ∧ s8 = .int .i64 j ∧ ∃ r sp sc, s6 = .slice sp (List.length r) sc ∧ Hid (wr.ownsRow w2.heap.size 42 3 (.slice sp (List.length r) sc) (List.length r) (fC r)) ∧ Hid (r ++ mrg cF (A.drop i) (Bl.drop j) = mrg cF A Bl) ∧ Hid (Below w2.heap.size W0 wr)) (fun _ s7 s8 _ => (A.length - (intOf s7).toNat) + (Bl.length - (intOf s8).toNat))
      case atStart => exact ⟨0, 0, by omega, by omega, rfl, rfl, [], some ⟨w2.heap.size, 0, none⟩, n, rfl, HROW, Lib.hid rfl, Lib.hid (Below.refl _ _)⟩
      case round =>
        obtain ⟨i, j, hil, hjl, rfl, rfl, r, sp, sc, rfl, HOwr, hM, HBwr⟩ := hrel
        have hlr : Hid (r.length ≤ n) := Lib.hid (by
          have h1 := congrArg List.length hM.out
          rw [List.length_append] at h1
          have h2 := mrg_len cF A Bl
          have := HH.out
          omega)
        by_cases hi : i < A.length
        · obtain ⟨x, hx⟩ : ∃ x, A[i]? = some x := ⟨A[i], by simp [hi]⟩
          obtain ⟨ba, oa, rfl, hBa, a1, a2, a3, okx⟩ := (HFA.out.below HBwr.out).get hx
          have HXk := Lib.hid hx
          have Hxo := Lib.hid okx.one
          have hwa : ba < wr.heap.size := by have := HBwr.out.size; have := HSZ.out; omega
          by_cases hj : j < Bl.length
          · obtain ⟨y, hy⟩ : ∃ y, Bl[j]? = some y := ⟨Bl[j], by simp [hj]⟩
            obtain ⟨bb, ob, rfl, hBb, b1, b2, b3, oky⟩ := (HFB.out.below HBwr.out).get hy
            have HYk := Lib.hid hy
            have Hyo := Lib.hid oky.one
            have hwb : bb < wr.heap.size := by have := HBwr.out.size; have := HSZ.out; omega
            have C1 : Hid (∀ W, Below wr.heap.size wr W → Calls Tryz.prog 58 #[.agg x.cells, .agg y.cells] W (RetB (.int .i64 (cmpF x.f y.f)) W)) := Lib.hid (fun W h => CompareFault_any x y w2.heap.size W (okx.below (h.mono (by have := HBwr.out.size; have := HSZ.out; omega))) (oky.below (h.mono (by have := HBwr.out.size; have := HSZ.out; omega))) (by have := h.size; have := HBwr.out.size; have := HSZ.out; omega))
            obtain ⟨⟨xk, xpos, xpath⟩, xp, xq⟩ := x
            obtain ⟨⟨yk, ypos, ypath⟩, yp, yq⟩ := y
            dsimp only at a1 a2 a3 b1 b2 b3 Hxo Hyo
            dsimp only [LF.cells] at C1
            obtain ⟨cc, hcc⟩ : ∃ cc, cmpF ⟨xk, xpos, xpath⟩ ⟨yk, ypos, ypath⟩ = cc := ⟨_, rfl⟩
            rw [hcc] at C1
            have HCC : Hid (cF ⟨⟨xk, xpos, xpath⟩, xp, xq⟩ ⟨⟨yk, ypos, ypath⟩, yp, yq⟩ = cc) := Lib.hid hcc
            have HA0 := Lib.hid (show (ba < w2.heap.size ∧ bb < w2.heap.size) from ⟨hBa, hBb⟩)
            clear hx hy okx oky hcc hBa hBb
            go_upto_region 14 with (fail)
            refine wp_region_plan_below 8 [(0, [0, 1, 2, 3, 4, 5, 6, 7]), (2, [8, 9])] (by kernel_rfl) (by kernel_rfl) (fun _ _ _ _ h => h) ?_
            simp only [wpSegs, pickOps, List.getElem?_toArray, List.getElem?_cons_zero, List.getElem?_cons_succ]
            have kc := cell_cls wr
            iterate 8 (go_big_quiet_step (fail))
            refine wpQuiet_nil ?_
            clear kc
            refine wpList_plain rfl (fun K hK => ?_)
            go_step
            refine (C1.out _ (Below.drew (Below.refl _ _))).mono ?_
            rintro e w4 ⟨rfl, hb4⟩
            refine hK _ _ ?_
            clear hK K
            have hb4' : Below wr.heap.size wr w4 := (Below.drew (Below.refl _ _)).trans hb4
            have a1 := (hb4'.cell (p := ⟨ba, oa + i * 3, none⟩) hwa).trans a1
            have a2 := (hb4'.cell (p := ⟨ba, oa + i * 3 + 1, none⟩) hwa).trans a2
            have a3 := (hb4'.cell (p := ⟨ba, oa + i * 3 + 2, none⟩) hwa).trans a3
            have b1 := (hb4'.cell (p := ⟨bb, ob + j * 3, none⟩) hwb).trans b1
            have b2 := (hb4'.cell (p := ⟨bb, ob + j * 3 + 1, none⟩) hwb).trans b2
            have b3 := (hb4'.cell (p := ⟨bb, ob + j * 3 + 2, none⟩) hwb).trans b3
            have HOw4 := Lib.hid (HOwr.out.kept (grown_ofb hb4' none) (by cases (Value.slice sp r.length sc).ownBlock <;> simp))
            have HBw4 := Lib.hid (HBwr.out.trans (hb4'.mono (by have := HBwr.out.size; have := HSZ.out; omega)))
            clear hb4 hb4' C1 HOwr HBwr
            by_cases hlt : cc < 0
            · have d1 : decide (cc ≤ 0) = true := decide_eq_true (by omega)
              have d2 : decide (cc = 0) = false := decide_eq_false (by omega)
              have d3 : (cc == 0) = false := by simp; omega
              go_upto_region 16 with (fail)
              go_step
              iterate 5
                refine wpList_plain rfl (fun K hK => ?_)
                go_step
                refine hK _ _ ?_
                clear hK K
              refine wpList_plain rfl (fun K hK => ?_)
              go_step
              refine hK _ _ ?_
              clear hK K
              obtain ⟨W3, hW⟩ : ∃ W3, w4.alloc (.cells #[.int .i64 xk, xp, xq] 42) = W3 := ⟨_, rfl⟩
              have hb3 : Below w4.heap.size w4 W3 := by rw [← hW]; exact (Below.refl w4.heap.size w4).alloc (Nat.le_refl _) _
              have hnew : CellsAt W3 w4.heap.size 0 #[.int .i64 xk, xp, xq] := by rw [← hW]; exact cellsAt_alloc w4 _ _ (0, 0)
              rw [hW]
              clear hW
              have HG3 := HOw4.out.kept (grown_ofb hb3 none) (by cases (Value.slice sp r.length sc).ownBlock <;> simp)
              refine wpList_plain rfl (fun K hK => ?_)
              refine wp_append_x (P := Tryz.prog) W3 (.tmp 57) (.tmp 62) 28 rfl w2.heap.size 42 (.agg #[.int .i64 0, .slice none 0 0, .slice none 0 0]) 3 56 Tryz.underlying28 (by kernel_rfl) rfl (by decide) (.slice sp r.length sc) r.length _ rfl HG3 ⟨w4.heap.size, 0, none⟩ 1 1 [.int .i64 xk, xp, xq] rfl (by decide) rfl ?c1 ?c2 ?c3 ?c4 ?c5 ?_
              case c1 =>
                intro m u hu
                have := hnew m u (by simpa using hu)
                rw [addr_add]
                exact this
              case c2 => intro u hu; simp at hu; rcases hu with rfl | rfl | rfl <;> first | rfl | exact Hxo.out.1 | exact Hxo.out.2
              case c3 => unfold maxLen; have := hlr.out; omega
              case c4 => have := hlr.out; omega
              case c5 => have := hb3.size; have := HBw4.out.size; have := HSZ.out; omega
              intro v' w' hrow hgr _
              refine hK _ _ ?_
              clear hK K
              have hbw' : Below w2.heap.size W0 w' := (HBw4.out.trans (hb3.mono (by have := HBw4.out.size; have := HSZ.out; omega))).grown hgr (by have := hb3.size; have := HBw4.out.size; have := HSZ.out; omega) (fun y hy => (HG3.lt y hy).1)
              obtain ⟨g', cap', rfl⟩ : ∃ g' cap', v' = .slice (some ⟨g', 0, none⟩) (r.length + 1) cap' := by
                rcases hrow.2 with ⟨_, h⟩ | ⟨g', cap', cur, h, _⟩
                · omega
                · exact ⟨g', cap', h⟩
              have HRW := Lib.hid hrow
              have HBW := Lib.hid hbw'
              clear hrow hbw' hgr HG3 hb3 hnew
              go_wp2
              go_roundw
              case rel =>
                refine ⟨i + 1, j, by omega, by omega, by first | rfl | go_num, by first | rfl | go_num, r ++ [⟨⟨xk, xpos, xpath⟩, xp, xq⟩], some ⟨g', 0, none⟩, cap', by rw [List.length_append]; rfl, Lib.hid ?_, Lib.hid ?_, HBW⟩
                · have h := HRW.out
                  rw [List.length_append, fC_app]
                  exact h
                · rw [List.append_assoc, ← hM.out, mrg_lt HXk.out HYk.out (by rw [HCC.out]; exact hlt)]
                  rfl
              case measure => simp [intOf]; omega
            · by_cases heq : cc = 0
              · subst heq
                go_upto_region 16 with (fail)
                go_step
                iterate 5
                  refine wpList_plain rfl (fun K hK => ?_)
                  go_step
                  refine hK _ _ ?_
                  clear hK K
                refine wpList_plain rfl (fun K hK => ?_)
                go_step
                refine hK _ _ ?_
                clear hK K
                obtain ⟨W3, hW⟩ : ∃ W3, w4.alloc (.cells #[.int .i64 xk, xp, xq] 42) = W3 := ⟨_, rfl⟩
                have hb3 : Below w4.heap.size w4 W3 := by rw [← hW]; exact (Below.refl w4.heap.size w4).alloc (Nat.le_refl _) _
                have hnew : CellsAt W3 w4.heap.size 0 #[.int .i64 xk, xp, xq] := by rw [← hW]; exact cellsAt_alloc w4 _ _ (0, 0)
                rw [hW]
                clear hW
                have HG3 := HOw4.out.kept (grown_ofb hb3 none) (by cases (Value.slice sp r.length sc).ownBlock <;> simp)
                refine wpList_plain rfl (fun K hK => ?_)
                refine wp_append_x (P := Tryz.prog) W3 (.tmp 57) (.tmp 62) 28 rfl w2.heap.size 42 (.agg #[.int .i64 0, .slice none 0 0, .slice none 0 0]) 3 56 Tryz.underlying28 (by kernel_rfl) rfl (by decide) (.slice sp r.length sc) r.length _ rfl HG3 ⟨w4.heap.size, 0, none⟩ 1 1 [.int .i64 xk, xp, xq] rfl (by decide) rfl ?c1 ?c2 ?c3 ?c4 ?c5 ?_
                case c1 =>
                  intro m u hu
                  have := hnew m u (by simpa using hu)
                  rw [addr_add]
                  exact this
                case c2 => intro u hu; simp at hu; rcases hu with rfl | rfl | rfl <;> first | rfl | exact Hxo.out.1 | exact Hxo.out.2
                case c3 => unfold maxLen; have := hlr.out; omega
                case c4 => have := hlr.out; omega
                case c5 => have := hb3.size; have := HBw4.out.size; have := HSZ.out; omega
                intro v' w' hrow hgr _
                refine hK _ _ ?_
                clear hK K
                have hbw' : Below w2.heap.size W0 w' := (HBw4.out.trans (hb3.mono (by have := HBw4.out.size; have := HSZ.out; omega))).grown hgr (by have := hb3.size; have := HBw4.out.size; have := HSZ.out; omega) (fun y hy => (HG3.lt y hy).1)
                obtain ⟨g', cap', rfl⟩ : ∃ g' cap', v' = .slice (some ⟨g', 0, none⟩) (r.length + 1) cap' := by
                  rcases hrow.2 with ⟨_, h⟩ | ⟨g', cap', cur, h, _⟩
                  · omega
                  · exact ⟨g', cap', h⟩
                have HRW := Lib.hid hrow
                have HBW := Lib.hid hbw'
                clear hrow hbw' hgr HG3 hb3 hnew
                go_wp2
                go_roundw
                case rel =>
                  refine ⟨i + 1, j + 1, by omega, by omega, by first | rfl | go_num, by first | rfl | go_num, r ++ [⟨⟨xk, xpos, xpath⟩, xp, xq⟩], some ⟨g', 0, none⟩, cap', by rw [List.length_append]; rfl, Lib.hid ?_, Lib.hid ?_, HBW⟩
                  · have h := HRW.out
                    rw [List.length_append, fC_app]
                    exact h
                  · rw [List.append_assoc, ← hM.out, mrg_eq HXk.out HYk.out HCC.out]
                    rfl
                case measure => simp [intOf]; omega
              · have d1 : decide (cc ≤ 0) = false := decide_eq_false (by omega)
                go_upto_region 20 with (fail)
                go_step
                iterate 5
                  refine wpList_plain rfl (fun K hK => ?_)
                  go_step
                  refine hK _ _ ?_
                  clear hK K
                refine wpList_plain rfl (fun K hK => ?_)
                go_step
                refine hK _ _ ?_
                clear hK K
                obtain ⟨W3, hW⟩ : ∃ W3, w4.alloc (.cells #[.int .i64 yk, yp, yq] 42) = W3 := ⟨_, rfl⟩
                have hb3 : Below w4.heap.size w4 W3 := by rw [← hW]; exact (Below.refl w4.heap.size w4).alloc (Nat.le_refl _) _
                have hnew : CellsAt W3 w4.heap.size 0 #[.int .i64 yk, yp, yq] := by rw [← hW]; exact cellsAt_alloc w4 _ _ (0, 0)
                rw [hW]
                clear hW
                have HG3 := HOw4.out.kept (grown_ofb hb3 none) (by cases (Value.slice sp r.length sc).ownBlock <;> simp)
                refine wpList_plain rfl (fun K hK => ?_)
                refine wp_append_x (P := Tryz.prog) W3 (.tmp 70) (.tmp 75) 28 rfl w2.heap.size 42 (.agg #[.int .i64 0, .slice none 0 0, .slice none 0 0]) 3 56 Tryz.underlying28 (by kernel_rfl) rfl (by decide) (.slice sp r.length sc) r.length _ rfl HG3 ⟨w4.heap.size, 0, none⟩ 1 1 [.int .i64 yk, yp, yq] rfl (by decide) rfl ?c1 ?c2 ?c3 ?c4 ?c5 ?_
                case c1 =>
                  intro m u hu
                  have := hnew m u (by simpa using hu)
                  rw [addr_add]
                  exact this
                case c2 => intro u hu; simp at hu; rcases hu with rfl | rfl | rfl <;> first | rfl | exact Hyo.out.1 | exact Hyo.out.2
                case c3 => unfold maxLen; have := hlr.out; omega
                case c4 => have := hlr.out; omega
                case c5 => have := hb3.size; have := HBw4.out.size; have := HSZ.out; omega
                intro v' w' hrow hgr _
                refine hK _ _ ?_
                clear hK K
                have hbw' : Below w2.heap.size W0 w' := (HBw4.out.trans (hb3.mono (by have := HBw4.out.size; have := HSZ.out; omega))).grown hgr (by have := hb3.size; have := HBw4.out.size; have := HSZ.out; omega) (fun y hy => (HG3.lt y hy).1)
                obtain ⟨g', cap', rfl⟩ : ∃ g' cap', v' = .slice (some ⟨g', 0, none⟩) (r.length + 1) cap' := by
                  rcases hrow.2 with ⟨_, h⟩ | ⟨g', cap', cur, h, _⟩
                  · omega
                  · exact ⟨g', cap', h⟩
                have HRW := Lib.hid hrow
                have HBW := Lib.hid hbw'
                clear hrow hbw' hgr HG3 hb3 hnew
                go_wp2
                go_roundw
                case rel =>
                  refine ⟨i, j + 1, by omega, by omega, by first | rfl | go_num, by first | rfl | go_num, r ++ [⟨⟨yk, ypos, ypath⟩, yp, yq⟩], some ⟨g', 0, none⟩, cap', by rw [List.length_append]; rfl, Lib.hid ?_, Lib.hid ?_, HBW⟩
                  · have h := HRW.out
                    rw [List.length_append, fC_app]
                    exact h
                  · rw [List.append_assoc, ← hM.out, mrg_gt HXk.out HYk.out (by rw [HCC.out]; omega)]
                    rfl
                case measure => simp [intOf]; omega
          · obtain ⟨⟨xk, xpos, xpath⟩, xp, xq⟩ := x
            dsimp only at a1 a2 a3 Hxo
            clear hx okx
            go_upto_region 16 with (fail)
            go_step
            iterate 5
              refine wpList_plain rfl (fun K hK => ?_)
              go_step
              refine hK _ _ ?_
              clear hK K
            refine wpList_plain rfl (fun K hK => ?_)
            go_step
            refine hK _ _ ?_
            clear hK K
            obtain ⟨W3, hW⟩ : ∃ W3, wr.alloc (.cells #[.int .i64 xk, xp, xq] 42) = W3 := ⟨_, rfl⟩
            have hb3 : Below wr.heap.size wr W3 := by rw [← hW]; exact (Below.refl wr.heap.size wr).alloc (Nat.le_refl _) _
            have hnew : CellsAt W3 wr.heap.size 0 #[.int .i64 xk, xp, xq] := by rw [← hW]; exact cellsAt_alloc wr _ _ (0, 0)
            rw [hW]
            clear hW
            have HG3 := HOwr.out.kept (grown_ofb hb3 none) (by cases (Value.slice sp r.length sc).ownBlock <;> simp)
            refine wpList_plain rfl (fun K hK => ?_)
            refine wp_append_x (P := Tryz.prog) W3 (.tmp 57) (.tmp 62) 28 rfl w2.heap.size 42 (.agg #[.int .i64 0, .slice none 0 0, .slice none 0 0]) 3 56 Tryz.underlying28 (by kernel_rfl) rfl (by decide) (.slice sp r.length sc) r.length _ rfl HG3 ⟨wr.heap.size, 0, none⟩ 1 1 [.int .i64 xk, xp, xq] rfl (by decide) rfl ?c1 ?c2 ?c3 ?c4 ?c5 ?_
            case c1 =>
              intro m u hu
              have := hnew m u (by simpa using hu)
              rw [addr_add]
              exact this
            case c2 => intro u hu; simp at hu; rcases hu with rfl | rfl | rfl <;> first | rfl | exact Hxo.out.1 | exact Hxo.out.2
            case c3 => unfold maxLen; have := hlr.out; omega
            case c4 => have := hlr.out; omega
            case c5 => have := hb3.size; have := HBwr.out.size; have := HSZ.out; omega
            intro v' w' hrow hgr _
            refine hK _ _ ?_
            clear hK K
            have hbw' : Below w2.heap.size W0 w' := (HBwr.out.trans (hb3.mono (by have := HBwr.out.size; have := HSZ.out; omega))).grown hgr (by have := hb3.size; have := HBwr.out.size; have := HSZ.out; omega) (fun y hy => (HG3.lt y hy).1)
            obtain ⟨g', cap', rfl⟩ : ∃ g' cap', v' = .slice (some ⟨g', 0, none⟩) (r.length + 1) cap' := by
              rcases hrow.2 with ⟨_, h⟩ | ⟨g', cap', cur, h, _⟩
              · omega
              · exact ⟨g', cap', h⟩
            have HRW := Lib.hid hrow
            have HBW := Lib.hid hbw'
            clear hrow hbw' hgr HG3 hb3 hnew
            go_wp2
            go_roundw
            case rel =>
              refine ⟨i + 1, j, by omega, by omega, by first | rfl | go_num, by first | rfl | go_num, r ++ [⟨⟨xk, xpos, xpath⟩, xp, xq⟩], some ⟨g', 0, none⟩, cap', by rw [List.length_append]; rfl, Lib.hid ?_, Lib.hid ?_, HBW⟩
              · have h := HRW.out
                rw [List.length_append, fC_app]
                exact h
              · rw [List.append_assoc, ← hM.out, mrg_left HXk.out (by omega)]
                rfl
            case measure => simp [intOf]; omega
        · by_cases hj : j < Bl.length
          · obtain ⟨y, hy⟩ : ∃ y, Bl[j]? = some y := ⟨Bl[j], by simp [hj]⟩
            obtain ⟨bb, ob, rfl, hBb, b1, b2, b3, oky⟩ := (HFB.out.below HBwr.out).get hy
            have HYk := Lib.hid hy
            have Hyo := Lib.hid oky.one
            have hwb : bb < wr.heap.size := by have := HBwr.out.size; have := HSZ.out; omega
            obtain ⟨⟨yk, ypos, ypath⟩, yp, yq⟩ := y
            dsimp only at b1 b2 b3 Hyo
            clear hy oky
            go_upto_region 20 with (fail)
            go_step
            iterate 5
              refine wpList_plain rfl (fun K hK => ?_)
              go_step
              refine hK _ _ ?_
              clear hK K
            refine wpList_plain rfl (fun K hK => ?_)
            go_step
            refine hK _ _ ?_
            clear hK K
            obtain ⟨W3, hW⟩ : ∃ W3, wr.alloc (.cells #[.int .i64 yk, yp, yq] 42) = W3 := ⟨_, rfl⟩
            have hb3 : Below wr.heap.size wr W3 := by rw [← hW]; exact (Below.refl wr.heap.size wr).alloc (Nat.le_refl _) _
            have hnew : CellsAt W3 wr.heap.size 0 #[.int .i64 yk, yp, yq] := by rw [← hW]; exact cellsAt_alloc wr _ _ (0, 0)
            rw [hW]
            clear hW
            have HG3 := HOwr.out.kept (grown_ofb hb3 none) (by cases (Value.slice sp r.length sc).ownBlock <;> simp)
            refine wpList_plain rfl (fun K hK => ?_)
            refine wp_append_x (P := Tryz.prog) W3 (.tmp 70) (.tmp 75) 28 rfl w2.heap.size 42 (.agg #[.int .i64 0, .slice none 0 0, .slice none 0 0]) 3 56 Tryz.underlying28 (by kernel_rfl) rfl (by decide) (.slice sp r.length sc) r.length _ rfl HG3 ⟨wr.heap.size, 0, none⟩ 1 1 [.int .i64 yk, yp, yq] rfl (by decide) rfl ?c1 ?c2 ?c3 ?c4 ?c5 ?_
            case c1 =>
              intro m u hu
              have := hnew m u (by simpa using hu)
              rw [addr_add]
              exact this
            case c2 => intro u hu; simp at hu; rcases hu with rfl | rfl | rfl <;> first | rfl | exact Hyo.out.1 | exact Hyo.out.2
            case c3 => unfold maxLen; have := hlr.out; omega
            case c4 => have := hlr.out; omega
            case c5 => have := hb3.size; have := HBwr.out.size; have := HSZ.out; omega
            intro v' w' hrow hgr _
            refine hK _ _ ?_
            clear hK K
            have hbw' : Below w2.heap.size W0 w' := (HBwr.out.trans (hb3.mono (by have := HBwr.out.size; have := HSZ.out; omega))).grown hgr (by have := hb3.size; have := HBwr.out.size; have := HSZ.out; omega) (fun y hy => (HG3.lt y hy).1)
            obtain ⟨g', cap', rfl⟩ : ∃ g' cap', v' = .slice (some ⟨g', 0, none⟩) (r.length + 1) cap' := by
              rcases hrow.2 with ⟨_, h⟩ | ⟨g', cap', cur, h, _⟩
              · omega
              · exact ⟨g', cap', h⟩
            have HRW := Lib.hid hrow
            have HBW := Lib.hid hbw'
            clear hrow hbw' hgr HG3 hb3 hnew
            go_wp2
            go_roundw
            case rel =>
              refine ⟨i, j + 1, by omega, by omega, by first | rfl | go_num, by first | rfl | go_num, r ++ [⟨⟨yk, ypos, ypath⟩, yp, yq⟩], some ⟨g', 0, none⟩, cap', by rw [List.length_append]; rfl, Lib.hid ?_, Lib.hid ?_, HBW⟩
              · have h := HRW.out
                rw [List.length_append, fC_app]
                exact h
              · rw [List.append_assoc, ← hM.out, mrg_right (by omega) HYk.out]
                rfl
            case measure => simp [intOf]; omega
          · have hrr : r = mrg cF A Bl := by
              have h := hM.out
              rw [List.drop_eq_nil_iff.2 (by omega : A.length ≤ i), List.drop_eq_nil_iff.2 (by omega : Bl.length ≤ j), mrg, List.append_nil] at h
              exact h
            have hfin : ∃ p' c', Value.slice sp r.length sc = .slice p' r.length c' ∧ FsAt wr.heap.size wr p' r := by
              have hm := HBwr.out.size
              have hz := HSZ.out
              exact fsAt_row HOwr.out (fun z hz' => by
                rw [hrr] at hz'
                rcases mrg_mem cF A Bl z hz' with h | h
                · exact (((HFA.out.2 z h).below HBwr.out).mono (by omega))
                · exact (((HFB.out.2 z h).below HBwr.out).mono (by omega)))
            have HRR := Lib.hid hrr
            have HFIN := Lib.hid hfin
            clear hrr hfin
            go_wp2
            go_ret
            obtain ⟨p', c', e1, hF⟩ := HFIN.out
            rw [← HRR.out]
            exact ⟨p', c', by rw [← e1]; rfl, hF, HBW0.out.trans (HBwr.out.mono HSW.out), .inr (fun ad e2 => Nat.le_trans HSW.out (HOwr.out.lt ad.block (by rw [e1, e2]; rfl)).1)⟩
theorem ordered_any : ∀ (N : Nat) (l : List LF), l.length ≤ N → l.length ≤ big → ∀ (p : Option Addr) (c : Nat) (w : World), l.length ≤ c → FsAt w.heap.size w p l →
    Calls Tryz.prog 31 #[.slice p l.length c] w (fun e w' => ∃ p' c', e = .returned (.slice p' (ordL cF N l).length c') ∧ FsAt w'.heap.size w' p' (ordL cF N l) ∧ Below w.heap.size w w') := fun N l h1 h2 p c w h3 h4 =>
  (ordered_at N l h1 h2 p c w h3 h4).mono fun e w' ⟨p', c', a1, a2, a3, _⟩ => ⟨p', c', a1, a2, a3⟩
end Go.Proofs.YtnmnmkdmnohbmaaGreatDoor

namespace Go.Proofs.YtnmnmkdmnohbmaaGreatDoor
open Go Go.RowKit

/-- The blocks of the lists of places and of steps. -/
def blkF (l : List LF) : List Nat := l.flatMap (fun x => x.pv.ownBlock.toList ++ x.qv.ownBlock.toList)
theorem blkF_append (a b : List LF) : blkF (a ++ b) = blkF a ++ blkF b := by simp [blkF]
structure OwnFl (B : Nat) (w : World) (l : List LF) : Prop where
  all : ∀ x ∈ l, OwnLF B w x
  nd : (blkF l).Nodup
theorem OwnFl.nil (B : Nat) (w : World) : OwnFl B w [] := ⟨by simp, by simp [blkF]⟩
theorem OwnFl.below {B : Nat} {w w' : World} {l : List LF} (h : OwnFl B w l) (hb : Below w.heap.size w w') : OwnFl B w' l := ⟨fun z hz => (h.all z hz).below hb, h.nd⟩
theorem OwnFl.kept {B B' : Nat} {w w' : World} {l : List LF} {sz n : Nat} {v : Value} {xs : List Value} (h : OwnFl B w l) (hr : w.ownsRow B' 42 sz v n xs) (hg : w.grownBy w' v.ownBlock) : OwnFl B w' l := ⟨fun z hz => (h.all z hz).kept hr hg, h.nd⟩
theorem OwnFl.lower {B B' : Nat} {w : World} {l : List LF} (h : OwnFl B w l) (hB : B' ≤ B) : OwnFl B' w l := ⟨fun z hz => (h.all z hz).lower hB, h.nd⟩
theorem mem_blkF {l : List LF} {b : Nat} : b ∈ blkF l ↔ ∃ x ∈ l, x.pv.ownBlock = some b ∨ x.qv.ownBlock = some b := by
  simp [blkF, List.mem_flatMap]
theorem OwnFl.lt {B : Nat} {w : World} {l : List LF} (h : OwnFl B w l) : ∀ b ∈ blkF l, B ≤ b ∧ b < w.heap.size := fun b hb => by
  obtain ⟨x, hx, e⟩ := mem_blkF.1 hb
  rcases e with e | e
  · exact (h.all x hx).1.lt b e
  · exact (h.all x hx).2.1.lt b e
theorem OwnFl.snoc {B : Nat} {w w' : World} {l : List LF} {x : LF} (h : OwnFl B w l) (hb : Below w.heap.size w w') (hx : OwnLF w.heap.size w' x) (hB : B ≤ w.heap.size) : OwnFl B w' (l ++ [x]) := by
  refine ⟨fun z hz => ?_, ?_⟩
  · rcases List.mem_append.1 hz with hz | hz
    · exact (h.all z hz).below hb
    · obtain rfl : z = x := by simpa using hz
      exact hx.lower hB
  · rw [blkF_append, List.nodup_append]
    have hne : x.pv.ownBlock = none ∨ x.pv.ownBlock ≠ x.qv.ownBlock := row_apart hx.1 hx.2.1 (by decide)
    refine ⟨h.nd, ?_, fun a ha b hb' e => ?_⟩
    · simp only [blkF, List.flatMap_cons, List.flatMap_nil, List.append_nil]
      cases hp : x.pv.ownBlock with
      | none => cases hq : x.qv.ownBlock <;> simp
      | some p =>
        cases hq : x.qv.ownBlock with
        | none => simp
        | some q =>
          have : p ≠ q := fun e => by
            rcases hne with h1 | h1
            · rw [hp] at h1; cases h1
            · exact h1 (by rw [hp, hq, e])
          simp [this]
    · subst e
      have h1 := (h.lt a ha).2
      obtain ⟨z, hz, e⟩ := mem_blkF.1 hb'
      obtain rfl : z = x := by simpa using hz
      rcases e with e | e
      · have := (hx.1.lt a e).1; omega
      · have := (hx.2.1.lt a e).1; omega
end Go.Proofs.YtnmnmkdmnohbmaaGreatDoor

namespace Go.Proofs.YtnmnmkdmnohbmaaGreatDoor
open Go.RowKit

/-- Lists of faults in memory. -/
def LsAt (B : Nat) (w : World) (p : Option Addr) (L : List (Value × List LF)) : Prop :=
  (L = [] ∨ ∃ b o, p = some ⟨b, o, none⟩ ∧ b < B ∧ ∀ i x, L[i]? = some x → w.cell? ⟨b, o + i, none⟩ = some x.1) ∧ ∀ x ∈ L, ∃ q c, x.1 = .slice q x.2.length c ∧ x.2.length ≤ c ∧ FsAt B w q x.2

theorem LsAt.below {B : Nat} {w w' : World} {p : Option Addr} {L : List (Value × List LF)} (h : LsAt B w p L) (hb : Below B w w') : LsAt B w' p L := by
  refine ⟨?_, fun x hx => ?_⟩
  · rcases h.1 with h | ⟨b, o, rfl, hB, hc⟩
    · exact .inl h
    · exact .inr ⟨b, o, rfl, hB, fun i x hx => (hb.cell (p := ⟨b, _, none⟩) hB).trans (hc i x hx)⟩
  · obtain ⟨q, c, h1, h2, h3⟩ := h.2 x hx
    exact ⟨q, c, h1, h2, h3.below hb⟩

def cat (L : List (Value × List LF)) : List LF := L.flatMap (·.2)
theorem cat_take {L : List (Value × List LF)} {i : Nat} {x : Value × List LF} (h : L[i]? = some x) : cat (L.take (i + 1)) = cat (L.take i) ++ x.2 := by
  unfold cat
  rw [List.take_add_one, h]
  simp
theorem cat_len (L : List (Value × List LF)) : ∀ (i : Nat) (x : Value × List LF), L[i]? = some x → (cat (L.take i)).length + x.2.length ≤ (cat L).length := by
  intro i x h
  have e : L = L.take i ++ x :: L.drop (i + 1) := by
    obtain ⟨hi, rfl⟩ := List.getElem?_eq_some_iff.1 h
    rw [List.getElem_cons_drop, List.take_append_drop]
  have : cat L = cat (L.take i) ++ (x.2 ++ cat (L.drop (i + 1))) := by
    conv => lhs; rw [e]
    simp [cat]
  rw [this]
  simp only [List.length_append]
  omega

theorem row_cap {w : World} {B : Nat} {e : TypeId} {sz n : Nat} {p : Option Addr} {c : Nat} {xs : List Value} (h : w.ownsRow B e sz (.slice p n c) n xs) : n ≤ c := by
  rcases h.2 with ⟨h, rfl⟩ | ⟨g, cap, cur, h, _, _, hn, _⟩
  · omega
  · cases h
    exact hn

set_option maxRecDepth 100000 in
set_option maxHeartbeats 8000000 in
theorem refFaults_own (L : List (Value × List LF)) (p : Option Addr) (c : Nat) (w : World) (hL : LsAt w.heap.size w p L) (hlen : L.length ≤ big) (hcat : (cat L).length ≤ big) :
    Calls Tryz.prog 11 #[.slice p L.length c] w (fun e w' => ∃ p' c' r, e = .returned (.slice p' (ordL cF (List.length r) r).length c') ∧ r.map LF.f = (cat L).map (fun x => cleanF x.f) ∧ FsAt w'.heap.size w' p' (ordL cF (List.length r) r) ∧ Below w.heap.size w w' ∧ (∀ ad, p' = some ad → w.heap.size ≤ ad.block) ∧ ∀ x ∈ r, OwnLF w.heap.size w' x) := by
  unfold big at hlen hcat
  have HL := Lib.hid hL
  have HCAT := Lib.hid hcat
  have HSZ := Lib.hid (Nat.le_refl w.heap.size)
  clear hL hcat
  go_enter Tryz.func11, Tryz.ntmps11
  go_wp2
  go_loopw [3, 4] (fun s3 s4 wr => ∃ i : Nat, i ≤ L.length ∧ s4 = .int .i64 i ∧ ∃ r sp sc, s3 = .slice sp (List.length r) sc ∧ Hid (wr.ownsRow w.heap.size 42 3 (.slice sp (List.length r) sc) (List.length r) (fC r)) ∧ Hid (r.map LF.f = (cat (L.take i)).map (fun x => cleanF x.f)) ∧ Hid (∀ x ∈ r, OwnLF w.heap.size wr x) ∧ Hid (Below w.heap.size w wr)) (fun _ s4 _ => L.length - (intOf s4).toNat)
  case atStart => exact ⟨0, by omega, rfl, [], none, 0, rfl, Lib.hid (World.ownsRow_nil _ _ _ _), Lib.hid rfl, Lib.hid (fun _ h => by cases h), Lib.hid (Below.refl _ _)⟩
  case round =>
    obtain ⟨i, hi, rfl, r, sp, sc, rfl, HO, HM, HW, HB⟩ := hrel
    by_cases h1 : i < L.length
    · obtain ⟨⟨lv, l⟩, hx⟩ : ∃ x, L[i]? = some x := ⟨L[i], by simp [h1]⟩
      obtain ⟨q, cq, hlv, hlc, _⟩ := HL.out.2 _ (List.mem_of_getElem? hx)
      dsimp only at hlv hlc
      subst hlv
      rcases HL.out.1 with h0 | ⟨b, o, rfl, hb, hc⟩
      · subst h0; simp at h1
      have hc0 := hc i _ hx
      have hlt : l.length ≤ 4194304 := by have h9 : (cat (L.take i)).length + l.length ≤ (cat L).length := cat_len L i _ hx; have := HCAT.out; omega
      have HX := Lib.hid hx
      have HC0 := Lib.hid hc0
      clear hx hc hc0
      go_wp2
      go_loopw [3, 5] (fun s3 s5 wr2 => ∃ j : Nat, j ≤ l.length ∧ s5 = .int .i64 j ∧ ∃ r sp sc, s3 = .slice sp (List.length r) sc ∧ Hid (wr2.ownsRow w.heap.size 42 3 (.slice sp (List.length r) sc) (List.length r) (fC r)) ∧ Hid (r.map LF.f = (cat (L.take i) ++ l.take j).map (fun x => cleanF x.f)) ∧ Hid (∀ x ∈ r, OwnLF w.heap.size wr2 x) ∧ Hid (Below w.heap.size w wr2)) (fun _ s5 _ => l.length - (intOf s5).toNat)
      case atStart => exact ⟨0, by omega, rfl, r, sp, sc, rfl, HO, Lib.hid (by rw [HM.out]; simp), HW, HB⟩
      case round =>
        clear HO HM HW HB
        obtain ⟨j, hj, rfl, r, sp, sc, rfl, HO, HM, HW, HBwr⟩ := hrel
        have g0 := (HBwr.out.cell (p := ⟨b, o + i, none⟩) hb).trans HC0.out
        by_cases hjl : j < l.length
        · obtain ⟨y, hy⟩ : ∃ y, l[j]? = some y := ⟨l[j], by simp [hjl]⟩
          have hFl : FsAt w.heap.size w q l := by
            obtain ⟨q', c', e1, _, h3⟩ := HL.out.2 _ (List.mem_of_getElem? HX.out)
            cases e1
            exact h3
          obtain ⟨bl, ol, rfl, hBl, a1, a2, a3, oky⟩ := (hFl.below HBwr.out).get hy
          have HY := Lib.hid hy
          have hlr : Hid (r.length ≤ 4194304) := Lib.hid (by
            have h := congrArg List.length HM.out
            simp only [List.length_map, List.length_append, List.length_take] at h
            have h9 : (cat (L.take i)).length + l.length ≤ (cat L).length := cat_len L i _ HX.out
            have := HCAT.out
            omega)
          have C1 : Hid (∀ W, Below wr.heap.size wr W → Calls Tryz.prog 23 #[.agg y.cells] W (fun e w' => ∃ x' : LF, e = .returned (.agg x'.cells) ∧ x'.f = cleanF y.f ∧ OwnLF W.heap.size w' x' ∧ Below W.heap.size W w')) := Lib.hid (fun W h => CopyFault_any y w.heap.size W (oky.below (h.mono HBwr.out.size)) (by have := h.size; have := HBwr.out.size; omega))
          obtain ⟨⟨yk, ypos, ypath⟩, yp, yq⟩ := y
          dsimp only at a1 a2 a3
          dsimp only [LF.cells] at C1
          have hwl : bl < wr.heap.size := by have := HBwr.out.size; omega
          clear hy oky hFl
          go_upto_region 9 with (go_at_call 23; refine (C1.out _ (Below.refl _ _)).mono ?_; rintro e w4 ⟨⟨⟨xk, xpos, xpath⟩, xp, xq⟩, rfl, hf, hown, hb4⟩; obtain ⟨xpp, xpc, hxp⟩ := row_shape hown.1; obtain ⟨xqp, xqc, hxq⟩ := row_shape hown.2.1; dsimp only at hxp hxq; subst hxp hxq; have HF := Lib.hid hf; have HOWN := Lib.hid hown; have HB4 := Lib.hid hb4; clear hf hown hb4; dsimp only [LF.cells])
          have Hxo := Lib.hid HOWN.out.lok.one
          obtain ⟨W5, hW5⟩ : ∃ W5, w4.alloc (.cells #[.int .i64 xk, .slice xpp xpos.length xpc, .slice xqp xpath.length xqc] 42) = W5 := ⟨_, rfl⟩
          have hb5 : Below w4.heap.size w4 W5 := by rw [← hW5]; exact (Below.refl _ _).alloc (Nat.le_refl _) _
          have hd := cellsAt_alloc w4 #[.int .i64 xk, .slice xpp xpos.length xpc, .slice xqp xpath.length xqc] 42 (0, 0)
          rw [hW5] at hd
          have d0 : W5.cell? ⟨w4.heap.size, 0, none⟩ = some (.int .i64 xk) := hd 0 _ rfl
          have d1 : W5.cell? ⟨w4.heap.size, 1, none⟩ = some (.slice xpp xpos.length xpc) := hd 1 _ rfl
          have d2 : W5.cell? ⟨w4.heap.size, 2, none⟩ = some (.slice xqp xpath.length xqc) := hd 2 _ rfl
          rw [hW5]
          have hb45 : Below wr.heap.size wr W5 := HB4.out.trans (hb5.mono HB4.out.size)
          have HOW5 := Lib.hid (HO.out.kept (grown_ofb hb45 none) (by cases (Value.slice sp r.length sc).ownBlock <;> simp))
          have HBW5 := Lib.hid (HBwr.out.trans (hb45.mono HBwr.out.size))
          have HMEM : Hid (∀ z ∈ r ++ [⟨⟨xk, xpos, xpath⟩, .slice xpp xpos.length xpc, .slice xqp xpath.length xqc⟩], OwnLF w.heap.size W5 z) := Lib.hid (fun z hz => by
            rcases List.mem_append.1 hz with hz | hz
            · exact (HW.out z hz).below hb45
            · obtain rfl : z = _ := by simpa using hz
              exact (HOWN.out.below hb5).lower HBwr.out.size)
          clear hW5 hb5 hd hb45 HO HBwr g0 a1 a2 a3
          go_step
          iterate 3
            refine wpList_plain rfl (fun K hK => ?_)
            go_step
            refine hK _ _ ?_
            clear hK K
          obtain ⟨W3, hW⟩ : ∃ W3, W5.alloc (.cells #[.int .i64 xk, .slice xpp xpos.length xpc, .slice xqp xpath.length xqc] 42) = W3 := ⟨_, rfl⟩
          have hb3 : Below W5.heap.size W5 W3 := by rw [← hW]; exact (Below.refl W5.heap.size W5).alloc (Nat.le_refl _) _
          have hnew : CellsAt W3 W5.heap.size 0 #[.int .i64 xk, .slice xpp xpos.length xpc, .slice xqp xpath.length xqc] := by rw [← hW]; exact cellsAt_alloc W5 _ _ (0, 0)
          rw [hW]
          clear hW
          have HG3 := HOW5.out.kept (grown_ofb hb3 none) (by cases (Value.slice sp r.length sc).ownBlock <;> simp)
          refine wpList_plain rfl (fun K hK => ?_)
          refine wp_append_x (P := Tryz.prog) W3 (.tmp 30) (.tmp 32) 28 rfl w.heap.size 42 (.agg #[.int .i64 0, .slice none 0 0, .slice none 0 0]) 3 56 Tryz.underlying28 (by kernel_rfl) rfl (by decide) (.slice sp r.length sc) r.length _ rfl HG3 ⟨W5.heap.size, 0, none⟩ 1 1 [.int .i64 xk, .slice xpp xpos.length xpc, .slice xqp xpath.length xqc] rfl (by decide) rfl ?c1 ?c2 ?c3 ?c4 ?c5 ?_
          case c1 =>
            intro m u hu
            have := hnew m u (by simpa using hu)
            rw [addr_add]
            exact this
          case c2 => intro u hu; simp at hu; rcases hu with rfl | rfl | rfl <;> first | rfl | exact Hxo.out.1 | exact Hxo.out.2
          case c3 => unfold maxLen; have := hlr.out; omega
          case c4 => have := hlr.out; omega
          case c5 => have := hb3.size; have := HBW5.out.size; have := HSZ.out; omega
          intro v' w' hrow hgr _
          refine hK _ _ ?_
          clear hK K
          have hbw' : Below w.heap.size w w' := (HBW5.out.trans (hb3.mono (by have := HBW5.out.size; have := HSZ.out; omega))).grown hgr (by have := hb3.size; have := HBW5.out.size; have := HSZ.out; omega) (fun y hy => (HG3.lt y hy).1)
          obtain ⟨g', cap', rfl⟩ : ∃ g' cap', v' = .slice (some ⟨g', 0, none⟩) (r.length + 1) cap' := by
            rcases hrow.2 with ⟨_, h⟩ | ⟨g', cap', cur, h, _⟩
            · omega
            · exact ⟨g', cap', h⟩
          have hnew2 : ∀ z ∈ r ++ [⟨⟨xk, xpos, xpath⟩, .slice xpp xpos.length xpc, .slice xqp xpath.length xqc⟩], OwnLF w.heap.size w' z := fun z hz => ((HMEM.out z hz).below hb3).kept HG3 hgr
          have HNEW := Lib.hid hnew2
          clear hnew2
          have HRW := Lib.hid hrow
          have HBW := Lib.hid hbw'
          clear hrow hbw' hgr HG3 hb3 hnew
          go_wp2
          go_roundw
          case rel =>
            refine ⟨j + 1, by omega, by go_num, r ++ [⟨⟨xk, xpos, xpath⟩, .slice xpp xpos.length xpc, .slice xqp xpath.length xqc⟩], some ⟨g', 0, none⟩, cap', by rw [List.length_append]; rfl, Lib.hid ?_, Lib.hid ?_, HNEW, HBW⟩
            · have h := HRW.out
              rw [List.length_append, fC_app]
              exact h
            · rw [List.map_append, HM.out, List.take_add_one, HY.out]
              have h := HF.out
              dsimp only at h
              simp only [List.map_append, List.append_assoc, List.map_cons, List.map_nil, Option.toList]
              rw [h]
          case measure => simp [intOf]; omega
        · go_wp2
          go_roundw
          case rel =>
            refine ⟨i + 1, by omega, by go_num, r, sp, sc, rfl, HO, Lib.hid ?_, HW, HBwr⟩
            rw [HM.out, cat_take HX.out, show l.take j = l from List.take_of_length_le (by omega)]
          case measure => simp [intOf]; omega
    · have hall := HM.out
      rw [List.take_of_length_le (by omega)] at hall
      have hlr : List.length r ≤ 4194304 := by
        have h := congrArg List.length hall
        simp only [List.length_map] at h
        have := HCAT.out
        omega
      have hF : FsAt wr.heap.size wr sp r := by
        obtain ⟨p', c', e1, h⟩ := fsAt_row HO.out (fun x hx => (HW.out x hx).lok)
        cases e1
        exact h
      have C2 := Lib.hid (ordered_at (List.length r) r (Nat.le_refl _) (by unfold big; omega) sp sc wr (row_cap HO.out) hF)
      have HALL := Lib.hid hall
      clear hall hF hlr
      go_wp2_with (go_at_call 31; refine C2.out.mono ?_; rintro e w5 ⟨p', c', rfl, hF, hb5, hat⟩; have HAT := Lib.hid hat; clear hat)
      go_ret
      refine ⟨p', c', r, rfl, HALL.out, hF, HB.out.trans (hb5.mono HB.out.size), fun ad e => ?_, fun x hx => (HW.out x hx).below hb5⟩
      rcases HAT.out with h | h
      · exact (HO.out.lt ad.block (by rw [← h, e]; rfl)).1
      · exact Nat.le_trans HB.out.size (h ad e)
theorem refFaults_any (L : List (Value × List LF)) (p : Option Addr) (c : Nat) (w : World) (hL : LsAt w.heap.size w p L) (hlen : L.length ≤ big) (hcat : (cat L).length ≤ big) :
    Calls Tryz.prog 11 #[.slice p L.length c] w (fun e w' => ∃ p' c' r, e = .returned (.slice p' (ordL cF (List.length r) r).length c') ∧ r.map LF.f = (cat L).map (fun x => cleanF x.f) ∧ FsAt w'.heap.size w' p' (ordL cF (List.length r) r) ∧ Below w.heap.size w w') :=
  (refFaults_own L p c w hL hlen hcat).mono fun e w' ⟨p', c', r, a1, a2, a3, a4, _⟩ => ⟨p', c', r, a1, a2, a3, a4⟩
end Go.Proofs.YtnmnmkdmnohbmaaGreatDoor
