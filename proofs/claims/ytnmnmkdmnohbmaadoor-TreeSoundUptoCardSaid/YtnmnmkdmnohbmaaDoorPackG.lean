/- Several texts in one: The reference's SameSteps: all fields alike. Helper text: a rule for regions that draw their order, where two operations may come in either order. Helper text: plans for regions that draw their order, with forks. Conditions: none. -/
import Derived.Test.YtnmnmkdmnohbmaaDoorSteps
import Derived.Test.YtnmnmkdmnohbmaaDoorDraw
namespace Go.Proofs.YtnmnmkdmnohbmaaDoor
open Go.RowKit

theorem st_eqd {x y : St} : x = y ↔ x.it = y.it ∧ x.ix = y.ix ∧ (x.nm.toList == y.nm.toList) = true := by
  obtain ⟨n, i, b⟩ := x
  obtain ⟨n2, i2, b2⟩ := y
  constructor
  · rintro h
    cases h
    simp
  · rintro ⟨h1, h2, h3⟩
    dsimp only at *
    subst h1 h2
    have h4 : n.toList = n2.toList := by simpa using h3
    have : n = n2 := by
      have h5 : n.data = n2.data := by
        rw [ByteArray.toList_eq, ByteArray.toList_eq] at h4
        exact Array.toList_inj.1 h4
      obtain ⟨d⟩ := n
      obtain ⟨d2⟩ := n2
      cases h5
      rfl
    rw [this]

set_option maxRecDepth 100000 in
set_option maxHeartbeats 4000000 in
theorem SameSteps_d (a b : List St) (p q : Option Addr) (c d : Nat) (w : World) (ha : StepsAt w.heap.size w p a) (hb : StepsAt w.heap.size w q b) (la : a.length ≤ 4194304) (lb : b.length ≤ 4194304) :
    Calls Tryd.prog 15 #[.slice p a.length c, .slice q b.length d] w (fun e w' => ∃ r : Bool, e = .returned (.bool r) ∧ (r = true ↔ a = b) ∧ Below w.heap.size w w') := by
  by_cases hlen : a.length = b.length
  · have HLEN := Lib.hid hlen
    have hd5 : ((a.length : Int) != (b.length : Int)) = false := by simp [hlen]
    clear hlen
    go_enter Tryd.func15, Tryd.ntmps15
    go_wp2
    clear hd5
    go_loopw [5] (fun i wr => ∃ k : Nat, k ≤ a.length ∧ i = .int .i64 k ∧ Hid (a.take k = b.take k) ∧ Hid (Below w.heap.size w wr)) (fun i _ => a.length - (intOf i).toNat)
    case atStart => exact ⟨0, Nat.zero_le _, rfl, rfl, Lib.hid (Below.refl _ _)⟩
    case round =>
      obtain ⟨k, hka, rfl, hcmp, HBwr⟩ := hrel
      by_cases h1 : k < a.length
      · have h2 : k < b.length := by have := HLEN.out; omega
        obtain ⟨x, hx⟩ : ∃ x, a[k]? = some x := ⟨a[k], by simp [h1]⟩
        obtain ⟨y, hy⟩ : ∃ y, b[k]? = some y := ⟨b[k], by simp [h2]⟩
        rcases ha with ha | ⟨ba, oa, rfl, hBa, hca⟩
        · subst ha; simp at h1
        rcases hb with hb | ⟨bb, ob, rfl, hBb, hcb⟩
        · subst hb; simp at h2
        obtain ⟨a1, a2, a3⟩ := hca k x hx
        obtain ⟨b1, b2, b3⟩ := hcb k y hy
        have a1 := (HBwr.out.cell (p := ⟨ba, oa + k * 3, none⟩) hBa).trans a1
        have a2 := (HBwr.out.cell (p := ⟨ba, oa + k * 3 + 1, none⟩) hBa).trans a2
        have a3 := (HBwr.out.cell (p := ⟨ba, oa + k * 3 + 2, none⟩) hBa).trans a3
        have b1 := (HBwr.out.cell (p := ⟨bb, ob + k * 3, none⟩) hBb).trans b1
        have b2 := (HBwr.out.cell (p := ⟨bb, ob + k * 3 + 1, none⟩) hBb).trans b2
        have b3 := (HBwr.out.cell (p := ⟨bb, ob + k * 3 + 2, none⟩) hBb).trans b3
        have hw1 : ba < wr.heap.size := Nat.lt_of_lt_of_le hBa HBwr.out.size
        have hw2 : bb < wr.heap.size := Nat.lt_of_lt_of_le hBb HBwr.out.size
        have HE : Hid ((x.it = y.it ∧ x.ix = y.ix ∧ (x.nm.toList == y.nm.toList) = true → a.take (k + 1) = b.take (k + 1)) ∧ (¬ (x.it = y.it ∧ x.ix = y.ix ∧ (x.nm.toList == y.nm.toList) = true) → ¬ a = b)) := Lib.hid ⟨fun h => by
            rw [List.take_add_one, List.take_add_one, hcmp.out, hx, hy, st_eqd.2 h], fun h e => h (st_eqd.1 (by subst e; rw [hx] at hy; exact Option.some.inj hy))⟩
        clear hca hcb hx hy
        obtain ⟨xn, xi, xt⟩ := x
        obtain ⟨yn, yi, yt⟩ := y
        dsimp only at a1 a2 a3 b1 b2 b3 HE
        have tail : ∀ W, W = wr → True := fun _ _ => trivial
        clear tail
        by_cases e1 : xt = yt
        · subst e1
          by_cases e2 : xi = yi
          · subst e2
            cases e3 : (xn.toList == yn.toList) with
            | true =>
              rw [e3] at HE
              cases xt <;> (
                go_wp2
                refine wp_region_plan_below 37 [(0, [0, 1, 2, 3, 4, 5, 6, 7, 8, 9, 10, 11, 12, 13, 14, 15, 16, 17, 18, 19, 20, 21, 22, 23, 24, 25, 26, 27, 28, 29, 30, 31, 32, 33, 34, 35, 36])] (by kernel_rfl) (by kernel_rfl) (fun _ _ _ _ h => h) ?_
                simp only [wpSegs, pickOps, List.getElem?_toArray, List.getElem?_cons_zero, List.getElem?_cons_succ]
                have kc := cell_cls wr
                iterate 37 (go_big_quiet_step (fail))
                refine wpQuiet_nil ?_
                clear kc
                go_wp2
                go_roundw
                case rel => exact ⟨k + 1, by omega, by go_num, HE.out.1 (by simp), Lib.hid (HBwr.out.trans ((Below.drew (Below.refl wr.heap.size wr)).mono HBwr.out.size))⟩
                case measure => simp [intOf]; omega)
            | false =>
              rw [e3] at HE
              have HN := HE.out.2 (by simp)
              clear HE
              cases xt <;> (
                go_wp2
                refine wp_region_plan_below 37 [(0, [0, 1, 2, 3, 4, 5, 6, 7, 8, 9, 10, 11, 12, 13, 14, 15, 16, 17, 18, 19, 20, 21, 22, 23, 24, 25, 26, 27, 28, 29, 30, 31, 32, 33, 34, 35, 36])] (by kernel_rfl) (by kernel_rfl) (fun _ _ _ _ h => h) ?_
                simp only [wpSegs, pickOps, List.getElem?_toArray, List.getElem?_cons_zero, List.getElem?_cons_succ]
                have kc := cell_cls wr
                iterate 37 (go_big_quiet_step (fail))
                refine wpQuiet_nil ?_
                clear kc
                go_wp2
                go_ret
                exact ⟨false, rfl, by simp [HN], HBwr.out.trans ((Below.drew (Below.refl wr.heap.size wr)).mono HBwr.out.size)⟩)
          · have HN := HE.out.2 (by simp [e2])
            have e2' : decide (xi = yi) = false := decide_eq_false e2
            have e3' : decide (¬ xi = yi) = true := decide_eq_true e2
            have e4' : (xi != yi) = true := by simp [e2]
            have e5' : (xi == yi) = false := by simp [e2]
            clear HE
            cases xt <;> (
                go_wp2
                refine wp_region_plan_below 37 [(0, [0, 1, 2, 3, 4, 5, 6, 7, 8, 9, 10, 11, 12, 13, 14, 15, 16, 17, 18, 19, 20, 21, 22, 23, 24, 25, 26, 27, 28, 29, 30, 31, 32, 33, 34, 35, 36])] (by kernel_rfl) (by kernel_rfl) (fun _ _ _ _ h => h) ?_
                simp only [wpSegs, pickOps, List.getElem?_toArray, List.getElem?_cons_zero, List.getElem?_cons_succ]
                have kc := cell_cls wr
                iterate 37 (go_big_quiet_step (fail))
                refine wpQuiet_nil ?_
                clear kc
                go_wp2
                go_ret
                exact ⟨false, rfl, by simp [HN], HBwr.out.trans ((Below.drew (Below.refl wr.heap.size wr)).mono HBwr.out.size)⟩)
        · have HN := HE.out.2 (by simp [e1])
          clear HE
          cases xt <;> cases yt <;> first | exact absurd rfl e1 | (
                clear e1
                go_wp2
                refine wp_region_plan_below 37 [(0, [0, 1, 2, 3, 4, 5, 6, 7, 8, 9, 10, 11, 12, 13, 14, 15, 16, 17, 18, 19, 20, 21, 22, 23, 24, 25, 26, 27, 28, 29, 30, 31, 32, 33, 34, 35, 36])] (by kernel_rfl) (by kernel_rfl) (fun _ _ _ _ h => h) ?_
                simp only [wpSegs, pickOps, List.getElem?_toArray, List.getElem?_cons_zero, List.getElem?_cons_succ]
                have kc := cell_cls wr
                iterate 37 (go_big_quiet_step (fail))
                refine wpQuiet_nil ?_
                clear kc
                go_wp2
                go_ret
                exact ⟨false, rfl, by simp [HN], HBwr.out.trans ((Below.drew (Below.refl wr.heap.size wr)).mono HBwr.out.size)⟩)
      · have hall := hcmp.out
        rw [List.take_of_length_le (by omega), List.take_of_length_le (by have := HLEN.out; omega)] at hall
        have HA := Lib.hid hall
        clear hall
        go_wp2
        go_ret
        exact ⟨true, rfl, by simp [HA.out], HBwr.out⟩
  · have hne : ¬ a = b := fun e => hlen (by rw [e])
    have HN := Lib.hid hne
    have hd : decide (a.length = b.length) = false := decide_eq_false hlen
    clear hne
    go_enter Tryd.func15, Tryd.ntmps15
    go_wp2
    go_ret
    exact ⟨false, rfl, by simp [HN.out], Below.refl _ _⟩

end Go.Proofs.YtnmnmkdmnohbmaaDoor

namespace Go.Proofs.YtnmnmkdmnohbmaaDoor
open Go Go.RowKit
section
variable {P : Program} {ops : Array Oper} {Q : Exit → Act → World → Prop} {md : Region.Mode} {C : World → Prop} {m : Nat}

theorem wpOp_of_listC {N : Act → World → Prop} {i fuel : Nat} {listed : Array Bool} {a : Act} {w : World} (hC : C w) (hi : i ∈ Region.ready md ops listed)
    (hN : ∀ a' w', C w' → N a' w' → wpAnyC P md ops C m Q fuel (listed.setIfInBounds i true) a' w') (h : wpListC P ops C Q N (pickOps ops [i]) a w) :
    wpOp P ops Q i (fun a' w' => (i < m → C w') ∧ wpAnyC P md ops C m Q fuel (listed.setIfInBounds i true) a' w') a w := by
  obtain ⟨_, o, ho, _⟩ := mem_ready.1 hi
  rw [pickOps_cons ho] at h
  unfold wpOp
  rw [ho]
  simp only []
  unfold wpListC at h
  by_cases hw : Region.wanted o (yielded ops a.tmps) = true
  · rw [if_pos hw] at h
    rw [if_pos hw]
    exact .inl (Oper.wp_mono (fun a' w' h' => ⟨fun _ => h'.1, hN a' w' h'.1 h'.2⟩) h)
  · rw [if_neg hw] at h
    rw [if_neg hw]
    exact ⟨fun _ => hC, hN _ w hC h⟩

/-- The Bool that the kernel is asked: heads, then a fork. -/
def forkB (ops : Array Oper) (m : Nat) (l0 : List Nat) (i1 i2 : Nat) (s1 s2 : List (Nat × List Nat)) : Bool :=
  Region.noSelect ops && decide (l0.length + (segsLen s1 + 1) = ops.size) && decide (segsLen s1 = segsLen s2) && headsB .any ops m l0 (Array.replicate ops.size false) &&
    decide (Region.ready .any ops (listAll l0 (Array.replicate ops.size false)) = [i1, i2]) &&
    segsB .any ops m s1 ((listAll l0 (Array.replicate ops.size false)).setIfInBounds i1 true) && segsB .any ops m s2 ((listAll l0 (Array.replicate ops.size false)).setIfInBounds i2 true)

theorem wp_region_fork_below {id : Nat} {a : Act} {w : World} {l : List Oper} (m : Nat) (l0 : List Nat) (i1 i2 : Nat) (s1 s2 : List (Nat × List Nat)) (hm : P.follows .mixedOrders = true) (hB : forkB l.toArray m l0 i1 i2 s1 s2 = true)
    (hQ : ∀ c a t w, Q (.panic c) { a with tmps := t } w → Q (.panic c) a w)
    (h : wpQuiet P l.toArray (Cls w) (fun a' => wpListC P l.toArray (Cls w) Q (wpSegs P l.toArray (Cls w) Q s1) (pickOps l.toArray [i1]) a' { w with drawn := w.drawn + 1 } ∧
      wpListC P l.toArray (Cls w) Q (wpSegs P l.toArray (Cls w) Q s2) (pickOps l.toArray [i2]) a' { w with drawn := w.drawn + 1 }) (pickOps l.toArray l0) a) : (Code.region id l.toArray true).wp P Q a w := by
  simp only [forkB, Bool.and_eq_true, decide_eq_true_eq] at hB
  obtain ⟨⟨⟨⟨⟨⟨hs, hl⟩, he⟩, hh⟩, hr⟩, h1⟩, h2⟩ := hB
  refine wp_region_any hm (wpAny_of_C (m := m) (C := Cls w) _ _ _ _ ?_)
  rw [← hl]
  refine wpAnyC_heads hs hQ (cls_drew w) l0 _ a (by rw [Array.size_replicate]; exact hl) (by rw [hl]; exact hh) (fun a' h' => ?_) h
  rw [hl]
  refine ⟨fun h0 => (by rw [hr] at h0; cases h0), fun j hj => ?_⟩
  have hj' := hj
  rw [hr] at hj
  simp only [List.mem_cons, List.not_mem_nil, or_false] at hj
  rcases hj with rfl | rfl
  · exact wpOp_of_listC (cls_drew w) hj' (fun a'' w'' hC hN => wpAnyC_segs hs hQ s1 _ a'' w'' (by simp [listAll_size]) hC h1 hN) h'.1
  · rw [he]
    exact wpOp_of_listC (cls_drew w) hj' (fun a'' w'' hC hN => wpAnyC_segs hs hQ s2 _ a'' w'' (by simp [listAll_size]) hC h2 hN) h'.2
end
end Go.Proofs.YtnmnmkdmnohbmaaDoor

namespace Go.Proofs.YtnmnmkdmnohbmaaDoor
open Go Go.RowKit
section
variable {P : Program} {ops : Array Oper} {Q : Exit → Act → World → Prop} {md : Region.Mode} {C : World → Prop} {m : Nat}

/-- A plan: heads that are only read, operations in their forced order that stay in the class, a tail, a fork of two operations of the class. -/
inductive Plan where
  | done
  | heads (l : List Nat) (p : Plan)
  | chain (l : List Nat) (p : Plan)
  | tail (l : List Nat)
  | fork (i : Nat) (p : Plan) (j : Nat) (q : Plan)

def wpPlan (P : Program) (ops : Array Oper) (C : World → Prop) (Q : Exit → Act → World → Prop) : Plan → Act → World → Prop
  | .done, a, w => Q .normal a w
  | .heads l p, a, w => wpQuiet P ops C (fun a' => wpPlan P ops C Q p a' w) (pickOps ops l) a
  | .chain l p, a, w => wpListC P ops C Q (wpPlan P ops C Q p) (pickOps ops l) a w
  | .tail l, a, w => wpList P ops Q (pickOps ops l) a w
  | .fork i p j q, a, w => wpListC P ops C Q (wpPlan P ops C Q p) (pickOps ops [i]) a w ∧ wpListC P ops C Q (wpPlan P ops C Q q) (pickOps ops [j]) a w

def planLen : Plan → Nat
  | .done => 0
  | .heads l p => l.length + planLen p
  | .chain l p => l.length + planLen p
  | .tail l => l.length
  | .fork _ p _ _ => planLen p + 1

def planOk (md : Region.Mode) (ops : Array Oper) (m : Nat) : Plan → Array Bool → Bool
  | .done, listed => (Region.ready md ops listed).isEmpty
  | .heads l p, listed => headsB md ops m l listed && planOk md ops m p (listAll l listed)
  | .chain l p, listed => chainB md ops l listed && planOk md ops m p (listAll l listed)
  | .tail l, listed => l.all (fun i => decide (m ≤ i)) && chainB md ops l listed && (Region.ready md ops (listAll l listed)).isEmpty
  | .fork i p j q, listed => decide (Region.ready md ops listed = [i, j]) && decide (planLen p = planLen q) && planOk md ops m p (listed.setIfInBounds i true) && planOk md ops m q (listed.setIfInBounds j true)

theorem wpAnyC_plan (hs : Region.noSelect ops = true) (hQ : ∀ c a t w, Q (.panic c) { a with tmps := t } w → Q (.panic c) a w) :
    ∀ (p : Plan) (listed : Array Bool) (a : Act) (w : World), listed.size = ops.size → C w → planOk md ops m p listed = true →
      wpPlan P ops C Q p a w → wpAnyC P md ops C m Q (planLen p) listed a w
  | .done, listed, a, w, _, _, hB, h => ⟨by simpa [planOk] using hB, h⟩
  | .heads l p, listed, a, w, hz, hC, hB, h => by
    simp only [planOk, Bool.and_eq_true] at hB
    exact wpAnyC_heads hs hQ hC l listed a hz hB.1 (fun a' h' => wpAnyC_plan hs hQ p _ a' w (by rw [listAll_size]; exact hz) hC hB.2 h') h
  | .chain l p, listed, a, w, hz, hC, hB, h => by
    simp only [planOk, Bool.and_eq_true] at hB
    exact wpAnyC_listC l listed a w hC hB.1 (fun a' w' hC' h' => wpAnyC_plan hs hQ p _ a' w' (by rw [listAll_size]; exact hz) hC' hB.2 h') h
  | .tail l, listed, a, w, hz, hC, hB, h => by
    simp only [planOk, Bool.and_eq_true] at hB
    exact wpAnyC_list l listed a w hB.1.1 hB.1.2 (by simpa using hB.2) h
  | .fork i p j q, listed, a, w, hz, hC, hB, h => by
    simp only [planOk, Bool.and_eq_true, decide_eq_true_eq] at hB
    obtain ⟨⟨⟨hr, he⟩, h1⟩, h2⟩ := hB
    refine ⟨fun h0 => (by rw [hr] at h0; cases h0), fun x hx => ?_⟩
    have hx' := hx
    rw [hr] at hx
    simp only [List.mem_cons, List.not_mem_nil, or_false] at hx
    rcases hx with rfl | rfl
    · exact wpOp_of_listC hC hx' (fun a'' w'' hC hN => wpAnyC_plan hs hQ p _ a'' w'' (by simpa using hz) hC h1 hN) h.1
    · show wpOp P ops Q x (fun a' w' => (x < m → C w') ∧ wpAnyC P md ops C m Q (planLen p) (listed.setIfInBounds x true) a' w') a w
      rw [he]
      exact wpOp_of_listC hC hx' (fun a'' w'' hC hN => wpAnyC_plan hs hQ q _ a'' w'' (by simpa using hz) hC h2 hN) h.2

def planBool (ops : Array Oper) (m : Nat) (p : Plan) : Bool :=
  Region.noSelect ops && decide (planLen p = ops.size) && planOk .any ops m p (Array.replicate ops.size false)

theorem wp_region_tree_below {id : Nat} {a : Act} {w : World} {l : List Oper} (m : Nat) (p : Plan) (hm : P.follows .mixedOrders = true) (hB : planBool l.toArray m p = true)
    (hQ : ∀ c a t w, Q (.panic c) { a with tmps := t } w → Q (.panic c) a w) (h : wpPlan P l.toArray (Cls w) Q p a { w with drawn := w.drawn + 1 }) : (Code.region id l.toArray true).wp P Q a w := by
  simp only [planBool, Bool.and_eq_true, decide_eq_true_eq] at hB
  refine wp_region_any hm (wpAny_of_C (m := m) (C := Cls w) _ _ _ _ ?_)
  rw [← hB.1.2]
  exact wpAnyC_plan hB.1.1 hQ p _ a _ (by rw [Array.size_replicate]; exact hB.1.2) (cls_drew w) (by rw [hB.1.2]; exact hB.2) h
end
end Go.Proofs.YtnmnmkdmnohbmaaDoor
