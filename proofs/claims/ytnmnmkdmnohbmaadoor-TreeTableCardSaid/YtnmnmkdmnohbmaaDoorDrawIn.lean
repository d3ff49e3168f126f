/- A region that draws its order within a round, whose last operations may call yield: reads first, a chain, then the rest in its forced order. Conditions: none. -/
import Derived.Test.YtnmnmkdmnohbmaaDoorRound
import Derived.TacticsIn
namespace Go.Proofs.YtnmnmkdmnohbmaaDoor
open Go Go.RowKit
section
variable {n r : Nat} {P : Program} {ops : Array Oper} {Q : Exit → Act → World → Prop} {md : Region.Mode} {C : World → Prop} {m : Nat}

/-- Whatever order is picked; each operation with a number below m lands in the class C. -/
def wpAnyD (n r : Nat) (P : Program) (md : Region.Mode) (ops : Array Oper) (C : World → Prop) (m : Nat) (Q : Exit → Act → World → Prop) : Nat → Array Bool → Act → World → Prop
  | 0, listed, a, w => Region.ready md ops listed = [] ∧ Q .normal a w
  | fuel + 1, listed, a, w =>
    (Region.ready md ops listed = [] → Q .normal a w) ∧
    ∀ i ∈ Region.ready md ops listed, wpOpIn (Fence.wide.inRound r) n P ops Q i (fun a' w' => (i < m → C w') ∧ wpAnyD n r P md ops C m Q fuel (listed.setIfInBounds i true) a' w') a w

theorem wpAnyIn_of_D : ∀ (fuel : Nat) (listed : Array Bool) (a : Act) (w : World), wpAnyD n r P md ops C m Q fuel listed a w → wpAnyIn (Fence.wide.inRound r) n P md ops Q fuel listed a w
  | 0, _, _, _, h => h
  | fuel + 1, _, _, _, h => ⟨h.1, fun i hi => wpOpIn_mono (fun a' w' h' => wpAnyIn_of_D fuel _ a' w' h'.2) (h.2 i hi)⟩

theorem YieldsC.wpOpIn {i : Nat} {o : Oper} {v : Value} {a : Act} (hd : plainOps ops = true) (hi : ops[i]? = some o) (hy : YieldsC P ops C o v a)
    {K : Act → World → Prop} {w : World} (hC : C w) (h : K (a.put o.dst v) w) : wpOpIn (Fence.wide.inRound r) n P ops Q i K a w := by
  unfold Go.wpOpIn
  simp only [hi]
  rcases hy with ⟨hw, hv⟩ | ⟨hw, rfl⟩
  · simp only [hw, if_true]
    refine ⟨fun _ _ => trivial, ?_⟩
    rw [Oper.semAt_eq _ _ _ (plainOps_spec hd hi), hv w hC]
    exact h
  · simp only [hw, Bool.false_eq_true, if_false]
    exact ⟨fun _ _ => trivial, h⟩

theorem wpOpIn_putC {j : Nat} {oi oj : Oper} {v : Value} (hd : plainOps ops = true) (hj : ops[j]? = some oj) (hap : oi.apart ops oj = true)
    (hsi : ∀ cs b, oi.op ≠ .select cs b) (hsj : ∀ cs b, oj.op ≠ .select cs b)
    (hQ : ∀ c a t w, Q (.panic c) { a with tmps := t } w → Q (.panic c) a w) {K : Act → World → Prop} {a : Act} {w : World}
    (hy : YieldsC P ops C oi v a) (h : wpOpIn (Fence.wide.inRound r) n P ops Q j K (a.put oi.dst v) w) :
    wpOpIn (Fence.wide.inRound r) n P ops Q j (fun a' w' => YieldsC P ops C oi v a' ∧ K (a'.put oi.dst v) w') a w := by
  obtain ⟨h1, h2, h3⟩ := Oper.apart_spec hap
  have keep : ∀ (a : Act), YieldsC P ops C oi v a → ∀ u, YieldsC P ops C oi v (a.put oj.dst u) := fun a hy u =>
    hy.of_same (execOp_put oi hsi a oj.dst u h3) (wanted_put oi a oj.dst u h3)
  have keepD : ∀ d, YieldsC P ops C oi v { a with defers := d :: a.defers } := fun d => hy.of_same rfl rfl
  have hpl := plainOps_spec hd hj
  unfold wpOpIn at *
  simp only [hj] at *
  rw [wanted_put oj a oi.dst v h1] at h
  split
  · rename_i hw
    simp only [hw, if_true] at h
    refine ⟨fun _ _ => trivial, ?_⟩
    have h := h.2
    rw [Oper.semAt_eq _ _ _ hpl] at h ⊢
    rw [execOp_put oj hsj a oi.dst v h1] at h
    generalize (execOp a.eval oj).run P w = x at *
    cases x with
    | ok x w' =>
      cases x <;> simp only [Oper.uponIn] at h ⊢
      case value u => exact ⟨keep a hy u, by rw [← Act.put_comm a v u h2]; exact h⟩
      case skip => exact ⟨keep a hy _, by rw [← Act.put_comm a v undef h2]; exact h⟩
      case defer d =>
        refine ⟨keep _ (keepD d) _, ?_⟩
        rw [← Act.put_comm _ v undef h2, ← Act.put_defers]
        exact h
      case enter f args =>
        refine ⟨h.1, CallsIn.mono h.2 fun e w'' he => ?_⟩
        cases e with
        | returned u => exact ⟨keep a hy u, by rw [← Act.put_comm a v u h2]; exact he⟩
        | panicked c => exact panic_put hQ he
        | outgrown => exact he
      case row row args => exact ⟨h.1, RowsIn.mono h.2 fun u w'' he => ⟨keep a hy u, by rw [← Act.put_comm a v u h2]; exact he⟩⟩
      case round l f tmps assign body =>
        refine ⟨h.1, RoundIn.mono h.2 fun e w'' he => ?_⟩
        cases e with
        | returned u => exact ⟨keep a hy u, by rw [← Act.put_comm a v u h2]; exact he⟩
        | panicked c => exact panic_put hQ he
        | outgrown => exact he
    | halt x w' =>
      cases x <;> simp only [Oper.uponIn] at h ⊢
      case panic u => exact panic_put hQ h
  · rename_i hw
    simp only [hw] at h
    exact ⟨fun _ _ => trivial, keep a hy _, by rw [← Act.put_comm a v undef h2]; exact h.2⟩

theorem wpAnyD_first {i : Nat} {oi : Oper} {v : Value} (hd : plainOps ops = true) (hi : ops[i]? = some oi) (hsel : ∀ (j : Nat) (o : Oper) cs b, ops[j]? = some o → o.op ≠ .select cs b)
    (hQ : ∀ c a t w, Q (.panic c) { a with tmps := t } w → Q (.panic c) a w) (D : Nat → Bool)
    (hD : ∀ j, D j = true → ∃ oj, ops[j]? = some oj ∧ ∃ e ∈ oj.after, Region.binds md e = true ∧ (e.on = i ∨ D e.on = true)) :
    ∀ (fuel : Nat) (listed : Array Bool) (a : Act) (w : World),
      (∀ j oj, ops[j]? = some oj → j ≠ i → listed.getD j true = false → (∀ e ∈ oj.after, Region.binds md e = true → e.on ≠ i) → oi.apart ops oj = true) →
      (∀ j, D j = true → listed.getD j true = false) →
      (∀ j, j ≠ i → listed.getD j true = false → D j = false → j < m) →
      i ∈ Region.ready md ops listed → YieldsC P ops C oi v a → C w →
      wpAnyD n r P md ops C m Q fuel (listed.setIfInBounds i true) (a.put oi.dst v) w → wpAnyD n r P md ops C m Q (fuel + 1) listed a w := by
  intro fuel
  induction fuel with
  | zero =>
    intro listed a w _ _ _ hr hy hC H
    refine ⟨fun h => (by rw [h] at hr; cases hr), fun j hj => ?_⟩
    by_cases hji : j = i
    · subst hji; exact hy.wpOpIn hd hi hC ⟨fun _ => hC, H⟩
    · have := ready_mono hj hji
      rw [H.1] at this
      cases this
  | succ fuel ih =>
    intro listed a w hfree hDl hE hr hy hC H
    refine ⟨fun h => (by rw [h] at hr; cases hr), fun j hj => ?_⟩
    by_cases hji : j = i
    · subst hji; exact hy.wpOpIn hd hi hC ⟨fun _ => hC, H⟩
    · have h1 := H.2 j (ready_mono hj hji)
      obtain ⟨hjun, oj, hoj, hall⟩ := mem_ready.1 hj
      have hiun := (mem_ready.1 hr).1
      have hDj : D j = false := by
        cases hd : D j with
        | false => rfl
        | true =>
          obtain ⟨oj', hoj', e, he, hb, hon⟩ := hD j hd
          have : oj' = oj := Option.some.inj (hoj'.symm.trans hoj)
          subst this
          have h0 := hall e he hb
          rcases hon with hon | hon
          · rw [hon, getD_both hiun] at h0; cases h0
          · rw [getD_both (hDl _ hon)] at h0; cases h0
      have hjm : j < m := hE j hji hjun hDj
      have hnot : ∀ e ∈ oj.after, Region.binds md e = true → e.on ≠ i := fun e he hb heq => by
        have h1 := hall e he hb
        rw [heq, getD_both hiun] at h1
        cases h1
      have h2 := wpOpIn_putC hd hoj (hfree j oj hoj hji hjun hnot) (fun cs b => hsel i oi cs b hi) (fun cs b => hsel j oj cs b hoj) hQ hy h1
      have hfree' : ∀ k ok, ops[k]? = some ok → k ≠ i → (listed.setIfInBounds j true).getD k true = false →
          (∀ e ∈ ok.after, Region.binds md e = true → e.on ≠ i) → oi.apart ops ok = true := fun k ok hk hki hun hno => by
        refine hfree k ok hk hki ?_ hno
        by_cases hjk : j = k
        · subst hjk; exact hjun
        · rw [getD_set_ne true hjk] at hun; exact hun
      have hDl' : ∀ k, D k = true → (listed.setIfInBounds j true).getD k true = false := fun k hk => by
        rw [getD_set_ne true (fun h => by subst h; rw [hDj] at hk; cases hk)]
        exact hDl k hk
      have hE' : ∀ k, k ≠ i → (listed.setIfInBounds j true).getD k true = false → D k = false → k < m := fun k hki hun hd => by
        by_cases hjk : j = k
        · subst hjk; exact hjm
        · rw [getD_set_ne true hjk] at hun; exact hE k hki hun hd
      refine wpOpIn_mono (fun a' w' h3 => ⟨h3.2.1, ih (listed.setIfInBounds j true) a' w' hfree' hDl' hE' (ready_mono hr (Ne.symm hji)) h3.1 (h3.2.1 hjm) ?_⟩) h2
      rw [Array.setIfInBounds_comm _ _ hji]
      exact h3.2.2

theorem wpAnyD_take {i : Nat} {oi : Oper} {v : Value} {fuel : Nat} {listed : Array Bool} {a : Act} {w : World} (hd : plainOps ops = true) (hi : ops[i]? = some oi)
    (hs : Region.noSelect ops = true) (hf : firstB md ops m listed i = true) (hsz : listed.size = ops.size)
    (hQ : ∀ c a t w, Q (.panic c) { a with tmps := t } w → Q (.panic c) a w) (hy : YieldsC P ops C oi v a) (hC : C w)
    (h : wpAnyD n r P md ops C m Q fuel (listed.setIfInBounds i true) (a.put oi.dst v) w) : wpAnyD n r P md ops C m Q (fuel + 1) listed a w := by
  simp only [firstB, Bool.and_eq_true, List.all_eq_true, List.mem_range] at hf
  obtain ⟨⟨hr, hfr⟩, hall⟩ := hf
  refine wpAnyD_first hd hi (Region.noSelect_spec hs) hQ (fun j => decide (j < ops.size) && ((Region.before ops).getD j 0).testBit i) ?_ fuel listed a w (Region.free_spec hi hfr) ?_ ?_ (by simpa using hr) hy hC h
  · intro j hj
    simp only [Bool.and_eq_true, decide_eq_true_eq] at hj
    have h0 := hall j hj.1
    rw [if_pos hj.2] at h0
    simp only [Bool.and_eq_true] at h0
    cases ho : ops[j]? with
    | none => rw [ho] at h0; exact absurd h0.2 (by simp)
    | some oj =>
      rw [ho] at h0
      obtain ⟨e, he, hb⟩ := Array.any_eq_true'.1 h0.2
      rw [Bool.and_eq_true, Bool.or_eq_true, beq_iff_eq] at hb
      exact ⟨oj, rfl, e, he, hb.1, hb.2⟩
  · intro j hj
    simp only [Bool.and_eq_true, decide_eq_true_eq] at hj
    have h0 := hall j hj.1
    rw [if_pos hj.2] at h0
    simp only [Bool.and_eq_true, Bool.not_eq_true'] at h0
    exact h0.1
  · intro j hji hun hdd
    have hlt : j < ops.size := by
      rcases Nat.lt_or_ge j listed.size with h' | h'
      · omega
      · simp [Array.getElem?_eq_none h'] at hun
    have hb : ¬ ((Region.before ops).getD j 0).testBit i = true := by
      simp only [hlt, decide_true, Bool.true_and] at hdd
      rw [hdd]; simp
    have h0 := hall j hlt
    rw [if_neg hb, hun] at h0
    simp only [Bool.or_eq_true, beq_iff_eq, hji, false_or, Bool.false_eq_true, decide_eq_true_eq] at h0
    exact h0

/-- The segments of a plan, the last within the fence. -/
def wpSegsD (n r : Nat) (P : Program) (ops : Array Oper) (C : World → Prop) (Q : Exit → Act → World → Prop) : List (Nat × List Nat) → Act → World → Prop
  | [], a, w => Q .normal a w
  | (0, l) :: s, a, w => wpQuiet P ops C (fun a' => wpSegsD n r P ops C Q s a' w) (pickOps ops l) a
  | (1, l) :: s, a, w => wpListC P ops C (fun e a w => e ≠ .outgrown ∧ Q e a w) (wpSegsD n r P ops C Q s) (pickOps ops l) a w
  | (_ + 2, l) :: _, a, w => wpListIn (Fence.wide.inRound r) n P ops Q (pickOps ops l) a w

theorem wpAnyD_heads (hd : plainOps ops = true) (hs : Region.noSelect ops = true) (hQ : ∀ c a t w, Q (.panic c) { a with tmps := t } w → Q (.panic c) a w) {w : World} (hC : C w) {N : Act → Prop} {fuel : Nat} :
    ∀ (l : List Nat) (listed : Array Bool) (a : Act), listed.size = ops.size → headsB md ops m l listed = true →
      (∀ a', N a' → wpAnyD n r P md ops C m Q fuel (listAll l listed) a' w) → wpQuiet P ops C N (pickOps ops l) a → wpAnyD n r P md ops C m Q (l.length + fuel) listed a w
  | [], listed, a, _, _, hN, h => by simp only [List.length_nil, Nat.zero_add]; exact hN _ h
  | i :: s, listed, a, hz, hB, hN, h => by
    simp only [headsB, Bool.and_eq_true] at hB
    obtain ⟨⟨hr, hf⟩, hB'⟩ := hB
    unfold readAt at hr
    cases ho : ops[i]? with
    | none => rw [ho] at hr; cases hr
    | some o =>
      rw [ho] at hr
      simp only [Bool.and_eq_true] at hr
      rw [pickOps_cons ho] at h
      rw [show (i :: s).length + fuel = (s.length + fuel) + 1 by simp only [List.length_cons]; omega]
      have hz' : (listed.setIfInBounds i true).size = ops.size := by simp [hz]
      by_cases hw : Region.wanted o (yielded ops a.tmps) = true
      · simp only [wpQuiet, if_pos hw] at h
        obtain ⟨v, h1, h2⟩ := h
        exact wpAnyD_take hd ho hs hf hz hQ (yields_of_quiet hr.1 hw h1) hC (wpAnyD_heads hd hs hQ hC s _ _ hz' hB' hN h2)
      · have hw' : Region.wanted o (yielded ops a.tmps) = false := by simpa using hw
        simp only [wpQuiet, if_neg hw] at h
        exact wpAnyD_take hd ho hs hf hz hQ (.inr ⟨hw', rfl⟩) hC (wpAnyD_heads hd hs hQ hC s _ _ hz' hB' hN h)

theorem readyD_one {i : Nat} {listed : Array Bool} {fuel : Nat} {a : Act} {w : World} (hr : Region.ready md ops listed = [i])
    (h : wpOpIn (Fence.wide.inRound r) n P ops Q i (fun a' w' => (i < m → C w') ∧ wpAnyD n r P md ops C m Q fuel (listed.setIfInBounds i true) a' w') a w) : wpAnyD n r P md ops C m Q (fuel + 1) listed a w :=
  ⟨fun h0 => (by rw [hr] at h0; cases h0), fun j hj => by rw [hr] at hj; obtain rfl := List.mem_singleton.1 hj; exact h⟩

/-- One operation of a chain: walked plainly, it holds within the fence. -/
theorem wpIn_of_wp {o : Oper} {K : Act → World → Prop} {a : Act} {w : World} (hd : ∀ c, o.op ≠ .defer c) (h : o.wp P a w K (fun e a w => e ≠ .outgrown ∧ Q e a w)) : o.wpIn (Fence.wide.inRound r) n P a w K Q := by
  refine ⟨fun _ _ => trivial, ?_⟩
  rw [Oper.semAt_eq _ _ _ hd]
  unfold Oper.wp at h
  generalize (execOp a.eval o).run P w = x at *
  cases x with
  | ok x w' =>
    cases x <;> simp only [Oper.upon, Oper.uponIn] at h ⊢
    case value u => exact h
    case skip => exact h
    case defer d => exact h
    case enter f args =>
      refine ⟨fun hx => absurd hx (by simp [Fence.inRound, Fence.wide]), CallsIn.inRound r (callsIn_wide.2 (h.mono fun e w'' he => ?_))⟩
      cases e with
      | returned u => exact he
      | panicked c => exact he.2
      | outgrown => obtain ⟨_, _, h1, _⟩ := (show LetsOut _ from he); exact absurd rfl h1
    case row row args =>
      refine ⟨fun hx => absurd hx (by simp [Fence.inRound, Fence.wide]), fun c cs _ => ?_⟩
      obtain ⟨v, w', r, s⟩ := h c cs
      exact ⟨v, w', r, (stepsIn_wide (P := P)).2 s⟩
  | halt x w' =>
    cases x <;> simp only [Oper.upon, Oper.uponIn] at h ⊢
    case panic u => exact h.2

theorem wpAnyD_listC (hd : plainOps ops = true) {N : Act → World → Prop} {fuel : Nat} :
    ∀ (l : List Nat) (listed : Array Bool) (a : Act) (w : World), C w → chainB md ops l listed = true →
      (∀ a' w', C w' → N a' w' → wpAnyD n r P md ops C m Q fuel (listAll l listed) a' w') → wpListC P ops C (fun e a w => e ≠ .outgrown ∧ Q e a w) N (pickOps ops l) a w → wpAnyD n r P md ops C m Q (l.length + fuel) listed a w
  | [], listed, a, w, hC, _, hN, h => by simp only [List.length_nil, Nat.zero_add]; exact hN _ _ hC h
  | i :: s, listed, a, w, hC, hB, hN, h => by
    simp only [chainB, Bool.and_eq_true, decide_eq_true_eq] at hB
    obtain ⟨hr, hB'⟩ := hB
    have hi : i ∈ Region.ready md ops listed := by rw [hr]; simp
    obtain ⟨_, o, ho, _⟩ := mem_ready.1 hi
    rw [pickOps_cons ho] at h
    rw [show (i :: s).length + fuel = (s.length + fuel) + 1 by simp only [List.length_cons]; omega]
    refine readyD_one hr ?_
    unfold wpOpIn
    rw [ho]
    simp only []
    unfold wpListC at h
    by_cases hw : Region.wanted o (yielded ops a.tmps) = true
    · rw [if_pos hw] at h
      rw [if_pos hw]
      exact wpIn_of_wp (plainOps_spec hd ho) (Oper.wp_mono (fun a' w' h' => ⟨fun _ => h'.1, wpAnyD_listC hd s _ a' w' h'.1 hB' hN h'.2⟩) h)
    · rw [if_neg hw] at h
      rw [if_neg hw]
      exact ⟨fun _ _ => trivial, fun _ => hC, wpAnyD_listC hd s _ _ w hC hB' hN h⟩

theorem wpAnyD_list :
    ∀ (l : List Nat) (listed : Array Bool) (a : Act) (w : World), l.all (fun i => decide (m ≤ i)) = true → chainB md ops l listed = true →
      Region.ready md ops (listAll l listed) = [] → wpListIn (Fence.wide.inRound r) n P ops Q (pickOps ops l) a w → wpAnyD n r P md ops C m Q l.length listed a w
  | [], listed, a, w, _, _, he, h => ⟨he, h⟩
  | i :: s, listed, a, w, hm, hB, he, h => by
    simp only [chainB, Bool.and_eq_true, decide_eq_true_eq] at hB
    simp only [List.all_cons, Bool.and_eq_true, decide_eq_true_eq] at hm
    obtain ⟨hr, hB'⟩ := hB
    have hi : i ∈ Region.ready md ops listed := by rw [hr]; simp
    obtain ⟨_, o, ho, _⟩ := mem_ready.1 hi
    rw [pickOps_cons ho] at h
    refine readyD_one hr ?_
    unfold wpOpIn
    rw [ho]
    simp only []
    unfold wpListIn at h
    by_cases hw : Region.wanted o (yielded ops a.tmps) = true
    · rw [if_pos hw] at h
      rw [if_pos hw]
      exact Oper.wpIn_mono (fun a' w' h' => ⟨fun hlt => absurd hm.1 (by omega), wpAnyD_list s _ a' w' hm.2 hB' he h'⟩) h
    · rw [if_neg hw] at h
      rw [if_neg hw]
      exact ⟨h.1, fun hlt => absurd hm.1 (by omega), wpAnyD_list s _ _ w hm.2 hB' he h.2⟩

theorem wpAnyD_segs (hd : plainOps ops = true) (hs : Region.noSelect ops = true) (hQ : ∀ c a t w, Q (.panic c) { a with tmps := t } w → Q (.panic c) a w) :
    ∀ (segs : List (Nat × List Nat)) (listed : Array Bool) (a : Act) (w : World), listed.size = ops.size → C w → segsB md ops m segs listed = true →
      wpSegsD n r P ops C Q segs a w → wpAnyD n r P md ops C m Q (segsLen segs) listed a w
  | [], listed, a, w, _, _, hB, h => ⟨by simpa [segsB] using hB, h⟩
  | (0, l) :: s, listed, a, w, hz, hC, hB, h => by
    simp only [segsB, Bool.and_eq_true] at hB
    exact wpAnyD_heads hd hs hQ hC l listed a hz hB.1 (fun a' h' => wpAnyD_segs hd hs hQ s _ a' w (by rw [listAll_size]; exact hz) hC hB.2 h') h
  | (1, l) :: s, listed, a, w, hz, hC, hB, h => by
    simp only [segsB, Bool.and_eq_true] at hB
    exact wpAnyD_listC hd l listed a w hC hB.1 (fun a' w' hC' h' => wpAnyD_segs hd hs hQ s _ a' w' (by rw [listAll_size]; exact hz) hC' hB.2 h') h
  | (_ + 2, l) :: s, listed, a, w, hz, hC, hB, h => by
    simp only [segsB, Bool.and_eq_true] at hB
    exact wpAnyD_list l listed a w hB.1.1 hB.1.2 (by simpa using hB.2) h

/-- A drawing region within a round, along a plan. -/
theorem wpD_region_plan {id : Nat} {a : Act} {w : World} {l : List Oper} (m : Nat) (segs : List (Nat × List Nat)) (C : World → Prop) (hm : P.follows .mixedOrders = true) (hB : planB l.toArray m segs = true) (hd : plainOps l.toArray = true)
    (hC : C { w with drawn := w.drawn + 1 }) (hQ : ∀ c a t w, Q (.panic c) { a with tmps := t } w → Q (.panic c) a w)
    (h : wpSegsD n r P l.toArray C Q segs a { w with drawn := w.drawn + 1 }) : (Code.region id l.toArray true).wpIn (Fence.wide.inRound r) n P Q a w := by
  simp only [planB, Bool.and_eq_true, decide_eq_true_eq] at hB
  refine wpIn_region_any hm (wpAnyIn_of_D (m := m) (C := C) _ _ _ _ ?_)
  rw [← hB.1.2]
  exact wpAnyD_segs hd hB.1.1 hQ segs _ a _ (by simp [hB.1.2]) hC (by rw [hB.1.2]; exact hB.2) h
end
theorem wpIn_noexit {F : Fence} {n : Nat} {P : Program} {c : Code} {K : Act → World → Prop} {Q : Exit → Act → World → Prop} {a : Act} {w : World} (h : c.wpIn F n P (Exit.then K (fun _ _ _ => False)) a w) : c.wpIn F n P (Exit.then K Q) a w :=
  wpIn_mono h (fun e a w h => by cases e <;> first | exact h | exact h.elim)
end Go.Proofs.YtnmnmkdmnohbmaaDoor
