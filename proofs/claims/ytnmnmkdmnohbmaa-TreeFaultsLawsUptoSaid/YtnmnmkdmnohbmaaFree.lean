/- Helper text: a plan for a region that draws its order, with operations that read nothing taken first of all. Conditions: none. -/
import Derived.Test.YtnmnmkdmnohbmaaPlan
namespace Go.Proofs.Ytnmnmkdmnohbmaa
open Go Go.RowKit
section
variable {P : Program} {ops : Array Oper} {Q : Exit → Act → World → Prop} {md : Region.Mode} {C : World → Prop} {m : Nat}

abbrev AnyW : World → Prop := fun _ => True

theorem wpAnyC_firstF {i : Nat} {oi : Oper} {v : Value} (hi : ops[i]? = some oi) (hmi : m ≤ i) (hsel : ∀ (j : Nat) (o : Oper) cs b, ops[j]? = some o → o.op ≠ .select cs b)
    (hQ : ∀ c a t w, Q (.panic c) { a with tmps := t } w → Q (.panic c) a w) :
    ∀ (fuel : Nat) (listed : Array Bool) (a : Act) (w : World),
      (∀ j oj, ops[j]? = some oj → j ≠ i → listed.getD j true = false → (∀ e ∈ oj.after, Region.binds md e = true → e.on ≠ i) → oi.apart ops oj = true) →
      i ∈ Region.ready md ops listed → YieldsC P ops AnyW oi v a →
      wpAnyC P md ops C m Q fuel (listed.setIfInBounds i true) (a.put oi.dst v) w → wpAnyC P md ops C m Q (fuel + 1) listed a w := by
  intro fuel
  induction fuel with
  | zero =>
    intro listed a w _ hr hy H
    refine ⟨fun h => (by rw [h] at hr; cases hr), fun j hj => ?_⟩
    by_cases hji : j = i
    · subst hji; exact hy.wpOp hi trivial ⟨fun h => absurd h (by omega), H⟩
    · have := ready_mono hj hji
      rw [H.1] at this
      cases this
  | succ fuel ih =>
    intro listed a w hfree hr hy H
    refine ⟨fun h => (by rw [h] at hr; cases hr), fun j hj => ?_⟩
    by_cases hji : j = i
    · subst hji; exact hy.wpOp hi trivial ⟨fun h => absurd h (by omega), H⟩
    · have h1 := H.2 j (ready_mono hj hji)
      obtain ⟨hjun, oj, hoj, hall⟩ := mem_ready.1 hj
      have hiun := (mem_ready.1 hr).1
      have hnot : ∀ e ∈ oj.after, Region.binds md e = true → e.on ≠ i := fun e he hb heq => by
        have h1 := hall e he hb
        rw [heq, getD_both hiun] at h1
        cases h1
      have h2 := wpOp_putC hoj (hfree j oj hoj hji hjun hnot) (fun cs b => hsel i oi cs b hi) (fun cs b => hsel j oj cs b hoj) hQ hy h1
      have hfree' : ∀ k ok, ops[k]? = some ok → k ≠ i → (listed.setIfInBounds j true).getD k true = false →
          (∀ e ∈ ok.after, Region.binds md e = true → e.on ≠ i) → oi.apart ops ok = true := fun k ok hk hki hun hno => by
        refine hfree k ok hk hki ?_ hno
        by_cases hjk : j = k
        · subst hjk; exact hjun
        · rw [getD_set_ne true hjk] at hun; exact hun
      refine wpOp_mono (fun a' w' h3 => ⟨h3.2.1, ih (listed.setIfInBounds j true) a' w' hfree' (ready_mono hr (Ne.symm hji)) h3.1 ?_⟩) h2
      rw [Array.setIfInBounds_comm _ _ hji]
      exact h3.2.2

def freesB (md : Region.Mode) (ops : Array Oper) (m : Nat) : List Nat → Array Bool → Bool
  | [], _ => true
  | i :: r, listed => readAt ops i && decide (m ≤ i) && (Region.ready md ops listed).contains i && Region.free md ops listed i && freesB md ops m r (listed.setIfInBounds i true)

theorem wpAnyC_frees (hs : Region.noSelect ops = true) (hQ : ∀ c a t w, Q (.panic c) { a with tmps := t } w → Q (.panic c) a w) {w : World} {N : Act → Prop} {fuel : Nat} :
    ∀ (l : List Nat) (listed : Array Bool) (a : Act), freesB md ops m l listed = true →
      (∀ a', N a' → wpAnyC P md ops C m Q fuel (listAll l listed) a' w) → wpQuiet P ops AnyW N (pickOps ops l) a → wpAnyC P md ops C m Q (l.length + fuel) listed a w
  | [], listed, a, _, hN, h => by simp only [List.length_nil, Nat.zero_add]; exact hN _ h
  | i :: r, listed, a, hB, hN, h => by
    simp only [freesB, Bool.and_eq_true, decide_eq_true_eq] at hB
    obtain ⟨⟨⟨⟨hr, hmi⟩, hready⟩, hf⟩, hB'⟩ := hB
    unfold readAt at hr
    cases ho : ops[i]? with
    | none => rw [ho] at hr; cases hr
    | some o =>
      rw [ho] at hr
      simp only [Bool.and_eq_true] at hr
      rw [pickOps_cons ho] at h
      rw [show (i :: r).length + fuel = (r.length + fuel) + 1 by simp only [List.length_cons]; omega]
      by_cases hw : Region.wanted o (yielded ops a.tmps) = true
      · simp only [wpQuiet, if_pos hw] at h
        obtain ⟨v, h1, h2⟩ := h
        exact wpAnyC_firstF ho hmi (Region.noSelect_spec hs) hQ _ listed a w (Region.free_spec ho hf) (by simpa using hready) (yields_of_quiet hr.1 hw h1) (wpAnyC_frees hs hQ r _ _ hB' hN h2)
      · have hw' : Region.wanted o (yielded ops a.tmps) = false := by simpa using hw
        simp only [wpQuiet, if_neg hw] at h
        exact wpAnyC_firstF ho hmi (Region.noSelect_spec hs) hQ _ listed a w (Region.free_spec ho hf) (by simpa using hready) (.inr ⟨hw', rfl⟩) (wpAnyC_frees hs hQ r _ _ hB' hN h)

def planF (ops : Array Oper) (m : Nat) (frees : List Nat) (segs : List (Nat × List Nat)) : Bool :=
  Region.noSelect ops && decide (frees.length + segsLen segs = ops.size) && freesB .any ops m frees (Array.replicate ops.size false) && segsB .any ops m segs (listAll frees (Array.replicate ops.size false))

theorem wp_region_free {id : Nat} {a : Act} {w : World} {l : List Oper} (m : Nat) (frees : List Nat) (segs : List (Nat × List Nat)) (hm : P.follows .mixedOrders = true) (hB : planF l.toArray m frees segs = true)
    (hQ : ∀ c a t w, Q (.panic c) { a with tmps := t } w → Q (.panic c) a w)
    (h : wpQuiet P l.toArray AnyW (fun a' => wpSegs P l.toArray (Cls w) Q segs a' { w with drawn := w.drawn + 1 }) (pickOps l.toArray frees) a) : (Code.region id l.toArray true).wp P Q a w := by
  simp only [planF, Bool.and_eq_true, decide_eq_true_eq] at hB
  refine wp_region_any hm (wpAny_of_C (m := m) (C := Cls w) _ _ _ _ ?_)
  rw [← hB.1.1.2]
  exact wpAnyC_frees hB.1.1.1 hQ frees _ a (by rw [hB.1.1.2]; exact hB.1.2) (fun a' h' => wpAnyC_segs hB.1.1.1 hQ segs _ a' _ (by rw [listAll_size]; simp [hB.1.1.2]) (cls_drew w) (by rw [hB.1.1.2]; exact hB.2) h') h
end
end Go.Proofs.Ytnmnmkdmnohbmaa
