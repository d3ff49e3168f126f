/- Helper text: the walk over Same of the program. Conditions: none. -/
import Derived.Test.YtnmnmkdmnohbmaaDoorPaired
namespace Go.Proofs.YtnmnmkdmnohbmaaDoor
open Go Go.RowKit
attribute [local go_sem] run_store_float

set_option maxRecDepth 100000 in
set_option maxHeartbeats 2000000 in
theorem Same_any : ∀ (N : Nat) (v : V), szV v ≤ N → nmV v → ∀ (v' : V), nmV v' → ∀ (cs cs' : Array Value) (w : World), IsV w.heap.size w v cs → IsV w.heap.size w v' cs' →
    Calls Tryd.prog 42 #[.agg cs, .agg cs'] w (RetB (.bool (sameV v v')) w) := by
  intro N
  induction N with
  | zero => intro v hv; have := szV_pos v; omega
  | succ N ih =>
    intro v hN hm v' hm' cs cs' w hv hv'
    obtain ⟨k, b, i, f, t, ty, its, fs⟩ := v
    obtain ⟨k', b', i', f', t', ty', its', fs'⟩ := v'
    obtain ⟨p, c, q, d, rfl, hi, hf, l1, l2⟩ := hv
    obtain ⟨p', c', q', d', rfl, hi', hf', l1', l2'⟩ := hv'
    unfold lenMax at l1 l2 l1' l2'
    have IH := Lib.hid ih
    have HI := Lib.hid hi
    have HF := Lib.hid hf
    have HI' := Lib.hid hi'
    have HF' := Lib.hid hf'
    have HN := Lib.hid hN
    have HM := Lib.hid hm
    have HM' := Lib.hid hm'
    have hQ : ∀ wx, Below w.heap.size w wx → Calls Tryd.prog 87 #[.slice q fs.length d, .slice q' fs'.length d'] wx (RetB (.bool (decide (fs.length = fs'.length) && pairFs fs fs' (List.range fs'.length))) wx) := fun wx h =>
      paired_any N ih fs fs' (fun x hx => by have := szFs_mem hx; simp only [szV] at hN; omega) hm.2 hm'.2 l2 l2' q d q' d' wx
        (hf.imp id (fun ⟨g, o, e, hg, hv⟩ => ⟨g, o, e, Nat.lt_of_lt_of_le hg h.size, hv.below h h.size hg⟩)) (hf'.imp id (fun ⟨g, o, e, hg, hv⟩ => ⟨g, o, e, Nat.lt_of_lt_of_le hg h.size, hv.below h h.size hg⟩))
    have KQ := Lib.hid hQ
    have K1 := Lib.hid (kind_any k b i f t ty p its.length c q fs.length d)
    have K2 := Lib.hid (kind_any k' b' i' f' t' ty' p' its'.length c' q' fs'.length d')
    have KP := Lib.hid (plain_any k b i f t ty p its.length c q fs.length d k' b' i' f' t' ty' p' its'.length c' q' fs'.length d')
    have HR := Lib.hid (show sameV (.mk k b i f t ty its fs) (.mk k' b' i' f' t' ty' its' fs') = if kd k = kd k' then
      if kd k = 5 then decide (its.length = its'.length) && sameVs its its'
      else if kd k = 6 then decide (fs.length = fs'.length) && pairFs fs fs' (List.range fs'.length)
      else plainV (kd k) b b' i i' f f' t t' ty ty'
      else false by rw [sameV])
    clear ih hi hf hi' hf' hN hm hm' hQ
    generalize kd k = κ at *
    generalize kd k' = κ' at *
    generalize sameV (.mk k b i f t ty its fs) (.mk k' b' i' f' t' ty' its' fs') = R at *
    obtain ⟨wa, e, hwa, hs0, hs1, hal, hal'⟩ := two_allocs w (vcells k b i f t ty p its.length c q fs.length d) (vcells k' b' i' f' t' ty' p' its'.length c' q' fs'.length d') 27 27
    have HWA := Lib.hid hwa
    obtain ⟨a0, a1, a2, a3, a4, a5, a6, a7⟩ := hal.all0
    obtain ⟨b0, b1, b2, b3, b4, b5, b6, b7⟩ := hal'.all0
    clear hwa
    go_enter Tryd.func42, Tryd.ntmps42
    go_wp2_with fail
    clear e
    refine wp_region_plan_below 3 [(0, [0, 2]), (1, [1]), (2, [3, 4])] (by kernel_rfl) (by kernel_rfl) (fun _ _ _ _ h => h) ?_
    simp only [wpSegs, pickOps, List.getElem?_toArray, List.getElem?_cons_zero, List.getElem?_cons_succ]
    have kc := cell_cls wa
    repeat (go_big_quiet_step (fail))
    refine wpQuiet_nil ?_
    clear kc
    refine wpListC_plain rfl (fun K hK => ?_)
    go_step
    refine (K1.out _).mono ?_
    rintro e w1 ⟨rfl, hb1⟩
    have hb1 := (Below.drew (Below.refl wa.heap.size wa)).trans hb1
    refine hK _ _ (cls_of_below hb1) ?_
    clear hK K
    refine wpListC_nil ?_
    by_cases hk : κ = κ'
    · subst hk
      go_wp2_with (go_at_call 75; refine (K2.out _).mono ?_; clear K2; rintro e w2 ⟨rfl, hb2⟩; replace hb2 := hb1.trans (hb2.mono hb1.size); obtain ⟨c0, c1, c2, c3, c4, c5, c6, c7⟩ := (hal.below hb2 hs0).all0)
      clear a0 a1 a2 a3 a4 a5 a6 a7 b0 b1 b2 b3 b4 b5 b6 b7
      by_cases h5 : κ = 5
      · subst h5
        have hR := HR.out.trans (by simp : _ = (decide (its.length = its'.length) && sameVs its its'))
        clear HR KP KQ
        by_cases hln : its.length = its'.length
        · rw [decide_eq_true hln, Bool.true_and] at hR
          have HL := Lib.hid hln
          have HR := Lib.hid hR
          generalize its'.length = L' at hln hal' l1'
          subst hln
          clear hR
          go_wp2_with (go_at_call 75; refine (K1.out _).mono ?_; clear K1; rintro e w3 ⟨rfl, hb3⟩; replace hb3 := hb2.trans (hb3.mono hb2.size); obtain ⟨d0, d1, d2, d3, d4, d5, d6, d7⟩ := (hal.below hb3 hs0).all0; obtain ⟨f0, f1, f2, f3, f4, f5, f6, f7⟩ := (hal'.below hb3 hs1).all0)
          go_loopw [25] (fun ii wr => ∃ j : Nat, j ≤ its.length ∧ ii = .int .i64 j ∧ Hid (R = sameVs (its.drop j) (its'.drop j)) ∧ Below wa.heap.size wa wr) (fun ii _ => its.length - (intOf ii).toNat)
          case atStart => exact ⟨0, by omega, rfl, HR, hb3⟩
          case round =>
            clear hb1 hb2 hb3 c0 c1 c2 c3 c4 c5 c6 c7 d0 d1 d2 d3 d4 d5 d6 d7 f0 f1 f2 f3 f4 f5 f6 f7
            obtain ⟨j, hj, rfl, hR, hbel⟩ := hrel
            obtain ⟨_, _, _, _, _, _, e6, e7⟩ := (hal.below hbel hs0).all0
            obtain ⟨_, _, _, _, _, _, f6, f7⟩ := (hal'.below hbel hs1).all0
            have hr0 : w.heap.size < wr.heap.size := by have := hbel.size; omega
            have hr1 : w.heap.size + 1 < wr.heap.size := by have := hbel.size; omega
            by_cases h1 : j < its.length
            · obtain ⟨x, x', hx, hx'⟩ := two_at HL.out h1
              rcases HI.out with hi | ⟨g, o, rfl, hg, hvs⟩
              · subst hi; simp at h1
              rcases HI'.out with hi' | ⟨g', o', rfl, hg', hvs'⟩
              · subst hi'; simp at hx'
              obtain ⟨csx, hcx, hvx⟩ := hvs.get hx
              obtain ⟨csx', hcx', hvx'⟩ := hvs'.get hx'
              have hbw := HWA.out.trans (hbel.mono HWA.out.size)
              have hcx := hcx.below hbw hg
              have hvx := hvx.on hbw
              have hcx' := hcx'.below hbw hg'
              have hvx' := hvx'.on hbw
              have hxN : szV x ≤ N := by
                have := szVs_get hx
                have := HN.out
                simp only [szV] at this
                omega
              have hb0 := (Below.drew (Below.refl wr.heap.size wr))
              have HC := IH.out x hxN (HM.out.1.get hx) x' (HM'.out.1.get hx') csx csx' _ (hvx.on hb0) (hvx'.on hb0)
              have hRx := hR.out
              rw [sameVs_at hx hx'] at hRx
              obtain ⟨xk, xb, xi, xf, xt, xty, xits, xfs⟩ := x
              obtain ⟨yk, yb, yi, yf, yt, yty, yits, yfs⟩ := x'
              generalize sameV (.mk xk xb xi xf xt xty xits xfs) (.mk yk yb yi yf yt yty yits yfs) = E at HC hRx
              obtain ⟨xp, xc, xq, xd, rfl, _, _, _, _⟩ := hvx
              obtain ⟨yp, yc, yq, yd, rfl, _, _, _, _⟩ := hvx'
              obtain ⟨c0, c1, c2, c3, c4, c5, c6, c7⟩ := hcx.all
              obtain ⟨d0, d1, d2, d3, d4, d5, d6, d7⟩ := hcx'.all
              have hgr : g < wr.heap.size := Nat.lt_of_lt_of_le hg hbw.size
              have hgr' : g' < wr.heap.size := Nat.lt_of_lt_of_le hg' hbw.size
              have HC := Lib.hid HC
              have HRX := Lib.hid hRx
              clear hx hx' hvs hcx hcx' hvs' hxN hb0 hR hRx
              go_wp2
              refine wp_region_plan_below 10 [(0, [0, 1, 2, 3, 4, 5, 6, 7, 8, 9]), (2, [10, 11])] (by kernel_rfl) (by kernel_rfl) (fun _ _ _ _ h => h) ?_
              simp only [wpSegs, pickOps, List.getElem?_toArray, List.getElem?_cons_zero, List.getElem?_cons_succ]
              have kc := cell_cls wr
              repeat (go_big_quiet_step (fail))
              refine wpQuiet_nil ?_
              clear kc
              cases E
              · go_wp2_with (go_at_call 42; refine HC.out.mono ?_; rintro e w1 ⟨rfl, hb1⟩)
                go_ret
                exact ⟨ret_eq (by rw [HRX.out, Bool.false_and]; rfl), hbw.trans (((Below.drew (Below.refl wr.heap.size wr)).trans hb1).mono hbw.size)⟩
              · go_wp2_with (go_at_call 42; refine HC.out.mono ?_; rintro e w1 ⟨rfl, hb1⟩)
                have hbn := hbel.trans (((Below.drew (Below.refl wr.heap.size wr)).trans hb1).mono hbel.size)
                go_roundw
                case rel => exact ⟨j + 1, by omega, by go_num, Lib.hid (by rw [HRX.out, Bool.true_and]), hbn⟩
                case measure => simp [intOf]; omega
            · have hfin : R = true := by rw [hR.out, List.drop_of_length_le (by omega), sameVs_nil]
              go_wp2_with fail
              go_ret
              exact ⟨ret_eq (by rw [hfin]; rfl), HWA.out.trans (hbel.mono HWA.out.size)⟩
        · rw [decide_eq_false hln, Bool.false_and] at hR
          subst hR
          go_wp2_with (go_at_call 75; refine (K1.out _).mono ?_; clear K1; rintro e w3 ⟨rfl, hb3⟩; replace hb3 := hb2.trans (hb3.mono hb2.size); obtain ⟨d0, d1, d2, d3, d4, d5, d6, d7⟩ := (hal.below hb3 hs0).all0; obtain ⟨f0, f1, f2, f3, f4, f5, f6, f7⟩ := (hal'.below hb3 hs1).all0)
          go_ret
          exact ⟨rfl, HWA.out.trans (hb3.mono HWA.out.size)⟩
      · by_cases h6 : κ = 6
        · subst h6
          have hR := HR.out.trans (by simp : _ = (decide (fs.length = fs'.length) && pairFs fs fs' (List.range fs'.length)))
          rw [← hR] at KQ
          clear HR KP h5 hR
          go_wp2_with (go_at_call 75; refine (K1.out _).mono ?_; clear K1; rintro e w3 ⟨rfl, hb3⟩; replace hb3 := hb2.trans (hb3.mono hb2.size); obtain ⟨d0, d1, d2, d3, d4, d5, d6, d7⟩ := (hal.below hb3 hs0).all0; obtain ⟨f0, f1, f2, f3, f4, f5, f6, f7⟩ := (hal'.below hb3 hs1).all0)
          go_wp2_with (go_at_call 87; refine (KQ.out _ (HWA.out.trans (hb3.mono HWA.out.size))).mono ?_; clear KQ; rintro e w4 ⟨rfl, hb4⟩)
          go_ret
          exact ⟨rfl, HWA.out.trans ((hb3.trans (hb4.mono hb3.size)).mono HWA.out.size)⟩
        · have hR := HR.out.trans (by simp [h5, h6] : _ = plainV κ b b' i i' f f' t t' ty ty')
          have HR' := Lib.hid hR
          clear HR hR
          go_wp2_with (go_at_call 75; refine (K1.out _).mono ?_; clear K1; rintro e w3 ⟨rfl, hb3⟩; replace hb3 := hb2.trans (hb3.mono hb2.size); obtain ⟨d0, d1, d2, d3, d4, d5, d6, d7⟩ := (hal.below hb3 hs0).all0; obtain ⟨f0, f1, f2, f3, f4, f5, f6, f7⟩ := (hal'.below hb3 hs1).all0)
          go_wp2_with (go_at_call 76; refine (KP.out _).mono ?_; clear KP; rintro e w4 ⟨rfl, hb4⟩)
          go_ret
          exact ⟨ret_eq (by rw [HR'.out]; rfl), HWA.out.trans ((hb3.trans (hb4.mono hb3.size)).mono HWA.out.size)⟩
    · have hR := HR.out.trans (if_neg hk)
      subst hR
      go_wp2_with (go_at_call 75; refine (K2.out _).mono ?_; clear K2; rintro e w2 ⟨rfl, hb2⟩)
      go_ret
      exact ⟨rfl, HWA.out.trans ((hb1.trans (hb2.mono hb1.size)).mono HWA.out.size)⟩
end Go.Proofs.YtnmnmkdmnohbmaaDoor
