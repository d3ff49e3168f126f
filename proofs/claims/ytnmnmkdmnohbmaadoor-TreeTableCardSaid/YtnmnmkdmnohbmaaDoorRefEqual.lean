/- Helper text: the walk over Equal of the reference. Conditions: none. -/
import Derived.Test.YtnmnmkdmnohbmaaDoorEqual
namespace Go.Proofs.YtnmnmkdmnohbmaaDoor
open Go.RowKit
attribute [local go_sem] run_store_float

theorem kd_cases (k : Int) : kd k = 0 ∨ kd k = 1 ∨ kd k = 2 ∨ kd k = 3 ∨ kd k = 4 ∨ kd k = 5 ∨ kd k = 6 ∨ kd k = 7 := by unfold kd; split <;> omega

set_option maxRecDepth 100000 in
set_option maxHeartbeats 2000000 in
theorem refEqual_any : ∀ (N : Nat) (v : V), szV v ≤ N → okV v → ∀ (v' : V), okV v' → ∀ (cs cs' : Array Value) (w : World), IsV w.heap.size w v cs → IsV w.heap.size w v' cs' →
    Calls Tryd.prog 41 #[.agg cs, .agg cs'] w (RetB (.bool (eqV v v')) w) := by
  intro N
  induction N with
  | zero => intro v hv; have := szV_pos v; omega
  | succ N ih =>
    intro v hN hok v' hok' cs cs' w hv hv'
    obtain ⟨k, b, i, f, t, ty, its, fs⟩ := v
    obtain ⟨k', b', i', f', t', ty', its', fs'⟩ := v'
    obtain ⟨p, c, q, d, rfl, hi, hf, l1, l2⟩ := hv
    obtain ⟨p', c', q', d', rfl, hi', hf', l1', l2'⟩ := hv'
    unfold lenMax at l1 l2 l1' l2'
    have IH := Lib.hid ih
    have HI := Lib.hid hi
    have HF := Lib.hid hf
    have HI' := Lib.hid hi'
    have HF' := Lib.hid hf'
    have HN := Lib.hid hN
    have HOK := Lib.hid hok
    have HOK' := Lib.hid hok'
    have HS := Lib.hid (refSameFloat_any f f' hok.1 hok'.1)
    have HKD := Lib.hid (kd_cases k)
    have K1 := Lib.hid (refkind_any k b i f t ty p its.length c q fs.length d)
    have K2 := Lib.hid (refkind_any k' b' i' f' t' ty' p' its'.length c' q' fs'.length d')
    have HR := Lib.hid (show eqV (.mk k b i f t ty its fs) (.mk k' b' i' f' t' ty' its' fs') = if kd k = kd k' then
      if kd k = 5 then decide (its.length = its'.length) && eqVs its its'
      else if kd k = 6 then decide (fs.length = fs'.length) && eqFs fs fs'
      else plainV (kd k) b b' i i' f f' t t' ty ty'
      else false by rw [eqV])
    clear ih hi hf hi' hf' hN hok hok'
    generalize kd k = κ at *
    generalize kd k' = κ' at *
    generalize eqV (.mk k b i f t ty its fs) (.mk k' b' i' f' t' ty' its' fs') = R at *
    obtain ⟨wa, e, hwa, hs0, hs1, hal, hal'⟩ := two_allocs w (vcells k b i f t ty p its.length c q fs.length d) (vcells k' b' i' f' t' ty' p' its'.length c' q' fs'.length d') 27 27
    have HWA := Lib.hid hwa
    obtain ⟨a0, a1, a2, a3, a4, a5, a6, a7⟩ := hal.all0
    obtain ⟨b0, b1, b2, b3, b4, b5, b6, b7⟩ := hal'.all0
    clear hwa
    go_enter Tryd.func41, Tryd.ntmps41
    go_wp2_with fail
    clear e
    go_wp2_with (go_at_call 86; refine (K1.out _).mono ?_; clear K1; rintro e w1 ⟨rfl, hb1⟩; obtain ⟨c0, c1, c2, c3, c4, c5, c6, c7⟩ := (hal'.below hb1 hs1).all0)
    clear a0 a1 a2 a3 a4 a5 a6 a7 b0 b1 b2 b3 b4 b5 b6 b7
    by_cases hk : κ = κ'
    · subst hk
      by_cases h5 : κ = 5
      · subst h5
        have hR := HR.out.trans (by simp : _ = (decide (its.length = its'.length) && eqVs its its'))
        clear HR
        by_cases hln : its.length = its'.length
        · rw [decide_eq_true hln, Bool.true_and] at hR
          have HR := Lib.hid hR
          generalize hL : its'.length = L' at *
          have HL : Hid (its.length = its'.length) := Lib.hid (hln.trans hL.symm)
          clear hL
          subst hln
          clear hR
          go_wp2_with (go_at_call 86; refine (K2.out _).mono ?_; clear K2; rintro e w2 ⟨rfl, hb2⟩; replace hb2 := hb1.trans (hb2.mono hb1.size); obtain ⟨d0, d1, d2, d3, d4, d5, d6, d7⟩ := (hal.below hb2 hs0).all0; obtain ⟨f0, f1, f2, f3, f4, f5, f6, f7⟩ := (hal'.below hb2 hs1).all0)
          go_loopw [6] (fun ii wr => ∃ j : Nat, j ≤ its.length ∧ ii = .int .i64 j ∧ Hid (R = eqVs (its.drop j) (its'.drop j)) ∧ Below wa.heap.size wa wr) (fun ii _ => its.length - (intOf ii).toNat)
          case atStart => exact ⟨0, by omega, rfl, HR, hb2⟩
          case round =>
            clear hb1 hb2 c0 c1 c2 c3 c4 c5 c6 c7 d0 d1 d2 d3 d4 d5 d6 d7 f0 f1 f2 f3 f4 f5 f6 f7
            obtain ⟨j, hj, rfl, hR, hbel⟩ := hrel
            obtain ⟨_, _, _, _, _, _, e6, e7⟩ := (hal.below hbel hs0).all0
            obtain ⟨_, _, _, _, _, _, f6, f7⟩ := (hal'.below hbel hs1).all0
            have hr0 : w.heap.size < wr.heap.size := by have := hbel.size; omega
            have hr1 : w.heap.size + 1 < wr.heap.size := by have := hbel.size; omega
            by_cases h1 : j < its.length
            · obtain ⟨x, x', hx, hx'⟩ := two_at HL.out h1
              rcases HI.out with hi | ⟨g, o, rfl, hg, hvs⟩
              · subst hi; simp at h1
              rcases HI'.out with hi' | ⟨g', o', rfl, hg', hvs'⟩
              · subst hi'; simp at hx'
              obtain ⟨csx, hcx, hvx⟩ := hvs.get hx
              obtain ⟨csx', hcx', hvx'⟩ := hvs'.get hx'
              have hbw := HWA.out.trans (hbel.mono HWA.out.size)
              have hcx := hcx.below hbw hg
              have hvx := hvx.on hbw
              have hcx' := hcx'.below hbw hg'
              have hvx' := hvx'.on hbw
              have hxN : szV x ≤ N := by
                have := szVs_get hx
                have := HN.out
                simp only [szV] at this
                omega
              have hb0 := (Below.drew (Below.refl wr.heap.size wr))
              have HC := IH.out x hxN (HOK.out.2.1.get hx) x' (HOK'.out.2.1.get hx') csx csx' _ (hvx.on hb0) (hvx'.on hb0)
              have hRx := hR.out
              rw [eqVs_at hx hx'] at hRx
              obtain ⟨xk, xb, xi, xf, xt, xty, xits, xfs⟩ := x
              obtain ⟨yk, yb, yi, yf, yt, yty, yits, yfs⟩ := x'
              generalize eqV (.mk xk xb xi xf xt xty xits xfs) (.mk yk yb yi yf yt yty yits yfs) = E at HC hRx
              obtain ⟨xp, xc, xq, xd, rfl, _, _, _, _⟩ := hvx
              obtain ⟨yp, yc, yq, yd, rfl, _, _, _, _⟩ := hvx'
              obtain ⟨c0, c1, c2, c3, c4, c5, c6, c7⟩ := hcx.all
              obtain ⟨d0, d1, d2, d3, d4, d5, d6, d7⟩ := hcx'.all
              have hgr : g < wr.heap.size := Nat.lt_of_lt_of_le hg hbw.size
              have hgr' : g' < wr.heap.size := Nat.lt_of_lt_of_le hg' hbw.size
              have HC := Lib.hid HC
              have HRX := Lib.hid hRx
              clear hx hx' hvs hcx hcx' hvs' hxN hb0 hR hRx
              go_wp2
              refine wp_region_plan_below 10 [(0, [0, 1, 2, 3, 4, 5, 6, 7, 8, 9]), (2, [10, 11])] (by kernel_rfl) (by kernel_rfl) (fun _ _ _ _ h => h) ?_
              simp only [wpSegs, pickOps, List.getElem?_toArray, List.getElem?_cons_zero, List.getElem?_cons_succ]
              have kc := cell_cls wr
              repeat (go_big_quiet_step (fail))
              refine wpQuiet_nil ?_
              clear kc
              cases E
              · go_wp2_with (go_at_call 41; refine HC.out.mono ?_; rintro e w1 ⟨rfl, hb1⟩)
                go_ret
                exact ⟨ret_eq (by rw [HRX.out, Bool.false_and]; rfl), hbw.trans (((Below.drew (Below.refl wr.heap.size wr)).trans hb1).mono hbw.size)⟩
              · go_wp2_with (go_at_call 41; refine HC.out.mono ?_; rintro e w1 ⟨rfl, hb1⟩)
                have hbn := hbel.trans (((Below.drew (Below.refl wr.heap.size wr)).trans hb1).mono hbel.size)
                go_roundw
                case rel => exact ⟨j + 1, by omega, by go_num, Lib.hid (by rw [HRX.out, Bool.true_and]), hbn⟩
                case measure => simp [intOf]; omega
            · have hfin : R = true := by rw [hR.out, List.drop_of_length_le (by omega), eqVs_nil]
              go_wp2_with fail
              go_ret
              exact ⟨ret_eq (by rw [hfin]; rfl), HWA.out.trans (hbel.mono HWA.out.size)⟩
        · rw [decide_eq_false hln, Bool.false_and] at hR
          subst hR
          go_wp2_with (go_at_call 86; refine (K2.out _).mono ?_; clear K2; rintro e w2 ⟨rfl, hb2⟩; replace hb2 := hb1.trans (hb2.mono hb1.size); obtain ⟨d0, d1, d2, d3, d4, d5, d6, d7⟩ := (hal.below hb2 hs0).all0; obtain ⟨f0, f1, f2, f3, f4, f5, f6, f7⟩ := (hal'.below hb2 hs1).all0)
          go_ret
          exact ⟨rfl, HWA.out.trans (hb2.mono HWA.out.size)⟩
      · by_cases h6 : κ = 6
        · subst h6
          have hR := HR.out.trans (by simp : _ = (decide (fs.length = fs'.length) && eqFs fs fs'))
          clear HR h5
          by_cases hln : fs.length = fs'.length
          · rw [decide_eq_true hln, Bool.true_and] at hR
            have HR := Lib.hid hR
            generalize hL : fs'.length = L' at *
            have HL : Hid (fs.length = fs'.length) := Lib.hid (hln.trans hL.symm)
            clear hL
            subst hln
            clear hR
            go_wp2_with (go_at_call 86; refine (K2.out _).mono ?_; clear K2; rintro e w2 ⟨rfl, hb2⟩; replace hb2 := hb1.trans (hb2.mono hb1.size); obtain ⟨d0, d1, d2, d3, d4, d5, d6, d7⟩ := (hal.below hb2 hs0).all0; obtain ⟨f0, f1, f2, f3, f4, f5, f6, f7⟩ := (hal'.below hb2 hs1).all0)
            go_loopw [7] (fun ii wr => ∃ j : Nat, j ≤ fs.length ∧ ii = .int .i64 j ∧ Hid (R = eqFs (fs.drop j) (fs'.drop j)) ∧ Below wa.heap.size wa wr) (fun ii _ => fs.length - (intOf ii).toNat)
            case atStart => exact ⟨0, by omega, rfl, HR, hb2⟩
            case round =>
              clear hb1 hb2 c0 c1 c2 c3 c4 c5 c6 c7 d0 d1 d2 d3 d4 d5 d6 d7 f0 f1 f2 f3 f4 f5 f6 f7
              obtain ⟨j, hj, rfl, hR, hbel⟩ := hrel
              obtain ⟨_, _, _, _, _, _, e6, e7⟩ := (hal.below hbel hs0).all0
              obtain ⟨_, _, _, _, _, _, f6, f7⟩ := (hal'.below hbel hs1).all0
              have hr0 : w.heap.size < wr.heap.size := by have := hbel.size; omega
              have hr1 : w.heap.size + 1 < wr.heap.size := by have := hbel.size; omega
              by_cases h1 : j < fs.length
              · obtain ⟨x, x', hx, hx'⟩ := two_at HL.out h1
                rcases HF.out with hi | ⟨g, o, rfl, hg, hvs⟩
                · subst hi; simp at h1
                rcases HF'.out with hi' | ⟨g', o', rfl, hg', hvs'⟩
                · subst hi'; simp at hx'
                obtain ⟨hnm, csx, hcx, hvx⟩ := hvs.get hx
                obtain ⟨hnm', csx', hcx', hvx'⟩ := hvs'.get hx'
                have hbw := HWA.out.trans (hbel.mono HWA.out.size)
                have hnm := (hbw.cell (p := ⟨g, _, none⟩) hg).trans hnm
                have hcx := hcx.below hbw hg
                have hvx := hvx.on hbw
                have hxN : szV x.2 ≤ N := by
                  have := szFs_get hx
                  have := HN.out
                  simp only [szV] at this
                  omega
                have hRx := hR.out
                rw [eqFs_at hx hx'] at hRx
                have hnm' := (hbw.cell (p := ⟨g', _, none⟩) hg').trans hnm'
                have hcx' := hcx'.below hbw hg'
                have hvx' := hvx'.on hbw
                have hb0 := (Below.drew (Below.refl wr.heap.size wr))
                have HC := IH.out _ hxN (HOK.out.2.2.get hx) _ (HOK'.out.2.2.get hx') _ _ _ (hvx.on hb0) (hvx'.on hb0)
                obtain ⟨xn, xk, xb, xi, xf, xt, xty, xits, xfs⟩ := x
                obtain ⟨yn, yk, yb, yi, yf, yt, yty, yits, yfs⟩ := x'
                obtain ⟨xp, xc, xq, xd, rfl, _, _, _, _⟩ := hvx
                obtain ⟨yp, yc, yq, yd, rfl, _, _, _, _⟩ := hvx'
                obtain ⟨c0, c1, c2, c3, c4, c5, c6, c7⟩ := hcx.all
                obtain ⟨d0, d1, d2, d3, d4, d5, d6, d7⟩ := hcx'.all
                have hgr : g < wr.heap.size := Nat.lt_of_lt_of_le hg hbw.size
                have hgr' : g' < wr.heap.size := Nat.lt_of_lt_of_le hg' hbw.size
                have HRX := Lib.hid hRx
                have HC := Lib.hid HC
                clear hx hx' hvs hcx hcx' hvs' hR hRx hb0
                go_wp2
                try dsimp only at HRX
                generalize eqV (.mk xk xb xi xf xt xty xits xfs) (.mk yk yb yi yf yt yty yits yfs) = E at HC HRX
                cases hq : (xn.toList == yn.toList)
                · rw [hq, Bool.false_and, Bool.false_and] at HRX
                  refine wp_region_plan_below 26 [(0, [0, 1, 2, 3, 4, 5, 6, 7, 8, 9, 10, 11, 12, 13, 14, 15, 16, 17, 18, 19, 20, 21, 22, 23, 24, 25]), (2, [26, 27, 28])] (by kernel_rfl) (by kernel_rfl) (fun _ _ _ _ h => h) ?_
                  simp only [wpSegs, pickOps, List.getElem?_toArray, List.getElem?_cons_zero, List.getElem?_cons_succ]
                  have kc := cell_cls wr
                  repeat (go_big_quiet_step (fail))
                  refine wpQuiet_nil ?_
                  clear kc
                  go_wp2_with fail
                  go_ret
                  exact ⟨ret_eq (by rw [HRX.out]; rfl), hbw.trans ((Below.drew (Below.refl wr.heap.size wr)).mono hbw.size)⟩
                · rw [hq, Bool.true_and] at HRX
                  refine wp_region_plan_below 26 [(0, [0, 1, 2, 3, 4, 5, 6, 7, 8, 9, 10, 11, 12, 13, 14, 15, 16, 17, 18, 19, 20, 21, 22, 23, 24, 25]), (2, [26, 27, 28])] (by kernel_rfl) (by kernel_rfl) (fun _ _ _ _ h => h) ?_
                  simp only [wpSegs, pickOps, List.getElem?_toArray, List.getElem?_cons_zero, List.getElem?_cons_succ]
                  have kc := cell_cls wr
                  repeat (go_big_quiet_step (fail))
                  refine wpQuiet_nil ?_
                  clear kc
                  cases E
                  · go_wp2_with (go_at_call 41; refine HC.out.mono ?_; rintro e w1 ⟨rfl, hb2⟩)
                    go_ret
                    exact ⟨ret_eq (by rw [HRX.out, Bool.false_and]; rfl), hbw.trans (((Below.drew (Below.refl wr.heap.size wr)).trans hb2).mono hbw.size)⟩
                  · go_wp2_with (go_at_call 41; refine HC.out.mono ?_; rintro e w1 ⟨rfl, hb2⟩)
                    have hbn := hbel.trans (((Below.drew (Below.refl wr.heap.size wr)).trans hb2).mono hbel.size)
                    go_roundw
                    case rel => exact ⟨j + 1, by omega, by go_num, Lib.hid (by rw [HRX.out, Bool.true_and]), hbn⟩
                    case measure => simp [intOf]; omega
              · have hfin : R = true := by rw [hR.out, List.drop_of_length_le (by omega), eqFs_nil]
                go_wp2_with fail
                go_ret
                exact ⟨ret_eq (by rw [hfin]; rfl), HWA.out.trans (hbel.mono HWA.out.size)⟩
          · rw [decide_eq_false hln, Bool.false_and] at hR
            subst hR
            go_wp2_with (go_at_call 86; refine (K2.out _).mono ?_; clear K2; rintro e w2 ⟨rfl, hb2⟩; replace hb2 := hb1.trans (hb2.mono hb1.size); obtain ⟨d0, d1, d2, d3, d4, d5, d6, d7⟩ := (hal.below hb2 hs0).all0; obtain ⟨f0, f1, f2, f3, f4, f5, f6, f7⟩ := (hal'.below hb2 hs1).all0)
            go_ret
            exact ⟨rfl, HWA.out.trans (hb2.mono HWA.out.size)⟩
        · have hR := HR.out.trans (by simp [h5, h6] : _ = plainV κ b b' i i' f f' t t' ty ty')
          have HR' := Lib.hid hR
          clear HR hR
          rcases HKD.out with h | h | h | h | h | h | h | h
          · subst h
            go_wp2_with (go_at_call 86; refine (K2.out _).mono ?_; clear K2; rintro e w2 ⟨rfl, hb2⟩; replace hb2 := hb1.trans (hb2.mono hb1.size); obtain ⟨d0, d1, d2, d3, d4, d5, d6, d7⟩ := (hal.below hb2 hs0).all0; obtain ⟨f0, f1, f2, f3, f4, f5, f6, f7⟩ := (hal'.below hb2 hs1).all0)
            go_ret
            exact ⟨ret_eq (by rw [HR'.out]; first | rfl | (simp [plainV]; done)), HWA.out.trans (hb2.mono HWA.out.size)⟩
          · subst h
            go_wp2_with (go_at_call 86; refine (K2.out _).mono ?_; clear K2; rintro e w2 ⟨rfl, hb2⟩; replace hb2 := hb1.trans (hb2.mono hb1.size); obtain ⟨d0, d1, d2, d3, d4, d5, d6, d7⟩ := (hal.below hb2 hs0).all0; obtain ⟨f0, f1, f2, f3, f4, f5, f6, f7⟩ := (hal'.below hb2 hs1).all0)
            go_ret
            exact ⟨ret_eq (by rw [HR'.out]; first | rfl | (simp [plainV]; done)), HWA.out.trans (hb2.mono HWA.out.size)⟩
          · subst h
            go_wp2_with (go_at_call 86; refine (K2.out _).mono ?_; clear K2; rintro e w2 ⟨rfl, hb2⟩; replace hb2 := hb1.trans (hb2.mono hb1.size); obtain ⟨d0, d1, d2, d3, d4, d5, d6, d7⟩ := (hal.below hb2 hs0).all0; obtain ⟨f0, f1, f2, f3, f4, f5, f6, f7⟩ := (hal'.below hb2 hs1).all0)
            go_ret
            exact ⟨ret_eq (by rw [HR'.out]; first | rfl | (simp [plainV]; done)), HWA.out.trans (hb2.mono HWA.out.size)⟩
          · subst h
            go_wp2_with (first | (go_at_call 86; refine (K2.out _).mono ?_; clear K2; rintro e w2 ⟨rfl, hb2⟩; replace hb2 := hb1.trans (hb2.mono hb1.size); obtain ⟨d0, d1, d2, d3, d4, d5, d6, d7⟩ := (hal.below hb2 hs0).all0; obtain ⟨f0, f1, f2, f3, f4, f5, f6, f7⟩ := (hal'.below hb2 hs1).all0) | (go_at_call 58; refine (HS.out _).mono ?_; rintro e w4 ⟨rfl, rfl⟩))
            go_ret
            exact ⟨ret_eq (by rw [HR'.out]; first | rfl | (simp [plainV]; done)), HWA.out.trans (hb2.mono HWA.out.size)⟩
          · subst h
            cases hq : (t.toList == t'.toList)
            · have HR' : Hid (R = false) := HR'.out.trans hq
              go_wp2_with (go_at_call 86; refine (K2.out _).mono ?_; clear K2; rintro e w2 ⟨rfl, hb2⟩; replace hb2 := hb1.trans (hb2.mono hb1.size); obtain ⟨d0, d1, d2, d3, d4, d5, d6, d7⟩ := (hal.below hb2 hs0).all0; obtain ⟨f0, f1, f2, f3, f4, f5, f6, f7⟩ := (hal'.below hb2 hs1).all0)
              go_ret
              exact ⟨ret_eq (by rw [HR'.out]; first | rfl | (simp [plainV]; done)), HWA.out.trans (hb2.mono HWA.out.size)⟩
            · have HR' : Hid (R = true) := HR'.out.trans hq
              go_wp2_with (go_at_call 86; refine (K2.out _).mono ?_; clear K2; rintro e w2 ⟨rfl, hb2⟩; replace hb2 := hb1.trans (hb2.mono hb1.size); obtain ⟨d0, d1, d2, d3, d4, d5, d6, d7⟩ := (hal.below hb2 hs0).all0; obtain ⟨f0, f1, f2, f3, f4, f5, f6, f7⟩ := (hal'.below hb2 hs1).all0)
              go_ret
              exact ⟨ret_eq (by rw [HR'.out]; first | rfl | (simp [plainV]; done)), HWA.out.trans (hb2.mono HWA.out.size)⟩
          · exact absurd h h5
          · exact absurd h h6
          · subst h
            cases hq : (ty.toList == ty'.toList)
            · have HR' : Hid (R = false) := HR'.out.trans (by show (ty.toList == ty'.toList && t.toList == t'.toList) = false; rw [hq]; rfl)
              go_wp2_with (go_at_call 86; refine (K2.out _).mono ?_; clear K2; rintro e w2 ⟨rfl, hb2⟩; replace hb2 := hb1.trans (hb2.mono hb1.size); obtain ⟨d0, d1, d2, d3, d4, d5, d6, d7⟩ := (hal.below hb2 hs0).all0; obtain ⟨f0, f1, f2, f3, f4, f5, f6, f7⟩ := (hal'.below hb2 hs1).all0)
              go_ret
              exact ⟨ret_eq (by rw [HR'.out]; first | rfl | (simp [plainV]; done)), HWA.out.trans (hb2.mono HWA.out.size)⟩
            · cases hq2 : (t.toList == t'.toList)
              · have HR' : Hid (R = false) := HR'.out.trans (by show (ty.toList == ty'.toList && t.toList == t'.toList) = false; rw [hq, hq2]; rfl)
                go_wp2_with (go_at_call 86; refine (K2.out _).mono ?_; clear K2; rintro e w2 ⟨rfl, hb2⟩; replace hb2 := hb1.trans (hb2.mono hb1.size); obtain ⟨d0, d1, d2, d3, d4, d5, d6, d7⟩ := (hal.below hb2 hs0).all0; obtain ⟨f0, f1, f2, f3, f4, f5, f6, f7⟩ := (hal'.below hb2 hs1).all0)
                go_ret
                exact ⟨ret_eq (by rw [HR'.out]; first | rfl | (simp [plainV]; done)), HWA.out.trans (hb2.mono HWA.out.size)⟩
              · have HR' : Hid (R = true) := HR'.out.trans (by show (ty.toList == ty'.toList && t.toList == t'.toList) = true; rw [hq, hq2]; rfl)
                go_wp2_with (go_at_call 86; refine (K2.out _).mono ?_; clear K2; rintro e w2 ⟨rfl, hb2⟩; replace hb2 := hb1.trans (hb2.mono hb1.size); obtain ⟨d0, d1, d2, d3, d4, d5, d6, d7⟩ := (hal.below hb2 hs0).all0; obtain ⟨f0, f1, f2, f3, f4, f5, f6, f7⟩ := (hal'.below hb2 hs1).all0)
                go_ret
                exact ⟨ret_eq (by rw [HR'.out]; first | rfl | (simp [plainV]; done)), HWA.out.trans (hb2.mono HWA.out.size)⟩
    · have hR := HR.out.trans (if_neg hk)
      subst hR
      go_wp2_with (go_at_call 86; refine (K2.out _).mono ?_; clear K2; rintro e w2 ⟨rfl, hb2⟩)
      go_ret
      exact ⟨rfl, HWA.out.trans ((hb1.trans (hb2.mono hb1.size)).mono HWA.out.size)⟩
end Go.Proofs.YtnmnmkdmnohbmaaDoor
