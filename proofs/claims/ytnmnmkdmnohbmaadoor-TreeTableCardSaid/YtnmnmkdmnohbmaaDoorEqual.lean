/- Helper text: two values alike, members in order; the walk over Equal of the program. Conditions: none. -/
import Derived.Test.YtnmnmkdmnohbmaaDoorPlainP
namespace Go.Proofs.YtnmnmkdmnohbmaaDoor
open Go.RowKit
attribute [local go_sem] run_store_float

mutual
/-- The same value, members in the same order. -/
def eqV : V → V → Bool
  | .mk k b i f t ty its fs, .mk k' b' i' f' t' ty' its' fs' =>
    if kd k = kd k' then
      if kd k = 5 then decide (its.length = its'.length) && eqVs its its'
      else if kd k = 6 then decide (fs.length = fs'.length) && eqFs fs fs'
      else plainV (kd k) b b' i i' f f' t t' ty ty'
    else false
def eqVs : List V → List V → Bool
  | v :: r, v' :: r' => eqV v v' && eqVs r r'
  | _, _ => true
def eqFs : List (ByteArray × V) → List (ByteArray × V) → Bool
  | x :: r, x' :: r' => (x.1.toList == x'.1.toList && eqV x.2 x'.2) && eqFs r r'
  | _, _ => true
end

/-- The cells of a member. -/
@[reducible] def mcells (nm : ByteArray) (k : Int) (b : Bool) (i : Int) (f : Nat) (t ty : ByteArray) (p : Option Addr) (n c : Nat) (q : Option Addr) (m d : Nat) : Array Value :=
  #[.string nm, .int .i64 k, .bool b, .int .i64 i, .float .f64 f, .string t, .string ty, .slice p n c, .slice q m d]

theorem CellsAt.all9 {w : World} {g : Nat} {nm : ByteArray} {k : Int} {b : Bool} {i : Int} {f : Nat} {t ty : ByteArray} {p : Option Addr} {n c : Nat} {q : Option Addr} {m d : Nat} (h : CellsAt w g 0 (mcells nm k b i f t ty p n c q m d)) :
    w.cell? ⟨g, 0, none⟩ = some (.string nm) ∧ w.cell? ⟨g, 1, none⟩ = some (.int .i64 k) ∧ w.cell? ⟨g, 2, none⟩ = some (.bool b) ∧ w.cell? ⟨g, 3, none⟩ = some (.int .i64 i) ∧ w.cell? ⟨g, 4, none⟩ = some (.float .f64 f) ∧
    w.cell? ⟨g, 5, none⟩ = some (.string t) ∧ w.cell? ⟨g, 6, none⟩ = some (.string ty) ∧ w.cell? ⟨g, 7, none⟩ = some (.slice p n c) ∧ w.cell? ⟨g, 8, none⟩ = some (.slice q m d) :=
  ⟨h 0 _ rfl, h 1 _ rfl, h 2 _ rfl, h 3 _ rfl, h 4 _ rfl, h 5 _ rfl, h 6 _ rfl, h 7 _ rfl, h 8 _ rfl⟩

theorem two_at {α : Type} {l m : List α} {j : Nat} (h : l.length = m.length) (hj : j < l.length) : ∃ x y, l[j]? = some x ∧ m[j]? = some y := ⟨l[j], m[j], by simp [hj], by simp⟩

theorem eqVs_nil (l : List V) : eqVs [] l = true := by rw [eqVs]; simp
theorem eqFs_nil (l : List (ByteArray × V)) : eqFs [] l = true := by rw [eqFs]; simp
theorem eqVs_at {its its' : List V} {j : Nat} {x x' : V} (h : its[j]? = some x) (h' : its'[j]? = some x') : eqVs (its.drop j) (its'.drop j) = (eqV x x' && eqVs (its.drop (j + 1)) (its'.drop (j + 1))) := by
  rw [drop_some h, drop_some h', eqVs]
theorem eqFs_at {its its' : List (ByteArray × V)} {j : Nat} {x x' : ByteArray × V} (h : its[j]? = some x) (h' : its'[j]? = some x') : eqFs (its.drop j) (its'.drop j) = ((x.1.toList == x'.1.toList && eqV x.2 x'.2) && eqFs (its.drop (j + 1)) (its'.drop (j + 1))) := by
  rw [drop_some h, drop_some h', eqFs]

set_option maxRecDepth 100000 in
set_option maxHeartbeats 2000000 in
theorem Equal_any : ∀ (N : Nat) (v : V), szV v ≤ N → ∀ (v' : V) (cs cs' : Array Value) (w : World), IsV w.heap.size w v cs → IsV w.heap.size w v' cs' →
    Calls Tryd.prog 34 #[.agg cs, .agg cs'] w (RetB (.bool (eqV v v')) w) := by
  intro N
  induction N with
  | zero => intro v hv; have := szV_pos v; omega
  | succ N ih =>
    intro v hN v' cs cs' w hv hv'
    obtain ⟨k, b, i, f, t, ty, its, fs⟩ := v
    obtain ⟨k', b', i', f', t', ty', its', fs'⟩ := v'
    obtain ⟨p, c, q, d, rfl, hi, hf, l1, l2⟩ := hv
    obtain ⟨p', c', q', d', rfl, hi', hf', l1', l2'⟩ := hv'
    unfold lenMax at l1 l2 l1' l2'
    have IH := Lib.hid ih
    have HI := Lib.hid hi
    have HF := Lib.hid hf
    have HI' := Lib.hid hi'
    have HF' := Lib.hid hf'
    have HN := Lib.hid hN
    have K1 := Lib.hid (kind_any k b i f t ty p its.length c q fs.length d)
    have K2 := Lib.hid (kind_any k' b' i' f' t' ty' p' its'.length c' q' fs'.length d')
    have KP := Lib.hid (plain_any k b i f t ty p its.length c q fs.length d k' b' i' f' t' ty' p' its'.length c' q' fs'.length d')
    have HR := Lib.hid (show eqV (.mk k b i f t ty its fs) (.mk k' b' i' f' t' ty' its' fs') = if kd k = kd k' then
      if kd k = 5 then decide (its.length = its'.length) && eqVs its its'
      else if kd k = 6 then decide (fs.length = fs'.length) && eqFs fs fs'
      else plainV (kd k) b b' i i' f f' t t' ty ty'
      else false by rw [eqV])
    clear ih hi hf hi' hf' hN
    generalize kd k = κ at *
    generalize kd k' = κ' at *
    generalize eqV (.mk k b i f t ty its fs) (.mk k' b' i' f' t' ty' its' fs') = R at *
    obtain ⟨wa, e, hwa, hs0, hs1, hal, hal'⟩ := two_allocs w (vcells k b i f t ty p its.length c q fs.length d) (vcells k' b' i' f' t' ty' p' its'.length c' q' fs'.length d') 27 27
    have HWA := Lib.hid hwa
    obtain ⟨a0, a1, a2, a3, a4, a5, a6, a7⟩ := hal.all0
    obtain ⟨b0, b1, b2, b3, b4, b5, b6, b7⟩ := hal'.all0
    clear hwa
    go_enter Tryd.func34, Tryd.ntmps34
    go_wp2_with fail
    clear e
    refine wp_region_plan_below 3 [(0, [0, 2]), (1, [1]), (2, [3, 4])] (by kernel_rfl) (by kernel_rfl) (fun _ _ _ _ h => h) ?_
    simp only [wpSegs, pickOps, List.getElem?_toArray, List.getElem?_cons_zero, List.getElem?_cons_succ]
    have kc := cell_cls wa
    repeat (go_big_quiet_step (fail))
    refine wpQuiet_nil ?_
    clear kc
    refine wpListC_plain rfl (fun K hK => ?_)
    go_step
    refine (K1.out _).mono ?_
    rintro e w1 ⟨rfl, hb1⟩
    have hb1 := (Below.drew (Below.refl wa.heap.size wa)).trans hb1
    refine hK _ _ (cls_of_below hb1) ?_
    clear hK K
    refine wpListC_nil ?_
    by_cases hk : κ = κ'
    · subst hk
      go_wp2_with (go_at_call 75; refine (K2.out _).mono ?_; clear K2; rintro e w2 ⟨rfl, hb2⟩; replace hb2 := hb1.trans (hb2.mono hb1.size); obtain ⟨c0, c1, c2, c3, c4, c5, c6, c7⟩ := (hal.below hb2 hs0).all0)
      clear a0 a1 a2 a3 a4 a5 a6 a7 b0 b1 b2 b3 b4 b5 b6 b7
      by_cases h5 : κ = 5
      · subst h5
        have hR := HR.out.trans (by simp : _ = (decide (its.length = its'.length) && eqVs its its'))
        clear HR KP
        by_cases hln : its.length = its'.length
        · rw [decide_eq_true hln, Bool.true_and] at hR
          have HL := Lib.hid hln
          have HR := Lib.hid hR
          generalize its'.length = L' at hln hal' l1'
          subst hln
          clear hR
          go_wp2_with (go_at_call 75; refine (K1.out _).mono ?_; clear K1; rintro e w3 ⟨rfl, hb3⟩; replace hb3 := hb2.trans (hb3.mono hb2.size); obtain ⟨d0, d1, d2, d3, d4, d5, d6, d7⟩ := (hal.below hb3 hs0).all0; obtain ⟨f0, f1, f2, f3, f4, f5, f6, f7⟩ := (hal'.below hb3 hs1).all0)
          go_loopw [27] (fun ii wr => ∃ j : Nat, j ≤ its.length ∧ ii = .int .i64 j ∧ Hid (R = eqVs (its.drop j) (its'.drop j)) ∧ Below wa.heap.size wa wr) (fun ii _ => its.length - (intOf ii).toNat)
          case atStart => exact ⟨0, by omega, rfl, HR, hb3⟩
          case round =>
            clear hb1 hb2 hb3 c0 c1 c2 c3 c4 c5 c6 c7 d0 d1 d2 d3 d4 d5 d6 d7 f0 f1 f2 f3 f4 f5 f6 f7
            obtain ⟨j, hj, rfl, hR, hbel⟩ := hrel
            obtain ⟨_, _, _, _, _, _, e6, e7⟩ := (hal.below hbel hs0).all0
            obtain ⟨_, _, _, _, _, _, f6, f7⟩ := (hal'.below hbel hs1).all0
            have hr0 : w.heap.size < wr.heap.size := by have := hbel.size; omega
            have hr1 : w.heap.size + 1 < wr.heap.size := by have := hbel.size; omega
            by_cases h1 : j < its.length
            · obtain ⟨x, x', hx, hx'⟩ := two_at HL.out h1
              rcases HI.out with hi | ⟨g, o, rfl, hg, hvs⟩
              · subst hi; simp at h1
              rcases HI'.out with hi' | ⟨g', o', rfl, hg', hvs'⟩
              · subst hi'; simp at hx'
              obtain ⟨csx, hcx, hvx⟩ := hvs.get hx
              obtain ⟨csx', hcx', hvx'⟩ := hvs'.get hx'
              have hbw := HWA.out.trans (hbel.mono HWA.out.size)
              have hcx := hcx.below hbw hg
              have hvx := hvx.on hbw
              have hcx' := hcx'.below hbw hg'
              have hvx' := hvx'.on hbw
              have hxN : szV x ≤ N := by
                have := szVs_get hx
                have := HN.out
                simp only [szV] at this
                omega
              have hb0 := (Below.drew (Below.refl wr.heap.size wr))
              have HC := IH.out x hxN x' csx csx' _ (hvx.on hb0) (hvx'.on hb0)
              have hRx := hR.out
              rw [eqVs_at hx hx'] at hRx
              obtain ⟨xk, xb, xi, xf, xt, xty, xits, xfs⟩ := x
              obtain ⟨yk, yb, yi, yf, yt, yty, yits, yfs⟩ := x'
              generalize eqV (.mk xk xb xi xf xt xty xits xfs) (.mk yk yb yi yf yt yty yits yfs) = E at HC hRx
              obtain ⟨xp, xc, xq, xd, rfl, _, _, _, _⟩ := hvx
              obtain ⟨yp, yc, yq, yd, rfl, _, _, _, _⟩ := hvx'
              obtain ⟨c0, c1, c2, c3, c4, c5, c6, c7⟩ := hcx.all
              obtain ⟨d0, d1, d2, d3, d4, d5, d6, d7⟩ := hcx'.all
              have hgr : g < wr.heap.size := Nat.lt_of_lt_of_le hg hbw.size
              have hgr' : g' < wr.heap.size := Nat.lt_of_lt_of_le hg' hbw.size
              have HC := Lib.hid HC
              have HRX := Lib.hid hRx
              clear hx hx' hvs hcx hcx' hvs' hxN hb0 hR hRx
              go_wp2
              refine wp_region_plan_below 10 [(0, [0, 1, 2, 3, 4, 5, 6, 7, 8, 9]), (2, [10, 11])] (by kernel_rfl) (by kernel_rfl) (fun _ _ _ _ h => h) ?_
              simp only [wpSegs, pickOps, List.getElem?_toArray, List.getElem?_cons_zero, List.getElem?_cons_succ]
              have kc := cell_cls wr
              repeat (go_big_quiet_step (fail))
              refine wpQuiet_nil ?_
              clear kc
              cases E
              · go_wp2_with (go_at_call 34; refine HC.out.mono ?_; rintro e w1 ⟨rfl, hb1⟩)
                go_ret
                exact ⟨ret_eq (by rw [HRX.out, Bool.false_and]; rfl), hbw.trans (((Below.drew (Below.refl wr.heap.size wr)).trans hb1).mono hbw.size)⟩
              · go_wp2_with (go_at_call 34; refine HC.out.mono ?_; rintro e w1 ⟨rfl, hb1⟩)
                have hbn := hbel.trans (((Below.drew (Below.refl wr.heap.size wr)).trans hb1).mono hbel.size)
                go_roundw
                case rel => exact ⟨j + 1, by omega, by go_num, Lib.hid (by rw [HRX.out, Bool.true_and]), hbn⟩
                case measure => simp [intOf]; omega
            · have hfin : R = true := by rw [hR.out, List.drop_of_length_le (by omega), eqVs_nil]
              go_wp2_with fail
              go_ret
              exact ⟨ret_eq (by rw [hfin]; rfl), HWA.out.trans (hbel.mono HWA.out.size)⟩
        · rw [decide_eq_false hln, Bool.false_and] at hR
          subst hR
          go_wp2_with (go_at_call 75; refine (K1.out _).mono ?_; clear K1; rintro e w3 ⟨rfl, hb3⟩; replace hb3 := hb2.trans (hb3.mono hb2.size); obtain ⟨d0, d1, d2, d3, d4, d5, d6, d7⟩ := (hal.below hb3 hs0).all0; obtain ⟨f0, f1, f2, f3, f4, f5, f6, f7⟩ := (hal'.below hb3 hs1).all0)
          go_ret
          exact ⟨rfl, HWA.out.trans (hb3.mono HWA.out.size)⟩
      · by_cases h6 : κ = 6
        · subst h6
          have hR := HR.out.trans (by simp : _ = (decide (fs.length = fs'.length) && eqFs fs fs'))
          clear HR KP h5
          by_cases hln : fs.length = fs'.length
          · rw [decide_eq_true hln, Bool.true_and] at hR
            have HL := Lib.hid hln
            have HR := Lib.hid hR
            generalize fs'.length = L' at hln hal' l2'
            subst hln
            clear hR
            go_wp2_with (go_at_call 75; refine (K1.out _).mono ?_; clear K1; rintro e w3 ⟨rfl, hb3⟩; replace hb3 := hb2.trans (hb3.mono hb2.size); obtain ⟨d0, d1, d2, d3, d4, d5, d6, d7⟩ := (hal.below hb3 hs0).all0; obtain ⟨f0, f1, f2, f3, f4, f5, f6, f7⟩ := (hal'.below hb3 hs1).all0)
            go_loopw [55] (fun ii wr => ∃ j : Nat, j ≤ fs.length ∧ ii = .int .i64 j ∧ Hid (R = eqFs (fs.drop j) (fs'.drop j)) ∧ Below wa.heap.size wa wr) (fun ii _ => fs.length - (intOf ii).toNat)
            case atStart => exact ⟨0, by omega, rfl, HR, hb3⟩
            case round =>
              clear hb1 hb2 hb3 c0 c1 c2 c3 c4 c5 c6 c7 d0 d1 d2 d3 d4 d5 d6 d7 f0 f1 f2 f3 f4 f5 f6 f7
              obtain ⟨j, hj, rfl, hR, hbel⟩ := hrel
              by_cases h1 : j < fs.length
              · obtain ⟨x, x', hx, hx'⟩ := two_at HL.out h1
                rcases HF.out with hi | ⟨g, o, rfl, hg, hvs⟩
                · subst hi; simp at h1
                rcases HF'.out with hi' | ⟨g', o', rfl, hg', hvs'⟩
                · subst hi'; simp at hx'
                obtain ⟨hnm, csx, hcx, hvx⟩ := hvs.get hx
                obtain ⟨hnm', csx', hcx', hvx'⟩ := hvs'.get hx'
                have hbw := HWA.out.trans (hbel.mono HWA.out.size)
                have hnm := (hbw.cell (p := ⟨g, _, none⟩) hg).trans hnm
                have hcx := hcx.below hbw hg
                have hvx := hvx.on hbw
                have hxN : szV x.2 ≤ N := by
                  have := szFs_get hx
                  have := HN.out
                  simp only [szV] at this
                  omega
                have hRx := hR.out
                rw [eqFs_at hx hx'] at hRx
                have HVX := Lib.hid hvx
                obtain ⟨xn, xk, xb, xi, xf, xt, xty, xits, xfs⟩ := x
                obtain ⟨yn, yk, yb, yi, yf, yt, yty, yits, yfs⟩ := x'
                obtain ⟨xp, xc, xq, xd, rfl, _, _, _, _⟩ := hvx
                obtain ⟨c0, c1, c2, c3, c4, c5, c6, c7⟩ := hcx.all
                have hgr : g < wr.heap.size := Nat.lt_of_lt_of_le hg hbw.size
                have HRX := Lib.hid hRx
                have HVX' := Lib.hid hvx'
                have HCX' := Lib.hid hcx'
                have HNM' := Lib.hid hnm'
                clear hx hx' hvs hcx hcx' hvs' hR hRx hvx' hnm'
                go_wp2
                obtain ⟨W1, hW⟩ : ∃ W1, wr.alloc (.cells (mcells xn xk xb xi xf xt xty xp xits.length xc xq xfs.length xd) 79) = W1 := ⟨_, rfl⟩
                have hb1 : Below wr.heap.size wr W1 := by rw [← hW]; exact (Below.refl _ _).alloc (Nat.le_refl _) _
                have hs1' : wr.heap.size < W1.heap.size := by rw [← hW]; simp
                have hcm : CellsAt W1 wr.heap.size 0 (mcells xn xk xb xi xf xt xty xp xits.length xc xq xfs.length xd) := by rw [← hW]; exact cellsAt_alloc _ _ _ _
                have e : wr.alloc (.cells (mcells xn xk xb xi xf xt xty xp xits.length xc xq xfs.length xd) 79) = W1 := hW
                clear hW c0 c1 c2 c3 c4 c5 c6 c7 hnm
                rw [e]
                clear e
                obtain ⟨m0, m1, m2, m3, m4, m5, m6, m7, m8⟩ := hcm.all9
                have hbel1 := hbel.trans (hb1.mono hbel.size)
                have hbw1 := HWA.out.trans (hbel1.mono HWA.out.size)
                have hnm' := (hbw1.cell (p := ⟨g', _, none⟩) hg').trans HNM'.out
                have hcx' := HCX'.out.below hbw1 hg'
                have hvx' := HVX'.out.on hbw1
                have hb0 := (Below.drew (Below.refl W1.heap.size W1))
                have HC := IH.out _ hxN _ _ _ _ ((HVX.out.on hb1).on hb0) (hvx'.on hb0)
                obtain ⟨yp, yc, yq, yd, rfl, _, _, _, _⟩ := hvx'
                obtain ⟨d0, d1, d2, d3, d4, d5, d6, d7⟩ := hcx'.all
                have HC := Lib.hid HC
                have hgr1 : g' < W1.heap.size := Nat.lt_of_lt_of_le hg' hbw1.size
                obtain ⟨_, _, _, _, _, _, f6, f7⟩ := (hal'.below hbel1 hs1).all0
                have hr1 : w.heap.size + 1 < W1.heap.size := by have := hbel1.size; omega
                clear hcm hcx' hb0
                try dsimp only at HRX
                generalize eqV (.mk xk xb xi xf xt xty xits xfs) (.mk yk yb yi yf yt yty yits yfs) = E at HC HRX
                cases hq : (xn.toList == yn.toList)
                · rw [hq, Bool.false_and, Bool.false_and] at HRX
                  refine wp_region_plan_below 18 [(0, [0, 1, 2, 3, 4, 5, 6, 7, 8, 9, 10, 11, 12, 13, 14, 15, 16, 17]), (2, [18, 19, 20])] (by kernel_rfl) (by kernel_rfl) (fun _ _ _ _ h => h) ?_
                  simp only [wpSegs, pickOps, List.getElem?_toArray, List.getElem?_cons_zero, List.getElem?_cons_succ]
                  have kc := cell_cls W1
                  repeat (go_big_quiet_step (fail))
                  refine wpQuiet_nil ?_
                  clear kc
                  go_wp2_with fail
                  go_ret
                  exact ⟨ret_eq (by rw [HRX.out]; rfl), hbw1.trans ((Below.drew (Below.refl W1.heap.size W1)).mono hbw1.size)⟩
                · rw [hq, Bool.true_and] at HRX
                  refine wp_region_plan_below 18 [(0, [0, 1, 2, 3, 4, 5, 6, 7, 8, 9, 10, 11, 12, 13, 14, 15, 16, 17]), (2, [18, 19, 20])] (by kernel_rfl) (by kernel_rfl) (fun _ _ _ _ h => h) ?_
                  simp only [wpSegs, pickOps, List.getElem?_toArray, List.getElem?_cons_zero, List.getElem?_cons_succ]
                  have kc := cell_cls W1
                  repeat (go_big_quiet_step (fail))
                  refine wpQuiet_nil ?_
                  clear kc
                  cases E
                  · go_wp2_with (go_at_call 34; refine HC.out.mono ?_; rintro e w1 ⟨rfl, hb2⟩)
                    go_ret
                    exact ⟨ret_eq (by rw [HRX.out, Bool.false_and]; rfl), hbw1.trans (((Below.drew (Below.refl W1.heap.size W1)).trans hb2).mono hbw1.size)⟩
                  · go_wp2_with (go_at_call 34; refine HC.out.mono ?_; rintro e w1 ⟨rfl, hb2⟩)
                    have hbn := hbel1.trans (((Below.drew (Below.refl W1.heap.size W1)).trans hb2).mono hbel1.size)
                    go_roundw
                    case rel => exact ⟨j + 1, by omega, by go_num, Lib.hid (by rw [HRX.out, Bool.true_and]), hbn⟩
                    case measure => simp [intOf]; omega
              · have hfin : R = true := by rw [hR.out, List.drop_of_length_le (by omega), eqFs_nil]
                go_wp2_with fail
                go_ret
                exact ⟨ret_eq (by rw [hfin]; rfl), HWA.out.trans (hbel.mono HWA.out.size)⟩
          · rw [decide_eq_false hln, Bool.false_and] at hR
            subst hR
            go_wp2_with (go_at_call 75; refine (K1.out _).mono ?_; clear K1; rintro e w3 ⟨rfl, hb3⟩; replace hb3 := hb2.trans (hb3.mono hb2.size); obtain ⟨d0, d1, d2, d3, d4, d5, d6, d7⟩ := (hal.below hb3 hs0).all0; obtain ⟨f0, f1, f2, f3, f4, f5, f6, f7⟩ := (hal'.below hb3 hs1).all0)
            go_ret
            exact ⟨rfl, HWA.out.trans (hb3.mono HWA.out.size)⟩
        · have hR := HR.out.trans (by simp [h5, h6] : _ = plainV κ b b' i i' f f' t t' ty ty')
          have HR' := Lib.hid hR
          clear HR hR
          go_wp2_with (go_at_call 75; refine (K1.out _).mono ?_; clear K1; rintro e w3 ⟨rfl, hb3⟩; replace hb3 := hb2.trans (hb3.mono hb2.size); obtain ⟨d0, d1, d2, d3, d4, d5, d6, d7⟩ := (hal.below hb3 hs0).all0; obtain ⟨f0, f1, f2, f3, f4, f5, f6, f7⟩ := (hal'.below hb3 hs1).all0)
          go_wp2_with (go_at_call 76; refine (KP.out _).mono ?_; clear KP; rintro e w4 ⟨rfl, hb4⟩)
          go_ret
          exact ⟨ret_eq (by rw [HR'.out]; rfl), HWA.out.trans ((hb3.trans (hb4.mono hb3.size)).mono HWA.out.size)⟩
    · have hR := HR.out.trans (if_neg hk)
      subst hR
      go_wp2_with (go_at_call 75; refine (K2.out _).mono ?_; clear K2; rintro e w2 ⟨rfl, hb2⟩)
      go_ret
      exact ⟨rfl, HWA.out.trans ((hb1.trans (hb2.mono hb1.size)).mono HWA.out.size)⟩
end Go.Proofs.YtnmnmkdmnohbmaaDoor
