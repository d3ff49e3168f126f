/- Helper text: the walk over Same of the reference. Conditions: none. -/
import Derived.Test.YtnmnmkdmnohbmaaDoorRefEqual
import Derived.Test.YtnmnmkdmnohbmaaDoorSameV
import Derived.Deep.OwnRows
namespace Go.Proofs.YtnmnmkdmnohbmaaDoor
open Go.RowKit
attribute [local go_sem] run_store_float

/-- The numbers that are not taken. -/
def freeOf (n : Nat) (fl : Nat → Bool) : List Nat := (List.range n).filter (fun j => !fl j)

theorem freeOf_find {n : Nat} {fl q : Nat → Bool} {j : Nat} (hj : j < n) (h0 : fl j = false) (h1 : q j = true) (h2 : ∀ m, m < j → fl m = false → q m = false) : (freeOf n fl).find? q = some j := by
  unfold freeOf
  rw [List.find?_filter, List.find?_range_eq_some]
  refine ⟨by simp [h0, h1], by simp [hj], fun m hm => ?_⟩
  cases h : fl m
  · simp [h2 m hm h]
  · simp
theorem freeOf_none {n : Nat} {fl q : Nat → Bool} (h : ∀ m, m < n → fl m = false → q m = false) : (freeOf n fl).find? q = none := by
  unfold freeOf
  rw [List.find?_eq_none]
  intro m hm
  simp only [List.mem_filter, List.mem_range, Bool.not_eq_true'] at hm
  simp [h m hm.1 hm.2]
theorem freeOf_set (n : Nat) (fl : Nat → Bool) (j : Nat) : freeOf n (fun m => if m = j then true else fl m) = (freeOf n fl).filter (fun i => i != j) := by
  unfold freeOf
  rw [List.filter_filter]
  apply List.filter_congr
  intro m _
  by_cases h : m = j
  · simp [h]
  · simp [h]
theorem freeOf_all (n : Nat) : freeOf n (fun _ => false) = List.range n := by simp [freeOf]

/-- Block T holds the flags. -/
def TakenAt (w : World) (T n : Nat) (fl : Nat → Bool) : Prop := ∃ cur, w.heap[T]? = some (.cells cur 4 (0, 0)) ∧ cur.size = n ∧ ∀ j, j < n → cur[j]? = some (.bool (fl j))

theorem TakenAt.below {B : Nat} {w w' : World} {T n : Nat} {fl : Nat → Bool} (h : TakenAt w T n fl) (hb : Below B w w') (hT : T < B) : TakenAt w' T n fl := by
  obtain ⟨cur, h1, h2, h3⟩ := h
  exact ⟨cur, (hb.block T hT).trans h1, h2, h3⟩
theorem TakenAt.lt {w : World} {T n : Nat} {fl : Nat → Bool} (h : TakenAt w T n fl) : T < w.heap.size := by
  obtain ⟨cur, h1, h2, h3⟩ := h
  exact (Array.getElem?_eq_some_iff.1 h1).1
theorem TakenAt.cell {w : World} {T n : Nat} {fl : Nat → Bool} (h : TakenAt w T n fl) {j : Nat} (hj : j < n) : w.cell? ⟨T, j, none⟩ = some (.bool (fl j)) ∧ w.frozen? ⟨T, j, none⟩ = false := by
  obtain ⟨cur, h1, h2, h3⟩ := h
  exact ⟨by simp only [World.cell?, h1]; exact h3 j hj, by simp [World.frozen?, h1]⟩
theorem TakenAt.set {w : World} {T n : Nat} {fl : Nat → Bool} (h : TakenAt w T n fl) (j : Nat) : TakenAt (w.setCell ⟨T, j, none⟩ (.bool true)) T n (fun m => if m = j then true else fl m) := by
  obtain ⟨cur, h1, h2, h3⟩ := h
  refine ⟨_, heap_setCell_same h1 _, by simpa using h2, fun m hm => ?_⟩
  by_cases e : m = j
  · subst e
    rw [Array.getElem?_setIfInBounds_self]
    simp [h2, hm]
  · rw [Array.getElem?_setIfInBounds_ne (Ne.symm e)]
    simp [e, h3 m hm]
theorem TakenAt.made (w : World) (n : Nat) : TakenAt (w.alloc (.cells (madeCells #[.bool false] n) 4)) w.heap.size n (fun _ => false) := by
  refine ⟨_, heap_new _ _, by simp [madeCells], fun j hj => ?_⟩
  simp [madeCells, hj, Nat.mod_one]

theorem sameVs_nil (l : List V) : sameVs [] l = true := by rw [sameVs]; simp
theorem sameVs_at {its its' : List V} {j : Nat} {x x' : V} (h : its[j]? = some x) (h' : its'[j]? = some x') : sameVs (its.drop j) (its'.drop j) = (sameV x x' && sameVs (its.drop (j + 1)) (its'.drop (j + 1))) := by
  rw [drop_some h, drop_some h', sameVs]

set_option maxRecDepth 100000 in
set_option maxHeartbeats 2000000 in
theorem refSame_any : ∀ (N : Nat) (v : V), szV v ≤ N → okV v → ∀ (v' : V), okV v' → ∀ (cs cs' : Array Value) (w : World), IsV w.heap.size w v cs → IsV w.heap.size w v' cs' →
    Calls Tryd.prog 43 #[.agg cs, .agg cs'] w (RetB (.bool (sameV v v')) w) := by
  intro N
  induction N with
  | zero => intro v hv; have := szV_pos v; omega
  | succ N ih =>
    intro v hN hok v' hok' cs cs' w hv hv'
    obtain ⟨k, b, i, f, t, ty, its, fs⟩ := v
    obtain ⟨k', b', i', f', t', ty', its', fs'⟩ := v'
    have hv0 := hv
    have hv0' := hv'
    obtain ⟨p, c, q, d, rfl, hi, hf, l1, l2⟩ := hv
    obtain ⟨p', c', q', d', rfl, hi', hf', l1', l2'⟩ := hv'
    unfold lenMax at l1 l2 l1' l2'
    have IH := Lib.hid ih
    have HI := Lib.hid hi
    have HF := Lib.hid hf
    have HI' := Lib.hid hi'
    have HF' := Lib.hid hf'
    have HN := Lib.hid hN
    have HOK := Lib.hid hok
    have HOK' := Lib.hid hok'
    have KE := Lib.hid (fun (wx : World) (h : Below w.heap.size w wx) => refEqual_any (N + 1) _ hN hok _ hok' _ _ wx (hv0.on h) (hv0'.on h))
    have HEQ := Lib.hid (show eqV (.mk k b i f t ty its fs) (.mk k' b' i' f' t' ty' its' fs') = if kd k = kd k' then
      if kd k = 5 then decide (its.length = its'.length) && eqVs its its'
      else if kd k = 6 then decide (fs.length = fs'.length) && eqFs fs fs'
      else plainV (kd k) b b' i i' f f' t t' ty ty'
      else false by rw [eqV])
    have K1 := Lib.hid (refkind_any k b i f t ty p its.length c q fs.length d)
    have K2 := Lib.hid (refkind_any k' b' i' f' t' ty' p' its'.length c' q' fs'.length d')
    have HR := Lib.hid (show sameV (.mk k b i f t ty its fs) (.mk k' b' i' f' t' ty' its' fs') = if kd k = kd k' then
      if kd k = 5 then decide (its.length = its'.length) && sameVs its its'
      else if kd k = 6 then decide (fs.length = fs'.length) && pairFs fs fs' (List.range fs'.length)
      else plainV (kd k) b b' i i' f f' t t' ty ty'
      else false by rw [sameV])
    clear ih hi hf hi' hf' hN hok hok' hv0 hv0'
    generalize kd k = κ at *
    generalize kd k' = κ' at *
    generalize sameV (.mk k b i f t ty its fs) (.mk k' b' i' f' t' ty' its' fs') = R at *
    generalize eqV (.mk k b i f t ty its fs) (.mk k' b' i' f' t' ty' its' fs') = R0 at *
    obtain ⟨wa, e, hwa, hs0, hs1, hal, hal'⟩ := two_allocs w (vcells k b i f t ty p its.length c q fs.length d) (vcells k' b' i' f' t' ty' p' its'.length c' q' fs'.length d') 27 27
    have HWA := Lib.hid hwa
    obtain ⟨a0, a1, a2, a3, a4, a5, a6, a7⟩ := hal.all0
    obtain ⟨b0, b1, b2, b3, b4, b5, b6, b7⟩ := hal'.all0
    clear hwa
    go_enter Tryd.func43, Tryd.ntmps43
    go_wp2_with fail
    clear e
    go_wp2_with (go_at_call 86; refine (K1.out _).mono ?_; clear K1; rintro e w1 ⟨rfl, hb1⟩; obtain ⟨c0, c1, c2, c3, c4, c5, c6, c7⟩ := (hal'.below hb1 hs1).all0)
    clear a0 a1 a2 a3 a4 a5 a6 a7 b0 b1 b2 b3 b4 b5 b6 b7
    by_cases hk : κ = κ'
    · subst hk
      by_cases h5 : κ = 5
      · subst h5
        have hR := HR.out.trans (by simp : _ = (decide (its.length = its'.length) && sameVs its its'))
        clear HR KE HEQ
        by_cases hln : its.length = its'.length
        · rw [decide_eq_true hln, Bool.true_and] at hR
          have HR := Lib.hid hR
          generalize hL : its'.length = L' at *
          have HL : Hid (its.length = its'.length) := Lib.hid (hln.trans hL.symm)
          clear hL
          subst hln
          clear hR
          go_wp2_with (go_at_call 86; refine (K2.out _).mono ?_; clear K2; rintro e w2 ⟨rfl, hb2⟩; replace hb2 := hb1.trans (hb2.mono hb1.size); obtain ⟨d0, d1, d2, d3, d4, d5, d6, d7⟩ := (hal.below hb2 hs0).all0; obtain ⟨f0, f1, f2, f3, f4, f5, f6, f7⟩ := (hal'.below hb2 hs1).all0)
          go_loopw [6] (fun ii wr => ∃ j : Nat, j ≤ its.length ∧ ii = .int .i64 j ∧ Hid (R = sameVs (its.drop j) (its'.drop j)) ∧ Below wa.heap.size wa wr) (fun ii _ => its.length - (intOf ii).toNat)
          case atStart => exact ⟨0, by omega, rfl, HR, hb2⟩
          case round =>
            clear hb1 hb2 c0 c1 c2 c3 c4 c5 c6 c7 d0 d1 d2 d3 d4 d5 d6 d7 f0 f1 f2 f3 f4 f5 f6 f7
            obtain ⟨j, hj, rfl, hR, hbel⟩ := hrel
            obtain ⟨_, _, _, _, _, _, e6, e7⟩ := (hal.below hbel hs0).all0
            obtain ⟨_, _, _, _, _, _, f6, f7⟩ := (hal'.below hbel hs1).all0
            have hr0 : w.heap.size < wr.heap.size := by have := hbel.size; omega
            have hr1 : w.heap.size + 1 < wr.heap.size := by have := hbel.size; omega
            by_cases h1 : j < its.length
            · obtain ⟨x, x', hx, hx'⟩ := two_at HL.out h1
              rcases HI.out with hi | ⟨g, o, rfl, hg, hvs⟩
              · subst hi; simp at h1
              rcases HI'.out with hi' | ⟨g', o', rfl, hg', hvs'⟩
              · subst hi'; simp at hx'
              obtain ⟨csx, hcx, hvx⟩ := hvs.get hx
              obtain ⟨csx', hcx', hvx'⟩ := hvs'.get hx'
              have hbw := HWA.out.trans (hbel.mono HWA.out.size)
              have hcx := hcx.below hbw hg
              have hvx := hvx.on hbw
              have hcx' := hcx'.below hbw hg'
              have hvx' := hvx'.on hbw
              have hxN : szV x ≤ N := by
                have := szVs_get hx
                have := HN.out
                simp only [szV] at this
                omega
              have hb0 := (Below.drew (Below.refl wr.heap.size wr))
              have HC := IH.out x hxN (HOK.out.2.1.get hx) x' (HOK'.out.2.1.get hx') csx csx' _ (hvx.on hb0) (hvx'.on hb0)
              have hRx := hR.out
              rw [sameVs_at hx hx'] at hRx
              obtain ⟨xk, xb, xi, xf, xt, xty, xits, xfs⟩ := x
              obtain ⟨yk, yb, yi, yf, yt, yty, yits, yfs⟩ := x'
              generalize sameV (.mk xk xb xi xf xt xty xits xfs) (.mk yk yb yi yf yt yty yits yfs) = E at HC hRx
              obtain ⟨xp, xc, xq, xd, rfl, _, _, _, _⟩ := hvx
              obtain ⟨yp, yc, yq, yd, rfl, _, _, _, _⟩ := hvx'
              obtain ⟨c0, c1, c2, c3, c4, c5, c6, c7⟩ := hcx.all
              obtain ⟨d0, d1, d2, d3, d4, d5, d6, d7⟩ := hcx'.all
              have hgr : g < wr.heap.size := Nat.lt_of_lt_of_le hg hbw.size
              have hgr' : g' < wr.heap.size := Nat.lt_of_lt_of_le hg' hbw.size
              have HC := Lib.hid HC
              have HRX := Lib.hid hRx
              clear hx hx' hvs hcx hcx' hvs' hxN hb0 hR hRx
              go_wp2
              refine wp_region_plan_below 10 [(0, [0, 1, 2, 3, 4, 5, 6, 7, 8, 9]), (2, [10, 11])] (by kernel_rfl) (by kernel_rfl) (fun _ _ _ _ h => h) ?_
              simp only [wpSegs, pickOps, List.getElem?_toArray, List.getElem?_cons_zero, List.getElem?_cons_succ]
              have kc := cell_cls wr
              repeat (go_big_quiet_step (fail))
              refine wpQuiet_nil ?_
              clear kc
              cases E
              · go_wp2_with (go_at_call 43; refine HC.out.mono ?_; rintro e w1 ⟨rfl, hb1⟩)
                go_ret
                exact ⟨ret_eq (by rw [HRX.out, Bool.false_and]; rfl), hbw.trans (((Below.drew (Below.refl wr.heap.size wr)).trans hb1).mono hbw.size)⟩
              · go_wp2_with (go_at_call 43; refine HC.out.mono ?_; rintro e w1 ⟨rfl, hb1⟩)
                have hbn := hbel.trans (((Below.drew (Below.refl wr.heap.size wr)).trans hb1).mono hbel.size)
                go_roundw
                case rel => exact ⟨j + 1, by omega, by go_num, Lib.hid (by rw [HRX.out, Bool.true_and]), hbn⟩
                case measure => simp [intOf]; omega
            · have hfin : R = true := by rw [hR.out, List.drop_of_length_le (by omega), sameVs_nil]
              go_wp2_with fail
              go_ret
              exact ⟨ret_eq (by rw [hfin]; rfl), HWA.out.trans (hbel.mono HWA.out.size)⟩
        · rw [decide_eq_false hln, Bool.false_and] at hR
          subst hR
          go_wp2_with (go_at_call 86; refine (K2.out _).mono ?_; clear K2; rintro e w2 ⟨rfl, hb2⟩; replace hb2 := hb1.trans (hb2.mono hb1.size); obtain ⟨d0, d1, d2, d3, d4, d5, d6, d7⟩ := (hal.below hb2 hs0).all0; obtain ⟨f0, f1, f2, f3, f4, f5, f6, f7⟩ := (hal'.below hb2 hs1).all0)
          go_ret
          exact ⟨rfl, HWA.out.trans (hb2.mono HWA.out.size)⟩
      · by_cases h6 : κ = 6
        · subst h6
          have hR := HR.out.trans (by simp : _ = (decide (fs.length = fs'.length) && pairFs fs fs' (List.range fs'.length)))
          clear HR h5 KE HEQ
          by_cases hln : fs.length = fs'.length
          · rw [decide_eq_true hln, Bool.true_and, ← hln, ← freeOf_all] at hR
            have HR := Lib.hid hR
            generalize hL : fs'.length = L' at *
            have HL : Hid (fs.length = fs'.length) := Lib.hid (hln.trans hL.symm)
            clear hL
            subst hln
            clear hR
            have hmk := fun wx => run_make_row' (P := Tryd.prog) 135 4 (.bool false) 1 Tryd.underlying135 (by kernel_rfl) rfl .i64 .i64 fs.length (by omega) (by omega) wx
            go_wp2_with (go_at_call 86; refine (K2.out _).mono ?_; clear K2; rintro e w2 ⟨rfl, hb2⟩; replace hb2 := hb1.trans (hb2.mono hb1.size); obtain ⟨d0, d1, d2, d3, d4, d5, d6, d7⟩ := (hal.below hb2 hs0).all0; obtain ⟨f0, f1, f2, f3, f4, f5, f6, f7⟩ := (hal'.below hb2 hs1).all0)
            have hT := TakenAt.made w2 fs.length
            have hbT := hb2.trans (((Below.refl w2.heap.size w2).alloc (Nat.le_refl _) (.cells (madeCells #[.bool false] fs.length) 4)).mono hb2.size)
            have hTB : wa.heap.size ≤ w2.heap.size := hb2.size
            have HTT := Lib.hid hT
            clear hT hmk
            generalize w2.alloc (.cells (madeCells #[.bool false] fs.length) 4) = wT at *
            generalize w2.heap.size = T at *
            clear hb1 hb2 c0 c1 c2 c3 c4 c5 c6 c7 d0 d1 d2 d3 d4 d5 d6 d7 f0 f1 f2 f3 f4 f5 f6 f7
            go_loopw [8] (fun ii wr => ∃ j : Nat, j ≤ fs.length ∧ ii = .int .i64 j ∧ ∃ fl, Hid (R = pairFs (fs.drop j) fs' (freeOf fs.length fl)) ∧ Hid (TakenAt wr T fs.length fl) ∧ Below wa.heap.size wa wr) (fun ii _ => fs.length - (intOf ii).toNat)
            case atStart => exact ⟨0, by omega, rfl, fun _ => false, HR, HTT, hbT⟩
            case round =>
              clear hbT
              obtain ⟨i1, hi1, rfl, fl, hR, hT, hbel⟩ := hrel
              obtain ⟨_, _, _, _, _, _, e6, e7⟩ := (hal.below hbel hs0).all0
              obtain ⟨_, _, _, _, _, _, f6, f7⟩ := (hal'.below hbel hs1).all0
              by_cases h1 : i1 < fs.length
              · obtain ⟨x, hx⟩ : ∃ x, fs[i1]? = some x := ⟨fs[i1], by simp [h1]⟩
                rcases HF.out with hi | ⟨g, o, rfl, hg, hvs⟩
                · subst hi; simp at h1
                obtain ⟨hnm, csx, hcx, hvx⟩ := hvs.get hx
                have hxN : szV x.2 ≤ N := by
                  have := szFs_get hx
                  have := HN.out
                  simp only [szV] at this
                  omega
                have hxo := HOK.out.2.2.get hx
                have hRx := hR.out
                rw [drop_some hx, pairFs_cons] at hRx
                have HRX := Lib.hid hRx
                have HNM := Lib.hid hnm
                have HCX := Lib.hid hcx
                have HVX := Lib.hid hvx
                have HXO := Lib.hid hxo
                clear hR hRx hvs hnm hcx hvx hx hxo
                go_wp2_with fail
                go_loopw [9, 10] (fun fd jj wr => ∃ j : Nat, j ≤ fs.length ∧ jj = .int .i64 j ∧ ∃ found : Bool, fd = .bool found ∧ ∃ fl', Hid ((found = false → fl' = fl ∧ ∀ m, m < j → fl m = false → fits x fs' m = false) ∧ (found = true → R = pairFs (fs.drop (i1 + 1)) fs' (freeOf fs.length fl'))) ∧ Hid (TakenAt wr T fs.length fl') ∧ Below wa.heap.size wa wr) (fun _ jj _ => fs.length - (intOf jj).toNat)
                case atStart => exact ⟨0, by omega, rfl, false, rfl, fl, Lib.hid ⟨fun _ => ⟨rfl, fun m hm => absurd hm (by omega)⟩, fun h => by cases h⟩, hT, hbel⟩
                case round =>
                  clear hbel hT e6 e7 f6 f7
                  obtain ⟨j, hj, rfl, found, rfl, fl', hI, hT, hbel⟩ := hrel
                  obtain ⟨_, _, _, _, _, _, e6, e7⟩ := (hal.below hbel hs0).all0
                  obtain ⟨_, _, _, _, _, _, f6, f7⟩ := (hal'.below hbel hs1).all0
                  have hr0 : w.heap.size < wr.heap.size := by have := hbel.size; omega
                  have hr1 : w.heap.size + 1 < wr.heap.size := by have := hbel.size; omega
                  have hbw := HWA.out.trans (hbel.mono HWA.out.size)
                  cases found
                  · obtain ⟨rfl, hno⟩ := hI.out.1 rfl
                    have HNO := Lib.hid hno
                    clear hI hno
                    by_cases h2 : j < fs.length
                    · obtain ⟨x', hx'⟩ : ∃ x', fs'[j]? = some x' := ⟨fs'[j]'(by have := HL.out; omega), by simp⟩
                      rcases HF'.out with hi' | ⟨g', o', rfl, hg', hvs'⟩
                      · subst hi'; simp at hx'
                      obtain ⟨hnm', csx', hcx', hvx'⟩ := hvs'.get hx'
                      have hfit : fits x fs' j = (x.1.toList == x'.1.toList && sameV x.2 x'.2) := by simp [fits, hx', memS]
                      have hnm := (hbw.cell (p := ⟨g, _, none⟩) hg).trans HNM.out
                      have hcx := HCX.out.below hbw hg
                      have hvx := HVX.out.on hbw
                      have hnm' := (hbw.cell (p := ⟨g', _, none⟩) hg').trans hnm'
                      have hcx' := hcx'.below hbw hg'
                      have hvx' := hvx'.on hbw
                      obtain ⟨hct, hft⟩ := hT.out.cell h2
                      have hTl := hT.out.lt
                      have hb0 := (Below.drew (Below.refl wr.heap.size wr))
                      have HC := IH.out _ hxN HXO.out _ (HOK'.out.2.2.get hx') _ _ _ (hvx.on hb0) (hvx'.on hb0)
                      obtain ⟨xn, xk, xb, xi, xf, xt, xty, xits, xfs⟩ := x
                      obtain ⟨yn, yk, yb, yi, yf, yt, yty, yits, yfs⟩ := x'
                      obtain ⟨xp, xc, xq, xd, rfl, _, _, _, _⟩ := hvx
                      obtain ⟨yp, yc, yq, yd, rfl, _, _, _, _⟩ := hvx'
                      obtain ⟨c0, c1, c2, c3, c4, c5, c6, c7⟩ := hcx.all
                      obtain ⟨d0, d1, d2, d3, d4, d5, d6, d7⟩ := hcx'.all
                      have hgr : g < wr.heap.size := Nat.lt_of_lt_of_le hg hbw.size
                      have hgr' : g' < wr.heap.size := Nat.lt_of_lt_of_le hg' hbw.size
                      have HC := Lib.hid HC
                      have HFIT := Lib.hid hfit
                      have hbd := hbel.trans ((Below.drew (Below.refl wr.heap.size wr)).mono hbel.size)
                      clear hx' hcx hcx' hvs' hb0 hfit
                      try dsimp only at HFIT
                      generalize sameV (.mk xk xb xi xf xt xty xits xfs) (.mk yk yb yi yf yt yty yits yfs) = E at HC HFIT
                      have HSTEP : Hid (fits (xn, V.mk xk xb xi xf xt xty xits xfs) fs' j = false ∨ fl' j = true → ∀ m, m < j + 1 → fl' m = false → fits (xn, V.mk xk xb xi xf xt xty xits xfs) fs' m = false) := Lib.hid (fun h m hm hf => by
                        by_cases e : m < j
                        · exact HNO.out m e hf
                        · obtain rfl : m = j := by omega
                          rcases h with h | h
                          · exact h
                          · rw [hf] at h; cases h)
                      generalize hflj : fl' j = tk at hct
                      cases tk
                      · cases hq : (xn.toList == yn.toList)
                        · go_wp2
                          refine wp_region_plan_below 33 [(0, [0, 1, 2, 3, 4, 5, 6, 7, 8, 9, 10, 11, 12, 13, 14, 15, 16, 17, 18, 19, 20, 21, 22, 23, 24, 25, 26, 27, 28, 29, 30, 31, 32]), (2, [33, 34])] (by kernel_rfl) (by kernel_rfl) (fun _ _ _ _ h => h) ?_
                          simp only [wpSegs, pickOps, List.getElem?_toArray, List.getElem?_cons_zero, List.getElem?_cons_succ]
                          have kc := cell_cls wr
                          repeat (go_big_quiet_step (fail))
                          refine wpQuiet_nil ?_
                          clear kc
                          go_wp2_with fail
                          go_roundw
                          case rel => exact ⟨j + 1, by omega, by go_num, false, rfl, _, Lib.hid ⟨fun _ => ⟨rfl, HSTEP.out (.inl (by rw [HFIT.out, hq, Bool.false_and]))⟩, fun h => by cases h⟩, hT, hbd⟩
                          case measure => simp [intOf]; omega
                        · go_wp2
                          refine wp_region_plan_below 33 [(0, [0, 1, 2, 3, 4, 5, 6, 7, 8, 9, 10, 11, 12, 13, 14, 15, 16, 17, 18, 19, 20, 21, 22, 23, 24, 25, 26, 27, 28, 29, 30, 31, 32]), (2, [33, 34])] (by kernel_rfl) (by kernel_rfl) (fun _ _ _ _ h => h) ?_
                          simp only [wpSegs, pickOps, List.getElem?_toArray, List.getElem?_cons_zero, List.getElem?_cons_succ]
                          have kc := cell_cls wr
                          repeat (go_big_quiet_step (fail))
                          refine wpQuiet_nil ?_
                          clear kc
                          cases E
                          · go_wp2_with (go_at_call 43; refine HC.out.mono ?_; rintro e w1 ⟨rfl, hb2⟩)
                            have hbn := hbel.trans (((Below.drew (Below.refl wr.heap.size wr)).trans hb2).mono hbel.size)
                            go_roundw
                            case rel => exact ⟨j + 1, by omega, by go_num, false, rfl, _, Lib.hid ⟨fun _ => ⟨rfl, HSTEP.out (.inl (by rw [HFIT.out, Bool.and_false]))⟩, fun h => by cases h⟩, Lib.hid (hT.out.below ((Below.drew (Below.refl wr.heap.size wr)).trans hb2) hTl), hbn⟩
                            case measure => simp [intOf]; omega
                          · have hfin : R = pairFs (fs.drop (i1 + 1)) fs' (freeOf fs.length (fun m => if m = j then true else fl' m)) := by
                              rw [HRX.out, freeOf_find h2 hflj (by rw [HFIT.out, hq]; rfl) HNO.out, freeOf_set]
                            have HFIN := Lib.hid hfin
                            clear hfin
                            go_wp2_with (go_at_call 43; refine HC.out.mono ?_; rintro e w1 ⟨rfl, hb2⟩; have hT2 := hT.out.below ((Below.drew (Below.refl wr.heap.size wr)).trans hb2) hTl; obtain ⟨hct2, hft2⟩ := hT2.cell h2; have hbn := hbel.trans (((Below.drew (Below.refl wr.heap.size wr)).trans hb2).mono hbel.size))
                            go_roundw
                            case rel => exact ⟨j + 1, by omega, by go_num, true, rfl, _, Lib.hid ⟨fun h => (by cases h), fun _ => HFIN.out⟩, Lib.hid (hT2.set j), hbn.setCell hTB _⟩
                            case measure => simp [intOf]; omega
                      · go_wp2
                        refine wp_region_plan_below 33 [(0, [0, 1, 2, 3, 4, 5, 6, 7, 8, 9, 10, 11, 12, 13, 14, 15, 16, 17, 18, 19, 20, 21, 22, 23, 24, 25, 26, 27, 28, 29, 30, 31, 32]), (2, [33, 34])] (by kernel_rfl) (by kernel_rfl) (fun _ _ _ _ h => h) ?_
                        simp only [wpSegs, pickOps, List.getElem?_toArray, List.getElem?_cons_zero, List.getElem?_cons_succ]
                        have kc := cell_cls wr
                        repeat (go_big_quiet_step (fail))
                        refine wpQuiet_nil ?_
                        clear kc
                        go_wp2_with fail
                        go_roundw
                        case rel => exact ⟨j + 1, by omega, by go_num, false, rfl, _, Lib.hid ⟨fun _ => ⟨rfl, HSTEP.out (.inr hflj)⟩, fun h => by cases h⟩, hT, hbd⟩
                        case measure => simp [intOf]; omega
                    · obtain rfl : j = fs.length := by omega
                      have hfin : R = false := by rw [HRX.out, freeOf_none HNO.out]
                      go_wp2_with fail
                      go_ret
                      exact ⟨ret_eq (by rw [hfin]; rfl), hbw⟩
                  · have HFIN := Lib.hid (hI.out.2 rfl)
                    clear hI
                    by_cases h2 : j < fs.length
                    all_goals
                      go_wp2_with fail
                      go_roundw
                      case rel => exact ⟨i1 + 1, by omega, by go_num, fl', HFIN, hT, hbel⟩
                      case measure => simp [intOf]; omega
              · have hfin : R = true := by rw [hR.out, List.drop_of_length_le (by omega), pairFs_nil]
                go_wp2_with fail
                go_ret
                exact ⟨ret_eq (by rw [hfin]; rfl), HWA.out.trans (hbel.mono HWA.out.size)⟩
          · rw [decide_eq_false hln, Bool.false_and] at hR
            subst hR
            go_wp2_with (go_at_call 86; refine (K2.out _).mono ?_; clear K2; rintro e w2 ⟨rfl, hb2⟩; replace hb2 := hb1.trans (hb2.mono hb1.size); obtain ⟨d0, d1, d2, d3, d4, d5, d6, d7⟩ := (hal.below hb2 hs0).all0; obtain ⟨f0, f1, f2, f3, f4, f5, f6, f7⟩ := (hal'.below hb2 hs1).all0)
            go_ret
            exact ⟨rfl, HWA.out.trans (hb2.mono HWA.out.size)⟩
        · have hR := HR.out.trans (by simp [h5, h6] : _ = plainV κ b b' i i' f f' t t' ty ty')
          have hR0 := HEQ.out.trans (by simp [h5, h6] : _ = plainV κ b b' i i' f f' t t' ty ty')
          obtain rfl : R = R0 := hR.trans hR0.symm
          clear HR hR HEQ hR0
          go_wp2_with (go_at_call 86; refine (K2.out _).mono ?_; clear K2; rintro e w2 ⟨rfl, hb2⟩; replace hb2 := hb1.trans (hb2.mono hb1.size); obtain ⟨d0, d1, d2, d3, d4, d5, d6, d7⟩ := (hal.below hb2 hs0).all0; obtain ⟨f0, f1, f2, f3, f4, f5, f6, f7⟩ := (hal'.below hb2 hs1).all0)
          go_wp2_with (go_at_call 41; refine (KE.out _ (HWA.out.trans (hb2.mono HWA.out.size))).mono ?_; clear KE; rintro e w4 ⟨rfl, hb4⟩)
          go_ret
          exact ⟨rfl, HWA.out.trans ((hb2.trans (hb4.mono hb2.size)).mono HWA.out.size)⟩
    · have hR := HR.out.trans (if_neg hk)
      subst hR
      go_wp2_with (go_at_call 86; refine (K2.out _).mono ?_; clear K2; rintro e w2 ⟨rfl, hb2⟩)
      go_ret
      exact ⟨rfl, HWA.out.trans ((hb1.trans (hb2.mono hb1.size)).mono HWA.out.size)⟩
end Go.Proofs.YtnmnmkdmnohbmaaDoor
