/- TreeFresh: the walk over the law. Conditions: none. -/
import Derived.Test.YtnmnmkdmnohbmaaDoorPackH
namespace Go.Proofs.YtnmnmkdmnohbmaaDoor
open Go Go.RowKit
attribute [local go_sem] run_store_float undef

theorem fr_shape {B : Nat} {w : World} {v : V} {cs : Array Value} (h : IsV B w v cs) : ∃ k b i f t ty p n c q m d, cs = vcells k b i f t ty p n c q m d := by
  obtain ⟨k, b, i, f, t, ty, its, fs⟩ := v
  obtain ⟨p, c, q, d, rfl, _⟩ := h
  exact ⟨k, b, i, f, t, ty, p, _, c, q, _, d, rfl⟩

set_option maxRecDepth 100000 in
set_option maxHeartbeats 4000000 in
theorem TreeFresh_walk (x y : V) (path : List St) (cs cs' : Array Value) (pp : Option Addr) (cap : Nat) (w : World) (hv : IsV w.heap.size w x cs) (hv' : IsV w.heap.size w y cs') (ox : okV x) (oy : okV y)
    (hp : StepsAt w.heap.size w pp path) (lc : path.length ≤ cap) (lm : cap ≤ maxLen) (htab : Lib.TabIs Tryd.prog w "internal/strconv.uint64pow10" .u64 Lib.pow10Tab) :
    Calls Tryd.prog 4 #[.agg cs, .slice pp path.length cap, .agg cs'] w (RetB (.bool true) w) := by
  have HV := Lib.hid hv
  have HV' := Lib.hid hv'
  obtain ⟨k, b, i, f, t, ty, p, n, c, q, m, d, rfl⟩ := fr_shape hv
  obtain ⟨k', b', i', f', t', ty', p', n', c', q', m', d', rfl⟩ := fr_shape hv'
  have HOX := Lib.hid ox
  have HOY := Lib.hid oy
  have HP := Lib.hid hp
  have LP := Lib.hid (Nat.le_trans lc lm)
  have LC := Lib.hid lc
  have LM := Lib.hid lm
  have HTAB := Lib.hid (Lib.tabBelow_of_tabIs htab)
  obtain ⟨wa, e, hwa, hs0, hs1, hal, hal'⟩ := two_allocs w (vcells k b i f t ty p n c q m d) (vcells k' b' i' f' t' ty' p' n' c' q' m' d') 27 27
  have HWA := Lib.hid hwa
  obtain ⟨a0, a1, a2, a3, a4, a5, a6, a7⟩ := hal.all0
  have HAL := Lib.hid hal
  have HAL' := Lib.hid hal'
  have hblk0 : wa.heap[w.heap.size]? = some (.cells (vcells k b i f t ty p n c q m d) 27 (0, 0)) := by
    rw [← e]
    exact (Below.heap_alloc _ _ _ (by simp)).trans (heap_new w _)
  have hblk1 : wa.heap[w.heap.size + 1]? = some (.cells (vcells k' b' i' f' t' ty' p' n' c' q' m' d') 27 (0, 0)) := by
    rw [← e]
    have := heap_new (w.alloc (.cells (vcells k b i f t ty p n c q m d) 27)) (.cells (vcells k' b' i' f' t' ty' p' n' c' q' m' d') 27)
    rwa [World.size_alloc] at this
  have HBL0 := Lib.hid hblk0
  have HBL1 := Lib.hid hblk1
  clear hblk0 hblk1 hv hv' ox oy hp lc lm htab hwa hal hal'
  have tk := trivial
  have tk2 := trivial
  go_enter Tryd.func4, Tryd.ntmps4
  go_upto_region 1 with (fail)
  clear e
  by_cases hz1 : 10000 ≤ sizeR x 9999
  · have dz : decide (10000 ≤ sizeR x 9999) = true := by simp [hz1]
    go_wp2_with (go_at_call 16; clear tk; refine (lawParts_any _ x (Nat.le_refl _) _ _ 10000 (HV.out.on HWA.out) (by decide) (by decide)).mono ?_; rintro _ w2 ⟨rfl, hb2⟩)
    go_ret
    exact ⟨rfl, HWA.out.trans (hb2.mono HWA.out.size)⟩
  · have hsx : szV x ≤ 9999 := by have := sizeR_eq x 9999 (by omega); omega
    have dz : decide (10000 ≤ sizeR x 9999) = false := by simp; omega
    clear hz1
    by_cases hz2 : 10000 ≤ sizeR y 9999
    · have dz2 : decide (10000 ≤ sizeR y 9999) = true := by simp [hz2]
      go_wp2_with (go_at_call 16; first
        | (clear tk; refine (lawParts_any _ x (Nat.le_refl _) _ _ 10000 (HV.out.on HWA.out) (by decide) (by decide)).mono ?_; rintro _ w2 ⟨rfl, hb2⟩; have HB2 := Lib.hid hb2; clear hb2; obtain ⟨d0, d1, d2, d3, d4, d5, d6, d7⟩ := (HAL'.out.below HB2.out hs1).all0)
        | (clear tk2; refine (lawParts_any _ y (Nat.le_refl _) _ _ 10000 (HV'.out.on (HWA.out.trans (HB2.out.mono HWA.out.size))) (by decide) (by decide)).mono ?_; rintro _ w3 ⟨rfl, hb3⟩))
      go_ret
      exact ⟨rfl, (HWA.out.trans (HB2.out.mono HWA.out.size)).trans (hb3.mono (Nat.le_trans HWA.out.size HB2.out.size))⟩
    · have hsy : szV y ≤ 9999 := by have := sizeR_eq y 9999 (by omega); omega
      have dz2 : decide (10000 ≤ sizeR y 9999) = false := by simp; omega
      clear hz2
      go_upto_region 3 with (go_at_call 16; first
        | (clear tk; refine (lawParts_any _ x (Nat.le_refl _) _ _ 10000 (HV.out.on HWA.out) (by decide) (by decide)).mono ?_; rintro _ w2 ⟨rfl, hb2⟩; have HB2 := Lib.hid hb2; clear hb2; obtain ⟨d0, d1, d2, d3, d4, d5, d6, d7⟩ := (HAL'.out.below HB2.out hs1).all0)
        | (clear tk2; refine (lawParts_any _ y (Nat.le_refl _) _ _ 10000 (HV'.out.on (HWA.out.trans (HB2.out.mono HWA.out.size))) (by decide) (by decide)).mono ?_; rintro _ w3 ⟨rfl, hb3⟩; have HB3 := Lib.hid (HB2.out.trans (hb3.mono HB2.out.size)); clear hb3))
      clear a0 a1 a2 a3 a4 a5 a6 a7 d0 d1 d2 d3 d4 d5 d6 d7
      have h30 : w.heap.size < w3.heap.size := Nat.lt_of_lt_of_le hs0 HB3.out.size
      have h31 : w.heap.size + 1 < w3.heap.size := Nat.lt_of_lt_of_le hs1 HB3.out.size
      have HB3w := Lib.hid (HWA.out.trans (HB3.out.mono HWA.out.size))
      have HCX := Lib.hid (show ∀ w', Below w3.heap.size w3 w' → Calls Tryd.prog 17 #[.agg (vcells k b i f t ty p n c q m d)] w' (CopyPost x w') from fun w' h => refCopy_any _ x (Nat.le_refl _) _ w' (HV.out.on (HB3w.out.trans (h.mono HB3w.out.size))) (by omega))
      have HCY := Lib.hid (show ∀ w', Below w3.heap.size w3 w' → Calls Tryd.prog 17 #[.agg (vcells k' b' i' f' t' ty' p' n' c' q' m' d')] w' (CopyPost y w') from fun w' h => refCopy_any _ y (Nat.le_refl _) _ w' (HV'.out.on (HB3w.out.trans (h.mono HB3w.out.size))) (by omega))
      unfold CopyPost at HCX HCY
      obtain ⟨gv, sv, ok, hogv, hosv, hzg, hzs, hget, hrget, hset, hrset⟩ := get_set_boxes x y path pp cap hsx hsy HOX.out HOY.out LC.out LM.out
      have HOG := Lib.hid hogv
      have HOS := Lib.hid hosv
      have HGET := Lib.hid hget
      have HRGET := Lib.hid hrget
      have HSET := Lib.hid hset
      have HRSET := Lib.hid hrset
      clear hogv hosv hget hrget hset hrset
      unfold BoxPost at HGET HRGET HSET HRSET
      obtain ⟨a0, a1, a2, a3, a4, a5, a6, a7⟩ := (HAL.out.below HB3.out hs0).all0
      obtain ⟨d0, d1, d2, d3, d4, d5, d6, d7⟩ := (HAL'.out.below HB3.out hs1).all0
      refine wp_region_plan_below 4 [(0, [0, 2]), (1, [1, 3]), (2, [4, 5])] (by kernel_rfl) (by kernel_rfl) (fun _ _ _ _ h => h) ?_
      simp only [wpSegs, pickOps, List.getElem?_toArray, List.getElem?_cons_zero, List.getElem?_cons_succ]
      have kc := cell_cls w3
      iterate 2 (go_big_quiet_step (fail))
      refine wpQuiet_nil ?_
      clear kc a0 a1 a2 a3 a4 a5 a6 a7 d0 d1 d2 d3 d4 d5 d6 d7
      refine wpListC_plain rfl (fun K hK => ?_)
      go_step
      refine (HCX.out _ (Below.drew (Below.refl _ _))).mono ?_
      rintro e w4 ⟨csx, bsx, rfl, hox4, hnx, hrx, hb4⟩
      have hb4' := (Below.drew (Below.refl w3.heap.size w3)).trans hb4
      refine hK _ _ (cls_of_below hb4') ?_
      clear hK K
      refine wpListC_plain rfl (fun K hK => ?_)
      go_step
      refine (HCY.out _ hb4').mono ?_
      rintro e w5 ⟨csy, bsy, rfl, hoy5, hny, hry, hb5⟩
      have hb35 := hb4'.trans (hb5.mono hb4'.size)
      refine hK _ _ (cls_of_below hb35) ?_
      clear hK K
      refine wpListC_nil ?_
      have hox5 := hox4.kept (Kept.below hb5 (fun z hz => (hrx z hz).2))
      have hrx3 : ∀ z ∈ bsx, w3.heap.size ≤ z ∧ z < w4.heap.size := hrx
      have hry4 : ∀ z ∈ bsy, w4.heap.size ≤ z ∧ z < w5.heap.size := hry
      have hix := hox4.isV (fun z hz => (hrx z hz).2)
      have hiy := hoy5.isV (fun z hz => (hry z hz).2)
      obtain ⟨xk, xb, xi, xf, xt, xty, xp, xn, xc, xq, xm, xd, rfl⟩ := fr_shape hix
      obtain ⟨yk, yb, yi, yf, yt, yty, yp, yn, yc, yq, ym, yd, rfl⟩ := fr_shape hiy
      have hbk0 := (hb35.block _ h30).trans ((HB3.out.block _ hs0).trans HBL0.out)
      have hbk1 := (hb35.block _ h31).trans ((HB3.out.block _ hs1).trans HBL1.out)
      have hsz3 := HB3w.out.size
      have hpens := pens_two hbk0 hbk1 (by omega) (Nat.le_refl _) (Nat.le_succ _) hox5 hoy5 hnx hny (fun z hz => by have := hrx3 z hz; have := hb5.size; omega) (fun z hz => by have := hry4 z hz; have := hb4'.size; omega) (fun z hz hz' => by have := hrx3 z hz; have := hry4 z hz'; omega)
      have hbw6 : Below w.heap.size w ((w5.setRow w.heap.size (vcells xk xb xi xf xt xty xp xn xc xq xm xd)).setRow (w.heap.size + 1) (vcells yk yb yi yf yt yty yp yn yc yq ym yd)) := below_setRow (below_setRow (HB3w.out.trans (hb35.mono hsz3)) (Nat.le_refl _) _) (Nat.le_succ _) _
      have hbk1' := (setRow_other w5 w.heap.size (w.heap.size + 1) (vcells xk xb xi xf xt xty xp xn xc xq xm xd) (by omega)).trans hbk1
      have HBK0 := Lib.hid hbk0
      have HBK1 := Lib.hid hbk1'
      have PN6 := Lib.hid hpens
      have BW6 := Lib.hid hbw6
      clear hbk0 hbk1 hbk1' hpens hbw6 hix hiy hox5 hox4 hoy5 hrx hry hrx3 hry4 hb35 hb4' hb4 hb5 HCX HCY hsz3
      refine wpList_plain rfl (fun K hK => ?_)
      refine wp_store_row (P := Tryd.prog) 27 (.tmp 3) (.tmp 33) rfl w.heap.size (vcells xk xb xi xf xt xty xp xn xc xq xm xd) rfl rfl 27 _ HBK0.out (by kernel_rfl) rfl (vcells_one ..) ?_
      refine hK _ _ ?_
      clear hK K
      refine wpList_plain rfl (fun K hK => ?_)
      refine wp_store_row (P := Tryd.prog) 27 (.tmp 5) (.tmp 35) rfl (w.heap.size + 1) (vcells yk yb yi yf yt yty yp yn yc yq ym yd) rfl rfl 27 _ HBK1.out (by kernel_rfl) rfl (vcells_one ..) ?_
      refine hK _ _ ?_
      clear hK K
      obtain ⟨w6, hw6⟩ : ∃ w6, (w5.setRow w.heap.size (vcells xk xb xi xf xt xty xp xn xc xq xm xd)).setRow (w.heap.size + 1) (vcells yk yb yi yf yt yty yp yn yc yq ym yd) = w6 := ⟨_, rfl⟩
      rw [hw6] at PN6 BW6 ⊢
      clear hw6 HBK0 HBK1
      go_upto_region 4 with (fail)
      try simp only [Act.put]
      have HCX := Lib.hid (show ∀ w', Below w6.heap.size w6 w' → Calls Tryd.prog 17 #[.agg (vcells xk xb xi xf xt xty xp xn xc xq xm xd)] w' (CopyPost x w') from fun w' h => refCopy_any _ x (Nat.le_refl _) _ w' ((PN6.out.read (List.mem_of_getElem? (i := 0) rfl)).2.1.on h) (by omega))
      have HCY := Lib.hid (show ∀ w', Below w6.heap.size w6 w' → Calls Tryd.prog 17 #[.agg (vcells yk yb yi yf yt yty yp yn yc yq ym yd)] w' (CopyPost y w') from fun w' h => refCopy_any _ y (Nat.le_refl _) _ w' ((PN6.out.read (List.mem_of_getElem? (i := 1) rfl)).2.1.on h) (by omega))
      have RD0 := Lib.hid (show ∀ w', Below w6.heap.size w6 w' → CellsAt w' w.heap.size 0 (vcells xk xb xi xf xt xty xp xn xc xq xm xd) from fun w' h => ((PN6.out.on h).read (List.mem_of_getElem? (i := 0) rfl)).1)
      have RD1 := Lib.hid (show ∀ w', Below w6.heap.size w6 w' → CellsAt w' (w.heap.size + 1) 0 (vcells yk yb yi yf yt yty yp yn yc yq ym yd) from fun w' h => ((PN6.out.on h).read (List.mem_of_getElem? (i := 1) rfl)).1)
      unfold CopyPost at HCX HCY
      refine wp_region_states twoDeps (by kernel_rfl) (by rfl) (twoI 7 8 36 37 38 39 x y (vcells xk xb xi xf xt xty xp xn xc xq xm xd) (vcells yk yb yi yf yt yty yp yn yc yq ym yd)) ?start ?step ?fin
      case start =>
        exact ⟨false, false, false, false, false, false, false, false, undef, undef, undef, undef, #[], #[], 0, 0, [], [], rfl, rfl, TwoF.start _ _ (Below.drew (Below.refl _ _)) _ _ _ _ _ _ _ _⟩
      case step =>
        rintro ls a W j ⟨l0, l1, l2, l3, l4, l5, l6, l7, v25, v26, v27, v28, c9, c10, g9, g10, bx, bz, rfl, rfl, hF⟩ hcan
        simp only [List.setIfInBounds_toArray, List.set_cons_succ, List.set_cons_zero]
        have HF := Lib.hid hF
        have hbw := hF.below
        have HBW := Lib.hid hbw
        rcases j with _ | _ | _ | _ | _ | _ | _ | _ | j
        · obtain rfl : l0 = false := by simpa [can] using hcan
          obtain ⟨a0, a1, a2, a3, a4, a5, a6, a7⟩ := (RD0.out _ hbw).all0
          clear hF hbw
          refine wpOp_plain rfl rfl (fun K hK => ?_)
          go_step
          exact hK _ _ ⟨true, l1, l2, l3, l4, l5, l6, l7, .agg (vcells xk xb xi xf xt xty xp xn xc xq xm xd), v26, v27, v28, c9, c10, g9, g10, bx, bz, rfl, (by kernel_rfl), HF.out.load0⟩
        · obtain ⟨rfl, rfl⟩ : l1 = false ∧ l0 = true := by simpa [can] using hcan
          obtain rfl := hF.h25 rfl
          clear hF
          refine wpOp_plain rfl rfl (fun K hK => ?_)
          go_step
          refine (HCX.out _ hbw).mono ?_
          rintro e W' ⟨csn, bsn, rfl, ho, hn, hr, hb⟩
          exact hK _ _ ⟨true, true, l2, l3, l4, l5, l6, l7, .agg (vcells xk xb xi xf xt xty xp xn xc xq xm xd), .agg csn, v27, v28, c9, c10, g9, g10, bsn, bz, rfl, (by kernel_rfl), HF.out.call1 ho hn hr hb⟩
        · obtain rfl : l2 = false := by simpa [can] using hcan
          obtain ⟨a0, a1, a2, a3, a4, a5, a6, a7⟩ := (RD1.out _ hbw).all0
          clear hF hbw
          refine wpOp_plain rfl rfl (fun K hK => ?_)
          go_step
          exact hK _ _ ⟨l0, l1, true, l3, l4, l5, l6, l7, v25, v26, .agg (vcells yk yb yi yf yt yty yp yn yc yq ym yd), v28, c9, c10, g9, g10, bx, bz, rfl, (by kernel_rfl), HF.out.load2⟩
        · obtain ⟨rfl, rfl, rfl⟩ : l3 = false ∧ l2 = true ∧ l1 = true := by simpa [can] using hcan
          obtain rfl := hF.h27 rfl
          clear hF
          refine wpOp_plain rfl rfl (fun K hK => ?_)
          go_step
          refine (HCY.out _ hbw).mono ?_
          rintro e W' ⟨csn, bsn, rfl, ho, hn, hr, hb⟩
          exact hK _ _ ⟨l0, true, true, true, l4, l5, l6, l7, v25, v26, .agg (vcells yk yb yi yf yt yty yp yn yc yq ym yd), .agg csn, c9, c10, g9, g10, bx, bsn, rfl, (by kernel_rfl), HF.out.call3 ho hn hr hb⟩
        · obtain rfl : l4 = false := by simpa [can] using hcan
          clear hF hbw
          refine wpOp_plain rfl rfl (fun K hK => ?_)
          go_step
          exact hK _ _ ⟨l0, l1, l2, l3, true, l5, l6, l7, v25, v26, v27, v28, cells0, c10, W.heap.size, g10, bx, bz, rfl, (by kernel_rfl), HF.out.alloc4 cells0 rfl⟩
        · obtain rfl : l5 = false := by simpa [can] using hcan
          clear hF hbw
          refine wpOp_plain rfl rfl (fun K hK => ?_)
          go_step
          exact hK _ _ ⟨l0, l1, l2, l3, l4, true, l6, l7, v25, v26, v27, v28, c9, cells0, g9, W.heap.size, bx, bz, rfl, (by kernel_rfl), HF.out.alloc5 cells0 rfl⟩
        · obtain ⟨rfl, rfl, rfl, rfl, rfl, rfl⟩ := two_can6 hcan
          obtain ⟨cs6, rfl, ho6⟩ := hF.h26 rfl
          have hi6 := ho6.isV (fun z hz => (hF.rx z hz).2)
          obtain ⟨k6, b6, i6, f6, t6, ty6, p6, n6, c6, q6, m6, d6, rfl⟩ := fr_shape hi6
          obtain ⟨_, _, hb6, _, _, hs6⟩ := hF.h9 rfl
          have H6 := Lib.hid hb6
          clear hF hbw hi6 ho6 hb6
          refine wpOp_plain rfl rfl (fun K hK => ?_)
          refine wp_store_row (P := Tryd.prog) 27 (.tmp 7) (.tmp 37) rfl g9 (vcells k6 b6 i6 f6 t6 ty6 p6 n6 c6 q6 m6 d6) rfl rfl 27 _ H6.out (by kernel_rfl) hs6 (vcells_one ..) ?_
          exact hK _ _ ⟨true, true, l2, true, true, true, true, l7, v25, .agg (vcells k6 b6 i6 f6 t6 ty6 p6 n6 c6 q6 m6 d6), v27, v28, (vcells k6 b6 i6 f6 t6 ty6 p6 n6 c6 q6 m6 d6), c10, g9, g10, bx, bz, rfl, (by kernel_rfl), HF.out.store6 (vcells k6 b6 i6 f6 t6 ty6 p6 n6 c6 q6 m6 d6) rfl rfl⟩
        · obtain ⟨rfl, rfl, rfl, rfl, rfl, rfl, rfl, rfl⟩ := two_can7 hcan
          obtain ⟨cs6, rfl, ho6⟩ := hF.h28 rfl
          have hi6 := ho6.isV (fun z hz => (hF.ry z hz).2)
          obtain ⟨k6, b6, i6, f6, t6, ty6, p6, n6, c6, q6, m6, d6, rfl⟩ := fr_shape hi6
          obtain ⟨_, _, hb6, _, _, hs6⟩ := hF.h10 rfl
          have H6 := Lib.hid hb6
          clear hF hbw hi6 ho6 hb6
          refine wpOp_plain rfl rfl (fun K hK => ?_)
          refine wp_store_row (P := Tryd.prog) 27 (.tmp 8) (.tmp 39) rfl g10 (vcells k6 b6 i6 f6 t6 ty6 p6 n6 c6 q6 m6 d6) rfl rfl 27 _ H6.out (by kernel_rfl) hs6 (vcells_one ..) ?_
          exact hK _ _ ⟨true, true, true, true, true, true, true, true, v25, v26, v27, .agg (vcells k6 b6 i6 f6 t6 ty6 p6 n6 c6 q6 m6 d6), c9, (vcells k6 b6 i6 f6 t6 ty6 p6 n6 c6 q6 m6 d6), g9, g10, bx, bz, rfl, (by kernel_rfl), HF.out.store7 (vcells k6 b6 i6 f6 t6 ty6 p6 n6 c6 q6 m6 d6) rfl rfl⟩
        · simp [can] at hcan
      case fin =>
        rintro ls a W7 hcan ⟨l0, l1, l2, l3, l4, l5, l6, l7, v25, v26, v27, v28, c9, c10, g9, g10, bx, bz, rfl, rfl, hF⟩
        obtain ⟨rfl, rfl, rfl, rfl, rfl, rfl, rfl, rfl⟩ := two_end hcan
        clear hcan
        simp only [List.setIfInBounds_toArray, List.set_cons_succ, List.set_cons_zero, if_true]
        have hpens := hF.pens PN6.out BW6.out.size
        have hbw7 := BW6.out.trans (hF.below.mono BW6.out.size)
        have hi9 := (hpens.read (List.mem_of_getElem? (i := 2) rfl)).2.1
        have hi10 := (hpens.read (List.mem_of_getElem? (i := 3) rfl)).2.1
        obtain ⟨rk, rb, ri, rf, rt, rty, rp, rn, rc, rq, rm, rd, rfl⟩ := fr_shape hi9
        obtain ⟨sk, sb, si, sf, st, sty, sp, sn, sc, sq, sm, sd, rfl⟩ := fr_shape hi10
        have PN := Lib.hid hpens
        have BW := Lib.hid hbw7
        clear hpens hbw7 hi9 hi10 hF HCX HCY RD0 RD1 PN6 BW6
        go_upto_region 5 with (fail)
        obtain ⟨a00, a01, a02, a03, a04, a05, a06, a07⟩ := (PN.out.read (List.mem_of_getElem? (i := 2) rfl)).1.all0
        obtain ⟨a20, a21, a22, a23, a24, a25, a26, a27⟩ := (PN.out.read (List.mem_of_getElem? (i := 3) rfl)).1.all0
        have HPW := Lib.hid (HP.out.on BW.out)
        go_step
        refine wpList_plain rfl (fun K hK => ?_)
        go_step
        refine hK _ _ ?_
        clear hK K
        refine wpList_plain rfl (fun K hK => ?_)
        go_step
        refine hK _ _ ?_
        clear hK K
        refine wpList_plain rfl (fun K hK => ?_)
        go_step
        refine hK _ _ ?_
        clear hK K
        clear a00 a01 a02 a03 a04 a05 a06 a07
        clear a20 a21 a22 a23 a24 a25 a26 a27
        refine wpList_plain rfl (fun K hK => ?_)
        go_step
        refine (HRSET.out _ _ _ (PN.out.read (List.mem_of_getElem? (i := 2) rfl)).2.1 (PN.out.read (List.mem_of_getElem? (i := 3) rfl)).2.1 HPW.out).mono ?_
        rintro e W5a ⟨cswa, bwa, rfl, hown, hnod, hlow, hc⟩
        have hIO := hown.isV (fun z hz => (hlow z hz).2)
        obtain ⟨wak, wab, wai, waf, wat, waty, wap, wan, wac, waq, wam, wad, rfl⟩ := fr_shape hIO
        refine hK _ _ ?_
        clear hK K hIO
        have HST := Lib.hid (PN.out.snoc BW.out.size (G := W5a.heap.size) rfl hown hnod hlow hc)
        clear hown hnod hlow hc HPW
        refine wpList_plain rfl (fun K hK => ?_)
        go_step
        refine hK _ _ ?_
        clear hK K
        refine wpList_plain rfl (fun K hK => ?_)
        go_step
        refine hK _ _ ?_
        clear hK K
        refine wpList_plain rfl (fun K hK => ?_)
        go_step
        refine hK _ _ ?_
        clear hK K
        refine wpList_plain rfl (fun K hK => ?_)
        go_step
        have hTn := heap_new W5a (.cells cells0 27)
        obtain ⟨wy, hW⟩ : ∃ y, W5a.alloc (.cells cells0 27) = y := ⟨_, rfl⟩
        have e : W5a.alloc (.cells cells0 27) = wy := hW
        rw [hW] at hTn HST
        rw [e]
        clear e hW
        have HTN := Lib.hid hTn
        refine hK _ _ ?_
        clear hK K hTn
        obtain ⟨Gwa, hG⟩ : ∃ a, a = W5a.heap.size := ⟨_, rfl⟩
        rw [← hG] at HTN HST ⊢
        clear hG
        refine wpList_plain rfl (fun K hK => ?_)
        refine wp_store_row (P := Tryd.prog) 27 (.tmp 9) (.tmp 45) rfl Gwa (vcells wak wab wai waf wat waty wap wan wac waq wam wad) rfl rfl 27 _ HTN.out (by kernel_rfl) rfl (vcells_one ..) ?_
        obtain ⟨W5, hW⟩ : ∃ y, wy.setRow Gwa (vcells wak wab wai waf wat waty wap wan wac waq wam wad) = y := ⟨_, rfl⟩
        rw [hW] at HST ⊢
        refine hK _ _ ?_
        clear hK K hW HTN
        have PN := Lib.hid (show Pens w.heap.size W5 [⟨w.heap.size, x, (vcells xk xb xi xf xt xty xp xn xc xq xm xd), bsx⟩, ⟨(w.heap.size + 1), y, (vcells yk yb yi yf yt yty yp yn yc yq ym yd), bsy⟩, ⟨g9, x, (vcells rk rb ri rf rt rty rp rn rc rq rm rd), bx⟩, ⟨g10, y, (vcells sk sb si sf st sty sp sn sc sq sm sd), bz⟩, ⟨Gwa, sv, (vcells wak wab wai waf wat waty wap wan wac waq wam wad), bwa⟩] from HST.out.1)
        have BW := Lib.hid (BW.out.trans (HST.out.2.mono BW.out.size))
        clear HST
        go_upto_region 6 with (fail)
        obtain ⟨a00, a01, a02, a03, a04, a05, a06, a07⟩ := (PN.out.read (List.mem_of_getElem? (i := 0) rfl)).1.all0
        have HPW := Lib.hid (HP.out.on BW.out)
        go_step
        refine wpList_plain rfl (fun K hK => ?_)
        go_step
        refine hK _ _ ?_
        clear hK K
        clear a00 a01 a02 a03 a04 a05 a06 a07
        refine wpList_plain rfl (fun K hK => ?_)
        go_step
        refine (Copy_any _ x (Nat.le_refl _) _ _ (PN.out.read (List.mem_of_getElem? (i := 0) rfl)).2.1 (by omega)).mono ?_
        rintro e W6a ⟨cscc, bcc, rfl, hown, hnod, hlow, hc⟩
        have hIO := hown.isV (fun z hz => (hlow z hz).2)
        obtain ⟨cck, ccb, cci, ccf, cct, ccty, ccp, ccn, ccc, ccq, ccm, ccd, rfl⟩ := fr_shape hIO
        refine hK _ _ ?_
        clear hK K hIO
        have HST := Lib.hid (PN.out.snoc BW.out.size (G := W6a.heap.size) rfl hown hnod hlow hc)
        clear hown hnod hlow hc HPW
        refine wpList_plain rfl (fun K hK => ?_)
        go_step
        have hTn := heap_new W6a (.cells cells0 27)
        obtain ⟨wy, hW⟩ : ∃ y, W6a.alloc (.cells cells0 27) = y := ⟨_, rfl⟩
        have e : W6a.alloc (.cells cells0 27) = wy := hW
        rw [hW] at hTn HST
        rw [e]
        clear e hW
        have HTN := Lib.hid hTn
        refine hK _ _ ?_
        clear hK K hTn
        obtain ⟨Gcc, hG⟩ : ∃ a, a = W6a.heap.size := ⟨_, rfl⟩
        rw [← hG] at HTN HST ⊢
        clear hG
        refine wpList_plain rfl (fun K hK => ?_)
        refine wp_store_row (P := Tryd.prog) 27 (.tmp 11) (.tmp 48) rfl Gcc (vcells cck ccb cci ccf cct ccty ccp ccn ccc ccq ccm ccd) rfl rfl 27 _ HTN.out (by kernel_rfl) rfl (vcells_one ..) ?_
        obtain ⟨W6, hW⟩ : ∃ y, wy.setRow Gcc (vcells cck ccb cci ccf cct ccty ccp ccn ccc ccq ccm ccd) = y := ⟨_, rfl⟩
        rw [hW] at HST ⊢
        refine hK _ _ ?_
        clear hK K hW HTN
        have PN := Lib.hid (show Pens w.heap.size W6 [⟨w.heap.size, x, (vcells xk xb xi xf xt xty xp xn xc xq xm xd), bsx⟩, ⟨(w.heap.size + 1), y, (vcells yk yb yi yf yt yty yp yn yc yq ym yd), bsy⟩, ⟨g9, x, (vcells rk rb ri rf rt rty rp rn rc rq rm rd), bx⟩, ⟨g10, y, (vcells sk sb si sf st sty sp sn sc sq sm sd), bz⟩, ⟨Gwa, sv, (vcells wak wab wai waf wat waty wap wan wac waq wam wad), bwa⟩, ⟨Gcc, x, (vcells cck ccb cci ccf cct ccty ccp ccn ccc ccq ccm ccd), bcc⟩] from HST.out.1)
        have BW := Lib.hid (BW.out.trans (HST.out.2.mono BW.out.size))
        clear HST
        go_upto_region 7 with (fail)
        obtain ⟨a00, a01, a02, a03, a04, a05, a06, a07⟩ := (PN.out.read (List.mem_of_getElem? (i := 0) rfl)).1.all0
        have HPW := Lib.hid (HP.out.on BW.out)
        go_step
        refine wpList_plain rfl (fun K hK => ?_)
        go_step
        refine hK _ _ ?_
        clear hK K
        clear a00 a01 a02 a03 a04 a05 a06 a07
        refine wpList_plain rfl (fun K hK => ?_)
        go_step
        refine (Copy_any _ x (Nat.le_refl _) _ _ (PN.out.read (List.mem_of_getElem? (i := 0) rfl)).2.1 (by omega)).mono ?_
        rintro e W7a ⟨csdd, bdd, rfl, hown, hnod, hlow, hc⟩
        have hIO := hown.isV (fun z hz => (hlow z hz).2)
        obtain ⟨ddk, ddb, ddi, ddf, ddt, ddty, ddp, ddn, ddc, ddq, ddm, ddd, rfl⟩ := fr_shape hIO
        refine hK _ _ ?_
        clear hK K hIO
        have HST := Lib.hid (PN.out.snoc BW.out.size (G := W7a.heap.size) rfl hown hnod hlow hc)
        clear hown hnod hlow hc HPW
        refine wpList_plain rfl (fun K hK => ?_)
        go_step
        have hTn := heap_new W7a (.cells cells0 27)
        obtain ⟨wy, hW⟩ : ∃ y, W7a.alloc (.cells cells0 27) = y := ⟨_, rfl⟩
        have e : W7a.alloc (.cells cells0 27) = wy := hW
        rw [hW] at hTn HST
        rw [e]
        clear e hW
        have HTN := Lib.hid hTn
        refine hK _ _ ?_
        clear hK K hTn
        obtain ⟨Gdd, hG⟩ : ∃ a, a = W7a.heap.size := ⟨_, rfl⟩
        rw [← hG] at HTN HST ⊢
        clear hG
        refine wpList_plain rfl (fun K hK => ?_)
        refine wp_store_row (P := Tryd.prog) 27 (.tmp 12) (.tmp 50) rfl Gdd (vcells ddk ddb ddi ddf ddt ddty ddp ddn ddc ddq ddm ddd) rfl rfl 27 _ HTN.out (by kernel_rfl) rfl (vcells_one ..) ?_
        obtain ⟨W7, hW⟩ : ∃ y, wy.setRow Gdd (vcells ddk ddb ddi ddf ddt ddty ddp ddn ddc ddq ddm ddd) = y := ⟨_, rfl⟩
        rw [hW] at HST ⊢
        refine hK _ _ ?_
        clear hK K hW HTN
        have PN := Lib.hid (show Pens w.heap.size W7 [⟨w.heap.size, x, (vcells xk xb xi xf xt xty xp xn xc xq xm xd), bsx⟩, ⟨(w.heap.size + 1), y, (vcells yk yb yi yf yt yty yp yn yc yq ym yd), bsy⟩, ⟨g9, x, (vcells rk rb ri rf rt rty rp rn rc rq rm rd), bx⟩, ⟨g10, y, (vcells sk sb si sf st sty sp sn sc sq sm sd), bz⟩, ⟨Gwa, sv, (vcells wak wab wai waf wat waty wap wan wac waq wam wad), bwa⟩, ⟨Gcc, x, (vcells cck ccb cci ccf cct ccty ccp ccn ccc ccq ccm ccd), bcc⟩, ⟨Gdd, x, (vcells ddk ddb ddi ddf ddt ddty ddp ddn ddc ddq ddm ddd), bdd⟩] from HST.out.1)
        have BW := Lib.hid (BW.out.trans (HST.out.2.mono BW.out.size))
        clear HST
        go_upto_region 8 with (fail)
        obtain ⟨a00, a01, a02, a03, a04, a05, a06, a07⟩ := (PN.out.read (List.mem_of_getElem? (i := 5) rfl)).1.all0
        have HPW := Lib.hid (HP.out.on BW.out)
        go_step
        refine wpList_plain rfl (fun K hK => ?_)
        go_step
        refine hK _ _ ?_
        clear hK K
        refine wpList_plain rfl (fun K hK => ?_)
        go_step
        refine hK _ _ ?_
        clear hK K
        clear a00 a01 a02 a03 a04 a05 a06 a07
        refine wpList_plain rfl (fun K hK => ?_)
        go_step
        refine (HGET.out _ _ (PN.out.read (List.mem_of_getElem? (i := 5) rfl)).2.1 HPW.out).mono ?_
        rintro e W8a ⟨csga, bga, rfl, hown, hnod, hlow, hc⟩
        have hIO := hown.isV (fun z hz => (hlow z hz).2)
        obtain ⟨gak, gab, gai, gaf, gat, gaty, gap, gan, gac, gaq, gam, gad, rfl⟩ := fr_shape hIO
        refine hK _ _ ?_
        clear hK K hIO
        have HST := Lib.hid (PN.out.snoc BW.out.size (G := W8a.heap.size) rfl hown hnod hlow hc)
        clear hown hnod hlow hc HPW
        refine wpList_plain rfl (fun K hK => ?_)
        go_step
        refine hK _ _ ?_
        clear hK K
        refine wpList_plain rfl (fun K hK => ?_)
        go_step
        refine hK _ _ ?_
        clear hK K
        refine wpList_plain rfl (fun K hK => ?_)
        go_step
        refine hK _ _ ?_
        clear hK K
        refine wpList_plain rfl (fun K hK => ?_)
        go_step
        have hTn := heap_new W8a (.cells cells0 27)
        obtain ⟨wy, hW⟩ : ∃ y, W8a.alloc (.cells cells0 27) = y := ⟨_, rfl⟩
        have e : W8a.alloc (.cells cells0 27) = wy := hW
        rw [hW] at hTn HST
        rw [e]
        clear e hW
        have HTN := Lib.hid hTn
        refine hK _ _ ?_
        clear hK K hTn
        obtain ⟨Gga, hG⟩ : ∃ a, a = W8a.heap.size := ⟨_, rfl⟩
        rw [← hG] at HTN HST ⊢
        clear hG
        refine wpList_plain rfl (fun K hK => ?_)
        refine wp_store_row (P := Tryd.prog) 27 (.tmp 13) (.tmp 55) rfl Gga (vcells gak gab gai gaf gat gaty gap gan gac gaq gam gad) rfl rfl 27 _ HTN.out (by kernel_rfl) rfl (vcells_one ..) ?_
        obtain ⟨W8, hW⟩ : ∃ y, wy.setRow Gga (vcells gak gab gai gaf gat gaty gap gan gac gaq gam gad) = y := ⟨_, rfl⟩
        rw [hW] at HST ⊢
        refine hK _ _ ?_
        clear hK K hW HTN
        have PN := Lib.hid (show Pens w.heap.size W8 [⟨w.heap.size, x, (vcells xk xb xi xf xt xty xp xn xc xq xm xd), bsx⟩, ⟨(w.heap.size + 1), y, (vcells yk yb yi yf yt yty yp yn yc yq ym yd), bsy⟩, ⟨g9, x, (vcells rk rb ri rf rt rty rp rn rc rq rm rd), bx⟩, ⟨g10, y, (vcells sk sb si sf st sty sp sn sc sq sm sd), bz⟩, ⟨Gwa, sv, (vcells wak wab wai waf wat waty wap wan wac waq wam wad), bwa⟩, ⟨Gcc, x, (vcells cck ccb cci ccf cct ccty ccp ccn ccc ccq ccm ccd), bcc⟩, ⟨Gdd, x, (vcells ddk ddb ddi ddf ddt ddty ddp ddn ddc ddq ddm ddd), bdd⟩, ⟨Gga, gv, (vcells gak gab gai gaf gat gaty gap gan gac gaq gam gad), bga⟩] from HST.out.1)
        have BW := Lib.hid (BW.out.trans (HST.out.2.mono BW.out.size))
        clear HST
        go_upto_region 9 with (fail)
        obtain ⟨a00, a01, a02, a03, a04, a05, a06, a07⟩ := (PN.out.read (List.mem_of_getElem? (i := 5) rfl)).1.all0
        have HPW := Lib.hid (HP.out.on BW.out)
        go_step
        refine wpList_plain rfl (fun K hK => ?_)
        go_step
        refine hK _ _ ?_
        clear hK K
        refine wpList_plain rfl (fun K hK => ?_)
        go_step
        refine hK _ _ ?_
        clear hK K
        clear a00 a01 a02 a03 a04 a05 a06 a07
        refine wpList_plain rfl (fun K hK => ?_)
        go_step
        refine (HGET.out _ _ (PN.out.read (List.mem_of_getElem? (i := 5) rfl)).2.1 HPW.out).mono ?_
        rintro e W9a ⟨csgb, bgb, rfl, hown, hnod, hlow, hc⟩
        have hIO := hown.isV (fun z hz => (hlow z hz).2)
        obtain ⟨gbk, gbb, gbi, gbf, gbt, gbty, gbp, gbn, gbc, gbq, gbm, gbd, rfl⟩ := fr_shape hIO
        refine hK _ _ ?_
        clear hK K hIO
        have HST := Lib.hid (PN.out.snoc BW.out.size (G := W9a.heap.size) rfl hown hnod hlow hc)
        clear hown hnod hlow hc HPW
        refine wpList_plain rfl (fun K hK => ?_)
        go_step
        refine hK _ _ ?_
        clear hK K
        refine wpList_plain rfl (fun K hK => ?_)
        go_step
        refine hK _ _ ?_
        clear hK K
        refine wpList_plain rfl (fun K hK => ?_)
        go_step
        refine hK _ _ ?_
        clear hK K
        refine wpList_plain rfl (fun K hK => ?_)
        go_step
        have hTn := heap_new W9a (.cells cells0 27)
        obtain ⟨wy, hW⟩ : ∃ y, W9a.alloc (.cells cells0 27) = y := ⟨_, rfl⟩
        have e : W9a.alloc (.cells cells0 27) = wy := hW
        rw [hW] at hTn HST
        rw [e]
        clear e hW
        have HTN := Lib.hid hTn
        refine hK _ _ ?_
        clear hK K hTn
        obtain ⟨Ggb, hG⟩ : ∃ a, a = W9a.heap.size := ⟨_, rfl⟩
        rw [← hG] at HTN HST ⊢
        clear hG
        refine wpList_plain rfl (fun K hK => ?_)
        refine wp_store_row (P := Tryd.prog) 27 (.tmp 15) (.tmp 61) rfl Ggb (vcells gbk gbb gbi gbf gbt gbty gbp gbn gbc gbq gbm gbd) rfl rfl 27 _ HTN.out (by kernel_rfl) rfl (vcells_one ..) ?_
        obtain ⟨W9, hW⟩ : ∃ y, wy.setRow Ggb (vcells gbk gbb gbi gbf gbt gbty gbp gbn gbc gbq gbm gbd) = y := ⟨_, rfl⟩
        rw [hW] at HST ⊢
        refine hK _ _ ?_
        clear hK K hW HTN
        have PN := Lib.hid (show Pens w.heap.size W9 [⟨w.heap.size, x, (vcells xk xb xi xf xt xty xp xn xc xq xm xd), bsx⟩, ⟨(w.heap.size + 1), y, (vcells yk yb yi yf yt yty yp yn yc yq ym yd), bsy⟩, ⟨g9, x, (vcells rk rb ri rf rt rty rp rn rc rq rm rd), bx⟩, ⟨g10, y, (vcells sk sb si sf st sty sp sn sc sq sm sd), bz⟩, ⟨Gwa, sv, (vcells wak wab wai waf wat waty wap wan wac waq wam wad), bwa⟩, ⟨Gcc, x, (vcells cck ccb cci ccf cct ccty ccp ccn ccc ccq ccm ccd), bcc⟩, ⟨Gdd, x, (vcells ddk ddb ddi ddf ddt ddty ddp ddn ddc ddq ddm ddd), bdd⟩, ⟨Gga, gv, (vcells gak gab gai gaf gat gaty gap gan gac gaq gam gad), bga⟩, ⟨Ggb, gv, (vcells gbk gbb gbi gbf gbt gbty gbp gbn gbc gbq gbm gbd), bgb⟩] from HST.out.1)
        have BW := Lib.hid (BW.out.trans (HST.out.2.mono BW.out.size))
        clear HST
        go_upto_region 10 with (fail)
        obtain ⟨a00, a01, a02, a03, a04, a05, a06, a07⟩ := (PN.out.read (List.mem_of_getElem? (i := 0) rfl)).1.all0
        obtain ⟨a20, a21, a22, a23, a24, a25, a26, a27⟩ := (PN.out.read (List.mem_of_getElem? (i := 1) rfl)).1.all0
        have HPW := Lib.hid (HP.out.on BW.out)
        go_step
        refine wpList_plain rfl (fun K hK => ?_)
        go_step
        refine hK _ _ ?_
        clear hK K
        refine wpList_plain rfl (fun K hK => ?_)
        go_step
        refine hK _ _ ?_
        clear hK K
        refine wpList_plain rfl (fun K hK => ?_)
        go_step
        refine hK _ _ ?_
        clear hK K
        clear a00 a01 a02 a03 a04 a05 a06 a07
        clear a20 a21 a22 a23 a24 a25 a26 a27
        refine wpList_plain rfl (fun K hK => ?_)
        go_step
        refine (HSET.out _ _ _ (PN.out.read (List.mem_of_getElem? (i := 0) rfl)).2.1 (PN.out.read (List.mem_of_getElem? (i := 1) rfl)).2.1 HPW.out).mono ?_
        rintro e W10a ⟨cssa, bsa, rfl, hown, hnod, hlow, hc⟩
        have hIO := hown.isV (fun z hz => (hlow z hz).2)
        obtain ⟨sak, sab, sai, saf, sat, saty, sap, san, sac, saq, sam, sad, rfl⟩ := fr_shape hIO
        refine hK _ _ ?_
        clear hK K hIO
        have HST := Lib.hid (PN.out.snoc BW.out.size (G := W10a.heap.size) rfl hown hnod hlow hc)
        clear hown hnod hlow hc HPW
        refine wpList_plain rfl (fun K hK => ?_)
        go_step
        refine hK _ _ ?_
        clear hK K
        refine wpList_plain rfl (fun K hK => ?_)
        go_step
        refine hK _ _ ?_
        clear hK K
        refine wpList_plain rfl (fun K hK => ?_)
        go_step
        refine hK _ _ ?_
        clear hK K
        refine wpList_plain rfl (fun K hK => ?_)
        go_step
        have hTn := heap_new W10a (.cells cells0 27)
        obtain ⟨wy, hW⟩ : ∃ y, W10a.alloc (.cells cells0 27) = y := ⟨_, rfl⟩
        have e : W10a.alloc (.cells cells0 27) = wy := hW
        rw [hW] at hTn HST
        rw [e]
        clear e hW
        have HTN := Lib.hid hTn
        refine hK _ _ ?_
        clear hK K hTn
        obtain ⟨Gsa, hG⟩ : ∃ a, a = W10a.heap.size := ⟨_, rfl⟩
        rw [← hG] at HTN HST ⊢
        clear hG
        refine wpList_plain rfl (fun K hK => ?_)
        refine wp_store_row (P := Tryd.prog) 27 (.tmp 17) (.tmp 68) rfl Gsa (vcells sak sab sai saf sat saty sap san sac saq sam sad) rfl rfl 27 _ HTN.out (by kernel_rfl) rfl (vcells_one ..) ?_
        obtain ⟨W10, hW⟩ : ∃ y, wy.setRow Gsa (vcells sak sab sai saf sat saty sap san sac saq sam sad) = y := ⟨_, rfl⟩
        rw [hW] at HST ⊢
        refine hK _ _ ?_
        clear hK K hW HTN
        have PN := Lib.hid (show Pens w.heap.size W10 [⟨w.heap.size, x, (vcells xk xb xi xf xt xty xp xn xc xq xm xd), bsx⟩, ⟨(w.heap.size + 1), y, (vcells yk yb yi yf yt yty yp yn yc yq ym yd), bsy⟩, ⟨g9, x, (vcells rk rb ri rf rt rty rp rn rc rq rm rd), bx⟩, ⟨g10, y, (vcells sk sb si sf st sty sp sn sc sq sm sd), bz⟩, ⟨Gwa, sv, (vcells wak wab wai waf wat waty wap wan wac waq wam wad), bwa⟩, ⟨Gcc, x, (vcells cck ccb cci ccf cct ccty ccp ccn ccc ccq ccm ccd), bcc⟩, ⟨Gdd, x, (vcells ddk ddb ddi ddf ddt ddty ddp ddn ddc ddq ddm ddd), bdd⟩, ⟨Gga, gv, (vcells gak gab gai gaf gat gaty gap gan gac gaq gam gad), bga⟩, ⟨Ggb, gv, (vcells gbk gbb gbi gbf gbt gbty gbp gbn gbc gbq gbm gbd), bgb⟩, ⟨Gsa, sv, (vcells sak sab sai saf sat saty sap san sac saq sam sad), bsa⟩] from HST.out.1)
        have BW := Lib.hid (BW.out.trans (HST.out.2.mono BW.out.size))
        clear HST
        go_upto_region 11 with (fail)
        obtain ⟨a00, a01, a02, a03, a04, a05, a06, a07⟩ := (PN.out.read (List.mem_of_getElem? (i := 0) rfl)).1.all0
        obtain ⟨a20, a21, a22, a23, a24, a25, a26, a27⟩ := (PN.out.read (List.mem_of_getElem? (i := 1) rfl)).1.all0
        have HPW := Lib.hid (HP.out.on BW.out)
        go_step
        refine wpList_plain rfl (fun K hK => ?_)
        go_step
        refine hK _ _ ?_
        clear hK K
        refine wpList_plain rfl (fun K hK => ?_)
        go_step
        refine hK _ _ ?_
        clear hK K
        refine wpList_plain rfl (fun K hK => ?_)
        go_step
        refine hK _ _ ?_
        clear hK K
        clear a00 a01 a02 a03 a04 a05 a06 a07
        clear a20 a21 a22 a23 a24 a25 a26 a27
        refine wpList_plain rfl (fun K hK => ?_)
        go_step
        refine (HSET.out _ _ _ (PN.out.read (List.mem_of_getElem? (i := 0) rfl)).2.1 (PN.out.read (List.mem_of_getElem? (i := 1) rfl)).2.1 HPW.out).mono ?_
        rintro e W11a ⟨cssb, bsb, rfl, hown, hnod, hlow, hc⟩
        have hIO := hown.isV (fun z hz => (hlow z hz).2)
        obtain ⟨sbk, sbb, sbi, sbf, sbt, sbty, sbp, sbn, sbc, sbq, sbm, sbd, rfl⟩ := fr_shape hIO
        refine hK _ _ ?_
        clear hK K hIO
        have HST := Lib.hid (PN.out.snoc BW.out.size (G := W11a.heap.size) rfl hown hnod hlow hc)
        clear hown hnod hlow hc HPW
        refine wpList_plain rfl (fun K hK => ?_)
        go_step
        refine hK _ _ ?_
        clear hK K
        refine wpList_plain rfl (fun K hK => ?_)
        go_step
        refine hK _ _ ?_
        clear hK K
        refine wpList_plain rfl (fun K hK => ?_)
        go_step
        refine hK _ _ ?_
        clear hK K
        refine wpList_plain rfl (fun K hK => ?_)
        go_step
        have hTn := heap_new W11a (.cells cells0 27)
        obtain ⟨wy, hW⟩ : ∃ y, W11a.alloc (.cells cells0 27) = y := ⟨_, rfl⟩
        have e : W11a.alloc (.cells cells0 27) = wy := hW
        rw [hW] at hTn HST
        rw [e]
        clear e hW
        have HTN := Lib.hid hTn
        refine hK _ _ ?_
        clear hK K hTn
        obtain ⟨Gsb, hG⟩ : ∃ a, a = W11a.heap.size := ⟨_, rfl⟩
        rw [← hG] at HTN HST ⊢
        clear hG
        refine wpList_plain rfl (fun K hK => ?_)
        refine wp_store_row (P := Tryd.prog) 27 (.tmp 19) (.tmp 75) rfl Gsb (vcells sbk sbb sbi sbf sbt sbty sbp sbn sbc sbq sbm sbd) rfl rfl 27 _ HTN.out (by kernel_rfl) rfl (vcells_one ..) ?_
        obtain ⟨W11, hW⟩ : ∃ y, wy.setRow Gsb (vcells sbk sbb sbi sbf sbt sbty sbp sbn sbc sbq sbm sbd) = y := ⟨_, rfl⟩
        rw [hW] at HST ⊢
        refine hK _ _ ?_
        clear hK K hW HTN
        have PN := Lib.hid (show Pens w.heap.size W11 [⟨w.heap.size, x, (vcells xk xb xi xf xt xty xp xn xc xq xm xd), bsx⟩, ⟨(w.heap.size + 1), y, (vcells yk yb yi yf yt yty yp yn yc yq ym yd), bsy⟩, ⟨g9, x, (vcells rk rb ri rf rt rty rp rn rc rq rm rd), bx⟩, ⟨g10, y, (vcells sk sb si sf st sty sp sn sc sq sm sd), bz⟩, ⟨Gwa, sv, (vcells wak wab wai waf wat waty wap wan wac waq wam wad), bwa⟩, ⟨Gcc, x, (vcells cck ccb cci ccf cct ccty ccp ccn ccc ccq ccm ccd), bcc⟩, ⟨Gdd, x, (vcells ddk ddb ddi ddf ddt ddty ddp ddn ddc ddq ddm ddd), bdd⟩, ⟨Gga, gv, (vcells gak gab gai gaf gat gaty gap gan gac gaq gam gad), bga⟩, ⟨Ggb, gv, (vcells gbk gbb gbi gbf gbt gbty gbp gbn gbc gbq gbm gbd), bgb⟩, ⟨Gsa, sv, (vcells sak sab sai saf sat saty sap san sac saq sam sad), bsa⟩, ⟨Gsb, sv, (vcells sbk sbb sbi sbf sbt sbty sbp sbn sbc sbq sbm sbd), bsb⟩] from HST.out.1)
        have BW := Lib.hid (BW.out.trans (HST.out.2.mono BW.out.size))
        clear HST
        go_upto_region 12 with (fail)
        have RDp2 := Lib.hid (show ∀ w', Below W11.heap.size W11 w' → CellsAt w' g9 0 (vcells rk rb ri rf rt rty rp rn rc rq rm rd) from fun w' h => ((PN.out.on h).read (List.mem_of_getElem? (i := 2) rfl)).1)
        have RDp4 := Lib.hid (show ∀ w', Below W11.heap.size W11 w' → CellsAt w' Gwa 0 (vcells wak wab wai waf wat waty wap wan wac waq wam wad) from fun w' h => ((PN.out.on h).read (List.mem_of_getElem? (i := 4) rfl)).1)
        have RDp5 := Lib.hid (show ∀ w', Below W11.heap.size W11 w' → CellsAt w' Gcc 0 (vcells cck ccb cci ccf cct ccty ccp ccn ccc ccq ccm ccd) from fun w' h => ((PN.out.on h).read (List.mem_of_getElem? (i := 5) rfl)).1)
        have RDp6 := Lib.hid (show ∀ w', Below W11.heap.size W11 w' → CellsAt w' Gdd 0 (vcells ddk ddb ddi ddf ddt ddty ddp ddn ddc ddq ddm ddd) from fun w' h => ((PN.out.on h).read (List.mem_of_getElem? (i := 6) rfl)).1)
        have RDp9 := Lib.hid (show ∀ w', Below W11.heap.size W11 w' → CellsAt w' Gsa 0 (vcells sak sab sai saf sat saty sap san sac saq sam sad) from fun w' h => ((PN.out.on h).read (List.mem_of_getElem? (i := 9) rfl)).1)
        have RDp10 := Lib.hid (show ∀ w', Below W11.heap.size W11 w' → CellsAt w' Gsb 0 (vcells sbk sbb sbi sbf sbt sbty sbp sbn sbc sbq sbm sbd) from fun w' h => ((PN.out.on h).read (List.mem_of_getElem? (i := 10) rfl)).1)
        have WHp0 := Lib.hid (show ∀ w', Below W11.heap.size W11 w' → Calls Tryd.prog 22 #[.agg (vcells cck ccb cci ccf cct ccty ccp ccn ccc ccq ccm ccd), .agg (vcells rk rb ri rf rt rty rp rn rc rq rm rd)] w' (RetB (.bool true) w') from fun w' h => Whole_same _ x (Nat.le_refl _) HOX.out _ _ w' ((PN.out.on h).read (List.mem_of_getElem? (i := 5) rfl)).2.1 ((PN.out.on h).read (List.mem_of_getElem? (i := 2) rfl)).2.1)
        have tkp0 := trivial
        have WHp1 := Lib.hid (show ∀ w', Below W11.heap.size W11 w' → Calls Tryd.prog 22 #[.agg (vcells ddk ddb ddi ddf ddt ddty ddp ddn ddc ddq ddm ddd), .agg (vcells rk rb ri rf rt rty rp rn rc rq rm rd)] w' (RetB (.bool true) w') from fun w' h => Whole_same _ x (Nat.le_refl _) HOX.out _ _ w' ((PN.out.on h).read (List.mem_of_getElem? (i := 6) rfl)).2.1 ((PN.out.on h).read (List.mem_of_getElem? (i := 2) rfl)).2.1)
        have tkp1 := trivial
        have WHp2 := Lib.hid (show ∀ w', Below W11.heap.size W11 w' → Calls Tryd.prog 22 #[.agg (vcells sak sab sai saf sat saty sap san sac saq sam sad), .agg (vcells wak wab wai waf wat waty wap wan wac waq wam wad)] w' (RetB (.bool true) w') from fun w' h => Whole_same _ sv (Nat.le_refl _) HOS.out _ _ w' ((PN.out.on h).read (List.mem_of_getElem? (i := 9) rfl)).2.1 ((PN.out.on h).read (List.mem_of_getElem? (i := 4) rfl)).2.1)
        have tkp2 := trivial
        have WHp3 := Lib.hid (show ∀ w', Below W11.heap.size W11 w' → Calls Tryd.prog 22 #[.agg (vcells sbk sbb sbi sbf sbt sbty sbp sbn sbc sbq sbm sbd), .agg (vcells wak wab wai waf wat waty wap wan wac waq wam wad)] w' (RetB (.bool true) w') from fun w' h => Whole_same _ sv (Nat.le_refl _) HOS.out _ _ w' ((PN.out.on h).read (List.mem_of_getElem? (i := 10) rfl)).2.1 ((PN.out.on h).read (List.mem_of_getElem? (i := 4) rfl)).2.1)
        have tkp3 := trivial
        have HQp0 := Lib.hid (Below.refl W11.heap.size W11)
        obtain ⟨ap00, ap01, ap02, ap03, ap04, ap05, ap06, ap07⟩ := (RDp5.out _ HQp0.out).all0
        obtain ⟨bp00, bp01, bp02, bp03, bp04, bp05, bp06, bp07⟩ := (RDp2.out _ HQp0.out).all0
        go_upto_region 14 with (go_at_call 22; first
          | (clear tkp0; refine (WHp0.out _ HQp0.out).mono ?_; rintro _ vp0 ⟨rfl, hb⟩; have HQp1 := Lib.hid (HQp0.out.trans (hb.mono HQp0.out.size)); clear hb; clear ap00 ap01 ap02 ap03 ap04 ap05 ap06 ap07 bp00 bp01 bp02 bp03 bp04 bp05 bp06 bp07; obtain ⟨ap10, ap11, ap12, ap13, ap14, ap15, ap16, ap17⟩ := (RDp6.out _ HQp1.out).all0; obtain ⟨bp10, bp11, bp12, bp13, bp14, bp15, bp16, bp17⟩ := (RDp2.out _ HQp1.out).all0)
          | (clear tkp1; refine (WHp1.out _ HQp1.out).mono ?_; rintro _ vp1 ⟨rfl, hb⟩; have HQp2 := Lib.hid (HQp1.out.trans (hb.mono HQp1.out.size)); clear hb; clear ap10 ap11 ap12 ap13 ap14 ap15 ap16 ap17 bp10 bp11 bp12 bp13 bp14 bp15 bp16 bp17; obtain ⟨ap20, ap21, ap22, ap23, ap24, ap25, ap26, ap27⟩ := (RDp9.out _ HQp2.out).all0; obtain ⟨bp20, bp21, bp22, bp23, bp24, bp25, bp26, bp27⟩ := (RDp4.out _ HQp2.out).all0)
          | (clear tkp2; refine (WHp2.out _ HQp2.out).mono ?_; rintro _ vp2 ⟨rfl, hb⟩; have HQp3 := Lib.hid (HQp2.out.trans (hb.mono HQp2.out.size)); clear hb; clear ap20 ap21 ap22 ap23 ap24 ap25 ap26 ap27 bp20 bp21 bp22 bp23 bp24 bp25 bp26 bp27; obtain ⟨ap30, ap31, ap32, ap33, ap34, ap35, ap36, ap37⟩ := (RDp10.out _ HQp3.out).all0; obtain ⟨bp30, bp31, bp32, bp33, bp34, bp35, bp36, bp37⟩ := (RDp4.out _ HQp3.out).all0)
          | (clear tkp3; refine (WHp3.out _ HQp3.out).mono ?_; rintro _ vp3 ⟨rfl, hb⟩; have HQp4 := Lib.hid (HQp3.out.trans (hb.mono HQp3.out.size)); clear hb; clear ap30 ap31 ap32 ap33 ap34 ap35 ap36 ap37 bp30 bp31 bp32 bp33 bp34 bp35 bp36 bp37))
        clear RDp2 RDp4 RDp5 RDp6 RDp9 RDp10 WHp0 WHp1 WHp2 WHp3
        obtain ⟨Wp, rfl⟩ : ∃ y, y = vp3 := ⟨_, rfl⟩
        have BW := Lib.hid (BW.out.trans (HQp4.out.mono BW.out.size))
        have PN := Lib.hid (PN.out.on HQp4.out)
        clear HQp0 HQp1 HQp2 HQp3 HQp4
        go_upto_region 14 with (fail)
        obtain ⟨a00, a01, a02, a03, a04, a05, a06, a07⟩ := (PN.out.read (List.mem_of_getElem? (i := 2) rfl)).1.all0
        have HPW := Lib.hid (HP.out.on BW.out)
        go_step
        refine wpList_plain rfl (fun K hK => ?_)
        go_step
        refine hK _ _ ?_
        clear hK K
        refine wpList_plain rfl (fun K hK => ?_)
        go_step
        refine hK _ _ ?_
        clear hK K
        clear a00 a01 a02 a03 a04 a05 a06 a07
        refine wpList_plain rfl (fun K hK => ?_)
        go_step
        refine (HRGET.out _ _ (PN.out.read (List.mem_of_getElem? (i := 2) rfl)).2.1 HPW.out).mono ?_
        rintro e W14a ⟨cspt, bpt, rfl, hown, hnod, hlow, hc⟩
        have hIO := hown.isV (fun z hz => (hlow z hz).2)
        obtain ⟨ptk, ptb, pti, ptf, ptt, ptty, ptp, ptn, ptc, ptq, ptm, ptd, rfl⟩ := fr_shape hIO
        refine hK _ _ ?_
        clear hK K hIO
        have HST := Lib.hid (PN.out.snoc BW.out.size (G := W14a.heap.size) rfl hown hnod hlow hc)
        clear hown hnod hlow hc HPW
        refine wpList_plain rfl (fun K hK => ?_)
        go_step
        refine hK _ _ ?_
        clear hK K
        refine wpList_plain rfl (fun K hK => ?_)
        go_step
        refine hK _ _ ?_
        clear hK K
        refine wpList_plain rfl (fun K hK => ?_)
        go_step
        refine hK _ _ ?_
        clear hK K
        refine wpList_plain rfl (fun K hK => ?_)
        go_step
        have hTn := heap_new W14a (.cells cells0 27)
        obtain ⟨wy, hW⟩ : ∃ y, W14a.alloc (.cells cells0 27) = y := ⟨_, rfl⟩
        have e : W14a.alloc (.cells cells0 27) = wy := hW
        rw [hW] at hTn HST
        rw [e]
        clear e hW
        have HTN := Lib.hid hTn
        refine hK _ _ ?_
        clear hK K hTn
        obtain ⟨Gpt, hG⟩ : ∃ a, a = W14a.heap.size := ⟨_, rfl⟩
        rw [← hG] at HTN HST ⊢
        clear hG
        refine wpList_plain rfl (fun K hK => ?_)
        refine wp_store_row (P := Tryd.prog) 27 (.tmp 21) (.tmp 123) rfl Gpt (vcells ptk ptb pti ptf ptt ptty ptp ptn ptc ptq ptm ptd) rfl rfl 27 _ HTN.out (by kernel_rfl) rfl (vcells_one ..) ?_
        obtain ⟨W14, hW⟩ : ∃ y, wy.setRow Gpt (vcells ptk ptb pti ptf ptt ptty ptp ptn ptc ptq ptm ptd) = y := ⟨_, rfl⟩
        rw [hW] at HST ⊢
        refine hK _ _ ?_
        clear hK K hW HTN
        have PN := Lib.hid (show Pens w.heap.size W14 [⟨w.heap.size, x, (vcells xk xb xi xf xt xty xp xn xc xq xm xd), bsx⟩, ⟨(w.heap.size + 1), y, (vcells yk yb yi yf yt yty yp yn yc yq ym yd), bsy⟩, ⟨g9, x, (vcells rk rb ri rf rt rty rp rn rc rq rm rd), bx⟩, ⟨g10, y, (vcells sk sb si sf st sty sp sn sc sq sm sd), bz⟩, ⟨Gwa, sv, (vcells wak wab wai waf wat waty wap wan wac waq wam wad), bwa⟩, ⟨Gcc, x, (vcells cck ccb cci ccf cct ccty ccp ccn ccc ccq ccm ccd), bcc⟩, ⟨Gdd, x, (vcells ddk ddb ddi ddf ddt ddty ddp ddn ddc ddq ddm ddd), bdd⟩, ⟨Gga, gv, (vcells gak gab gai gaf gat gaty gap gan gac gaq gam gad), bga⟩, ⟨Ggb, gv, (vcells gbk gbb gbi gbf gbt gbty gbp gbn gbc gbq gbm gbd), bgb⟩, ⟨Gsa, sv, (vcells sak sab sai saf sat saty sap san sac saq sam sad), bsa⟩, ⟨Gsb, sv, (vcells sbk sbb sbi sbf sbt sbty sbp sbn sbc sbq sbm sbd), bsb⟩, ⟨Gpt, gv, (vcells ptk ptb pti ptf ptt ptty ptp ptn ptc ptq ptm ptd), bpt⟩] from HST.out.1)
        have BW := Lib.hid (BW.out.trans (HST.out.2.mono BW.out.size))
        clear HST
        go_upto_region 15 with (fail)
        have RDq0 := Lib.hid (show ∀ w', Below W14.heap.size W14 w' → CellsAt w' w.heap.size 0 (vcells xk xb xi xf xt xty xp xn xc xq xm xd) from fun w' h => ((PN.out.on h).read (List.mem_of_getElem? (i := 0) rfl)).1)
        have RDq1 := Lib.hid (show ∀ w', Below W14.heap.size W14 w' → CellsAt w' (w.heap.size + 1) 0 (vcells yk yb yi yf yt yty yp yn yc yq ym yd) from fun w' h => ((PN.out.on h).read (List.mem_of_getElem? (i := 1) rfl)).1)
        have RDq2 := Lib.hid (show ∀ w', Below W14.heap.size W14 w' → CellsAt w' g9 0 (vcells rk rb ri rf rt rty rp rn rc rq rm rd) from fun w' h => ((PN.out.on h).read (List.mem_of_getElem? (i := 2) rfl)).1)
        have RDq3 := Lib.hid (show ∀ w', Below W14.heap.size W14 w' → CellsAt w' g10 0 (vcells sk sb si sf st sty sp sn sc sq sm sd) from fun w' h => ((PN.out.on h).read (List.mem_of_getElem? (i := 3) rfl)).1)
        have RDq7 := Lib.hid (show ∀ w', Below W14.heap.size W14 w' → CellsAt w' Gga 0 (vcells gak gab gai gaf gat gaty gap gan gac gaq gam gad) from fun w' h => ((PN.out.on h).read (List.mem_of_getElem? (i := 7) rfl)).1)
        have RDq8 := Lib.hid (show ∀ w', Below W14.heap.size W14 w' → CellsAt w' Ggb 0 (vcells gbk gbb gbi gbf gbt gbty gbp gbn gbc gbq gbm gbd) from fun w' h => ((PN.out.on h).read (List.mem_of_getElem? (i := 8) rfl)).1)
        have RDq11 := Lib.hid (show ∀ w', Below W14.heap.size W14 w' → CellsAt w' Gpt 0 (vcells ptk ptb pti ptf ptt ptty ptp ptn ptc ptq ptm ptd) from fun w' h => ((PN.out.on h).read (List.mem_of_getElem? (i := 11) rfl)).1)
        have WHq0 := Lib.hid (show ∀ w', Below W14.heap.size W14 w' → Calls Tryd.prog 22 #[.agg (vcells gak gab gai gaf gat gaty gap gan gac gaq gam gad), .agg (vcells ptk ptb pti ptf ptt ptty ptp ptn ptc ptq ptm ptd)] w' (RetB (.bool true) w') from fun w' h => Whole_same _ gv (Nat.le_refl _) HOG.out _ _ w' ((PN.out.on h).read (List.mem_of_getElem? (i := 7) rfl)).2.1 ((PN.out.on h).read (List.mem_of_getElem? (i := 11) rfl)).2.1)
        have tkq0 := trivial
        have WHq1 := Lib.hid (show ∀ w', Below W14.heap.size W14 w' → Calls Tryd.prog 22 #[.agg (vcells gbk gbb gbi gbf gbt gbty gbp gbn gbc gbq gbm gbd), .agg (vcells ptk ptb pti ptf ptt ptty ptp ptn ptc ptq ptm ptd)] w' (RetB (.bool true) w') from fun w' h => Whole_same _ gv (Nat.le_refl _) HOG.out _ _ w' ((PN.out.on h).read (List.mem_of_getElem? (i := 8) rfl)).2.1 ((PN.out.on h).read (List.mem_of_getElem? (i := 11) rfl)).2.1)
        have tkq1 := trivial
        have WHq2 := Lib.hid (show ∀ w', Below W14.heap.size W14 w' → Calls Tryd.prog 22 #[.agg (vcells xk xb xi xf xt xty xp xn xc xq xm xd), .agg (vcells rk rb ri rf rt rty rp rn rc rq rm rd)] w' (RetB (.bool true) w') from fun w' h => Whole_same _ x (Nat.le_refl _) HOX.out _ _ w' ((PN.out.on h).read (List.mem_of_getElem? (i := 0) rfl)).2.1 ((PN.out.on h).read (List.mem_of_getElem? (i := 2) rfl)).2.1)
        have tkq2 := trivial
        have WHq3 := Lib.hid (show ∀ w', Below W14.heap.size W14 w' → Calls Tryd.prog 22 #[.agg (vcells yk yb yi yf yt yty yp yn yc yq ym yd), .agg (vcells sk sb si sf st sty sp sn sc sq sm sd)] w' (RetB (.bool true) w') from fun w' h => Whole_same _ y (Nat.le_refl _) HOY.out _ _ w' ((PN.out.on h).read (List.mem_of_getElem? (i := 1) rfl)).2.1 ((PN.out.on h).read (List.mem_of_getElem? (i := 3) rfl)).2.1)
        have tkq3 := trivial
        have HQq0 := Lib.hid (Below.refl W14.heap.size W14)
        obtain ⟨aq00, aq01, aq02, aq03, aq04, aq05, aq06, aq07⟩ := (RDq7.out _ HQq0.out).all0
        obtain ⟨bq00, bq01, bq02, bq03, bq04, bq05, bq06, bq07⟩ := (RDq11.out _ HQq0.out).all0
        go_upto_region 17 with (go_at_call 22; first
          | (clear tkq0; refine (WHq0.out _ HQq0.out).mono ?_; rintro _ vq0 ⟨rfl, hb⟩; have HQq1 := Lib.hid (HQq0.out.trans (hb.mono HQq0.out.size)); clear hb; clear aq00 aq01 aq02 aq03 aq04 aq05 aq06 aq07 bq00 bq01 bq02 bq03 bq04 bq05 bq06 bq07; obtain ⟨aq10, aq11, aq12, aq13, aq14, aq15, aq16, aq17⟩ := (RDq8.out _ HQq1.out).all0; obtain ⟨bq10, bq11, bq12, bq13, bq14, bq15, bq16, bq17⟩ := (RDq11.out _ HQq1.out).all0)
          | (clear tkq1; refine (WHq1.out _ HQq1.out).mono ?_; rintro _ vq1 ⟨rfl, hb⟩; have HQq2 := Lib.hid (HQq1.out.trans (hb.mono HQq1.out.size)); clear hb; clear aq10 aq11 aq12 aq13 aq14 aq15 aq16 aq17 bq10 bq11 bq12 bq13 bq14 bq15 bq16 bq17; obtain ⟨aq20, aq21, aq22, aq23, aq24, aq25, aq26, aq27⟩ := (RDq0.out _ HQq2.out).all0; obtain ⟨bq20, bq21, bq22, bq23, bq24, bq25, bq26, bq27⟩ := (RDq2.out _ HQq2.out).all0)
          | (clear tkq2; refine (WHq2.out _ HQq2.out).mono ?_; rintro _ vq2 ⟨rfl, hb⟩; have HQq3 := Lib.hid (HQq2.out.trans (hb.mono HQq2.out.size)); clear hb; clear aq20 aq21 aq22 aq23 aq24 aq25 aq26 aq27 bq20 bq21 bq22 bq23 bq24 bq25 bq26 bq27; obtain ⟨aq30, aq31, aq32, aq33, aq34, aq35, aq36, aq37⟩ := (RDq1.out _ HQq3.out).all0; obtain ⟨bq30, bq31, bq32, bq33, bq34, bq35, bq36, bq37⟩ := (RDq3.out _ HQq3.out).all0)
          | (clear tkq3; refine (WHq3.out _ HQq3.out).mono ?_; rintro _ vq3 ⟨rfl, hb⟩; have HQq4 := Lib.hid (HQq3.out.trans (hb.mono HQq3.out.size)); clear hb; clear aq30 aq31 aq32 aq33 aq34 aq35 aq36 aq37 bq30 bq31 bq32 bq33 bq34 bq35 bq36 bq37))
        clear RDq0 RDq1 RDq2 RDq3 RDq7 RDq8 RDq11 WHq0 WHq1 WHq2 WHq3
        obtain ⟨Wq, rfl⟩ : ∃ y, y = vq3 := ⟨_, rfl⟩
        have BW := Lib.hid (BW.out.trans (HQq4.out.mono BW.out.size))
        have PN := Lib.hid (PN.out.on HQq4.out)
        clear HQq0 HQq1 HQq2 HQq3 HQq4
        have PS := Lib.hid (show Pens w.heap.size Wq [⟨w.heap.size, x, (vcells xk xb xi xf xt xty xp xn xc xq xm xd), bsx⟩, ⟨(w.heap.size + 1), y, (vcells yk yb yi yf yt yty yp yn yc yq ym yd), bsy⟩, ⟨Gcc, x, (vcells cck ccb cci ccf cct ccty ccp ccn ccc ccq ccm ccd), bcc⟩, ⟨Gdd, x, (vcells ddk ddb ddi ddf ddt ddty ddp ddn ddc ddq ddm ddd), bdd⟩, ⟨Gga, gv, (vcells gak gab gai gaf gat gaty gap gan gac gaq gam gad), bga⟩, ⟨Ggb, gv, (vcells gbk gbb gbi gbf gbt gbty gbp gbn gbc gbq gbm gbd), bgb⟩, ⟨Gsa, sv, (vcells sak sab sai saf sat saty sap san sac saq sam sad), bsa⟩, ⟨Gsb, sv, (vcells sbk sbb sbi sbf sbt sbty sbp sbn sbc sbq sbm sbd), bsb⟩] from PN.out.sub (by refine List.Sublist.cons_cons _ ?_; refine List.Sublist.cons_cons _ ?_; refine List.Sublist.cons _ ?_; refine List.Sublist.cons _ ?_; refine List.Sublist.cons _ ?_; refine List.Sublist.cons_cons _ ?_; refine List.Sublist.cons_cons _ ?_; refine List.Sublist.cons_cons _ ?_; refine List.Sublist.cons_cons _ ?_; refine List.Sublist.cons_cons _ ?_; refine List.Sublist.cons_cons _ ?_; refine List.Sublist.cons _ ?_; exact List.Sublist.slnil))
        obtain ⟨eI, eF, hla, hfo, hbad⟩ := PS.out.four
        have HLA := Lib.hid hla
        have HFO := Lib.hid hfo
        have HBAD := Lib.hid hbad
        have hszs := laidAll_len (S := 20000) hla (fun z hz => by
          simp only [List.mem_cons, List.not_mem_nil, or_false] at hz
          rcases hz with rfl | rfl | rfl | rfl | rfl | rfl | rfl | rfl <;> simp only <;> omega)
        have hlI : eI.length ≤ 500000000 := Nat.le_trans hszs.1 (show 8 * 20000 ≤ 500000000 by decide)
        have hlF : eF.length ≤ 500000000 := Nat.le_trans hszs.2.1 (show 8 * 20000 ≤ 500000000 by decide)
        clear hla hfo hbad hszs
        have LT := Lib.hid PS.out.rng
        have HG0 := Lib.hid (GS.start HLA.out)
        clear PN
        go_upto_region 18 with (fail)
        have tkg0 := trivial
        have tkg1 := trivial
        have tkg2 := trivial
        have tkg3 := trivial
        have tkg4 := trivial
        have tkg5 := trivial
        have tkg6 := trivial
        have tkg7 := trivial
        go_upto_region 26 with (go_at_call 24; first
          | (clear tkg0; refine (gather_step HG0.out (fun z hz => (LT.out z (pensBlocks_sub (by exact List.Sublist.refl _) |>.subset hz)).2) (Nat.le_refl _) hlI hlF (by simp only; omega)).mono ?_; rintro e vg0 ⟨rfl, hg⟩; have HG1 := Lib.hid hg; clear hg)
          | (clear tkg1; refine (gather_step HG1.out (fun z hz => (LT.out z (pensBlocks_sub (by refine List.Sublist.cons _ ?_; exact List.Sublist.refl _) |>.subset hz)).2) (Nat.le_refl _) hlI hlF (by simp only; omega)).mono ?_; rintro e vg1 ⟨rfl, hg⟩; have HG2 := Lib.hid hg; clear hg)
          | (clear tkg2; refine (gather_step HG2.out (fun z hz => (LT.out z (pensBlocks_sub (by refine List.Sublist.cons _ ?_; refine List.Sublist.cons _ ?_; exact List.Sublist.refl _) |>.subset hz)).2) (Nat.le_refl _) hlI hlF (by simp only; omega)).mono ?_; rintro e vg2 ⟨rfl, hg⟩; have HG3 := Lib.hid hg; clear hg)
          | (clear tkg3; refine (gather_step HG3.out (fun z hz => (LT.out z (pensBlocks_sub (by refine List.Sublist.cons _ ?_; refine List.Sublist.cons _ ?_; refine List.Sublist.cons _ ?_; exact List.Sublist.refl _) |>.subset hz)).2) (Nat.le_refl _) hlI hlF (by simp only; omega)).mono ?_; rintro e vg3 ⟨rfl, hg⟩; have HG4 := Lib.hid hg; clear hg)
          | (clear tkg4; refine (gather_step HG4.out (fun z hz => (LT.out z (pensBlocks_sub (by refine List.Sublist.cons _ ?_; refine List.Sublist.cons _ ?_; refine List.Sublist.cons _ ?_; refine List.Sublist.cons _ ?_; exact List.Sublist.refl _) |>.subset hz)).2) (Nat.le_refl _) hlI hlF (by simp only; omega)).mono ?_; rintro e vg4 ⟨rfl, hg⟩; have HG5 := Lib.hid hg; clear hg)
          | (clear tkg5; refine (gather_step HG5.out (fun z hz => (LT.out z (pensBlocks_sub (by refine List.Sublist.cons _ ?_; refine List.Sublist.cons _ ?_; refine List.Sublist.cons _ ?_; refine List.Sublist.cons _ ?_; refine List.Sublist.cons _ ?_; exact List.Sublist.refl _) |>.subset hz)).2) (Nat.le_refl _) hlI hlF (by simp only; omega)).mono ?_; rintro e vg5 ⟨rfl, hg⟩; have HG6 := Lib.hid hg; clear hg)
          | (clear tkg6; refine (gather_step HG6.out (fun z hz => (LT.out z (pensBlocks_sub (by refine List.Sublist.cons _ ?_; refine List.Sublist.cons _ ?_; refine List.Sublist.cons _ ?_; refine List.Sublist.cons _ ?_; refine List.Sublist.cons _ ?_; refine List.Sublist.cons _ ?_; exact List.Sublist.refl _) |>.subset hz)).2) (Nat.le_refl _) hlI hlF (by simp only; omega)).mono ?_; rintro e vg6 ⟨rfl, hg⟩; have HG7 := Lib.hid hg; clear hg)
          | (clear tkg7; refine (gather_step HG7.out (fun z hz => (LT.out z (pensBlocks_sub (by refine List.Sublist.cons _ ?_; refine List.Sublist.cons _ ?_; refine List.Sublist.cons _ ?_; refine List.Sublist.cons _ ?_; refine List.Sublist.cons _ ?_; refine List.Sublist.cons _ ?_; refine List.Sublist.cons _ ?_; exact List.Sublist.refl _) |>.subset hz)).2) (Nat.le_refl _) hlI hlF (by simp only; omega)).mono ?_; rintro e vg7 ⟨rfl, hg⟩; have HG8 := Lib.hid hg; clear hg))
        have HBG := Lib.hid (show Below Wq.heap.size Wq vg7 from by obtain ⟨_, _, _, _, _, _, _, hb, _⟩ := HG8.out; exact hb)
        have HAP := Lib.hid (apart_gs HLA.out HFO.out HBAD.out HG8.out BW.out.size (fun z hz => by
          simp only [List.mem_cons, List.not_mem_nil, or_false] at hz
          rcases hz with rfl | rfl | rfl | rfl | rfl | rfl | rfl | rfl <;> simp only <;> omega) (by simp) (fun V hV => HTAB.out V ((BW.out.trans (HBG.out.mono BW.out.size)).trans hV)))
        go_wp2_with (go_at_call 25; refine HAP.out.mono ?_; rintro e vz ⟨rfl, hz⟩; have HZ := Lib.hid hz; clear hz)
        go_ret
        exact ⟨rfl, (BW.out.trans (HBG.out.mono BW.out.size)).trans HZ.out⟩
end Go.Proofs.YtnmnmkdmnohbmaaDoor
