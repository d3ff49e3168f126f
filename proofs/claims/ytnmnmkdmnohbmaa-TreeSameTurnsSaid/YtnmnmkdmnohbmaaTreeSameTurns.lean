/- TreeSameTurns: the walk: the statement answers true of any two values. Conditions: none. -/
import Derived.Test.YtnmnmkdmnohbmaaTreeEqual
import Derived.Test.YtnmnmkdmnohbmaaTurnLaws
namespace Go.Proofs.Ytnmnmkdmnohbmaa
open Go.RowKit
attribute [local go_sem] run_store_float

set_option maxRecDepth 100000 in
set_option maxHeartbeats 4000000 in
theorem TreeSameTurns_walk (x y : V) (cs cs' : Array Value) (w : World) (hv : IsV w.heap.size w x cs) (hv' : IsV w.heap.size w y cs') (ox : okV x) (oy : okV y) (nx : nmV x) (ny : nmV y) :
    Calls Try.prog 9 #[.agg cs, .agg cs'] w (RetB (.bool true) w) := by
  have HV := Lib.hid hv
  have HV' := Lib.hid hv'
  have OX := Lib.hid ox
  have OY := Lib.hid oy
  have NX := Lib.hid nx
  have NY := Lib.hid ny
  clear ox oy nx ny
  obtain ⟨k, b, i, f, t, ty, p, n, c, q, m, d, rfl⟩ := isV_shape hv
  obtain ⟨k', b', i', f', t', ty', p', n', c', q', m', d', rfl⟩ := isV_shape hv'
  clear hv hv'
  obtain ⟨wa, e, hwa, hs0, hs1, hal, hal'⟩ := two_allocs w (vcells k b i f t ty p n c q m d) (vcells k' b' i' f' t' ty' p' n' c' q' m' d') 60 60
  have HWA := Lib.hid hwa
  go_enter Try.func9, Try.ntmps9
  have tk := trivial
  go_wp2_with (go_at_call 40; clear tk; refine (known_any _).mono ?_; rintro _ w1 ⟨rfl, hb1⟩; obtain ⟨c0, c1, c2, c3, c4, c5, c6, c7⟩ := (hal.below hb1 hs0).all0)
  clear e hwa
  have tk := trivial
  by_cases hz1 : 100000 < sizeR x 100000
  · have dz : decide (100000 < sizeR x 100000) = true := by simp [hz1]
    go_wp2_with (go_at_call 27; clear tk; refine (Size_any _ x (Nat.le_refl _) _ _ 100000 (HV.out.on (HWA.out.trans (hb1.mono HWA.out.size))) (by decide) (by decide)).mono ?_; rintro _ w2 ⟨rfl, hb2⟩)
    go_ret
    exact ⟨rfl, (HWA.out.trans (hb1.mono HWA.out.size)).trans (hb2.mono (Nat.le_trans HWA.out.size hb1.size))⟩
  · have hsx : szV x ≤ 100000 := by have := sizeR_eq x 100000 (by omega); omega
    have dz : decide (100000 < sizeR x 100000) = false := by simp; omega
    go_wp2_with (go_at_call 27; clear tk; refine (Size_any _ x (Nat.le_refl _) _ _ 100000 (HV.out.on (HWA.out.trans (hb1.mono HWA.out.size))) (by decide) (by decide)).mono ?_; rintro _ w2 ⟨rfl, hb2⟩; replace hb2 := hb1.trans (hb2.mono hb1.size); obtain ⟨d0, d1, d2, d3, d4, d5, d6, d7⟩ := (hal'.below hb2 hs1).all0)
    clear hz1
    have tk := trivial
    by_cases hz2 : 100000 < sizeR y 100000
    · have dz2 : decide (100000 < sizeR y 100000) = true := by simp [hz2]
      go_wp2_with (go_at_call 27; clear tk; refine (Size_any _ y (Nat.le_refl _) _ _ 100000 (HV'.out.on (HWA.out.trans (hb2.mono HWA.out.size))) (by decide) (by decide)).mono ?_; rintro _ w3 ⟨rfl, hb3⟩)
      go_ret
      exact ⟨rfl, (HWA.out.trans (hb2.mono HWA.out.size)).trans (hb3.mono (Nat.le_trans HWA.out.size hb2.size))⟩
    · have hsy : szV y ≤ 100000 := by have := sizeR_eq y 100000 (by omega); omega
      have dz2 : decide (100000 < sizeR y 100000) = false := by simp; omega
      go_wp2_with (first | (go_at_call 27; clear tk; refine (Size_any _ y (Nat.le_refl _) _ _ 100000 (HV'.out.on (HWA.out.trans (hb2.mono HWA.out.size))) (by decide) (by decide)).mono ?_; rintro _ w3 ⟨rfl, hb3⟩; replace hb3 := hb2.trans (hb3.mono hb2.size); obtain ⟨x0, x1, x2, x3, x4, x5, x6, x7⟩ := (hal.below hb3 hs0).all0) | (go_at_call 41; refine (turned_is x _ _ (HV.out.on (HWA.out.trans (hb3.mono HWA.out.size))) (by omega)).mono ?_; rintro _ w4 ⟨ct, rfl, hvt, hb4⟩; replace hb4 := hb3.trans (hb4.mono hb3.size); have HVT := Lib.hid hvt; obtain ⟨kq, bq, iq, fq, tq, tyq, pq, nq, cq, qq, mq, dq, rfl⟩ := isV_shape hvt))
      clear hz2 c0 c1 c2 c3 c4 c5 c6 c7 d0 d1 d2 d3 d4 d5 d6 d7 x0 x1 x2 x3 x4 x5 x6 x7
      obtain ⟨W, hW⟩ : ∃ W, w4.alloc (.cells (vcells kq bq iq fq tq tyq pq nq cq qq mq dq) 60) = W := ⟨_, rfl⟩
      have hbW : Below w4.heap.size w4 W := by rw [← hW]; exact (Below.refl _ _).alloc (Nat.le_refl _) _
      have hsW : w4.heap.size < W.heap.size := by rw [← hW]; simp
      have hcW : CellsAt W w4.heap.size 0 (vcells kq bq iq fq tq tyq pq nq cq qq mq dq) := by rw [← hW]; exact cellsAt_alloc _ _ _ _
      have e : w4.alloc (.cells (vcells kq bq iq fq tq tyq pq nq cq qq mq dq) 60) = W := hW
      clear hW
      rw [e]
      clear e
      have hbB := hb4.trans (hbW.mono hb4.size)
      have hww := HWA.out.trans (hbB.mono HWA.out.size)
      obtain ⟨x0, x1, x2, x3, x4, x5, x6, x7⟩ := (hal.below hbB hs0).all0
      obtain ⟨y0, y1, y2, y3, y4, y5, y6, y7⟩ := (hal'.below hbB hs1).all0
      obtain ⟨z0, z1, z2, z3, z4, z5, z6, z7⟩ := hcW.all0
      have hX := HV.out.on hww
      have hY := HV'.out.on hww
      have hT := HVT.out.on hbW
      have hr0 : w.heap.size < W.heap.size := Nat.lt_of_lt_of_le hs0 hbB.size
      have hr1 : w.heap.size + 1 < W.heap.size := Nat.lt_of_lt_of_le hs1 hbB.size
      have C1 := Lib.hid (show ∀ w', Below W.heap.size W w' → Calls Try.prog 44 #[.agg (vcells k b i f t ty p n c q m d), .agg (vcells kq bq iq fq tq tyq pq nq cq qq mq dq)] w' (RetB (.bool true) w') from fun w' h => by have := Same_any _ x (Nat.le_refl _) NX.out (turnV x) (nm_turnV x NX.out) _ _ w' (hX.on h) (hT.on h); rwa [same_turn] at this)
      have C2 := Lib.hid (show ∀ w', Below W.heap.size W w' → Calls Try.prog 44 #[.agg (vcells kq bq iq fq tq tyq pq nq cq qq mq dq), .agg (vcells k b i f t ty p n c q m d)] w' (RetB (.bool true) w') from fun w' h => by have := Same_any _ (turnV x) (Nat.le_refl _) (nm_turnV x NX.out) x NX.out _ _ w' (hT.on h) (hX.on h); rwa [sameV_symm, same_turn] at this)
      have C3 := Lib.hid (show ∀ w', Below W.heap.size W w' → Calls Try.prog 46 #[.agg (vcells k b i f t ty p n c q m d)] w' (RetB (.int .i64 (cntV x)) w') from fun w' h => Count_any _ x (Nat.le_refl _) _ w' (hX.on h) (by omega))
      have C4 := Lib.hid (show ∀ w', Below W.heap.size W w' → Calls Try.prog 46 #[.agg (vcells kq bq iq fq tq tyq pq nq cq qq mq dq)] w' (RetB (.int .i64 (cntV x)) w') from fun w' h => by have := Count_any _ (turnV x) (Nat.le_refl _) _ w' (hT.on h) (by rw [sz_turnV]; omega); rwa [cnt_turn] at this)
      have C5 := Lib.hid (show ∀ w', Below W.heap.size W w' → Calls Try.prog 47 #[.agg (vcells k b i f t ty p n c q m d)] w' (RetB (.int .i64 (depV x)) w') from fun w' h => Depth_any _ x (Nat.le_refl _) _ w' (hX.on h) (by omega))
      have C6 := Lib.hid (show ∀ w', Below W.heap.size W w' → Calls Try.prog 47 #[.agg (vcells kq bq iq fq tq tyq pq nq cq qq mq dq)] w' (RetB (.int .i64 (depV x)) w') from fun w' h => by have := Depth_any _ (turnV x) (Nat.le_refl _) _ w' (hT.on h) (by rw [sz_turnV]; omega); rwa [dep_turn] at this)
      have C7 := Lib.hid (show ∀ w', Below W.heap.size W w' → Calls Try.prog 42 #[.agg (vcells k b i f t ty p n c q m d), .agg (vcells k' b' i' f' t' ty' p' n' c' q' m' d')] w' (RetB (.bool (eqV x y)) w') from fun w' h => Equal_any _ x (Nat.le_refl _) y _ _ w' (hX.on h) (hY.on h))
      have C8 := Lib.hid (show ∀ w', Below W.heap.size W w' → Calls Try.prog 44 #[.agg (vcells k b i f t ty p n c q m d), .agg (vcells k' b' i' f' t' ty' p' n' c' q' m' d')] w' (RetB (.bool (sameV x y)) w') from fun w' h => Same_any _ x (Nat.le_refl _) NX.out y NY.out _ _ w' (hX.on h) (hY.on h))
      have C9 := Lib.hid (show ∀ w', Below W.heap.size W w' → Calls Try.prog 44 #[.agg (vcells k' b' i' f' t' ty' p' n' c' q' m' d'), .agg (vcells k b i f t ty p n c q m d)] w' (RetB (.bool (sameV x y)) w') from fun w' h => by have := Same_any _ y (Nat.le_refl _) NY.out x NX.out _ _ w' (hY.on h) (hX.on h); rwa [sameV_symm] at this)
      have C10 := Lib.hid (show ∀ w', Below W.heap.size W w' → Calls Try.prog 44 #[.agg (vcells kq bq iq fq tq tyq pq nq cq qq mq dq), .agg (vcells k' b' i' f' t' ty' p' n' c' q' m' d')] w' (RetB (.bool (sameV x y)) w') from fun w' h => by have := Same_any _ (turnV x) (Nat.le_refl _) (nm_turnV x NX.out) y NY.out _ _ w' (hT.on h) (hY.on h); rwa [sameV_left y (same_turn x)] at this)
      have HES := Lib.hid (eq_same x y)
      generalize eqV x y = E1 at *
      generalize sameV x y = E2 at *
      generalize cntV x = cn at *
      generalize depV x = dn at *
      have HCW := Lib.hid hcW
      clear hX hY hT hcW hb1 hb2 hb3 hb4 hbW HV HV' HVT
      refine wp_region_plan_below 24 [(0, [0, 1]), (1, [2, 3, 4]), (0, [5, 6]), (1, [7, 8, 9, 10]), (0, [11, 13]), (1, [12, 14, 15, 16, 17]), (0, [18, 20]), (1, [19, 21, 22, 23])] (by kernel_rfl) (by kernel_rfl) (fun _ _ _ _ h => h) ?_
      simp only [wpSegs, pickOps, List.getElem?_toArray, List.getElem?_cons_zero, List.getElem?_cons_succ]
      have kc := cell_cls W
      have hk0 := (Below.drew (Below.refl W.heap.size W))
      iterate 2 (go_big_quiet_step (fail))
      refine wpQuiet_nil ?_
      refine wpListC_plain rfl (fun K hK => ?_)
      go_step
      refine (C1.out _ hk0).mono ?_
      rintro e wW1 ⟨rfl, hbc⟩
      have hk1 := hk0.trans (hbc.mono hk0.size)
      refine hK _ _ (cls_of_below hk1) ?_
      clear hK K hbc
      refine wpListC_plain rfl (fun K hK => ?_)
      go_step
      refine hK _ _ (cls_of_below hk1) ?_
      clear hK K
      refine wpListC_plain rfl (fun K hK => ?_)
      go_step
      refine hK _ _ (cls_of_below hk1) ?_
      clear hK K
      refine wpListC_nil ?_
      iterate 2 (go_big_quiet_step (fail))
      refine wpQuiet_nil ?_
      refine wpListC_want (by rfl) (fun K hK => ?_)
      go_step
      refine (C2.out _ hk1).mono ?_
      rintro e wW2 ⟨rfl, hbc⟩
      have hk2 := hk1.trans (hbc.mono hk1.size)
      refine hK _ _ (cls_of_below hk2) ?_
      clear hK K hbc
      refine wpListC_want (by rfl) (fun K hK => ?_)
      go_step
      refine hK _ _ (cls_of_below hk2) ?_
      clear hK K
      refine wpListC_plain rfl (fun K hK => ?_)
      go_step
      refine hK _ _ (cls_of_below hk2) ?_
      clear hK K
      refine wpListC_plain rfl (fun K hK => ?_)
      go_step
      refine hK _ _ (cls_of_below hk2) ?_
      clear hK K
      refine wpListC_nil ?_
      iterate 2 (go_big_quiet_step (fail))
      refine wpQuiet_nil ?_
      refine wpListC_want (by rfl) (fun K hK => ?_)
      go_step
      refine (C3.out _ hk2).mono ?_
      rintro e wW3 ⟨rfl, hbc⟩
      have hk3 := hk2.trans (hbc.mono hk2.size)
      refine hK _ _ (cls_of_below hk3) ?_
      clear hK K hbc
      refine wpListC_want (by rfl) (fun K hK => ?_)
      go_step
      refine (C4.out _ hk3).mono ?_
      rintro e wW4 ⟨rfl, hbc⟩
      have hk4 := hk3.trans (hbc.mono hk3.size)
      refine hK _ _ (cls_of_below hk4) ?_
      clear hK K hbc
      refine wpListC_want (by rfl) (fun K hK => ?_)
      go_step
      refine hK _ _ (cls_of_below hk4) ?_
      clear hK K
      refine wpListC_plain rfl (fun K hK => ?_)
      go_step
      refine hK _ _ (cls_of_below hk4) ?_
      clear hK K
      refine wpListC_plain rfl (fun K hK => ?_)
      go_step
      refine hK _ _ (cls_of_below hk4) ?_
      clear hK K
      refine wpListC_nil ?_
      iterate 2 (go_big_quiet_step (fail))
      refine wpQuiet_nil ?_
      refine wpListC_want (by rfl) (fun K hK => ?_)
      go_step
      refine (C5.out _ hk4).mono ?_
      rintro e wW5 ⟨rfl, hbc⟩
      have hk5 := hk4.trans (hbc.mono hk4.size)
      refine hK _ _ (cls_of_below hk5) ?_
      clear hK K hbc
      refine wpListC_want (by rfl) (fun K hK => ?_)
      go_step
      refine (C6.out _ hk5).mono ?_
      rintro e wW6 ⟨rfl, hbc⟩
      have hk6 := hk5.trans (hbc.mono hk5.size)
      refine hK _ _ (cls_of_below hk6) ?_
      clear hK K hbc
      refine wpListC_want (by rfl) (fun K hK => ?_)
      go_step
      refine hK _ _ (cls_of_below hk6) ?_
      clear hK K
      refine wpListC_plain rfl (fun K hK => ?_)
      go_step
      refine hK _ _ (cls_of_below hk6) ?_
      clear hK K
      refine wpListC_nil ?_
      clear kc
      have hbC := hbB.trans (hk6.mono hbB.size)
      clear x0 x1 x2 x3 x4 x5 x6 x7 y0 y1 y2 y3 y4 y5 y6 y7 z0 z1 z2 z3 z4 z5 z6 z7
      obtain ⟨x0, x1, x2, x3, x4, x5, x6, x7⟩ := (hal.below hbC hs0).all0
      obtain ⟨y0, y1, y2, y3, y4, y5, y6, y7⟩ := (hal'.below hbC hs1).all0
      have q0 : w.heap.size < wW6.heap.size := Nat.lt_of_lt_of_le hs0 hbC.size
      have q1 : w.heap.size + 1 < wW6.heap.size := Nat.lt_of_lt_of_le hs1 hbC.size
      have tk := trivial
      cases E1
      · go_wp2_with (go_at_call 42; clear tk; refine (C7.out _ hk6).mono ?_; rintro _ v1 ⟨rfl, g1⟩; replace g1 := hk6.trans (g1.mono hk6.size))
        have hbD := hbB.trans (g1.mono hbB.size)
        obtain ⟨x0, x1, x2, x3, x4, x5, x6, x7⟩ := (hal.below hbD hs0).all0
        obtain ⟨y0, y1, y2, y3, y4, y5, y6, y7⟩ := (hal'.below hbD hs1).all0
        obtain ⟨z0, z1, z2, z3, z4, z5, z6, z7⟩ := (HCW.out.below g1 hsW).all0
        have u0 : w.heap.size < v1.heap.size := Nat.lt_of_lt_of_le hs0 hbD.size
        have u1 : w.heap.size + 1 < v1.heap.size := Nat.lt_of_lt_of_le hs1 hbD.size
        have u2 : w4.heap.size < v1.heap.size := Nat.lt_of_lt_of_le hsW g1.size
        have C8 := Lib.hid (fun w' (h : Below v1.heap.size v1 w') => C8.out w' (g1.trans (h.mono g1.size)))
        have C9 := Lib.hid (fun w' (h : Below v1.heap.size v1 w') => C9.out w' (g1.trans (h.mono g1.size)))
        have C10 := Lib.hid (fun w' (h : Below v1.heap.size v1 w') => C10.out w' (g1.trans (h.mono g1.size)))
        refine wp_region_plan_below 17 [(0, [0, 1, 3, 4]), (1, [2, 5, 6, 7]), (0, [8, 9, 11, 12]), (1, [10, 13, 14, 15, 16])] (by kernel_rfl) (by kernel_rfl) (fun _ _ _ _ h => h) ?_
        simp only [wpSegs, pickOps, List.getElem?_toArray, List.getElem?_cons_zero, List.getElem?_cons_succ]
        have kc := cell_cls v1
        have hk0 := (Below.drew (Below.refl v1.heap.size v1))
        iterate 4 (go_big_quiet_step (fail))
        refine wpQuiet_nil ?_
        refine wpListC_plain rfl (fun K hK => ?_)
        go_step
        refine (C8.out _ hk0).mono ?_
        rintro e wv11 ⟨rfl, hbc⟩
        have hk1 := hk0.trans (hbc.mono hk0.size)
        refine hK _ _ (cls_of_below hk1) ?_
        clear hK K hbc
        refine wpListC_plain rfl (fun K hK => ?_)
        go_step
        refine (C9.out _ hk1).mono ?_
        rintro e wv12 ⟨rfl, hbc⟩
        have hk2 := hk1.trans (hbc.mono hk1.size)
        refine hK _ _ (cls_of_below hk2) ?_
        clear hK K hbc
        refine wpListC_plain rfl (fun K hK => ?_)
        go_step
        refine hK _ _ (cls_of_below hk2) ?_
        clear hK K
        refine wpListC_plain rfl (fun K hK => ?_)
        go_step
        refine hK _ _ (cls_of_below hk2) ?_
        clear hK K
        refine wpListC_nil ?_
        iterate 4 (go_big_quiet_step (fail))
        refine wpQuiet_nil ?_
        refine wpListC_want (by rfl) (fun K hK => ?_)
        go_step
        refine (C10.out _ hk2).mono ?_
        rintro e wv13 ⟨rfl, hbc⟩
        have hk3 := hk2.trans (hbc.mono hk2.size)
        refine hK _ _ (cls_of_below hk3) ?_
        clear hK K hbc
        refine wpListC_want (by rfl) (fun K hK => ?_)
        go_step
        refine (C8.out _ hk3).mono ?_
        rintro e wv14 ⟨rfl, hbc⟩
        have hk4 := hk3.trans (hbc.mono hk3.size)
        refine hK _ _ (cls_of_below hk4) ?_
        clear hK K hbc
        refine wpListC_want (by rfl) (fun K hK => ?_)
        go_step
        refine hK _ _ (cls_of_below hk4) ?_
        clear hK K
        refine wpListC_plain rfl (fun K hK => ?_)
        go_step
        refine hK _ _ (cls_of_below hk4) ?_
        clear hK K
        refine wpListC_plain rfl (fun K hK => ?_)
        go_step
        refine hK _ _ (cls_of_below hk4) ?_
        clear hK K
        refine wpListC_nil ?_
        clear kc
        go_wp2_with fail
        go_ret
        exact ⟨rfl, hww.trans ((g1.trans (hk4.mono g1.size)).mono hww.size)⟩
      · have hE2 := HES.out rfl
        subst hE2
        go_wp2_with (go_at_call 42; clear tk; refine (C7.out _ hk6).mono ?_; rintro _ v1 ⟨rfl, g1⟩; replace g1 := hk6.trans (g1.mono hk6.size); obtain ⟨s0, s1, s2, s3, s4, s5, s6, s7⟩ := (hal.below (hbB.trans (g1.mono hbB.size)) hs0).all0; obtain ⟨r0, r1, r2, r3, r4, r5, r6, r7⟩ := (hal'.below (hbB.trans (g1.mono hbB.size)) hs1).all0)
        have tk := trivial
        go_wp2_with (go_at_call 44; clear tk; refine (C8.out _ g1).mono ?_; rintro _ v2 ⟨rfl, g2⟩; replace g2 := g1.trans (g2.mono g1.size))
        clear s0 s1 s2 s3 s4 s5 s6 s7 r0 r1 r2 r3 r4 r5 r6 r7
        have hbD := hbB.trans (g2.mono hbB.size)
        obtain ⟨x0, x1, x2, x3, x4, x5, x6, x7⟩ := (hal.below hbD hs0).all0
        obtain ⟨y0, y1, y2, y3, y4, y5, y6, y7⟩ := (hal'.below hbD hs1).all0
        obtain ⟨z0, z1, z2, z3, z4, z5, z6, z7⟩ := (HCW.out.below g2 hsW).all0
        have u0 : w.heap.size < v2.heap.size := Nat.lt_of_lt_of_le hs0 hbD.size
        have u1 : w.heap.size + 1 < v2.heap.size := Nat.lt_of_lt_of_le hs1 hbD.size
        have u2 : w4.heap.size < v2.heap.size := Nat.lt_of_lt_of_le hsW g2.size
        have C8 := Lib.hid (fun w' (h : Below v2.heap.size v2 w') => C8.out w' (g2.trans (h.mono g2.size)))
        have C9 := Lib.hid (fun w' (h : Below v2.heap.size v2 w') => C9.out w' (g2.trans (h.mono g2.size)))
        have C10 := Lib.hid (fun w' (h : Below v2.heap.size v2 w') => C10.out w' (g2.trans (h.mono g2.size)))
        refine wp_region_plan_below 17 [(0, [0, 1, 3, 4]), (1, [2, 5, 6, 7]), (0, [8, 9, 11, 12]), (1, [10, 13, 14, 15, 16])] (by kernel_rfl) (by kernel_rfl) (fun _ _ _ _ h => h) ?_
        simp only [wpSegs, pickOps, List.getElem?_toArray, List.getElem?_cons_zero, List.getElem?_cons_succ]
        have kc := cell_cls v2
        have hk0 := (Below.drew (Below.refl v2.heap.size v2))
        iterate 4 (go_big_quiet_step (fail))
        refine wpQuiet_nil ?_
        refine wpListC_plain rfl (fun K hK => ?_)
        go_step
        refine (C8.out _ hk0).mono ?_
        rintro e wv21 ⟨rfl, hbc⟩
        have hk1 := hk0.trans (hbc.mono hk0.size)
        refine hK _ _ (cls_of_below hk1) ?_
        clear hK K hbc
        refine wpListC_plain rfl (fun K hK => ?_)
        go_step
        refine (C9.out _ hk1).mono ?_
        rintro e wv22 ⟨rfl, hbc⟩
        have hk2 := hk1.trans (hbc.mono hk1.size)
        refine hK _ _ (cls_of_below hk2) ?_
        clear hK K hbc
        refine wpListC_plain rfl (fun K hK => ?_)
        go_step
        refine hK _ _ (cls_of_below hk2) ?_
        clear hK K
        refine wpListC_plain rfl (fun K hK => ?_)
        go_step
        refine hK _ _ (cls_of_below hk2) ?_
        clear hK K
        refine wpListC_nil ?_
        iterate 4 (go_big_quiet_step (fail))
        refine wpQuiet_nil ?_
        refine wpListC_want (by rfl) (fun K hK => ?_)
        go_step
        refine (C10.out _ hk2).mono ?_
        rintro e wv23 ⟨rfl, hbc⟩
        have hk3 := hk2.trans (hbc.mono hk2.size)
        refine hK _ _ (cls_of_below hk3) ?_
        clear hK K hbc
        refine wpListC_want (by rfl) (fun K hK => ?_)
        go_step
        refine (C8.out _ hk3).mono ?_
        rintro e wv24 ⟨rfl, hbc⟩
        have hk4 := hk3.trans (hbc.mono hk3.size)
        refine hK _ _ (cls_of_below hk4) ?_
        clear hK K hbc
        refine wpListC_want (by rfl) (fun K hK => ?_)
        go_step
        refine hK _ _ (cls_of_below hk4) ?_
        clear hK K
        refine wpListC_plain rfl (fun K hK => ?_)
        go_step
        refine hK _ _ (cls_of_below hk4) ?_
        clear hK K
        refine wpListC_plain rfl (fun K hK => ?_)
        go_step
        refine hK _ _ (cls_of_below hk4) ?_
        clear hK K
        refine wpListC_nil ?_
        clear kc
        go_wp2_with fail
        go_ret
        exact ⟨rfl, hww.trans ((g2.trans (hk4.mono g2.size)).mono hww.size)⟩
end Go.Proofs.Ytnmnmkdmnohbmaa
