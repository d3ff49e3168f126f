/- TreeEqual: the walk: the statement answers true of any two values. Conditions: none. -/
import Derived.Test.YtnmnmkdmnohbmaaKnown
import Derived.Test.YtnmnmkdmnohbmaaRefSame
namespace Go.Proofs.Ytnmnmkdmnohbmaa
open Go.RowKit
attribute [local go_sem] run_store_float

theorem isV_shape {B : Nat} {w : World} {v : V} {cs : Array Value} (h : IsV B w v cs) : ∃ k b i f t ty p n c q m d, cs = vcells k b i f t ty p n c q m d := by
  obtain ⟨k, b, i, f, t, ty, its, fs⟩ := v
  obtain ⟨p, c, q, d, rfl, _⟩ := h
  exact ⟨_, _, _, _, _, _, _, _, _, _, _, _, rfl⟩

theorem okFs_app : ∀ (l m : List (ByteArray × V)), okFs l → okFs m → okFs (l ++ m)
  | [], _, _, h => h
  | _ :: r, m, h, h' => ⟨h.1, okFs_app r m h.2 h'⟩
theorem okFs_rev : ∀ (l : List (ByteArray × V)), okFs l → okFs l.reverse
  | [], _ => trivial
  | x :: r, h => by rw [List.reverse_cons]; exact okFs_app _ _ (okFs_rev r h.2) ⟨h.1, trivial⟩
theorem nmFs_app : ∀ (l m : List (ByteArray × V)), nmFs l → nmFs m → nmFs (l ++ m)
  | [], _, _, h => h
  | _ :: r, m, h, h' => ⟨h.1, nmFs_app r m h.2 h'⟩
theorem nmFs_rev : ∀ (l : List (ByteArray × V)), nmFs l → nmFs l.reverse
  | [], _ => trivial
  | x :: r, h => by rw [List.reverse_cons]; exact nmFs_app _ _ (nmFs_rev r h.2) ⟨h.1, trivial⟩

mutual
theorem ok_turnV : ∀ v : V, okV v → okV (turnV v)
  | .mk k b i f t ty its fs, h => by
    rw [turnV]
    exact ⟨h.1, ok_turnVs its h.2.1, okFs_rev _ (ok_turnFs fs h.2.2)⟩
theorem ok_turnVs : ∀ l : List V, okVs l → okVs (turnVs l)
  | [], _ => by rw [turnVs]; trivial
  | v :: r, h => by rw [turnVs]; exact ⟨ok_turnV v h.1, ok_turnVs r h.2⟩
theorem ok_turnFs : ∀ l : List (ByteArray × V), okFs l → okFs (turnFs l)
  | [], _ => by rw [turnFs]; trivial
  | x :: r, h => by rw [turnFs]; exact ⟨ok_turnV x.2 h.1, ok_turnFs r h.2⟩
end

mutual
theorem nm_turnV : ∀ v : V, nmV v → nmV (turnV v)
  | .mk k b i f t ty its fs, h => by
    rw [turnV]
    exact ⟨nm_turnVs its h.1, nmFs_rev _ (nm_turnFs fs h.2)⟩
theorem nm_turnVs : ∀ l : List V, nmVs l → nmVs (turnVs l)
  | [], _ => by rw [turnVs]; trivial
  | v :: r, h => by rw [turnVs]; exact ⟨nm_turnV v h.1, nm_turnVs r h.2⟩
theorem nm_turnFs : ∀ l : List (ByteArray × V), nmFs l → nmFs (turnFs l)
  | [], _ => by rw [turnFs]; trivial
  | x :: r, h => by rw [turnFs]; exact ⟨⟨h.1.1, nm_turnV x.2 h.1.2⟩, nm_turnFs r h.2⟩
end

set_option maxRecDepth 100000 in
set_option maxHeartbeats 4000000 in
theorem TreeEqual_walk (x y : V) (cs cs' : Array Value) (w : World) (hv : IsV w.heap.size w x cs) (hv' : IsV w.heap.size w y cs') (ox : okV x) (oy : okV y) (nx : nmV x) (ny : nmV y) :
    Calls Try.prog 8 #[.agg cs, .agg cs'] w (RetB (.bool true) w) := by
  have HV := Lib.hid hv
  have HV' := Lib.hid hv'
  have OX := Lib.hid ox
  have OY := Lib.hid oy
  have NX := Lib.hid nx
  have NY := Lib.hid ny
  clear ox oy nx ny
  obtain ⟨k, b, i, f, t, ty, p, n, c, q, m, d, rfl⟩ := isV_shape hv
  obtain ⟨k', b', i', f', t', ty', p', n', c', q', m', d', rfl⟩ := isV_shape hv'
  clear hv hv'
  obtain ⟨wa, e, hwa, hs0, hs1, hal, hal'⟩ := two_allocs w (vcells k b i f t ty p n c q m d) (vcells k' b' i' f' t' ty' p' n' c' q' m' d') 60 60
  have HWA := Lib.hid hwa
  go_enter Try.func8, Try.ntmps8
  have tk := trivial
  go_wp2_with (go_at_call 40; clear tk; refine (known_any _).mono ?_; rintro _ w1 ⟨rfl, hb1⟩; obtain ⟨c0, c1, c2, c3, c4, c5, c6, c7⟩ := (hal.below hb1 hs0).all0)
  clear e hwa
  have tk := trivial
  by_cases hz1 : 100000 < sizeR x 100000
  · have dz : decide (100000 < sizeR x 100000) = true := by simp [hz1]
    go_wp2_with (go_at_call 27; clear tk; refine (Size_any _ x (Nat.le_refl _) _ _ 100000 (HV.out.on (HWA.out.trans (hb1.mono HWA.out.size))) (by decide) (by decide)).mono ?_; rintro _ w2 ⟨rfl, hb2⟩)
    go_ret
    exact ⟨rfl, (HWA.out.trans (hb1.mono HWA.out.size)).trans (hb2.mono (Nat.le_trans HWA.out.size hb1.size))⟩
  · have hsx : szV x ≤ 100000 := by have := sizeR_eq x 100000 (by omega); omega
    have dz : decide (100000 < sizeR x 100000) = false := by simp; omega
    go_wp2_with (go_at_call 27; clear tk; refine (Size_any _ x (Nat.le_refl _) _ _ 100000 (HV.out.on (HWA.out.trans (hb1.mono HWA.out.size))) (by decide) (by decide)).mono ?_; rintro _ w2 ⟨rfl, hb2⟩; replace hb2 := hb1.trans (hb2.mono hb1.size); obtain ⟨d0, d1, d2, d3, d4, d5, d6, d7⟩ := (hal'.below hb2 hs1).all0)
    clear hz1
    have tk := trivial
    by_cases hz2 : 100000 < sizeR y 100000
    · have dz2 : decide (100000 < sizeR y 100000) = true := by simp [hz2]
      go_wp2_with (go_at_call 27; clear tk; refine (Size_any _ y (Nat.le_refl _) _ _ 100000 (HV'.out.on (HWA.out.trans (hb2.mono HWA.out.size))) (by decide) (by decide)).mono ?_; rintro _ w3 ⟨rfl, hb3⟩)
      go_ret
      exact ⟨rfl, (HWA.out.trans (hb2.mono HWA.out.size)).trans (hb3.mono (Nat.le_trans HWA.out.size hb2.size))⟩
    · have hsy : szV y ≤ 100000 := by have := sizeR_eq y 100000 (by omega); omega
      have dz2 : decide (100000 < sizeR y 100000) = false := by simp; omega
      go_wp2_with (first | (go_at_call 27; clear tk; refine (Size_any _ y (Nat.le_refl _) _ _ 100000 (HV'.out.on (HWA.out.trans (hb2.mono HWA.out.size))) (by decide) (by decide)).mono ?_; rintro _ w3 ⟨rfl, hb3⟩; replace hb3 := hb2.trans (hb3.mono hb2.size); obtain ⟨x0, x1, x2, x3, x4, x5, x6, x7⟩ := (hal.below hb3 hs0).all0) | (go_at_call 41; refine (turned_is x _ _ (HV.out.on (HWA.out.trans (hb3.mono HWA.out.size))) (by omega)).mono ?_; rintro _ w4 ⟨ct, rfl, hvt, hb4⟩; replace hb4 := hb3.trans (hb4.mono hb3.size); have HVT := Lib.hid hvt; obtain ⟨kq, bq, iq, fq, tq, tyq, pq, nq, cq, qq, mq, dq, rfl⟩ := isV_shape hvt))
      clear hz2 c0 c1 c2 c3 c4 c5 c6 c7 d0 d1 d2 d3 d4 d5 d6 d7 x0 x1 x2 x3 x4 x5 x6 x7
      obtain ⟨W, hW⟩ : ∃ W, w4.alloc (.cells (vcells kq bq iq fq tq tyq pq nq cq qq mq dq) 60) = W := ⟨_, rfl⟩
      have hbW : Below w4.heap.size w4 W := by rw [← hW]; exact (Below.refl _ _).alloc (Nat.le_refl _) _
      have hsW : w4.heap.size < W.heap.size := by rw [← hW]; simp
      have hcW : CellsAt W w4.heap.size 0 (vcells kq bq iq fq tq tyq pq nq cq qq mq dq) := by rw [← hW]; exact cellsAt_alloc _ _ _ _
      have e : w4.alloc (.cells (vcells kq bq iq fq tq tyq pq nq cq qq mq dq) 60) = W := hW
      clear hW
      rw [e]
      clear e
      have hbB := hb4.trans (hbW.mono hb4.size)
      have hww := HWA.out.trans (hbB.mono HWA.out.size)
      obtain ⟨x0, x1, x2, x3, x4, x5, x6, x7⟩ := (hal.below hbB hs0).all0
      obtain ⟨y0, y1, y2, y3, y4, y5, y6, y7⟩ := (hal'.below hbB hs1).all0
      obtain ⟨z0, z1, z2, z3, z4, z5, z6, z7⟩ := hcW.all0
      have hX := HV.out.on hww
      have hY := HV'.out.on hww
      have hT := HVT.out.on hbW
      have hr0 : w.heap.size < W.heap.size := Nat.lt_of_lt_of_le hs0 hbB.size
      have hr1 : w.heap.size + 1 < W.heap.size := Nat.lt_of_lt_of_le hs1 hbB.size
      have C1 := Lib.hid (show ∀ w', Below W.heap.size W w' → Calls Try.prog 42 #[.agg (vcells k b i f t ty p n c q m d), .agg (vcells k' b' i' f' t' ty' p' n' c' q' m' d')] w' (RetB (.bool (eqV x y)) w') from fun w' h => Equal_any _ x (Nat.le_refl _) y _ _ w' (hX.on h) (hY.on h))
      have C2 := Lib.hid (show ∀ w', Below W.heap.size W w' → Calls Try.prog 43 #[.agg (vcells k b i f t ty p n c q m d), .agg (vcells k' b' i' f' t' ty' p' n' c' q' m' d')] w' (RetB (.bool (eqV x y)) w') from fun w' h => refEqual_any _ x (Nat.le_refl _) OX.out y OY.out _ _ w' (hX.on h) (hY.on h))
      have C3 := Lib.hid (show ∀ w', Below W.heap.size W w' → Calls Try.prog 44 #[.agg (vcells k b i f t ty p n c q m d), .agg (vcells k' b' i' f' t' ty' p' n' c' q' m' d')] w' (RetB (.bool (sameV x y)) w') from fun w' h => Same_any _ x (Nat.le_refl _) NX.out y NY.out _ _ w' (hX.on h) (hY.on h))
      have C4 := Lib.hid (show ∀ w', Below W.heap.size W w' → Calls Try.prog 45 #[.agg (vcells k b i f t ty p n c q m d), .agg (vcells k' b' i' f' t' ty' p' n' c' q' m' d')] w' (RetB (.bool (sameV x y)) w') from fun w' h => refSame_any _ x (Nat.le_refl _) OX.out y OY.out _ _ w' (hX.on h) (hY.on h))
      have C5 := Lib.hid (show ∀ w', Below W.heap.size W w' → Calls Try.prog 42 #[.agg (vcells k b i f t ty p n c q m d), .agg (vcells kq bq iq fq tq tyq pq nq cq qq mq dq)] w' (RetB (.bool (eqV x (turnV x))) w') from fun w' h => Equal_any _ x (Nat.le_refl _) (turnV x) _ _ w' (hX.on h) (hT.on h))
      have C6 := Lib.hid (show ∀ w', Below W.heap.size W w' → Calls Try.prog 43 #[.agg (vcells k b i f t ty p n c q m d), .agg (vcells kq bq iq fq tq tyq pq nq cq qq mq dq)] w' (RetB (.bool (eqV x (turnV x))) w') from fun w' h => refEqual_any _ x (Nat.le_refl _) OX.out (turnV x) (ok_turnV x OX.out) _ _ w' (hX.on h) (hT.on h))
      have C7 := Lib.hid (show ∀ w', Below W.heap.size W w' → Calls Try.prog 42 #[.agg (vcells k b i f t ty p n c q m d), .agg (vcells k b i f t ty p n c q m d)] w' (RetB (.bool true) w') from fun w' h => by have := Equal_any _ x (Nat.le_refl _) x _ _ w' (hX.on h) (hX.on h); rwa [eqV_refl] at this)
      have C8 := Lib.hid (show ∀ w', Below W.heap.size W w' → Calls Try.prog 44 #[.agg (vcells k' b' i' f' t' ty' p' n' c' q' m' d'), .agg (vcells k' b' i' f' t' ty' p' n' c' q' m' d')] w' (RetB (.bool true) w') from fun w' h => by have := Same_any _ y (Nat.le_refl _) NY.out y NY.out _ _ w' (hY.on h) (hY.on h); rwa [sameV_refl] at this)
      generalize eqV x y = E1 at *
      generalize sameV x y = E2 at *
      generalize eqV x (turnV x) = E3 at *
      clear hX hY hT hcW hb1 hb2 hb3 hb4 hbW HV HV' HVT
      refine wp_region_plan_below 36 [(0, [0, 1, 3, 4]), (1, [2, 5, 6, 7]), (0, [8, 9, 11, 12]), (1, [10, 13, 14, 15, 16]), (0, [17, 18, 20, 21]), (1, [19, 22, 23, 24, 25]), (0, [26, 27]), (1, [28, 29, 30]), (0, [31, 32]), (1, [33, 34, 35])] (by kernel_rfl) (by kernel_rfl) (fun _ _ _ _ h => h) ?_
      simp only [wpSegs, pickOps, List.getElem?_toArray, List.getElem?_cons_zero, List.getElem?_cons_succ]
      have kc := cell_cls W
      have hk0 := (Below.drew (Below.refl W.heap.size W))
      iterate 4 (go_big_quiet_step (fail))
      refine wpQuiet_nil ?_
      refine wpListC_plain rfl (fun K hK => ?_)
      go_step
      refine (C1.out _ hk0).mono ?_
      rintro e wW1 ⟨rfl, hbc⟩
      have hk1 := hk0.trans (hbc.mono hk0.size)
      refine hK _ _ (cls_of_below hk1) ?_
      clear hK K hbc
      refine wpListC_plain rfl (fun K hK => ?_)
      go_step
      refine (C2.out _ hk1).mono ?_
      rintro e wW2 ⟨rfl, hbc⟩
      have hk2 := hk1.trans (hbc.mono hk1.size)
      refine hK _ _ (cls_of_below hk2) ?_
      clear hK K hbc
      refine wpListC_plain rfl (fun K hK => ?_)
      go_step
      refine hK _ _ (cls_of_below hk2) ?_
      clear hK K
      refine wpListC_plain rfl (fun K hK => ?_)
      go_step
      refine hK _ _ (cls_of_below hk2) ?_
      clear hK K
      refine wpListC_nil ?_
      iterate 4 (go_big_quiet_step (fail))
      refine wpQuiet_nil ?_
      refine wpListC_want (by rfl) (fun K hK => ?_)
      go_step
      refine (C3.out _ hk2).mono ?_
      rintro e wW3 ⟨rfl, hbc⟩
      have hk3 := hk2.trans (hbc.mono hk2.size)
      refine hK _ _ (cls_of_below hk3) ?_
      clear hK K hbc
      refine wpListC_want (by rfl) (fun K hK => ?_)
      go_step
      refine (C4.out _ hk3).mono ?_
      rintro e wW4 ⟨rfl, hbc⟩
      have hk4 := hk3.trans (hbc.mono hk3.size)
      refine hK _ _ (cls_of_below hk4) ?_
      clear hK K hbc
      refine wpListC_want (by rfl) (fun K hK => ?_)
      go_step
      refine hK _ _ (cls_of_below hk4) ?_
      clear hK K
      refine wpListC_plain rfl (fun K hK => ?_)
      go_step
      refine hK _ _ (cls_of_below hk4) ?_
      clear hK K
      refine wpListC_plain rfl (fun K hK => ?_)
      go_step
      refine hK _ _ (cls_of_below hk4) ?_
      clear hK K
      refine wpListC_nil ?_
      iterate 4 (go_big_quiet_step (fail))
      refine wpQuiet_nil ?_
      refine wpListC_want (by rfl) (fun K hK => ?_)
      go_step
      refine (C5.out _ hk4).mono ?_
      rintro e wW5 ⟨rfl, hbc⟩
      have hk5 := hk4.trans (hbc.mono hk4.size)
      refine hK _ _ (cls_of_below hk5) ?_
      clear hK K hbc
      refine wpListC_want (by rfl) (fun K hK => ?_)
      go_step
      refine (C6.out _ hk5).mono ?_
      rintro e wW6 ⟨rfl, hbc⟩
      have hk6 := hk5.trans (hbc.mono hk5.size)
      refine hK _ _ (cls_of_below hk6) ?_
      clear hK K hbc
      refine wpListC_want (by rfl) (fun K hK => ?_)
      go_step
      refine hK _ _ (cls_of_below hk6) ?_
      clear hK K
      refine wpListC_plain rfl (fun K hK => ?_)
      go_step
      refine hK _ _ (cls_of_below hk6) ?_
      clear hK K
      refine wpListC_plain rfl (fun K hK => ?_)
      go_step
      refine hK _ _ (cls_of_below hk6) ?_
      clear hK K
      refine wpListC_nil ?_
      iterate 2 (go_big_quiet_step (fail))
      refine wpQuiet_nil ?_
      refine wpListC_want (by rfl) (fun K hK => ?_)
      go_step
      refine (C7.out _ hk6).mono ?_
      rintro e wW7 ⟨rfl, hbc⟩
      have hk7 := hk6.trans (hbc.mono hk6.size)
      refine hK _ _ (cls_of_below hk7) ?_
      clear hK K hbc
      refine wpListC_plain rfl (fun K hK => ?_)
      go_step
      refine hK _ _ (cls_of_below hk7) ?_
      clear hK K
      refine wpListC_plain rfl (fun K hK => ?_)
      go_step
      refine hK _ _ (cls_of_below hk7) ?_
      clear hK K
      refine wpListC_nil ?_
      iterate 2 (go_big_quiet_step (fail))
      refine wpQuiet_nil ?_
      refine wpListC_want (by rfl) (fun K hK => ?_)
      go_step
      refine (C8.out _ hk7).mono ?_
      rintro e wW8 ⟨rfl, hbc⟩
      have hk8 := hk7.trans (hbc.mono hk7.size)
      refine hK _ _ (cls_of_below hk8) ?_
      clear hK K hbc
      refine wpListC_plain rfl (fun K hK => ?_)
      go_step
      refine hK _ _ (cls_of_below hk8) ?_
      clear hK K
      refine wpListC_plain rfl (fun K hK => ?_)
      go_step
      refine hK _ _ (cls_of_below hk8) ?_
      clear hK K
      refine wpListC_nil ?_
      clear kc
      go_wp2_with fail
      go_ret
      exact ⟨rfl, hww.trans (hk8.mono hww.size)⟩
end Go.Proofs.Ytnmnmkdmnohbmaa
