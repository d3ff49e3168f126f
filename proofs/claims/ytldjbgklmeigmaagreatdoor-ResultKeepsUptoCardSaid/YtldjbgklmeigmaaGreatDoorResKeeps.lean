/- ResultKeeps: the walk over the law. Conditions: none. -/
import Derived.Test.YtldjbgklmeigmaaGreatDoorClosed
import Derived.Test.YtldjbgklmeigmaaGreatDoorRefBare
import Derived.Test.YtldjbgklmeigmaaGreatDoorPackU
import Derived.Test.YtldjbgklmeigmaaGreatDoorPackK
import Derived.Test.YtldjbgklmeigmaaGreatDoorPackD
import Derived.Test.YtldjbgklmeigmaaGreatDoorPackV
import Derived.Lib.SlBytesConst
set_option linter.unusedVariables false
set_option linter.unusedSimpArgs false
namespace Go.Proofs.YtldjbgklmeigmaaGreatDoor
open Go Go.RowKit
attribute [local go_sem] run_store_float undef

set_option maxRecDepth 100000 in
set_option maxHeartbeats 8000000 in
theorem ResultKeeps_walk (x y : V) (cs cs' : Array Value) (w : World) (hv : IsV w.heap.size w x cs) (hv' : IsV w.heap.size w y cs') (sx : shV x) (sy : shV y) (hU : TabsIn w) :
    Calls Tryz.prog 4 #[.agg cs, .agg cs'] w (RetB (.bool true) w) := by
  have HV := Lib.hid hv
  have HV' := Lib.hid hv'
  obtain ⟨k, b, i, f, t, ty, p, n, c, q, m, d, rfl⟩ := rk_shape hv
  obtain ⟨k', b', i', f', t', ty', p', n', c', q', m', d', rfl⟩ := rk_shape hv'
  have HSX := Lib.hid sx
  have HSY := Lib.hid sy
  have HOX := Lib.hid (ok_of_sh sx)
  have HOY := Lib.hid (ok_of_sh sy)
  have HU := Lib.hid hU
  obtain ⟨wa, e, hwa, hs0, hs1, hal, hal'⟩ := two_allocs w (vcells k b i f t ty p n c q m d) (vcells k' b' i' f' t' ty' p' n' c' q' m' d') 34 34
  have HWA := Lib.hid hwa
  have HAL := Lib.hid hal
  have HAL' := Lib.hid hal'
  clear hv hv' sx sy hU hwa hal hal'
  have tk := trivial
  have tk2 := trivial
  have tk3 := trivial
  go_enter Tryz.func4, Tryz.ntmps4
  go_upto_region 1 with (fail)
  try rw [e]
  clear e
  go_upto_region 3 with (go_at_call 5; clear tk; refine (fixed_any _).mono ?_; rintro _ w1 ⟨rfl, hb1⟩; have HB1 := Lib.hid hb1; clear hb1)
  have hs10 : w.heap.size < w1.heap.size := Nat.lt_of_lt_of_le hs0 HB1.out.size
  have hs11 : w.heap.size + 1 < w1.heap.size := Nat.lt_of_lt_of_le hs1 HB1.out.size
  have HW1 := Lib.hid (HWA.out.trans (HB1.out.mono HWA.out.size))
  have HAL := Lib.hid (HAL.out.below HB1.out hs0)
  have HAL' := Lib.hid (HAL'.out.below HB1.out hs1)
  obtain ⟨a0, a1, a2, a3, a4, a5, a6, a7⟩ := HAL.out.all0
  have KX := Lib.hid (show ∀ w', Below w1.heap.size w1 w' → Calls Tryz.prog 11 #[.agg (vcells k b i f t ty p n c q m d), .int .i64 100000] w' (RetB (.int .i64 (sizeR x 100000)) w') from fun w' h => Size_any _ x (Nat.le_refl _) _ _ 100000 (HV.out.on (HW1.out.trans (h.mono HW1.out.size))) (by decide) (by decide))
  have KY := Lib.hid (show ∀ w', Below w1.heap.size w1 w' → Calls Tryz.prog 11 #[.agg (vcells k' b' i' f' t' ty' p' n' c' q' m' d'), .int .i64 100000] w' (RetB (.int .i64 (sizeR y 100000)) w') from fun w' h => Size_any _ y (Nat.le_refl _) _ _ 100000 (HV'.out.on (HW1.out.trans (h.mono HW1.out.size))) (by decide) (by decide))
  obtain ⟨E1, hE1⟩ : ∃ E, E = sizeR x 100000 := ⟨_, rfl⟩
  obtain ⟨E2, hE2⟩ : ∃ E, E = sizeR y 100000 := ⟨_, rfl⟩
  rw [← hE1] at KX
  rw [← hE2] at KY
  have HE1 := Lib.hid hE1
  have HE2 := Lib.hid hE2
  clear hE1 hE2 HWA HB1
  by_cases hz1 : 100000 < E1
  · go_wp2_with (go_at_call 11; clear tk2; refine (KX.out _ (Below.refl _ _)).mono ?_; rintro _ w2 ⟨rfl, hb2⟩)
    go_ret
    exact ⟨rfl, HW1.out.trans (hb2.mono HW1.out.size)⟩
  have hsx : szV x ≤ 100000 := by have h1 := HE1.out; have := sizeR_eq x 100000 (by omega); omega
  have HNX := Lib.hid hsx
  have hz1' : E1 ≤ 100000 := by omega
  by_cases hz2 : 100000 < E2
  · go_wp2_with (go_at_call 11; first
      | (clear tk2; refine (KX.out _ (Below.refl _ _)).mono ?_; rintro _ w2 ⟨rfl, hb2⟩; have HB2 := Lib.hid hb2; clear hb2; obtain ⟨d0, d1, d2, d3, d4, d5, d6, d7⟩ := (HAL'.out.below HB2.out hs11).all0)
      | (clear tk3; refine (KY.out _ HB2.out).mono ?_; rintro _ w3 ⟨rfl, hb3⟩))
    go_ret
    exact ⟨rfl, (HW1.out.trans (HB2.out.mono HW1.out.size)).trans (hb3.mono (Nat.le_trans HW1.out.size HB2.out.size))⟩
  have hsy : szV y ≤ 100000 := by have h1 := HE2.out; have := sizeR_eq y 100000 (by omega); omega
  have HNY := Lib.hid hsy
  have hz2' : E2 ≤ 100000 := by omega
  go_upto_region 5 with (go_at_call 11; first
    | (clear tk2; refine (KX.out _ (Below.refl _ _)).mono ?_; rintro _ w2 ⟨rfl, hb2⟩; have HB2 := Lib.hid hb2; clear hb2; obtain ⟨d0, d1, d2, d3, d4, d5, d6, d7⟩ := (HAL'.out.below HB2.out hs11).all0)
    | (clear tk3; refine (KY.out _ HB2.out).mono ?_; rintro _ w3 ⟨rfl, hb3⟩; have HB3 := Lib.hid (HB2.out.trans (hb3.mono HB2.out.size)); clear hb3))
  clear a0 a1 a2 a3 a4 a5 a6 a7 d0 d1 d2 d3 d4 d5 d6 d7 hsx hsy hz1 hz2 hz1' hz2' KX KY HE1 HE2 HB2
  have HW3 := Lib.hid (HW1.out.trans (HB3.out.mono HW1.out.size))
  have HAL := Lib.hid (HAL.out.below HB3.out hs10)
  have HAL' := Lib.hid (HAL'.out.below HB3.out hs11)
  have hs30 : w.heap.size < w3.heap.size := Nat.lt_of_lt_of_le hs10 HB3.out.size
  have hs31 : w.heap.size + 1 < w3.heap.size := Nat.lt_of_lt_of_le hs11 HB3.out.size
  clear HW1 HB3 hs10 hs11 hs0 hs1
  go_step
  refine wpList_plain rfl (fun K hK => ?_)
  go_step
  refine hK _ _ ?_
  clear hK K
  have hcv := Lib.run_convert_bytes_const (P := Tryz.prog) w3 47 5 (sdlB.map fun n => Value.int .u8 (Int.ofNat n)).toArray 25 25 Tryz.underlying47 Tryz.underlying5
  refine wpList_plain rfl (fun K hK => ?_)
  refine wp_conv_bytes (P := Tryz.prog) rfl rfl hcv ?_
  refine hK _ _ ?_
  clear hK K hcv
  have hbl := heap_new w3 (.cells (sdlB.map fun n => Value.int .u8 (Int.ofNat n)).toArray 5 (25, 26))
  have hb5 : Below w3.heap.size w3 (w3.alloc (.cells (sdlB.map fun n => Value.int .u8 (Int.ofNat n)).toArray 5 (25, 26))) := (Below.refl _ _).alloc (Nat.le_refl _) _
  have e25 : (sdlB.map fun n => Value.int .u8 (Int.ofNat n)).toArray.size = 25 := rfl
  rw [e25]
  generalize w3.alloc (.cells (sdlB.map fun n => Value.int .u8 (Int.ofNat n)).toArray 5 (25, 26)) = w5 at *
  clear e25
  refine wpList_plain rfl (fun K hK => ?_)
  go_step
  refine (built_any w5 w3.heap.size hbl).mono ?_
  rintro _ w4 ⟨tv, rv, rfl, hb4, hty⟩
  refine hK _ _ ?_
  clear hK K
  have HB4 := Lib.hid (hb5.trans hb4)
  have HTY0 := Lib.hid hty
  clear hbl hb5 hb4 hty w5
  iterate 7
    refine wpList_plain rfl (fun K hK => ?_)
    go_step
    refine hK _ _ ?_
    clear hK K
  have HW4 := Lib.hid (HW3.out.trans (HB4.out.mono HW3.out.size))
  have HAL := Lib.hid (HAL.out.below HB4.out hs30)
  have HAL' := Lib.hid (HAL'.out.below HB4.out hs31)
  have h40 : w.heap.size < w4.heap.size := Nat.lt_of_lt_of_le hs30 HB4.out.size
  have h41 : w.heap.size + 1 < w4.heap.size := Nat.lt_of_lt_of_le hs31 HB4.out.size
  have RX := Lib.hid (show ∀ w', Below w4.heap.size w4 w' → CellsAt w' w.heap.size 0 (vcells k b i f t ty p n c q m d) ∧ IsV w'.heap.size w' x (vcells k b i f t ty p n c q m d) from fun w' h => ⟨HAL.out.below h h40, HV.out.on (HW4.out.trans (h.mono HW4.out.size))⟩)
  have RY := Lib.hid (show ∀ w', Below w4.heap.size w4 w' → CellsAt w' (w.heap.size + 1) 0 (vcells k' b' i' f' t' ty' p' n' c' q' m' d') ∧ IsV w'.heap.size w' y (vcells k' b' i' f' t' ty' p' n' c' q' m' d') from fun w' h => ⟨HAL'.out.below h h41, HV'.out.on (HW4.out.trans (h.mono HW4.out.size))⟩)
  have HTB := Lib.hid (show ∀ w', Below w4.heap.size w4 w' → TabsIn w' from fun w' h => HU.out.on (HW4.out.trans (h.mono HW4.out.size)))
  have HTY := Lib.hid (show ∀ w', Below w4.heap.size w4 w' → TypeOk tv w' from fun w' h => HTY0.out.on h)
  clear HW3 HB4 HAL HAL' hs30 hs31 HTY0 HU HV HV'
  go_upto_region 6 with (fail)
  try simp only [Act.put]
  have HCX := Lib.hid (show ∀ w', Below w4.heap.size w4 w' → Calls Tryz.prog 13 #[.agg (vcells k b i f t ty p n c q m d)] w' (CopyPost x w') from fun w' h => Copy_any _ x (Nat.le_refl _) _ w' ((RX.out _ h).2) (by have := HNX.out; omega))
  have HCY := Lib.hid (show ∀ w', Below w4.heap.size w4 w' → Calls Tryz.prog 13 #[.agg (vcells k' b' i' f' t' ty' p' n' c' q' m' d')] w' (CopyPost y w') from fun w' h => Copy_any _ y (Nat.le_refl _) _ w' ((RY.out _ h).2) (by have := HNY.out; omega))
  have RD0 := Lib.hid (show ∀ w', Below w4.heap.size w4 w' → CellsAt w' w.heap.size 0 (vcells k b i f t ty p n c q m d) from fun w' h => (RX.out _ h).1)
  have RD1 := Lib.hid (show ∀ w', Below w4.heap.size w4 w' → CellsAt w' (w.heap.size + 1) 0 (vcells k' b' i' f' t' ty' p' n' c' q' m' d') from fun w' h => (RY.out _ h).1)
  unfold CopyPost at HCX HCY
  refine wp_region_states twoDeps (by kernel_rfl) (by rfl) (twoI 8 9 49 50 51 52 x y (vcells k b i f t ty p n c q m d) (vcells k' b' i' f' t' ty' p' n' c' q' m' d')) ?start ?step ?fin
  case start =>
    exact ⟨false, false, false, false, false, false, false, false, undef, undef, undef, undef, #[], #[], 0, 0, [], [], rfl, (by kernel_rfl), TwoF.start _ _ (Below.drew (Below.refl _ _)) _ _ _ _ _ _ _ _⟩
  case step =>
    rintro ls a W j ⟨l0, l1, l2, l3, l4, l5, l6, l7, v25, v26, v27, v28, c9, c10, g9, g10, bx, bz, rfl, rfl, hF⟩ hcan
    simp only [List.setIfInBounds_toArray, List.set_cons_succ, List.set_cons_zero]
    have HF := Lib.hid hF
    have hbw := hF.below
    have HBW := Lib.hid hbw
    rcases j with _ | _ | _ | _ | _ | _ | _ | _ | j
    · obtain rfl : l0 = false := by simpa [can] using hcan
      obtain ⟨a0, a1, a2, a3, a4, a5, a6, a7⟩ := (RD0.out _ hbw).all0
      clear hF hbw
      refine wpOp_plain rfl rfl (fun K hK => ?_)
      go_step
      exact hK _ _ ⟨true, l1, l2, l3, l4, l5, l6, l7, .agg (vcells k b i f t ty p n c q m d), v26, v27, v28, c9, c10, g9, g10, bx, bz, rfl, (by kernel_rfl), HF.out.load0⟩
    · obtain ⟨rfl, rfl⟩ : l1 = false ∧ l0 = true := by simpa [can] using hcan
      obtain rfl := hF.h25 rfl
      clear hF
      refine wpOp_plain rfl rfl (fun K hK => ?_)
      go_step
      refine (HCX.out _ hbw).mono ?_
      rintro e W' ⟨csn, bsn, rfl, ho, hn, hr, hb⟩
      exact hK _ _ ⟨true, true, l2, l3, l4, l5, l6, l7, .agg (vcells k b i f t ty p n c q m d), .agg csn, v27, v28, c9, c10, g9, g10, bsn, bz, rfl, (by kernel_rfl), HF.out.call1 ho hn hr hb⟩
    · obtain rfl : l2 = false := by simpa [can] using hcan
      obtain ⟨a0, a1, a2, a3, a4, a5, a6, a7⟩ := (RD1.out _ hbw).all0
      clear hF hbw
      refine wpOp_plain rfl rfl (fun K hK => ?_)
      go_step
      exact hK _ _ ⟨l0, l1, true, l3, l4, l5, l6, l7, v25, v26, .agg (vcells k' b' i' f' t' ty' p' n' c' q' m' d'), v28, c9, c10, g9, g10, bx, bz, rfl, (by kernel_rfl), HF.out.load2⟩
    · obtain ⟨rfl, rfl, rfl⟩ : l3 = false ∧ l2 = true ∧ l1 = true := by simpa [can] using hcan
      obtain rfl := hF.h27 rfl
      clear hF
      refine wpOp_plain rfl rfl (fun K hK => ?_)
      go_step
      refine (HCY.out _ hbw).mono ?_
      rintro e W' ⟨csn, bsn, rfl, ho, hn, hr, hb⟩
      exact hK _ _ ⟨l0, true, true, true, l4, l5, l6, l7, v25, v26, .agg (vcells k' b' i' f' t' ty' p' n' c' q' m' d'), .agg csn, c9, c10, g9, g10, bx, bsn, rfl, (by kernel_rfl), HF.out.call3 ho hn hr hb⟩
    · obtain rfl : l4 = false := by simpa [can] using hcan
      clear hF hbw
      refine wpOp_plain rfl rfl (fun K hK => ?_)
      go_step
      exact hK _ _ ⟨l0, l1, l2, l3, true, l5, l6, l7, v25, v26, v27, v28, cells0, c10, W.heap.size, g10, bx, bz, rfl, (by kernel_rfl), HF.out.alloc4 cells0 rfl⟩
    · obtain rfl : l5 = false := by simpa [can] using hcan
      clear hF hbw
      refine wpOp_plain rfl rfl (fun K hK => ?_)
      go_step
      exact hK _ _ ⟨l0, l1, l2, l3, l4, true, l6, l7, v25, v26, v27, v28, c9, cells0, g9, W.heap.size, bx, bz, rfl, (by kernel_rfl), HF.out.alloc5 cells0 rfl⟩
    · obtain ⟨rfl, rfl, rfl, rfl, rfl, rfl⟩ := two_can6 hcan
      obtain ⟨cs6, rfl, ho6⟩ := hF.h26 rfl
      have hi6 := ho6.isV (fun z hz => (hF.rx z hz).2)
      obtain ⟨k6, b6, i6, f6, t6, ty6, p6, n6, c6, q6, m6, d6, rfl⟩ := rk_shape hi6
      obtain ⟨_, _, hb6, _, _, hs6⟩ := hF.h9 rfl
      have H6 := Lib.hid hb6
      clear hF hbw hi6 ho6 hb6
      refine wpOp_plain rfl rfl (fun K hK => ?_)
      refine wp_store_row (P := Tryz.prog) 34 (.tmp 8) (.tmp 50) rfl g9 (vcells k6 b6 i6 f6 t6 ty6 p6 n6 c6 q6 m6 d6) rfl rfl 34 _ H6.out (by kernel_rfl) hs6 (vcells_one ..) ?_
      exact hK _ _ ⟨true, true, l2, true, true, true, true, l7, v25, .agg (vcells k6 b6 i6 f6 t6 ty6 p6 n6 c6 q6 m6 d6), v27, v28, (vcells k6 b6 i6 f6 t6 ty6 p6 n6 c6 q6 m6 d6), c10, g9, g10, bx, bz, rfl, (by kernel_rfl), HF.out.store6 (vcells k6 b6 i6 f6 t6 ty6 p6 n6 c6 q6 m6 d6) rfl rfl⟩
    · obtain ⟨rfl, rfl, rfl, rfl, rfl, rfl, rfl, rfl⟩ := two_can7 hcan
      obtain ⟨cs6, rfl, ho6⟩ := hF.h28 rfl
      have hi6 := ho6.isV (fun z hz => (hF.ry z hz).2)
      obtain ⟨k6, b6, i6, f6, t6, ty6, p6, n6, c6, q6, m6, d6, rfl⟩ := rk_shape hi6
      obtain ⟨_, _, hb6, _, _, hs6⟩ := hF.h10 rfl
      have H6 := Lib.hid hb6
      clear hF hbw hi6 ho6 hb6
      refine wpOp_plain rfl rfl (fun K hK => ?_)
      refine wp_store_row (P := Tryz.prog) 34 (.tmp 9) (.tmp 52) rfl g10 (vcells k6 b6 i6 f6 t6 ty6 p6 n6 c6 q6 m6 d6) rfl rfl 34 _ H6.out (by kernel_rfl) hs6 (vcells_one ..) ?_
      exact hK _ _ ⟨true, true, true, true, true, true, true, true, v25, v26, v27, .agg (vcells k6 b6 i6 f6 t6 ty6 p6 n6 c6 q6 m6 d6), c9, (vcells k6 b6 i6 f6 t6 ty6 p6 n6 c6 q6 m6 d6), g9, g10, bx, bz, rfl, (by kernel_rfl), HF.out.store7 (vcells k6 b6 i6 f6 t6 ty6 p6 n6 c6 q6 m6 d6) rfl rfl⟩
    · simp [can] at hcan
  case fin =>
    rintro ls a V6 hcan ⟨l0, l1, l2, l3, l4, l5, l6, l7, v25, v26, v27, v28, c9, c10, g8, g9, bx, bz, rfl, rfl, hF⟩
    obtain ⟨rfl, rfl, rfl, rfl, rfl, rfl, rfl, rfl⟩ := two_end hcan
    clear hcan
    simp only [List.setIfInBounds_toArray, List.set_cons_succ, List.set_cons_zero, if_true]
    have hpens := hF.pens (Pens.nil w4.heap.size w4) (Nat.le_refl _)
    have hbt := hF.below
    simp only [List.cons_append, List.nil_append] at hpens
    have hi9 := (hpens.read (List.mem_of_getElem? (i := 0) rfl)).2.1
    have hi10 := (hpens.read (List.mem_of_getElem? (i := 1) rfl)).2.1
    obtain ⟨rk, rb, ri, rf, rt, rty, rp, rn, rc, rq, rm, rd, rfl⟩ := rk_shape hi9
    obtain ⟨sk, sb, si, sf, st, sty, sp, sn, sc, sq, sm, sd, rfl⟩ := rk_shape hi10
    have PN := Lib.hid hpens
    have BT := Lib.hid hbt
    clear hpens hbt hi9 hi10 hF HCX HCY RD0 RD1
    go_upto_region 7 with (fail)
    obtain ⟨a00, a01, a02, a03, a04, a05, a06, a07⟩ := (PN.out.read (List.mem_of_getElem? (i := 0) rfl)).1.all0
    go_step
    refine wpList_plain rfl (fun K hK => ?_)
    go_step
    refine hK _ _ ?_
    clear hK K
    refine wpList_plain rfl (fun K hK => ?_)
    go_step
    refine hK _ _ ?_
    clear hK K
    clear a00 a01 a02 a03 a04 a05 a06 a07
    refine wpList_plain rfl (fun K hK => ?_)
    go_step
    refine (Leaf_any tv x _ _ (HTY.out _ BT.out) (PN.out.read (List.mem_of_getElem? (i := 0) rfl)).2.1 (by have := HNX.out; omega) HSX.out (HTB.out _ BT.out)).mono ?_
    rintro _ W7a ⟨csaa, ba, rfl, hown, hnod, hlow, hc⟩
    have hIO := hown.isV (fun z hz => (hlow z hz).2)
    obtain ⟨aak, aab, aai, aaf, aat, aaty, aap, aan, aac, aaq, aam, aad, rfl⟩ := rk_shape hIO
    refine hK _ _ ?_
    clear hK K hIO
    have HST := Lib.hid (And.intro (PN.out.snoc BT.out.size (G := W7a.heap.size) rfl hown hnod hlow hc) ((Pens.nil V6.heap.size V6).snoc (Nat.le_refl _) (G := W7a.heap.size) rfl hown hnod hlow hc))
    clear hown hnod hlow hc
    refine wpList_plain rfl (fun K hK => ?_)
    go_step
    refine hK _ _ ?_
    clear hK K
    refine wpList_plain rfl (fun K hK => ?_)
    go_step
    refine hK _ _ ?_
    clear hK K
    refine wpList_plain rfl (fun K hK => ?_)
    go_step
    refine hK _ _ ?_
    clear hK K
    refine wpList_plain rfl (fun K hK => ?_)
    go_step
    have hTn := heap_new W7a (.cells cells0 34)
    obtain ⟨wy, hW⟩ : ∃ y, W7a.alloc (.cells cells0 34) = y := ⟨_, rfl⟩
    have e : W7a.alloc (.cells cells0 34) = wy := hW
    rw [hW] at hTn HST
    try rw [e]
    clear e hW
    have HTN := Lib.hid hTn
    refine hK _ _ ?_
    clear hK K hTn
    obtain ⟨Ga, hG⟩ : ∃ a, a = W7a.heap.size := ⟨_, rfl⟩
    rw [← hG] at HTN HST ⊢
    clear hG
    refine wpList_plain rfl (fun K hK => ?_)
    refine wp_store_row (P := Tryz.prog) 34 (.tmp 10) (.tmp 57) rfl Ga (vcells aak aab aai aaf aat aaty aap aan aac aaq aam aad) rfl rfl 34 _ HTN.out (by kernel_rfl) rfl (vcells_one ..) ?_
    obtain ⟨W7, hW⟩ : ∃ y, wy.setRow Ga (vcells aak aab aai aaf aat aaty aap aan aac aaq aam aad) = y := ⟨_, rfl⟩
    rw [hW] at HST ⊢
    refine hK _ _ ?_
    clear hK K hW HTN
    have PN := Lib.hid (show Pens w4.heap.size W7 [⟨g8, x, (vcells rk rb ri rf rt rty rp rn rc rq rm rd), bx⟩, ⟨g9, y, (vcells sk sb si sf st sty sp sn sc sq sm sd), bz⟩, ⟨Ga, (leafV x), (vcells aak aab aai aaf aat aaty aap aan aac aaq aam aad), ba⟩] from HST.out.1.1)
    have BT := Lib.hid (BT.out.trans (HST.out.1.2.mono BT.out.size))
    clear HST
    refine wpList_plain rfl (fun K hK => ?_)
    go_step
    refine hK _ _ ?_
    clear hK K
    go_upto_region 8 with (fail)
    obtain ⟨a00, a01, a02, a03, a04, a05, a06, a07⟩ := (PN.out.read (List.mem_of_getElem? (i := 1) rfl)).1.all0
    go_step
    refine wpList_plain rfl (fun K hK => ?_)
    go_step
    refine hK _ _ ?_
    clear hK K
    refine wpList_plain rfl (fun K hK => ?_)
    go_step
    refine hK _ _ ?_
    clear hK K
    clear a00 a01 a02 a03 a04 a05 a06 a07
    refine wpList_plain rfl (fun K hK => ?_)
    go_step
    refine (Leaf_any tv y _ _ (HTY.out _ BT.out) (PN.out.read (List.mem_of_getElem? (i := 1) rfl)).2.1 (by have := HNY.out; omega) HSY.out (HTB.out _ BT.out)).mono ?_
    rintro _ W8a ⟨csea, be, rfl, hown, hnod, hlow, hc⟩
    have hIO := hown.isV (fun z hz => (hlow z hz).2)
    obtain ⟨eak, eab, eai, eaf, eat, eaty, eap, ean, eac, eaq, eam, ead, rfl⟩ := rk_shape hIO
    refine hK _ _ ?_
    clear hK K hIO
    have HST := Lib.hid (And.intro (PN.out.snoc BT.out.size (G := W8a.heap.size) rfl hown hnod hlow hc) ((Pens.nil W7.heap.size W7).snoc (Nat.le_refl _) (G := W8a.heap.size) rfl hown hnod hlow hc))
    clear hown hnod hlow hc
    refine wpList_plain rfl (fun K hK => ?_)
    go_step
    refine hK _ _ ?_
    clear hK K
    refine wpList_plain rfl (fun K hK => ?_)
    go_step
    refine hK _ _ ?_
    clear hK K
    refine wpList_plain rfl (fun K hK => ?_)
    go_step
    refine hK _ _ ?_
    clear hK K
    refine wpList_plain rfl (fun K hK => ?_)
    go_step
    have hTn := heap_new W8a (.cells cells0 34)
    obtain ⟨wy, hW⟩ : ∃ y, W8a.alloc (.cells cells0 34) = y := ⟨_, rfl⟩
    have e : W8a.alloc (.cells cells0 34) = wy := hW
    rw [hW] at hTn HST
    try rw [e]
    clear e hW
    have HTN := Lib.hid hTn
    refine hK _ _ ?_
    clear hK K hTn
    obtain ⟨Ge, hG⟩ : ∃ a, a = W8a.heap.size := ⟨_, rfl⟩
    rw [← hG] at HTN HST ⊢
    clear hG
    refine wpList_plain rfl (fun K hK => ?_)
    refine wp_store_row (P := Tryz.prog) 34 (.tmp 12) (.tmp 63) rfl Ge (vcells eak eab eai eaf eat eaty eap ean eac eaq eam ead) rfl rfl 34 _ HTN.out (by kernel_rfl) rfl (vcells_one ..) ?_
    obtain ⟨W8, hW⟩ : ∃ y, wy.setRow Ge (vcells eak eab eai eaf eat eaty eap ean eac eaq eam ead) = y := ⟨_, rfl⟩
    rw [hW] at HST ⊢
    refine hK _ _ ?_
    clear hK K hW HTN
    have PN := Lib.hid (show Pens w4.heap.size W8 [⟨g8, x, (vcells rk rb ri rf rt rty rp rn rc rq rm rd), bx⟩, ⟨g9, y, (vcells sk sb si sf st sty sp sn sc sq sm sd), bz⟩, ⟨Ga, (leafV x), (vcells aak aab aai aaf aat aaty aap aan aac aaq aam aad), ba⟩, ⟨Ge, (leafV y), (vcells eak eab eai eaf eat eaty eap ean eac eaq eam ead), be⟩] from HST.out.1.1)
    have BT := Lib.hid (BT.out.trans (HST.out.1.2.mono BT.out.size))
    clear HST
    refine wpList_plain rfl (fun K hK => ?_)
    go_step
    refine hK _ _ ?_
    clear hK K
    go_upto_region 9 with (fail)
    obtain ⟨a00, a01, a02, a03, a04, a05, a06, a07⟩ := (PN.out.read (List.mem_of_getElem? (i := 0) rfl)).1.all0
    go_step
    refine wpList_plain rfl (fun K hK => ?_)
    go_step
    refine hK _ _ ?_
    clear hK K
    refine wpList_plain rfl (fun K hK => ?_)
    go_step
    refine hK _ _ ?_
    clear hK K
    clear a00 a01 a02 a03 a04 a05 a06 a07
    refine wpList_plain rfl (fun K hK => ?_)
    go_step
    refine (Leaf_any tv x _ _ (HTY.out _ BT.out) (PN.out.read (List.mem_of_getElem? (i := 0) rfl)).2.1 (by have := HNX.out; omega) HSX.out (HTB.out _ BT.out)).mono ?_
    rintro _ W9a ⟨csoa, bo, rfl, hown, hnod, hlow, hc⟩
    have hIO := hown.isV (fun z hz => (hlow z hz).2)
    obtain ⟨oak, oab, oai, oaf, oat, oaty, oap, oan, oac, oaq, oam, oad, rfl⟩ := rk_shape hIO
    refine hK _ _ ?_
    clear hK K hIO
    have HST := Lib.hid (And.intro (PN.out.snoc BT.out.size (G := W9a.heap.size) rfl hown hnod hlow hc) ((Pens.nil W8.heap.size W8).snoc (Nat.le_refl _) (G := W9a.heap.size) rfl hown hnod hlow hc))
    clear hown hnod hlow hc
    refine wpList_plain rfl (fun K hK => ?_)
    go_step
    refine hK _ _ ?_
    clear hK K
    refine wpList_plain rfl (fun K hK => ?_)
    go_step
    refine hK _ _ ?_
    clear hK K
    refine wpList_plain rfl (fun K hK => ?_)
    go_step
    refine hK _ _ ?_
    clear hK K
    refine wpList_plain rfl (fun K hK => ?_)
    go_step
    have hTn := heap_new W9a (.cells cells0 34)
    obtain ⟨wy, hW⟩ : ∃ y, W9a.alloc (.cells cells0 34) = y := ⟨_, rfl⟩
    have e : W9a.alloc (.cells cells0 34) = wy := hW
    rw [hW] at hTn HST
    try rw [e]
    clear e hW
    have HTN := Lib.hid hTn
    refine hK _ _ ?_
    clear hK K hTn
    obtain ⟨Go_, hG⟩ : ∃ a, a = W9a.heap.size := ⟨_, rfl⟩
    rw [← hG] at HTN HST ⊢
    clear hG
    refine wpList_plain rfl (fun K hK => ?_)
    refine wp_store_row (P := Tryz.prog) 34 (.tmp 14) (.tmp 69) rfl Go_ (vcells oak oab oai oaf oat oaty oap oan oac oaq oam oad) rfl rfl 34 _ HTN.out (by kernel_rfl) rfl (vcells_one ..) ?_
    obtain ⟨W9, hW⟩ : ∃ y, wy.setRow Go_ (vcells oak oab oai oaf oat oaty oap oan oac oaq oam oad) = y := ⟨_, rfl⟩
    rw [hW] at HST ⊢
    refine hK _ _ ?_
    clear hK K hW HTN
    have PN := Lib.hid (show Pens w4.heap.size W9 [⟨g8, x, (vcells rk rb ri rf rt rty rp rn rc rq rm rd), bx⟩, ⟨g9, y, (vcells sk sb si sf st sty sp sn sc sq sm sd), bz⟩, ⟨Ga, (leafV x), (vcells aak aab aai aaf aat aaty aap aan aac aaq aam aad), ba⟩, ⟨Ge, (leafV y), (vcells eak eab eai eaf eat eaty eap ean eac eaq eam ead), be⟩, ⟨Go_, (leafV x), (vcells oak oab oai oaf oat oaty oap oan oac oaq oam oad), bo⟩] from HST.out.1.1)
    have BT := Lib.hid (BT.out.trans (HST.out.1.2.mono BT.out.size))
    clear HST
    refine wpList_plain rfl (fun K hK => ?_)
    go_step
    refine hK _ _ ?_
    clear hK K
    have hxx : (leafE x != leafE x) = false := by simp
    go_upto_region 10 with (fail)
    have RAu0 := Lib.hid (show ∀ w', Below W9.heap.size W9 w' → CellsAt w' g8 0 (vcells rk rb ri rf rt rty rp rn rc rq rm rd) from fun w' h => ((PN.out.on h).read (List.mem_of_getElem? (i := 0) rfl)).1)
    have RBu0 := Lib.hid (show ∀ w', Below W9.heap.size W9 w' → CellsAt w' w.heap.size 0 (vcells k b i f t ty p n c q m d) from fun w' h => (RX.out _ (BT.out.trans (h.mono BT.out.size))).1)
    have WHu0 := Lib.hid (show ∀ w', Below W9.heap.size W9 w' → Calls Tryz.prog 14 #[.agg (vcells rk rb ri rf rt rty rp rn rc rq rm rd), .agg (vcells k b i f t ty p n c q m d)] w' (RetB (.bool true) w') from fun w' h => Whole_same _ x (Nat.le_refl _) HOX.out _ _ w' (((PN.out.on h).read (List.mem_of_getElem? (i := 0) rfl)).2.1) ((RX.out _ (BT.out.trans (h.mono BT.out.size))).2))
    have tku0 := trivial
    have RAu1 := Lib.hid (show ∀ w', Below W9.heap.size W9 w' → CellsAt w' g9 0 (vcells sk sb si sf st sty sp sn sc sq sm sd) from fun w' h => ((PN.out.on h).read (List.mem_of_getElem? (i := 1) rfl)).1)
    have RBu1 := Lib.hid (show ∀ w', Below W9.heap.size W9 w' → CellsAt w' (w.heap.size + 1) 0 (vcells k' b' i' f' t' ty' p' n' c' q' m' d') from fun w' h => (RY.out _ (BT.out.trans (h.mono BT.out.size))).1)
    have WHu1 := Lib.hid (show ∀ w', Below W9.heap.size W9 w' → Calls Tryz.prog 14 #[.agg (vcells sk sb si sf st sty sp sn sc sq sm sd), .agg (vcells k' b' i' f' t' ty' p' n' c' q' m' d')] w' (RetB (.bool true) w') from fun w' h => Whole_same _ y (Nat.le_refl _) HOY.out _ _ w' (((PN.out.on h).read (List.mem_of_getElem? (i := 1) rfl)).2.1) ((RY.out _ (BT.out.trans (h.mono BT.out.size))).2))
    have tku1 := trivial
    have RAu2 := Lib.hid (show ∀ w', Below W9.heap.size W9 w' → CellsAt w' Ga 0 (vcells aak aab aai aaf aat aaty aap aan aac aaq aam aad) from fun w' h => ((PN.out.on h).read (List.mem_of_getElem? (i := 2) rfl)).1)
    have RBu2 := Lib.hid (show ∀ w', Below W9.heap.size W9 w' → CellsAt w' Go_ 0 (vcells oak oab oai oaf oat oaty oap oan oac oaq oam oad) from fun w' h => ((PN.out.on h).read (List.mem_of_getElem? (i := 4) rfl)).1)
    have WHu2 := Lib.hid (show ∀ w', Below W9.heap.size W9 w' → Calls Tryz.prog 14 #[.agg (vcells aak aab aai aaf aat aaty aap aan aac aaq aam aad), .agg (vcells oak oab oai oaf oat oaty oap oan oac oaq oam oad)] w' (RetB (.bool true) w') from fun w' h => Whole_same _ (leafV x) (Nat.le_refl _) (ok_leaf HOX.out) _ _ w' (((PN.out.on h).read (List.mem_of_getElem? (i := 2) rfl)).2.1) (((PN.out.on h).read (List.mem_of_getElem? (i := 4) rfl)).2.1))
    have tku2 := trivial
    have HQu0 := Lib.hid (Below.refl W9.heap.size W9)
    obtain ⟨apu00, apu01, apu02, apu03, apu04, apu05, apu06, apu07⟩ := (RAu0.out _ HQu0.out).all0
    obtain ⟨bpu00, bpu01, bpu02, bpu03, bpu04, bpu05, bpu06, bpu07⟩ := (RBu0.out _ HQu0.out).all0
    go_upto_region 12 with (go_at_call 14; first
      | (clear tku0; refine (WHu0.out _ HQu0.out).mono ?_; rintro _ vpu0 ⟨rfl, hb⟩; have HQu1 := Lib.hid (HQu0.out.trans (hb.mono HQu0.out.size)); clear hb; clear apu00 apu01 apu02 apu03 apu04 apu05 apu06 apu07 bpu00 bpu01 bpu02 bpu03 bpu04 bpu05 bpu06 bpu07; obtain ⟨apu10, apu11, apu12, apu13, apu14, apu15, apu16, apu17⟩ := (RAu1.out _ HQu1.out).all0; obtain ⟨bpu10, bpu11, bpu12, bpu13, bpu14, bpu15, bpu16, bpu17⟩ := (RBu1.out _ HQu1.out).all0)
      | (clear tku1; refine (WHu1.out _ HQu1.out).mono ?_; rintro _ vpu1 ⟨rfl, hb⟩; have HQu2 := Lib.hid (HQu1.out.trans (hb.mono HQu1.out.size)); clear hb; clear apu10 apu11 apu12 apu13 apu14 apu15 apu16 apu17 bpu10 bpu11 bpu12 bpu13 bpu14 bpu15 bpu16 bpu17; obtain ⟨apu20, apu21, apu22, apu23, apu24, apu25, apu26, apu27⟩ := (RAu2.out _ HQu2.out).all0; obtain ⟨bpu20, bpu21, bpu22, bpu23, bpu24, bpu25, bpu26, bpu27⟩ := (RBu2.out _ HQu2.out).all0)
      | (clear tku2; refine (WHu2.out _ HQu2.out).mono ?_; rintro _ vpu2 ⟨rfl, hb⟩; have HQu3 := Lib.hid (HQu2.out.trans (hb.mono HQu2.out.size)); clear hb; clear apu20 apu21 apu22 apu23 apu24 apu25 apu26 apu27 bpu20 bpu21 bpu22 bpu23 bpu24 bpu25 bpu26 bpu27))
    clear RAu0 RBu0 WHu0 RAu1 RBu1 WHu1 RAu2 RBu2 WHu2
    obtain ⟨Qu, rfl⟩ : ∃ y, y = vpu2 := ⟨_, rfl⟩
    have BT := Lib.hid (BT.out.trans (HQu3.out.mono BT.out.size))
    have PN := Lib.hid (PN.out.on HQu3.out)
    clear HQu0 HQu1 HQu2 HQu3
    clear hxx
    obtain ⟨WC, hWC⟩ : ∃ z, z = Qu := ⟨_, rfl⟩
    rw [← hWC] at PN BT ⊢
    clear hWC
    go_upto_region 12 with (fail)
    try simp only [Act.put]
    have HCX := Lib.hid (show ∀ w', Below WC.heap.size WC w' → Calls Tryz.prog 15 #[.agg (vcells k b i f t ty p n c q m d)] w' (CopyPost (bareV x) w') from fun w' h => refBare_any _ x (Nat.le_refl _) _ w' ((RX.out _ (BT.out.trans (h.mono BT.out.size))).2) (by have := HNX.out; omega))
    have HCY := Lib.hid (show ∀ w', Below WC.heap.size WC w' → Calls Tryz.prog 15 #[.agg (vcells k' b' i' f' t' ty' p' n' c' q' m' d')] w' (CopyPost (bareV y) w') from fun w' h => refBare_any _ y (Nat.le_refl _) _ w' ((RY.out _ (BT.out.trans (h.mono BT.out.size))).2) (by have := HNY.out; omega))
    have RD0 := Lib.hid (show ∀ w', Below WC.heap.size WC w' → CellsAt w' w.heap.size 0 (vcells k b i f t ty p n c q m d) from fun w' h => (RX.out _ (BT.out.trans (h.mono BT.out.size))).1)
    have RD1 := Lib.hid (show ∀ w', Below WC.heap.size WC w' → CellsAt w' (w.heap.size + 1) 0 (vcells k' b' i' f' t' ty' p' n' c' q' m' d') from fun w' h => (RY.out _ (BT.out.trans (h.mono BT.out.size))).1)
    unfold CopyPost at HCX HCY
    refine wp_region_states twoDeps (by kernel_rfl) (by rfl) (twoI 16 17 96 97 98 99 (bareV x) (bareV y) (vcells k b i f t ty p n c q m d) (vcells k' b' i' f' t' ty' p' n' c' q' m' d')) ?start ?step ?fin
    case start =>
      exact ⟨false, false, false, false, false, false, false, false, undef, undef, undef, undef, #[], #[], 0, 0, [], [], rfl, (by kernel_rfl), TwoF.start _ _ (Below.drew (Below.refl _ _)) _ _ _ _ _ _ _ _⟩
    case step =>
      rintro ls a W j ⟨l0, l1, l2, l3, l4, l5, l6, l7, v25, v26, v27, v28, c9, c10, g9, g10, bx, bz, rfl, rfl, hF⟩ hcan
      simp only [List.setIfInBounds_toArray, List.set_cons_succ, List.set_cons_zero]
      have HF := Lib.hid hF
      have hbw := hF.below
      have HBW := Lib.hid hbw
      rcases j with _ | _ | _ | _ | _ | _ | _ | _ | j
      · obtain rfl : l0 = false := by simpa [can] using hcan
        obtain ⟨a0, a1, a2, a3, a4, a5, a6, a7⟩ := (RD0.out _ hbw).all0
        clear hF hbw
        refine wpOp_plain rfl rfl (fun K hK => ?_)
        go_step
        exact hK _ _ ⟨true, l1, l2, l3, l4, l5, l6, l7, .agg (vcells k b i f t ty p n c q m d), v26, v27, v28, c9, c10, g9, g10, bx, bz, rfl, (by kernel_rfl), HF.out.load0⟩
      · obtain ⟨rfl, rfl⟩ : l1 = false ∧ l0 = true := by simpa [can] using hcan
        obtain rfl := hF.h25 rfl
        clear hF
        refine wpOp_plain rfl rfl (fun K hK => ?_)
        go_step
        refine (HCX.out _ hbw).mono ?_
        rintro e W' ⟨csn, bsn, rfl, ho, hn, hr, hb⟩
        exact hK _ _ ⟨true, true, l2, l3, l4, l5, l6, l7, .agg (vcells k b i f t ty p n c q m d), .agg csn, v27, v28, c9, c10, g9, g10, bsn, bz, rfl, (by kernel_rfl), HF.out.call1 ho hn hr hb⟩
      · obtain rfl : l2 = false := by simpa [can] using hcan
        obtain ⟨a0, a1, a2, a3, a4, a5, a6, a7⟩ := (RD1.out _ hbw).all0
        clear hF hbw
        refine wpOp_plain rfl rfl (fun K hK => ?_)
        go_step
        exact hK _ _ ⟨l0, l1, true, l3, l4, l5, l6, l7, v25, v26, .agg (vcells k' b' i' f' t' ty' p' n' c' q' m' d'), v28, c9, c10, g9, g10, bx, bz, rfl, (by kernel_rfl), HF.out.load2⟩
      · obtain ⟨rfl, rfl, rfl⟩ : l3 = false ∧ l2 = true ∧ l1 = true := by simpa [can] using hcan
        obtain rfl := hF.h27 rfl
        clear hF
        refine wpOp_plain rfl rfl (fun K hK => ?_)
        go_step
        refine (HCY.out _ hbw).mono ?_
        rintro e W' ⟨csn, bsn, rfl, ho, hn, hr, hb⟩
        exact hK _ _ ⟨l0, true, true, true, l4, l5, l6, l7, v25, v26, .agg (vcells k' b' i' f' t' ty' p' n' c' q' m' d'), .agg csn, c9, c10, g9, g10, bx, bsn, rfl, (by kernel_rfl), HF.out.call3 ho hn hr hb⟩
      · obtain rfl : l4 = false := by simpa [can] using hcan
        clear hF hbw
        refine wpOp_plain rfl rfl (fun K hK => ?_)
        go_step
        exact hK _ _ ⟨l0, l1, l2, l3, true, l5, l6, l7, v25, v26, v27, v28, cells0, c10, W.heap.size, g10, bx, bz, rfl, (by kernel_rfl), HF.out.alloc4 cells0 rfl⟩
      · obtain rfl : l5 = false := by simpa [can] using hcan
        clear hF hbw
        refine wpOp_plain rfl rfl (fun K hK => ?_)
        go_step
        exact hK _ _ ⟨l0, l1, l2, l3, l4, true, l6, l7, v25, v26, v27, v28, c9, cells0, g9, W.heap.size, bx, bz, rfl, (by kernel_rfl), HF.out.alloc5 cells0 rfl⟩
      · obtain ⟨rfl, rfl, rfl, rfl, rfl, rfl⟩ := two_can6 hcan
        obtain ⟨cs6, rfl, ho6⟩ := hF.h26 rfl
        have hi6 := ho6.isV (fun z hz => (hF.rx z hz).2)
        obtain ⟨k6, b6, i6, f6, t6, ty6, p6, n6, c6, q6, m6, d6, rfl⟩ := rk_shape hi6
        obtain ⟨_, _, hb6, _, _, hs6⟩ := hF.h9 rfl
        have H6 := Lib.hid hb6
        clear hF hbw hi6 ho6 hb6
        refine wpOp_plain rfl rfl (fun K hK => ?_)
        refine wp_store_row (P := Tryz.prog) 34 (.tmp 16) (.tmp 97) rfl g9 (vcells k6 b6 i6 f6 t6 ty6 p6 n6 c6 q6 m6 d6) rfl rfl 34 _ H6.out (by kernel_rfl) hs6 (vcells_one ..) ?_
        exact hK _ _ ⟨true, true, l2, true, true, true, true, l7, v25, .agg (vcells k6 b6 i6 f6 t6 ty6 p6 n6 c6 q6 m6 d6), v27, v28, (vcells k6 b6 i6 f6 t6 ty6 p6 n6 c6 q6 m6 d6), c10, g9, g10, bx, bz, rfl, (by kernel_rfl), HF.out.store6 (vcells k6 b6 i6 f6 t6 ty6 p6 n6 c6 q6 m6 d6) rfl rfl⟩
      · obtain ⟨rfl, rfl, rfl, rfl, rfl, rfl, rfl, rfl⟩ := two_can7 hcan
        obtain ⟨cs6, rfl, ho6⟩ := hF.h28 rfl
        have hi6 := ho6.isV (fun z hz => (hF.ry z hz).2)
        obtain ⟨k6, b6, i6, f6, t6, ty6, p6, n6, c6, q6, m6, d6, rfl⟩ := rk_shape hi6
        obtain ⟨_, _, hb6, _, _, hs6⟩ := hF.h10 rfl
        have H6 := Lib.hid hb6
        clear hF hbw hi6 ho6 hb6
        refine wpOp_plain rfl rfl (fun K hK => ?_)
        refine wp_store_row (P := Tryz.prog) 34 (.tmp 17) (.tmp 99) rfl g10 (vcells k6 b6 i6 f6 t6 ty6 p6 n6 c6 q6 m6 d6) rfl rfl 34 _ H6.out (by kernel_rfl) hs6 (vcells_one ..) ?_
        exact hK _ _ ⟨true, true, true, true, true, true, true, true, v25, v26, v27, .agg (vcells k6 b6 i6 f6 t6 ty6 p6 n6 c6 q6 m6 d6), c9, (vcells k6 b6 i6 f6 t6 ty6 p6 n6 c6 q6 m6 d6), g9, g10, bx, bz, rfl, (by kernel_rfl), HF.out.store7 (vcells k6 b6 i6 f6 t6 ty6 p6 n6 c6 q6 m6 d6) rfl rfl⟩
      · simp [can] at hcan
    case fin =>
      rintro ls a V12 hcan ⟨l0, l1, l2, l3, l4, l5, l6, l7, v25, v26, v27, v28, c9, c10, g16, g17, bu, bw, rfl, rfl, hF⟩
      obtain ⟨rfl, rfl, rfl, rfl, rfl, rfl, rfl, rfl⟩ := two_end hcan
      clear hcan
      simp only [List.setIfInBounds_toArray, List.set_cons_succ, List.set_cons_zero, if_true]
      have hpens := hF.pens PN.out BT.out.size
      have hbt := BT.out.trans (hF.below.mono BT.out.size)
      simp only [List.cons_append, List.nil_append] at hpens
      have hi9 := (hpens.read (List.mem_of_getElem? (i := 5) rfl)).2.1
      have hi10 := (hpens.read (List.mem_of_getElem? (i := 6) rfl)).2.1
      obtain ⟨zk, zb, zi, zf, zt, zty, zp, zn, zc, zq, zm, zd, rfl⟩ := rk_shape hi9
      obtain ⟨jk, jb, ji, jf, jt, jty, jp, jn, jc, jq, jm, jd, rfl⟩ := rk_shape hi10
      have PN := Lib.hid hpens
      have BT := Lib.hid hbt
      clear hpens hbt hi9 hi10 hF HCX HCY RD0 RD1
      go_upto_region 13 with (fail)
      obtain ⟨E13, hE13⟩ : ∃ z, leafE x = z := ⟨_, rfl⟩
      rw [hE13]
      have HE13 := Lib.hid hE13
      clear hE13
      obtain ⟨a00, a01, a02, a03, a04, a05, a06, a07⟩ := (RX.out _ BT.out).1.all0
      go_cut [18] from 284 (fun s wx => (∃ mm : Bool, s = .bool mm ∧ Hid (mm = true → leafV x = bareV x)) ∧ Hid (Below V12.heap.size V12 wx))
      case first =>
        by_cases e0 : E13 = 0
        · subst e0
          by_cases k0 : 0 ≤ k
          · by_cases k7 : k < 7
            · have hf := Lib.hid (leaf_bareX (RX.out _ BT.out).2 HE13.out k0 k7)
              go_wp2_with fail
              go_meet
              exact ⟨⟨true, rfl, Lib.hid (fun _ => hf.out)⟩, Lib.hid (Below.refl _ _)⟩
            · go_wp2_with fail
              go_meet
              exact ⟨⟨false, rfl, Lib.hid (fun h => by cases h)⟩, Lib.hid (Below.refl _ _)⟩
          · go_wp2_with fail
            go_meet
            exact ⟨⟨false, rfl, Lib.hid (fun h => by cases h)⟩, Lib.hid (Below.refl _ _)⟩
        · have e0' : (E13 == 0) = false := by simp [e0]
          go_wp2_with fail
          go_meet
          exact ⟨⟨false, rfl, Lib.hid (fun h => by cases h)⟩, Lib.hid (Below.refl _ _)⟩
      case rest =>
        obtain ⟨⟨m18, rfl, HM18⟩, HB13⟩ := hcut
        clear a00 a01 a02 a03 a04 a05 a06 a07
        obtain ⟨C13, rfl⟩ : ∃ z, z = wc := ⟨wc, rfl⟩
        have BT := Lib.hid (BT.out.trans (HB13.out.mono BT.out.size))
        have PN := Lib.hid (PN.out.on HB13.out)
        clear HB13
        go_upto_region 14 with (fail)
        obtain ⟨E14, hE14⟩ : ∃ z, leafE y = z := ⟨_, rfl⟩
        rw [hE14]
        have HE14 := Lib.hid hE14
        clear hE14
        obtain ⟨a00, a01, a02, a03, a04, a05, a06, a07⟩ := (RY.out _ BT.out).1.all0
        go_cut [19] from 284 (fun s wx => (∃ mm : Bool, s = .bool mm ∧ Hid (mm = true → leafV y = bareV y)) ∧ Hid (Below C13.heap.size C13 wx))
        case first =>
          by_cases e0 : E14 = 0
          · subst e0
            by_cases k0 : 0 ≤ k'
            · by_cases k7 : k' < 7
              · have hf := Lib.hid (leaf_bareX (RY.out _ BT.out).2 HE14.out k0 k7)
                go_wp2_with fail
                go_meet
                exact ⟨⟨true, rfl, Lib.hid (fun _ => hf.out)⟩, Lib.hid (Below.refl _ _)⟩
              · go_wp2_with fail
                go_meet
                exact ⟨⟨false, rfl, Lib.hid (fun h => by cases h)⟩, Lib.hid (Below.refl _ _)⟩
            · go_wp2_with fail
              go_meet
              exact ⟨⟨false, rfl, Lib.hid (fun h => by cases h)⟩, Lib.hid (Below.refl _ _)⟩
          · have e0' : (E14 == 0) = false := by simp [e0]
            go_wp2_with fail
            go_meet
            exact ⟨⟨false, rfl, Lib.hid (fun h => by cases h)⟩, Lib.hid (Below.refl _ _)⟩
        case rest =>
          obtain ⟨⟨m19, rfl, HM19⟩, HB14⟩ := hcut
          clear a00 a01 a02 a03 a04 a05 a06 a07
          obtain ⟨C14, rfl⟩ : ∃ z, z = wc := ⟨wc, rfl⟩
          have BT := Lib.hid (BT.out.trans (HB14.out.mono BT.out.size))
          have PN := Lib.hid (PN.out.on HB14.out)
          clear HB14
          go_upto_region 15 with (fail)
          go_cut [139] from 284 (fun s wx => s = .bool false ∧ Hid (Below C14.heap.size C14 wx))
          case first =>
            cases m18 with
            | false =>
              cases m19 with
              | false =>
                have HQca0 := Lib.hid (Below.refl C14.heap.size C14)
                go_wp2_with fail
                go_meet
                exact ⟨rfl, HQca0⟩
              | true =>
                have RAca0 := Lib.hid (show ∀ w', Below C14.heap.size C14 w' → CellsAt w' Ge 0 (vcells eak eab eai eaf eat eaty eap ean eac eaq eam ead) from fun w' h => ((PN.out.on h).read (List.mem_of_getElem? (i := 3) rfl)).1)
                have RBca0 := Lib.hid (show ∀ w', Below C14.heap.size C14 w' → CellsAt w' g17 0 (vcells jk jb ji jf jt jty jp jn jc jq jm jd) from fun w' h => ((PN.out.on h).read (List.mem_of_getElem? (i := 6) rfl)).1)
                have WHca0 := Lib.hid (show ∀ w', Below C14.heap.size C14 w' → Calls Tryz.prog 14 #[.agg (vcells eak eab eai eaf eat eaty eap ean eac eaq eam ead), .agg (vcells jk jb ji jf jt jty jp jn jc jq jm jd)] w' (RetB (.bool true) w') from fun w' h => Whole_same _ (leafV y) (Nat.le_refl _) (ok_leaf HOY.out) _ _ w' (((PN.out.on h).read (List.mem_of_getElem? (i := 3) rfl)).2.1) (HM19.out rfl ▸ ((PN.out.on h).read (List.mem_of_getElem? (i := 6) rfl)).2.1))
                have tkca0 := trivial
                have HQca0 := Lib.hid (Below.refl C14.heap.size C14)
                obtain ⟨apca00, apca01, apca02, apca03, apca04, apca05, apca06, apca07⟩ := (RAca0.out _ HQca0.out).all0
                obtain ⟨bpca00, bpca01, bpca02, bpca03, bpca04, bpca05, bpca06, bpca07⟩ := (RBca0.out _ HQca0.out).all0
                go_wp2_with (go_at_call 14; first
                  | (clear tkca0; refine (WHca0.out _ HQca0.out).mono ?_; rintro _ vpca0 ⟨rfl, hb⟩; have HQca1 := Lib.hid (HQca0.out.trans (hb.mono HQca0.out.size)); clear hb; clear apca00 apca01 apca02 apca03 apca04 apca05 apca06 apca07 bpca00 bpca01 bpca02 bpca03 bpca04 bpca05 bpca06 bpca07))
                go_meet
                exact ⟨rfl, HQca1⟩
            | true =>
              cases m19 with
              | false =>
                have RAca0 := Lib.hid (show ∀ w', Below C14.heap.size C14 w' → CellsAt w' Ga 0 (vcells aak aab aai aaf aat aaty aap aan aac aaq aam aad) from fun w' h => ((PN.out.on h).read (List.mem_of_getElem? (i := 2) rfl)).1)
                have RBca0 := Lib.hid (show ∀ w', Below C14.heap.size C14 w' → CellsAt w' g16 0 (vcells zk zb zi zf zt zty zp zn zc zq zm zd) from fun w' h => ((PN.out.on h).read (List.mem_of_getElem? (i := 5) rfl)).1)
                have WHca0 := Lib.hid (show ∀ w', Below C14.heap.size C14 w' → Calls Tryz.prog 14 #[.agg (vcells aak aab aai aaf aat aaty aap aan aac aaq aam aad), .agg (vcells zk zb zi zf zt zty zp zn zc zq zm zd)] w' (RetB (.bool true) w') from fun w' h => Whole_same _ (leafV x) (Nat.le_refl _) (ok_leaf HOX.out) _ _ w' (((PN.out.on h).read (List.mem_of_getElem? (i := 2) rfl)).2.1) (HM18.out rfl ▸ ((PN.out.on h).read (List.mem_of_getElem? (i := 5) rfl)).2.1))
                have tkca0 := trivial
                have HQca0 := Lib.hid (Below.refl C14.heap.size C14)
                obtain ⟨apca00, apca01, apca02, apca03, apca04, apca05, apca06, apca07⟩ := (RAca0.out _ HQca0.out).all0
                obtain ⟨bpca00, bpca01, bpca02, bpca03, bpca04, bpca05, bpca06, bpca07⟩ := (RBca0.out _ HQca0.out).all0
                go_wp2_with (go_at_call 14; first
                  | (clear tkca0; refine (WHca0.out _ HQca0.out).mono ?_; rintro _ vpca0 ⟨rfl, hb⟩; have HQca1 := Lib.hid (HQca0.out.trans (hb.mono HQca0.out.size)); clear hb; clear apca00 apca01 apca02 apca03 apca04 apca05 apca06 apca07 bpca00 bpca01 bpca02 bpca03 bpca04 bpca05 bpca06 bpca07))
                go_meet
                exact ⟨rfl, HQca1⟩
              | true =>
                have RAca0 := Lib.hid (show ∀ w', Below C14.heap.size C14 w' → CellsAt w' Ga 0 (vcells aak aab aai aaf aat aaty aap aan aac aaq aam aad) from fun w' h => ((PN.out.on h).read (List.mem_of_getElem? (i := 2) rfl)).1)
                have RBca0 := Lib.hid (show ∀ w', Below C14.heap.size C14 w' → CellsAt w' g16 0 (vcells zk zb zi zf zt zty zp zn zc zq zm zd) from fun w' h => ((PN.out.on h).read (List.mem_of_getElem? (i := 5) rfl)).1)
                have WHca0 := Lib.hid (show ∀ w', Below C14.heap.size C14 w' → Calls Tryz.prog 14 #[.agg (vcells aak aab aai aaf aat aaty aap aan aac aaq aam aad), .agg (vcells zk zb zi zf zt zty zp zn zc zq zm zd)] w' (RetB (.bool true) w') from fun w' h => Whole_same _ (leafV x) (Nat.le_refl _) (ok_leaf HOX.out) _ _ w' (((PN.out.on h).read (List.mem_of_getElem? (i := 2) rfl)).2.1) (HM18.out rfl ▸ ((PN.out.on h).read (List.mem_of_getElem? (i := 5) rfl)).2.1))
                have tkca0 := trivial
                have RAca1 := Lib.hid (show ∀ w', Below C14.heap.size C14 w' → CellsAt w' Ge 0 (vcells eak eab eai eaf eat eaty eap ean eac eaq eam ead) from fun w' h => ((PN.out.on h).read (List.mem_of_getElem? (i := 3) rfl)).1)
                have RBca1 := Lib.hid (show ∀ w', Below C14.heap.size C14 w' → CellsAt w' g17 0 (vcells jk jb ji jf jt jty jp jn jc jq jm jd) from fun w' h => ((PN.out.on h).read (List.mem_of_getElem? (i := 6) rfl)).1)
                have WHca1 := Lib.hid (show ∀ w', Below C14.heap.size C14 w' → Calls Tryz.prog 14 #[.agg (vcells eak eab eai eaf eat eaty eap ean eac eaq eam ead), .agg (vcells jk jb ji jf jt jty jp jn jc jq jm jd)] w' (RetB (.bool true) w') from fun w' h => Whole_same _ (leafV y) (Nat.le_refl _) (ok_leaf HOY.out) _ _ w' (((PN.out.on h).read (List.mem_of_getElem? (i := 3) rfl)).2.1) (HM19.out rfl ▸ ((PN.out.on h).read (List.mem_of_getElem? (i := 6) rfl)).2.1))
                have tkca1 := trivial
                have HQca0 := Lib.hid (Below.refl C14.heap.size C14)
                obtain ⟨apca00, apca01, apca02, apca03, apca04, apca05, apca06, apca07⟩ := (RAca0.out _ HQca0.out).all0
                obtain ⟨bpca00, bpca01, bpca02, bpca03, bpca04, bpca05, bpca06, bpca07⟩ := (RBca0.out _ HQca0.out).all0
                go_wp2_with (go_at_call 14; first
                  | (clear tkca0; refine (WHca0.out _ HQca0.out).mono ?_; rintro _ vpca0 ⟨rfl, hb⟩; have HQca1 := Lib.hid (HQca0.out.trans (hb.mono HQca0.out.size)); clear hb; clear apca00 apca01 apca02 apca03 apca04 apca05 apca06 apca07 bpca00 bpca01 bpca02 bpca03 bpca04 bpca05 bpca06 bpca07; obtain ⟨apca10, apca11, apca12, apca13, apca14, apca15, apca16, apca17⟩ := (RAca1.out _ HQca1.out).all0; obtain ⟨bpca10, bpca11, bpca12, bpca13, bpca14, bpca15, bpca16, bpca17⟩ := (RBca1.out _ HQca1.out).all0)
                  | (clear tkca1; refine (WHca1.out _ HQca1.out).mono ?_; rintro _ vpca1 ⟨rfl, hb⟩; have HQca2 := Lib.hid (HQca1.out.trans (hb.mono HQca1.out.size)); clear hb; clear apca10 apca11 apca12 apca13 apca14 apca15 apca16 apca17 bpca10 bpca11 bpca12 bpca13 bpca14 bpca15 bpca16 bpca17))
                go_meet
                exact ⟨rfl, HQca2⟩
          case rest =>
            obtain ⟨rfl, HB15⟩ := hcut
            obtain ⟨C15, rfl⟩ : ∃ z, z = wc := ⟨wc, rfl⟩
            have BT := Lib.hid (BT.out.trans (HB15.out.mono BT.out.size))
            have PN := Lib.hid (PN.out.on HB15.out)
            clear HB15
            go_upto_region 17 with (fail)
            have PN0 := PN
            have BT0 := BT
            obtain ⟨iX, fX, lX, pX⟩ := rk_laid PN.out (List.mem_of_getElem? (i := 0) rfl)
            obtain ⟨iY, fY, lY, pY⟩ := rk_laid PN.out (List.mem_of_getElem? (i := 1) rfl)
            have LX := Lib.hid (show Laid C15 x g8 0 iX fX from lX)
            have LY := Lib.hid (show Laid C15 y g9 0 iY fY from lY)
            have PX := Lib.hid (show (blks iX ++ blks fX).Perm bx from pX)
            have PY := Lib.hid (show (blks iY ++ blks fY).Perm bz from pY)
            clear lX lY pX pY
            obtain ⟨a00, a01, a02, a03, a04, a05, a06, a07⟩ := (PN.out.read (List.mem_of_getElem? (i := 0) rfl)).1.all0
            have KL := Lib.hid (lists_first LX.out (show CellsAt C15 g8 0 (vcells rk rb ri rf rt rty rp rn rc rq rm rd) from (PN.out.read (List.mem_of_getElem? (i := 0) rfl)).1) rfl (fun b hb => (PN.out.lt (List.mem_of_getElem? (i := 0) rfl) PX.out b hb).2) (by have := HNX.out; omega))
            have tkl := trivial
            go_upto_region 18 with (go_at_call 16; clear tkl; refine KL.out.mono ?_; rintro _ W17 ⟨q0, q1, rfl, hR, hG⟩; have HR := Lib.hid hR; have HG := Lib.hid hG; clear hR hG)
            clear a00 a01 a02 a03 a04 a05 a06 a07 KL
            obtain ⟨V17, rfl⟩ : ∃ z, z = W17 := ⟨W17, rfl⟩
            have PN := Lib.hid (PN.out.on HG.out.below)
            obtain ⟨a00, a01, a02, a03, a04, a05, a06, a07⟩ := (PN.out.read (List.mem_of_getElem? (i := 1) rfl)).1.all0
            have KL := Lib.hid (lists_step HR.out HG.out LY.out (show CellsAt C15 g9 0 (vcells sk sb si sf st sty sp sn sc sq sm sd) from (PN0.out.read (List.mem_of_getElem? (i := 1) rfl)).1) rfl (fun b hb => ⟨(PN0.out.lt (List.mem_of_getElem? (i := 1) rfl) PY.out b hb).2, (fun h => by cases h), (fun h => by cases h)⟩) (by have := (laid_len LX.out).1; have := HNX.out; have := HNY.out; omega) (by have := (laid_len LX.out).2; have := HNX.out; have := HNY.out; omega))
            have tkl := trivial
            go_upto_region 19 with (go_at_call 16; clear tkl; refine KL.out.mono ?_; rintro _ W18 ⟨s0, s1, rfl, hR, hG⟩; have HR2 := Lib.hid hR; have HG2 := Lib.hid hG; clear hR hG)
            clear a00 a01 a02 a03 a04 a05 a06 a07 KL HR HG
            obtain ⟨V18, rfl⟩ : ∃ z, z = W18 := ⟨W18, rfl⟩
            have PN := Lib.hid (PN0.out.on HG2.out.below)
            have BT := Lib.hid (BT.out.trans (HG2.out.below.mono BT.out.size))
            have HND := Lib.hid (two_nd PN0.out)
            have HFAR := Lib.hid (show ∀ g, s0.ownBlock = some g ∨ s1.ownBlock = some g → C15.heap.size ≤ g ∧ g < V18.heap.size from fun g hg => ⟨by
              rcases hg with hg | hg
              · rcases HG2.out.n0 g hg with h | h
                · cases h
                · exact h
              · rcases HG2.out.n1 g hg with h | h
                · cases h
                · exact h, HR2.out.lt hg⟩)
            have ACC := Lib.hid (((Acc.one LX.out PX.out HNX.out).add (Acc.one LY.out PY.out HNY.out)).below HG2.out.below (fun b hb => (HND.out.2 b hb).2))
            have MI := Lib.hid (ACC.out.mkIn HR2.out HND.out.1 (fun g hg hb => by have := (HFAR.out g hg).1; have := (HND.out.2 g hb).2; omega) (by decide))
            have KM := Lib.hid MI.out.calls0
            have tkl := trivial
            go_step
            iterate 2
              refine wpList_plain rfl (fun K hK => ?_)
              go_step
              refine hK _ _ ?_
              clear hK K
            refine wpList_plain rfl (fun K hK => ?_)
            go_step
            refine KM.out.mono ?_
            rintro _ W19 ⟨rfl, hf, hm1, hm2⟩
            have HF := Lib.hid hf
            have HM1 := Lib.hid hm1
            have HM2 := Lib.hid hm2
            clear hf hm1 hm2 tkl
            refine hK _ _ ?_
            clear hK K
            go_upto_region 20 with (fail)
            obtain ⟨V19, rfl⟩ : ∃ z, z = W19 := ⟨W19, rfl⟩
            obtain ⟨sI, sF, bM, hpn⟩ := pens_marked PN.out (LX.out.below HG2.out.below (PN0.out.lt (List.mem_of_getElem? (i := 0) rfl) PX.out _ (.inl rfl)).2 (fun b hb => (PN0.out.lt (List.mem_of_getElem? (i := 0) rfl) PX.out b (.inr hb)).2)) PX.out PY.out HF.out HM1.out HM2.out (by have := HNX.out; simp only; omega)
            have HSZ19 := Lib.hid (show V18.heap.size = V19.heap.size from HF.out.size.symm)
            have HSZ17 := Lib.hid (show C15.heap.size ≤ V18.heap.size from HG2.out.size)
            have HSZB := Lib.hid (show w4.heap.size ≤ C15.heap.size from BT0.out.size)
            have ACX := ACC
            have BT := Lib.hid (BT.out.trans (HF.out.belowB (fun b hb => (HND.out.2 b (ACC.out.mem hb)).1)))
            have ACC := Lib.hid (ACC.out.frm HF.out)
            have MI := Lib.hid (MI.out.marked HF.out)
            clear KM LX LY HM1 HM2 HF HR2 HG2 BT0
            have PN := Lib.hid (show Pens w4.heap.size V19 [⟨g8, (mkdV sI sF x), (vcells rk rb ri rf rt rty rp rn rc rq rm rd), bM⟩, ⟨Ga, (leafV x), (vcells aak aab aai aaf aat aaty aap aan aac aaq aam aad), ba⟩, ⟨Ge, (leafV y), (vcells eak eab eai eaf eat eaty eap ean eac eaq eam ead), be⟩, ⟨Go_, (leafV x), (vcells oak oab oai oaf oat oaty oap oan oac oaq oam oad), bo⟩, ⟨g16, (bareV x), (vcells zk zb zi zf zt zty zp zn zc zq zm zd), bu⟩, ⟨g17, (bareV y), (vcells jk jb ji jf jt jty jp jn jc jq jm jd), bw⟩] from hpn)
            clear hpn
            have BM := Lib.hid (Below.refl V19.heap.size V19)
            go_upto_region 20 with (fail)
            go_cut [176] from 284 (fun s wx => s = .bool false ∧ Hid (Below V19.heap.size V19 wx))
            case first =>
              cases m18 with
              | false =>
                cases m19 with
                | false =>
                  have HQcb0 := Lib.hid (Below.refl V19.heap.size V19)
                  go_wp2_with fail
                  go_meet
                  exact ⟨rfl, HQcb0⟩
                | true =>
                  have RAcb0 := Lib.hid (show ∀ w', Below V19.heap.size V19 w' → CellsAt w' Ge 0 (vcells eak eab eai eaf eat eaty eap ean eac eaq eam ead) from fun w' h => ((PN.out.on h).read (List.mem_of_getElem? (i := 2) rfl)).1)
                  have RBcb0 := Lib.hid (show ∀ w', Below V19.heap.size V19 w' → CellsAt w' g17 0 (vcells jk jb ji jf jt jty jp jn jc jq jm jd) from fun w' h => ((PN.out.on h).read (List.mem_of_getElem? (i := 5) rfl)).1)
                  have WHcb0 := Lib.hid (show ∀ w', Below V19.heap.size V19 w' → Calls Tryz.prog 14 #[.agg (vcells eak eab eai eaf eat eaty eap ean eac eaq eam ead), .agg (vcells jk jb ji jf jt jty jp jn jc jq jm jd)] w' (RetB (.bool true) w') from fun w' h => Whole_same _ (leafV y) (Nat.le_refl _) (ok_leaf HOY.out) _ _ w' (((PN.out.on h).read (List.mem_of_getElem? (i := 2) rfl)).2.1) (HM19.out rfl ▸ ((PN.out.on h).read (List.mem_of_getElem? (i := 5) rfl)).2.1))
                  have tkcb0 := trivial
                  have HQcb0 := Lib.hid (Below.refl V19.heap.size V19)
                  obtain ⟨apcb00, apcb01, apcb02, apcb03, apcb04, apcb05, apcb06, apcb07⟩ := (RAcb0.out _ HQcb0.out).all0
                  obtain ⟨bpcb00, bpcb01, bpcb02, bpcb03, bpcb04, bpcb05, bpcb06, bpcb07⟩ := (RBcb0.out _ HQcb0.out).all0
                  go_wp2_with (go_at_call 14; first
                    | (clear tkcb0; refine (WHcb0.out _ HQcb0.out).mono ?_; rintro _ vpcb0 ⟨rfl, hb⟩; have HQcb1 := Lib.hid (HQcb0.out.trans (hb.mono HQcb0.out.size)); clear hb; clear apcb00 apcb01 apcb02 apcb03 apcb04 apcb05 apcb06 apcb07 bpcb00 bpcb01 bpcb02 bpcb03 bpcb04 bpcb05 bpcb06 bpcb07))
                  go_meet
                  exact ⟨rfl, HQcb1⟩
              | true =>
                cases m19 with
                | false =>
                  have RAcb0 := Lib.hid (show ∀ w', Below V19.heap.size V19 w' → CellsAt w' Ga 0 (vcells aak aab aai aaf aat aaty aap aan aac aaq aam aad) from fun w' h => ((PN.out.on h).read (List.mem_of_getElem? (i := 1) rfl)).1)
                  have RBcb0 := Lib.hid (show ∀ w', Below V19.heap.size V19 w' → CellsAt w' g16 0 (vcells zk zb zi zf zt zty zp zn zc zq zm zd) from fun w' h => ((PN.out.on h).read (List.mem_of_getElem? (i := 4) rfl)).1)
                  have WHcb0 := Lib.hid (show ∀ w', Below V19.heap.size V19 w' → Calls Tryz.prog 14 #[.agg (vcells aak aab aai aaf aat aaty aap aan aac aaq aam aad), .agg (vcells zk zb zi zf zt zty zp zn zc zq zm zd)] w' (RetB (.bool true) w') from fun w' h => Whole_same _ (leafV x) (Nat.le_refl _) (ok_leaf HOX.out) _ _ w' (((PN.out.on h).read (List.mem_of_getElem? (i := 1) rfl)).2.1) (HM18.out rfl ▸ ((PN.out.on h).read (List.mem_of_getElem? (i := 4) rfl)).2.1))
                  have tkcb0 := trivial
                  have RAcb1 := Lib.hid (show ∀ w', Below V19.heap.size V19 w' → CellsAt w' Go_ 0 (vcells oak oab oai oaf oat oaty oap oan oac oaq oam oad) from fun w' h => ((PN.out.on h).read (List.mem_of_getElem? (i := 3) rfl)).1)
                  have RBcb1 := Lib.hid (show ∀ w', Below V19.heap.size V19 w' → CellsAt w' g16 0 (vcells zk zb zi zf zt zty zp zn zc zq zm zd) from fun w' h => ((PN.out.on h).read (List.mem_of_getElem? (i := 4) rfl)).1)
                  have WHcb1 := Lib.hid (show ∀ w', Below V19.heap.size V19 w' → Calls Tryz.prog 14 #[.agg (vcells oak oab oai oaf oat oaty oap oan oac oaq oam oad), .agg (vcells zk zb zi zf zt zty zp zn zc zq zm zd)] w' (RetB (.bool true) w') from fun w' h => Whole_same _ (leafV x) (Nat.le_refl _) (ok_leaf HOX.out) _ _ w' (((PN.out.on h).read (List.mem_of_getElem? (i := 3) rfl)).2.1) (HM18.out rfl ▸ ((PN.out.on h).read (List.mem_of_getElem? (i := 4) rfl)).2.1))
                  have tkcb1 := trivial
                  have HQcb0 := Lib.hid (Below.refl V19.heap.size V19)
                  obtain ⟨apcb00, apcb01, apcb02, apcb03, apcb04, apcb05, apcb06, apcb07⟩ := (RAcb0.out _ HQcb0.out).all0
                  obtain ⟨bpcb00, bpcb01, bpcb02, bpcb03, bpcb04, bpcb05, bpcb06, bpcb07⟩ := (RBcb0.out _ HQcb0.out).all0
                  go_wp2_with (go_at_call 14; first
                    | (clear tkcb0; refine (WHcb0.out _ HQcb0.out).mono ?_; rintro _ vpcb0 ⟨rfl, hb⟩; have HQcb1 := Lib.hid (HQcb0.out.trans (hb.mono HQcb0.out.size)); clear hb; clear apcb00 apcb01 apcb02 apcb03 apcb04 apcb05 apcb06 apcb07 bpcb00 bpcb01 bpcb02 bpcb03 bpcb04 bpcb05 bpcb06 bpcb07; obtain ⟨apcb10, apcb11, apcb12, apcb13, apcb14, apcb15, apcb16, apcb17⟩ := (RAcb1.out _ HQcb1.out).all0; obtain ⟨bpcb10, bpcb11, bpcb12, bpcb13, bpcb14, bpcb15, bpcb16, bpcb17⟩ := (RBcb1.out _ HQcb1.out).all0)
                    | (clear tkcb1; refine (WHcb1.out _ HQcb1.out).mono ?_; rintro _ vpcb1 ⟨rfl, hb⟩; have HQcb2 := Lib.hid (HQcb1.out.trans (hb.mono HQcb1.out.size)); clear hb; clear apcb10 apcb11 apcb12 apcb13 apcb14 apcb15 apcb16 apcb17 bpcb10 bpcb11 bpcb12 bpcb13 bpcb14 bpcb15 bpcb16 bpcb17))
                  go_meet
                  exact ⟨rfl, HQcb2⟩
                | true =>
                  have RAcb0 := Lib.hid (show ∀ w', Below V19.heap.size V19 w' → CellsAt w' Ga 0 (vcells aak aab aai aaf aat aaty aap aan aac aaq aam aad) from fun w' h => ((PN.out.on h).read (List.mem_of_getElem? (i := 1) rfl)).1)
                  have RBcb0 := Lib.hid (show ∀ w', Below V19.heap.size V19 w' → CellsAt w' g16 0 (vcells zk zb zi zf zt zty zp zn zc zq zm zd) from fun w' h => ((PN.out.on h).read (List.mem_of_getElem? (i := 4) rfl)).1)
                  have WHcb0 := Lib.hid (show ∀ w', Below V19.heap.size V19 w' → Calls Tryz.prog 14 #[.agg (vcells aak aab aai aaf aat aaty aap aan aac aaq aam aad), .agg (vcells zk zb zi zf zt zty zp zn zc zq zm zd)] w' (RetB (.bool true) w') from fun w' h => Whole_same _ (leafV x) (Nat.le_refl _) (ok_leaf HOX.out) _ _ w' (((PN.out.on h).read (List.mem_of_getElem? (i := 1) rfl)).2.1) (HM18.out rfl ▸ ((PN.out.on h).read (List.mem_of_getElem? (i := 4) rfl)).2.1))
                  have tkcb0 := trivial
                  have RAcb1 := Lib.hid (show ∀ w', Below V19.heap.size V19 w' → CellsAt w' Go_ 0 (vcells oak oab oai oaf oat oaty oap oan oac oaq oam oad) from fun w' h => ((PN.out.on h).read (List.mem_of_getElem? (i := 3) rfl)).1)
                  have RBcb1 := Lib.hid (show ∀ w', Below V19.heap.size V19 w' → CellsAt w' g16 0 (vcells zk zb zi zf zt zty zp zn zc zq zm zd) from fun w' h => ((PN.out.on h).read (List.mem_of_getElem? (i := 4) rfl)).1)
                  have WHcb1 := Lib.hid (show ∀ w', Below V19.heap.size V19 w' → Calls Tryz.prog 14 #[.agg (vcells oak oab oai oaf oat oaty oap oan oac oaq oam oad), .agg (vcells zk zb zi zf zt zty zp zn zc zq zm zd)] w' (RetB (.bool true) w') from fun w' h => Whole_same _ (leafV x) (Nat.le_refl _) (ok_leaf HOX.out) _ _ w' (((PN.out.on h).read (List.mem_of_getElem? (i := 3) rfl)).2.1) (HM18.out rfl ▸ ((PN.out.on h).read (List.mem_of_getElem? (i := 4) rfl)).2.1))
                  have tkcb1 := trivial
                  have RAcb2 := Lib.hid (show ∀ w', Below V19.heap.size V19 w' → CellsAt w' Ge 0 (vcells eak eab eai eaf eat eaty eap ean eac eaq eam ead) from fun w' h => ((PN.out.on h).read (List.mem_of_getElem? (i := 2) rfl)).1)
                  have RBcb2 := Lib.hid (show ∀ w', Below V19.heap.size V19 w' → CellsAt w' g17 0 (vcells jk jb ji jf jt jty jp jn jc jq jm jd) from fun w' h => ((PN.out.on h).read (List.mem_of_getElem? (i := 5) rfl)).1)
                  have WHcb2 := Lib.hid (show ∀ w', Below V19.heap.size V19 w' → Calls Tryz.prog 14 #[.agg (vcells eak eab eai eaf eat eaty eap ean eac eaq eam ead), .agg (vcells jk jb ji jf jt jty jp jn jc jq jm jd)] w' (RetB (.bool true) w') from fun w' h => Whole_same _ (leafV y) (Nat.le_refl _) (ok_leaf HOY.out) _ _ w' (((PN.out.on h).read (List.mem_of_getElem? (i := 2) rfl)).2.1) (HM19.out rfl ▸ ((PN.out.on h).read (List.mem_of_getElem? (i := 5) rfl)).2.1))
                  have tkcb2 := trivial
                  have HQcb0 := Lib.hid (Below.refl V19.heap.size V19)
                  obtain ⟨apcb00, apcb01, apcb02, apcb03, apcb04, apcb05, apcb06, apcb07⟩ := (RAcb0.out _ HQcb0.out).all0
                  obtain ⟨bpcb00, bpcb01, bpcb02, bpcb03, bpcb04, bpcb05, bpcb06, bpcb07⟩ := (RBcb0.out _ HQcb0.out).all0
                  go_wp2_with (go_at_call 14; first
                    | (clear tkcb0; refine (WHcb0.out _ HQcb0.out).mono ?_; rintro _ vpcb0 ⟨rfl, hb⟩; have HQcb1 := Lib.hid (HQcb0.out.trans (hb.mono HQcb0.out.size)); clear hb; clear apcb00 apcb01 apcb02 apcb03 apcb04 apcb05 apcb06 apcb07 bpcb00 bpcb01 bpcb02 bpcb03 bpcb04 bpcb05 bpcb06 bpcb07; obtain ⟨apcb10, apcb11, apcb12, apcb13, apcb14, apcb15, apcb16, apcb17⟩ := (RAcb1.out _ HQcb1.out).all0; obtain ⟨bpcb10, bpcb11, bpcb12, bpcb13, bpcb14, bpcb15, bpcb16, bpcb17⟩ := (RBcb1.out _ HQcb1.out).all0)
                    | (clear tkcb1; refine (WHcb1.out _ HQcb1.out).mono ?_; rintro _ vpcb1 ⟨rfl, hb⟩; have HQcb2 := Lib.hid (HQcb1.out.trans (hb.mono HQcb1.out.size)); clear hb; clear apcb10 apcb11 apcb12 apcb13 apcb14 apcb15 apcb16 apcb17 bpcb10 bpcb11 bpcb12 bpcb13 bpcb14 bpcb15 bpcb16 bpcb17; obtain ⟨apcb20, apcb21, apcb22, apcb23, apcb24, apcb25, apcb26, apcb27⟩ := (RAcb2.out _ HQcb2.out).all0; obtain ⟨bpcb20, bpcb21, bpcb22, bpcb23, bpcb24, bpcb25, bpcb26, bpcb27⟩ := (RBcb2.out _ HQcb2.out).all0)
                    | (clear tkcb2; refine (WHcb2.out _ HQcb2.out).mono ?_; rintro _ vpcb2 ⟨rfl, hb⟩; have HQcb3 := Lib.hid (HQcb2.out.trans (hb.mono HQcb2.out.size)); clear hb; clear apcb20 apcb21 apcb22 apcb23 apcb24 apcb25 apcb26 apcb27 bpcb20 bpcb21 bpcb22 bpcb23 bpcb24 bpcb25 bpcb26 bpcb27))
                  go_meet
                  exact ⟨rfl, HQcb3⟩
            case rest =>
              obtain ⟨rfl, HB20⟩ := hcut
              obtain ⟨C20, rfl⟩ : ∃ z, z = wc := ⟨wc, rfl⟩
              have BT := Lib.hid (BT.out.trans (HB20.out.mono BT.out.size))
              have PN := Lib.hid (PN.out.on HB20.out)
              have BM := Lib.hid (BM.out.trans (HB20.out.mono BM.out.size))
              have HS20 := Lib.hid (show V19.heap.size ≤ C20.heap.size from BM.out.size)
              clear HB20
              clear HM18 HM19
              have HSZD := Lib.hid (show szV (mkdV sI sF x) ≤ 100000 from Nat.le_trans (mkdV_sz _ _ _) HNX.out)
              have HSHD := Lib.hid (sh_mkd HSX.out sI sF)
              go_upto_region 22 with (fail)
              obtain ⟨a00, a01, a02, a03, a04, a05, a06, a07⟩ := (PN.out.read (List.mem_of_getElem? (i := 0) rfl)).1.all0
              go_step
              refine wpList_plain rfl (fun K hK => ?_)
              go_step
              refine hK _ _ ?_
              clear hK K
              refine wpList_plain rfl (fun K hK => ?_)
              go_step
              refine hK _ _ ?_
              clear hK K
              clear a00 a01 a02 a03 a04 a05 a06 a07
              refine wpList_plain rfl (fun K hK => ?_)
              go_step
              refine (Leaf_any tv (mkdV sI sF x) _ _ (HTY.out _ BT.out) (PN.out.read (List.mem_of_getElem? (i := 0) rfl)).2.1 (by have := HSZD.out; omega) HSHD.out (HTB.out _ BT.out)).mono ?_
              rintro _ W22a ⟨csda, bd, rfl, hown, hnod, hlow, hc⟩
              have hIO := hown.isV (fun z hz => (hlow z hz).2)
              obtain ⟨dak, dab, dai, daf, dat, daty, dap, dan, dac, daq, dam, dad, rfl⟩ := rk_shape hIO
              refine hK _ _ ?_
              clear hK K hIO
              have HST := Lib.hid (And.intro (PN.out.snoc BT.out.size (G := W22a.heap.size) rfl hown hnod hlow hc) ((Pens.nil C20.heap.size C20).snoc (Nat.le_refl _) (G := W22a.heap.size) rfl hown hnod hlow hc))
              clear hown hnod hlow hc
              refine wpList_plain rfl (fun K hK => ?_)
              go_step
              refine hK _ _ ?_
              clear hK K
              refine wpList_plain rfl (fun K hK => ?_)
              go_step
              refine hK _ _ ?_
              clear hK K
              refine wpList_plain rfl (fun K hK => ?_)
              go_step
              refine hK _ _ ?_
              clear hK K
              refine wpList_plain rfl (fun K hK => ?_)
              go_step
              have hTn := heap_new W22a (.cells cells0 34)
              obtain ⟨wy, hW⟩ : ∃ y, W22a.alloc (.cells cells0 34) = y := ⟨_, rfl⟩
              have e : W22a.alloc (.cells cells0 34) = wy := hW
              rw [hW] at hTn HST
              try rw [e]
              clear e hW
              have HTN := Lib.hid hTn
              refine hK _ _ ?_
              clear hK K hTn
              obtain ⟨Gd, hG⟩ : ∃ a, a = W22a.heap.size := ⟨_, rfl⟩
              rw [← hG] at HTN HST ⊢
              clear hG
              refine wpList_plain rfl (fun K hK => ?_)
              refine wp_store_row (P := Tryz.prog) 34 (.tmp 22) (.tmp 181) rfl Gd (vcells dak dab dai daf dat daty dap dan dac daq dam dad) rfl rfl 34 _ HTN.out (by kernel_rfl) rfl (vcells_one ..) ?_
              obtain ⟨W22, hW⟩ : ∃ y, wy.setRow Gd (vcells dak dab dai daf dat daty dap dan dac daq dam dad) = y := ⟨_, rfl⟩
              rw [hW] at HST ⊢
              refine hK _ _ ?_
              clear hK K hW HTN
              have PN := Lib.hid (show Pens w4.heap.size W22 [⟨g8, (mkdV sI sF x), (vcells rk rb ri rf rt rty rp rn rc rq rm rd), bM⟩, ⟨Ga, (leafV x), (vcells aak aab aai aaf aat aaty aap aan aac aaq aam aad), ba⟩, ⟨Ge, (leafV y), (vcells eak eab eai eaf eat eaty eap ean eac eaq eam ead), be⟩, ⟨Go_, (leafV x), (vcells oak oab oai oaf oat oaty oap oan oac oaq oam oad), bo⟩, ⟨g16, (bareV x), (vcells zk zb zi zf zt zty zp zn zc zq zm zd), bu⟩, ⟨g17, (bareV y), (vcells jk jb ji jf jt jty jp jn jc jq jm jd), bw⟩, ⟨Gd, (leafV (mkdV sI sF x)), (vcells dak dab dai daf dat daty dap dan dac daq dam dad), bd⟩] from HST.out.1.1)
              have BT := Lib.hid (BT.out.trans (HST.out.1.2.mono BT.out.size))
              have PND := Lib.hid HST.out.2.1
              have BM := Lib.hid (BM.out.trans (HST.out.1.2.mono BM.out.size))
              clear HST
              refine wpList_plain rfl (fun K hK => ?_)
              go_step
              refine hK _ _ ?_
              clear hK K
              obtain ⟨a00, a01, a02, a03, a04, a05, a06, a07⟩ := (PN.out.read (List.mem_of_getElem? (i := 0) rfl)).1.all0
              have KS := Lib.hid (refSound_any (mkdV sI sF x) _ _ (PN.out.read (List.mem_of_getElem? (i := 0) rfl)).2.1 (by have := HSZD.out; omega) HSHD.out)
              have tkl := trivial
              go_upto_region 24 with (go_at_call 18; clear tkl; refine KS.out.mono ?_; rintro _ W23 ⟨sv, rfl, hR, hb⟩; have HB23 := Lib.hid hb; clear hb hR)
              clear a00 a01 a02 a03 a04 a05 a06 a07 KS
              obtain ⟨V23, rfl⟩ : ∃ z, z = W23 := ⟨W23, rfl⟩
              have BT := Lib.hid (BT.out.trans (HB23.out.mono BT.out.size))
              have PN := Lib.hid (PN.out.on HB23.out)
              have PND := Lib.hid (PND.out.on HB23.out)
              have BM := Lib.hid (BM.out.trans (HB23.out.mono BM.out.size))
              clear HB23
              go_upto_region 24 with (fail)
              obtain ⟨E22, hE⟩ : ∃ z, leafE (mkdV sI sF x) = z := ⟨_, rfl⟩
              obtain ⟨S22, hS⟩ : ∃ z, (sndV (mkdV sI sF x)).2 = z := ⟨_, rfl⟩
              rw [hE, hS]
              have HES := Lib.hid (show 0 ≤ rk → rk < 7 → (E22 = 0 ↔ S22 = 0) from fun h0 h7 => by rw [← hE, ← hS]; exact leaf_sndX (PN.out.read (List.mem_of_getElem? (i := 0) rfl)).2.1 h0 h7)
              have HLB := Lib.hid (show E22 = 0 → 0 ≤ rk → rk < 7 → leafV (mkdV sI sF x) = bareV (mkdV sI sF x) from fun h h0 h7 => leaf_bareX (PN.out.read (List.mem_of_getElem? (i := 0) rfl)).2.1 (hE.trans h) h0 h7)
              clear hE hS
              go_cut [213] from 284 (fun s wx => s = .bool false ∧ Hid (Below V23.heap.size V23 wx))
              case first =>
                obtain ⟨a00, a01, a02, a03, a04, a05, a06, a07⟩ := (PN.out.read (List.mem_of_getElem? (i := 0) rfl)).1.all0
                obtain ⟨b00, b01, b02, b03, b04, b05, b06, b07⟩ := (PN.out.read (List.mem_of_getElem? (i := 6) rfl)).1.all0
                have hl0 : g8 < V23.heap.size := (PN.out.read (List.mem_of_getElem? (i := 0) rfl)).2.2
                have hl6 : Gd < V23.heap.size := (PN.out.read (List.mem_of_getElem? (i := 6) rfl)).2.2
                have HPX := Lib.hid (show ∀ w', Below V23.heap.size V23 w' → IsV w'.heap.size w' (mkdV sI sF x) (vcells rk rb ri rf rt rty rp rn rc rq rm rd) from fun w' h => ((PN.out.on h).read (List.mem_of_getElem? (i := 0) rfl)).2.1)
                have HPD := Lib.hid (show ∀ w', Below V23.heap.size V23 w' → IsV w'.heap.size w' (leafV (mkdV sI sF x)) (vcells dak dab dai daf dat daty dap dan dac daq dam dad) from fun w' h => ((PN.out.on h).read (List.mem_of_getElem? (i := 6) rfl)).2.1)
                have HOKD := Lib.hid (ok_leaf (ok_of_sh HSHD.out))
                refine wp_region_plan_below 21 [(0, [0, 1, 2, 3, 4, 5, 6, 7, 8, 9, 10, 11, 12, 13, 14, 15, 16, 17, 18, 19]), (1, [20]), (2, [21, 22, 23, 24, 25])] (by kernel_rfl) (by kernel_rfl) (fun _ _ _ _ h => h) ?_
                simp only [wpSegs, pickOps, List.getElem?_toArray, List.getElem?_cons_zero, List.getElem?_cons_succ]
                have kc := cell_cls V23
                by_cases k0 : 0 ≤ rk
                · by_cases k7 : rk < 7
                  · by_cases e0 : E22 = 0
                    · have s0 := (HES.out k0 k7).1 e0
                      have HEQ := Lib.hid (HLB.out e0 k0 k7)
                      subst e0
                      subst s0
                      repeat (go_big_quiet_step (fail))
                      refine wpQuiet_nil ?_
                      clear kc hl0 hl6 a00 a01 a02 a03 a04 a05 a06 a07 b00 b01 b02 b03 b04 b05 b06 b07
                      refine wpListC_want (by kernel_rfl) (fun K hK => ?_)
                      go_step
                      refine (refBare_any _ (mkdV sI sF x) (Nat.le_refl _) _ _ (HPX.out _ (Below.drew (Below.refl _ _))) (by have := HSZD.out; omega)).mono ?_
                      rintro e w1 ⟨cs1, bs1, rfl, hown, hnd, hlow, hb⟩
                      have HB1 := Lib.hid ((Below.drew (Below.refl V23.heap.size V23)).trans hb)
                      refine hK _ _ (cls_of_below HB1.out) ?_
                      clear hK K
                      refine wpListC_nil ?_
                      have HWH := Lib.hid (Whole_same _ (leafV (mkdV sI sF x)) (Nat.le_refl _) HOKD.out _ cs1 w1 (HPD.out _ HB1.out) (HEQ.out ▸ hown.isV (fun z hz => (hlow z hz).2)))
                      clear hown hnd hlow hb
                      have tkw := trivial
                      go_wp2_with (go_at_call 14; clear tkw; refine HWH.out.mono ?_; rintro _ w2 ⟨rfl, hb2⟩; have HB2 := Lib.hid (HB1.out.trans (hb2.mono HB1.out.size)); clear hb2)
                      go_meet
                      exact ⟨rfl, HB2⟩
                    · have s0 : ¬ S22 = 0 := fun h => e0 ((HES.out k0 k7).2 h)
                      have e0' : (E22 == 0) = false := by simp [e0]
                      have s0' : (S22 == 0) = false := by simp [s0]
                      repeat (go_big_quiet_step (fail))
                      refine wpQuiet_nil ?_
                      clear kc hl0 hl6
                      refine wpListC_skip (by kernel_rfl) ?_
                      refine wpListC_nil ?_
                      go_wp2_with fail
                      go_meet
                      exact ⟨rfl, Lib.hid (Below.drew (Below.refl _ _))⟩
                  · repeat (go_big_quiet_step (fail))
                    refine wpQuiet_nil ?_
                    clear kc hl0 hl6
                    refine wpListC_skip (by kernel_rfl) ?_
                    refine wpListC_nil ?_
                    go_wp2_with fail
                    go_meet
                    exact ⟨rfl, Lib.hid (Below.drew (Below.refl _ _))⟩
                · repeat (go_big_quiet_step (fail))
                  refine wpQuiet_nil ?_
                  clear kc hl0 hl6
                  refine wpListC_skip (by kernel_rfl) ?_
                  refine wpListC_nil ?_
                  go_wp2_with fail
                  go_meet
                  exact ⟨rfl, Lib.hid (Below.drew (Below.refl _ _))⟩
              case rest =>
                obtain ⟨rfl, HB24⟩ := hcut
                obtain ⟨C24, rfl⟩ : ∃ z, z = wc := ⟨wc, rfl⟩
                have BT := Lib.hid (BT.out.trans (HB24.out.mono BT.out.size))
                have PN := Lib.hid (PN.out.on HB24.out)
                have PND := Lib.hid (PND.out.on HB24.out)
                have BM := Lib.hid (BM.out.trans (HB24.out.mono BM.out.size))
                clear HB24 HES HLB HSHD
                go_upto_region 26 with (fail)
                obtain ⟨iD, fD, lD, pD⟩ := rk_laid PN.out (List.mem_of_getElem? (i := 6) rfl)
                have LD := Lib.hid (show Laid C24 (leafV (mkdV sI sF x)) Gd 0 iD fD from lD)
                have PD := Lib.hid (show (blks iD ++ blks fD).Perm bd from pD)
                have HZD := Lib.hid (show szV (leafV (mkdV sI sF x)) ≤ 100000 from Nat.le_trans (leafV_sz _) HSZD.out)
                clear lD pD
                obtain ⟨iA, fA, lA, pA⟩ := rk_laid PN.out (List.mem_of_getElem? (i := 1) rfl)
                have LA := Lib.hid (show Laid C24 (leafV x) Ga 0 iA fA from lA)
                have PA := Lib.hid (show (blks iA ++ blks fA).Perm ba from pA)
                have HZA := Lib.hid (show szV (leafV x) ≤ 100000 from Nat.le_trans (leafV_sz _) HNX.out)
                clear lA pA
                obtain ⟨iZ, fZ, lZ, pZ⟩ := rk_laid PN.out (List.mem_of_getElem? (i := 3) rfl)
                have LZ := Lib.hid (show Laid C24 (leafV x) Go_ 0 iZ fZ from lZ)
                have PZ := Lib.hid (show (blks iZ ++ blks fZ).Perm bo from pZ)
                have HZZ := Lib.hid (show szV (leafV x) ≤ 100000 from Nat.le_trans (leafV_sz _) HNX.out)
                clear lZ pZ
                obtain ⟨iC, fC, lC, pC⟩ := rk_laid PN.out (List.mem_of_getElem? (i := 2) rfl)
                have LC := Lib.hid (show Laid C24 (leafV y) Ge 0 iC fC from lC)
                have PC := Lib.hid (show (blks iC ++ blks fC).Perm be from pC)
                have HZC := Lib.hid (show szV (leafV y) ≤ 100000 from Nat.le_trans (leafV_sz _) HNY.out)
                clear lC pC
                have HNDD := Lib.hid (show bd.Nodup ∧ (∀ b ∈ bd, C20.heap.size ≤ b ∧ b < C24.heap.size) ∧ C20.heap.size ≤ Gd from pens_one PND.out)
                have HSIX := Lib.hid (six_nd PN0.out HNDD.out.1 (fun b hb => by have := (HNDD.out.2.1 b hb).1; have := HS20.out; have := HSZ19.out; have := HSZ17.out; omega))
                have HWW := Lib.hid (show C15.heap.size ≤ V18.heap.size ∧ V18.heap.size ≤ C20.heap.size ∧ V19.heap.size ≤ C24.heap.size from ⟨HSZ17.out, by have := HS20.out; have := HSZ19.out; omega, BM.out.size⟩)
                have HL6 := Lib.hid (show ∀ b ∈ bx ++ bz ++ bd ++ ba ++ bo ++ be, (b < C15.heap.size ∨ V18.heap.size ≤ b) ∧ b < C24.heap.size from fun b hb => by
                  have h0 := HWW.out
                  have h9 := HSZ19.out
                  rcases HSIX.out.2 b hb with h1 | h1
                  · have := HNDD.out.2.1 b h1; omega
                  · omega)
                have ACC := Lib.hid (((((ACC.out.below BM.out (fun b hb => by have := (HND.out.2 b hb).2; have := HWW.out; have := HSZ19.out; omega)).add (Acc.one LD.out PD.out HZD.out)).add (Acc.one LA.out PA.out HZA.out)).add (Acc.one LZ.out PZ.out HZZ.out)).add (Acc.one LC.out PC.out HZC.out))
                have HR := Lib.hid (show Rl C24 s0 s1 ((iX ++ iY).map Ent.sl) ((fX ++ fY).map Ent.sl) from MI.out.rl.on BM.out)
                have HG := Lib.hid (Gr2.refl C24 s0 s1)
                have HLX := Lib.hid (show (iX ++ iY).length ≤ 200000 ∧ (fX ++ fY).length ≤ 200000 from ⟨ACX.out.lI, ACX.out.lF⟩)
                clear MI
                have HAD := Lib.hid (show ∀ b, b = Gd ∨ b ∈ blks iD ∨ b ∈ blks fD → Apart2 C24 s0 s1 b from fun b hb => (own_far HFAR.out (show (b < C15.heap.size ∨ V18.heap.size ≤ b) ∧ b < C24.heap.size from ⟨.inr (by rcases hb with rfl | hb; exact Nat.le_trans HWW.out.2.1 HNDD.out.2.2; exact Nat.le_trans HWW.out.2.1 (HNDD.out.2.1 b (PD.out.mem_iff.1 (List.mem_append.2 hb))).1), (PN.out.lt (List.mem_of_getElem? (i := 6) rfl) PD.out b hb).2⟩)))
                have HCLD := Lib.hid (show CellsAt C24 Gd 0 (vcells dak dab dai daf dat daty dap dan dac daq dam dad) from (PN.out.read (List.mem_of_getElem? (i := 6) rfl)).1)
                obtain ⟨a00, a01, a02, a03, a04, a05, a06, a07⟩ := (HCLD.out.kept ((HAD.out Gd (.inl rfl)).gr HG.out).2).all0
                have KL := Lib.hid (lists_step HR.out HG.out LD.out HCLD.out rfl HAD.out (by have := HLX.out; have := HZD.out; omega) (by have := HLX.out; have := HZD.out; omega))
                have tkl := trivial
                go_upto_region 27 with (go_at_call 16; clear tkl; refine KL.out.mono ?_; rintro _ W26 ⟨uD0, uD1, rfl, hR, hG⟩; have HR2 := Lib.hid hR; have HG2 := Lib.hid hG; clear hR hG)
                clear a00 a01 a02 a03 a04 a05 a06 a07 KL
                obtain ⟨V26, rfl⟩ : ∃ z, z = W26 := ⟨W26, rfl⟩
                have HLX := Lib.hid (show ((iX ++ iY) ++ iD).length ≤ 300000 ∧ ((fX ++ fY) ++ fD).length ≤ 300000 from by have h1 := HLX.out; have h2 := laid_len LD.out; have := HZD.out; simp only [List.length_append] at h1 ⊢; omega)
                have HR := HR2
                have HG := HG2
                clear HR2 HG2 LD PD HZD HCLD HAD
                have HAA := Lib.hid (show ∀ b, b = Ga ∨ b ∈ blks iA ∨ b ∈ blks fA → Apart2 C24 s0 s1 b from fun b hb => (own_far HFAR.out (show (b < C15.heap.size ∨ V18.heap.size ≤ b) ∧ b < C24.heap.size from ⟨.inl (PN0.out.lt (List.mem_of_getElem? (i := 2) rfl) PA.out b hb).2, (PN.out.lt (List.mem_of_getElem? (i := 1) rfl) PA.out b hb).2⟩)))
                have HCLA := Lib.hid (show CellsAt C24 Ga 0 (vcells aak aab aai aaf aat aaty aap aan aac aaq aam aad) from (PN.out.read (List.mem_of_getElem? (i := 1) rfl)).1)
                obtain ⟨a00, a01, a02, a03, a04, a05, a06, a07⟩ := (HCLA.out.kept ((HAA.out Ga (.inl rfl)).gr HG.out).2).all0
                have KL := Lib.hid (lists_step HR.out HG.out LA.out HCLA.out rfl HAA.out (by have := HLX.out; have := HZA.out; omega) (by have := HLX.out; have := HZA.out; omega))
                have tkl := trivial
                go_upto_region 28 with (go_at_call 16; clear tkl; refine KL.out.mono ?_; rintro _ W27 ⟨uA0, uA1, rfl, hR, hG⟩; have HR2 := Lib.hid hR; have HG2 := Lib.hid hG; clear hR hG)
                clear a00 a01 a02 a03 a04 a05 a06 a07 KL
                obtain ⟨V27, rfl⟩ : ∃ z, z = W27 := ⟨W27, rfl⟩
                have HLX := Lib.hid (show (((iX ++ iY) ++ iD) ++ iA).length ≤ 400000 ∧ (((fX ++ fY) ++ fD) ++ fA).length ≤ 400000 from by have h1 := HLX.out; have h2 := laid_len LA.out; have := HZA.out; simp only [List.length_append] at h1 ⊢; omega)
                have HR := HR2
                have HG := HG2
                clear HR2 HG2 LA PA HZA HCLA HAA
                have HAZ := Lib.hid (show ∀ b, b = Go_ ∨ b ∈ blks iZ ∨ b ∈ blks fZ → Apart2 C24 s0 s1 b from fun b hb => (own_far HFAR.out (show (b < C15.heap.size ∨ V18.heap.size ≤ b) ∧ b < C24.heap.size from ⟨.inl (PN0.out.lt (List.mem_of_getElem? (i := 4) rfl) PZ.out b hb).2, (PN.out.lt (List.mem_of_getElem? (i := 3) rfl) PZ.out b hb).2⟩)))
                have HCLZ := Lib.hid (show CellsAt C24 Go_ 0 (vcells oak oab oai oaf oat oaty oap oan oac oaq oam oad) from (PN.out.read (List.mem_of_getElem? (i := 3) rfl)).1)
                obtain ⟨a00, a01, a02, a03, a04, a05, a06, a07⟩ := (HCLZ.out.kept ((HAZ.out Go_ (.inl rfl)).gr HG.out).2).all0
                have KL := Lib.hid (lists_step HR.out HG.out LZ.out HCLZ.out rfl HAZ.out (by have := HLX.out; have := HZZ.out; omega) (by have := HLX.out; have := HZZ.out; omega))
                have tkl := trivial
                go_upto_region 29 with (go_at_call 16; clear tkl; refine KL.out.mono ?_; rintro _ W28 ⟨uZ0, uZ1, rfl, hR, hG⟩; have HR2 := Lib.hid hR; have HG2 := Lib.hid hG; clear hR hG)
                clear a00 a01 a02 a03 a04 a05 a06 a07 KL
                obtain ⟨V28, rfl⟩ : ∃ z, z = W28 := ⟨W28, rfl⟩
                have HLX := Lib.hid (show ((((iX ++ iY) ++ iD) ++ iA) ++ iZ).length ≤ 500000 ∧ ((((fX ++ fY) ++ fD) ++ fA) ++ fZ).length ≤ 500000 from by have h1 := HLX.out; have h2 := laid_len LZ.out; have := HZZ.out; simp only [List.length_append] at h1 ⊢; omega)
                have HR := HR2
                have HG := HG2
                clear HR2 HG2 LZ PZ HZZ HCLZ HAZ
                have HAC := Lib.hid (show ∀ b, b = Ge ∨ b ∈ blks iC ∨ b ∈ blks fC → Apart2 C24 s0 s1 b from fun b hb => (own_far HFAR.out (show (b < C15.heap.size ∨ V18.heap.size ≤ b) ∧ b < C24.heap.size from ⟨.inl (PN0.out.lt (List.mem_of_getElem? (i := 3) rfl) PC.out b hb).2, (PN.out.lt (List.mem_of_getElem? (i := 2) rfl) PC.out b hb).2⟩)))
                have HCLC := Lib.hid (show CellsAt C24 Ge 0 (vcells eak eab eai eaf eat eaty eap ean eac eaq eam ead) from (PN.out.read (List.mem_of_getElem? (i := 2) rfl)).1)
                obtain ⟨a00, a01, a02, a03, a04, a05, a06, a07⟩ := (HCLC.out.kept ((HAC.out Ge (.inl rfl)).gr HG.out).2).all0
                have KL := Lib.hid (lists_step HR.out HG.out LC.out HCLC.out rfl HAC.out (by have := HLX.out; have := HZC.out; omega) (by have := HLX.out; have := HZC.out; omega))
                have tkl := trivial
                go_upto_region 30 with (go_at_call 16; clear tkl; refine KL.out.mono ?_; rintro _ W29 ⟨uC0, uC1, rfl, hR, hG⟩; have HR2 := Lib.hid hR; have HG2 := Lib.hid hG; clear hR hG)
                clear a00 a01 a02 a03 a04 a05 a06 a07 KL
                obtain ⟨V29, rfl⟩ : ∃ z, z = W29 := ⟨W29, rfl⟩
                have HLX := Lib.hid (show (((((iX ++ iY) ++ iD) ++ iA) ++ iZ) ++ iC).length ≤ 600000 ∧ (((((fX ++ fY) ++ fD) ++ fA) ++ fZ) ++ fC).length ≤ 600000 from by have h1 := HLX.out; have h2 := laid_len LC.out; have := HZC.out; simp only [List.length_append] at h1 ⊢; omega)
                have HR := HR2
                have HG := HG2
                clear HR2 HG2 LC PC HZC HCLC HAC
                have hkp := ACC.out.keep (gr_keep HG.out HFAR.out HL6.out)
                have hmi := hkp.mkIn HR.out HSIX.out.1 (far2 HG.out HFAR.out HL6.out) (by decide)
                have hlo : ∀ b, b ∈ blks (((((iX ++ iY) ++ iD) ++ iA) ++ iZ) ++ iC) ∨ b ∈ blks (((((fX ++ fY) ++ fD) ++ fA) ++ fZ) ++ fC) → w4.heap.size ≤ b := fun b hb => by
                  rcases HSIX.out.2 b (ACC.out.mem hb) with h | h
                  · have := HNDD.out.2.1 b h; have := HWW.out; have := HSZB.out; omega
                  · exact h.1
                have hbt := BT.out.trans (HG.out.belowB BT.out.size (fun g hg => Nat.le_trans HSZB.out (HFAR.out g (.inl hg)).1) (fun g hg => Nat.le_trans HSZB.out (HFAR.out g (.inr hg)).1))
                clear hkp ACC HR HG HLX HSIX HL6 HNDD HWW HFAR HND PND PN PN0 HSZ17 HS20 HSZ19 BM BT RX RY HTY HTB HSZD HNX HNY HSX HSY HOX HOY ACX PX PY
                have hmi2 : MkIn V29 uC0 uC1 _ _ := hmi
                clear hmi2
                obtain ⟨EI, EF, hmi, hlo⟩ : ∃ EI EF : List Ent, MkIn V29 uC0 uC1 EI EF ∧ ∀ b, b ∈ blks EI ∨ b ∈ blks EF → w4.heap.size ≤ b := ⟨_, _, hmi, hlo⟩
                have MI := Lib.hid hmi
                have HLO := Lib.hid hlo
                have BT := Lib.hid hbt
                clear hmi hlo hbt
                have KM := Lib.hid MI.out.calls0
                go_step
                iterate 2
                  refine wpList_plain rfl (fun K hK => ?_)
                  go_step
                  refine hK _ _ ?_
                  clear hK K
                refine wpList_plain rfl (fun K hK => ?_)
                go_step
                refine KM.out.mono ?_
                rintro _ W30 ⟨rfl, hf, hm1, hm2⟩
                have HF := Lib.hid hf
                have HM1 := Lib.hid hm1
                have HM2 := Lib.hid hm2
                clear hf hm1 hm2 KM
                refine hK _ _ ?_
                clear hK K
                obtain ⟨V30, rfl⟩ : ∃ z, z = W30 := ⟨W30, rfl⟩
                have BT := Lib.hid (BT.out.trans (HF.out.belowB HLO.out))
                have MI := Lib.hid (MI.out.marked HF.out)
                clear HF
                obtain ⟨p0, c0, p1, c1, rfl, rfl, r0, r1⟩ := MI.out.rows
                have R0 := Lib.hid r0
                have R1 := Lib.hid r1
                have HK := Lib.hid (Keep.refl (limOf EI EF) V30)
                have HLI := Lib.hid MI.out.lI
                have HLF := Lib.hid MI.out.lF
                clear r0 r1
                go_wp2_with fail
                go_loopw [26] (fun ii wr => ∃ K : Nat, K ≤ EI.length ∧ ii = .int .i64 K ∧ Hid (Keep (limOf EI EF) V30 wr)) (fun ii _ => EI.length - (intOf ii).toNat)
                case atStart => exact ⟨0, by omega, rfl, HK⟩
                case round =>
                  obtain ⟨K, hK, rfl, hk⟩ := hrel
                  have hll := HLI.out
                  have hlf := HLF.out
                  by_cases hlt : K < EI.length
                  · obtain ⟨hb, ho, pp, nn, cc, he⟩ := rk_ent hlt
                    obtain ⟨g, rfl, hrow⟩ := R0.out _ hk.out _ _ he
                    have hlo := MI.out.looseI (List.mem_of_getElem? he)
                    have hn := hlo.1
                    have HLZ := Lib.hid hlo.2
                    have hrow' : wr.cell? ⟨g, K, none⟩ = some (.slice pp nn cc) := hrow
                    clear he hlo hrow
                    go_wp2_with fail
                    clear hrow'
                    go_loopw [27, 28] (fun lv ii wr2 => ∃ j : Nat, j ≤ 20 ∧ ii = .int .i64 j ∧ Hid (Keep (limOf EI EF) V30 wr2) ∧ Hid (Loose (limOf EI EF) V30.heap.size wr2 34 8 lv (nn + j))) (fun _ ii _ => 20 - (intOf ii).toNat)
                    case atStart => exact ⟨0, by omega, rfl, hk, Lib.hid (HLZ.out _ hk.out)⟩
                    case round =>
                      obtain ⟨j, hj, rfl, hk2, hlo⟩ := hrel
                      by_cases hlt2 : j < 20
                      · go_upto_region 38 with (fail)
                        go_step
                        iterate 3
                          refine wpList_plain rfl (fun K' hK' => ?_)
                          go_step
                          refine hK' _ _ ?_
                          clear hK' K'
                        have hgb := Below.alloc (Below.refl wr.heap.size wr) (Nat.le_refl _) (.cells (List.toArray (vcells 0 false 0 0 ⟨#[]⟩ ⟨#[]⟩ none 0 0 none 0 0).toList) 34)
                        have hnew := cellsAt_alloc wr (List.toArray (vcells 0 false 0 0 ⟨#[]⟩ ⟨#[]⟩ none 0 0 none 0 0).toList) 34 (0, 0)
                        refine wpList_plain rfl (fun K' hK' => ?_)
                        refine wp_append_l (P := Tryz.prog) _ (hk2.out.grow hgb) (.tmp 259) (.tmp 261) 31 rfl 34 (.agg (vcells 0 false 0 0 ⟨#[]⟩ ⟨#[]⟩ none 0 0 none 0 0)) 8 112 Tryz.underlying31 (by kernel_rfl) rfl (by decide) _ (nn + j) rfl (hlo.out.grow hgb) ⟨wr.heap.size, 0, none⟩ 1 1 (vcells 0 false 0 0 ⟨#[]⟩ ⟨#[]⟩ none 0 0 none 0 0).toList rfl (by decide) rfl ?c1 ?c2 ?c3 ?c4 ?_
                        case c1 =>
                          intro m u hu
                          rw [addr_add]
                          exact hnew m u (by simpa using hu)
                        case c2 =>
                          intro u hu
                          simp [vcells] at hu
                          rcases hu with rfl | rfl | rfl | rfl | rfl | rfl | rfl | rfl <;> rfl
                        case c3 => unfold maxLen; omega
                        case c4 => omega
                        intro v' w' hlo' hk'
                        refine hK' _ _ ?_
                        have HL' := Lib.hid hlo'
                        have HK' := Lib.hid hk'
                        clear hK' K' hgb hnew hlo' hk' hlo hk2
                        go_wp2_with fail
                        go_roundw
                        case rel => exact ⟨j + 1, by omega, by go_num, HK', HL'⟩
                        case measure => simp [intOf]; omega
                      · obtain rfl : j = 20 := by omega
                        clear hlo hlt2 hj
                        go_wp2_with fail
                        go_roundw
                        case rel => exact ⟨K + 1, by omega, by go_num, hk2⟩
                        case measure => simp [intOf]; omega
                  · obtain rfl : K = EI.length := by omega
                    have HK := hk
                    clear hk hlt hK hll hlf
                    go_wp2_with fail
                    go_loopw [29] (fun ii wr => ∃ K : Nat, K ≤ EF.length ∧ ii = .int .i64 K ∧ Hid (Keep (limOf EI EF) V30 wr)) (fun ii _ => EF.length - (intOf ii).toNat)
                    case atStart => exact ⟨0, by omega, rfl, HK⟩
                    case round =>
                      obtain ⟨K, hK, rfl, hk⟩ := hrel
                      have hll := HLI.out
                      have hlf := HLF.out
                      by_cases hlt : K < EF.length
                      · obtain ⟨hb, ho, pp, nn, cc, he⟩ := rk_ent hlt
                        obtain ⟨g, rfl, hrow⟩ := R1.out _ hk.out _ _ he
                        have hlo := MI.out.looseF (List.mem_of_getElem? he)
                        have hn := hlo.1
                        have HLZ := Lib.hid hlo.2
                        have hrow' : wr.cell? ⟨g, K, none⟩ = some (.slice pp nn cc) := hrow
                        clear he hlo hrow
                        go_wp2_with fail
                        clear hrow'
                        go_loopw [30, 31] (fun lv ii wr2 => ∃ j : Nat, j ≤ 20 ∧ ii = .int .i64 j ∧ Hid (Keep (limOf EI EF) V30 wr2) ∧ Hid (Loose (limOf EI EF) V30.heap.size wr2 58 9 lv (nn + j))) (fun _ ii _ => 20 - (intOf ii).toNat)
                        case atStart => exact ⟨0, by omega, rfl, hk, Lib.hid (HLZ.out _ hk.out)⟩
                        case round =>
                          obtain ⟨j, hj, rfl, hk2, hlo⟩ := hrel
                          by_cases hlt2 : j < 20
                          · go_upto_region 46 with (fail)
                            go_step
                            iterate 3
                              refine wpList_plain rfl (fun K' hK' => ?_)
                              go_step
                              refine hK' _ _ ?_
                              clear hK' K'
                            have hgb := Below.alloc (Below.refl wr.heap.size wr) (Nat.le_refl _) (.cells (List.toArray (#[Value.string ⟨#[]⟩] ++ vcells 0 false 0 0 ⟨#[]⟩ ⟨#[]⟩ none 0 0 none 0 0).toList) 58)
                            have hnew := cellsAt_alloc wr (List.toArray (#[Value.string ⟨#[]⟩] ++ vcells 0 false 0 0 ⟨#[]⟩ ⟨#[]⟩ none 0 0 none 0 0).toList) 58 (0, 0)
                            refine wpList_plain rfl (fun K' hK' => ?_)
                            refine wp_append_l (P := Tryz.prog) _ (hk2.out.grow hgb) (.tmp 277) (.tmp 279) 32 rfl 58 (.agg (#[Value.string ⟨#[]⟩] ++ vcells 0 false 0 0 ⟨#[]⟩ ⟨#[]⟩ none 0 0 none 0 0)) 9 128 Tryz.underlying32 (by kernel_rfl) rfl (by decide) _ (nn + j) rfl (hlo.out.grow hgb) ⟨wr.heap.size, 0, none⟩ 1 1 (#[Value.string ⟨#[]⟩] ++ vcells 0 false 0 0 ⟨#[]⟩ ⟨#[]⟩ none 0 0 none 0 0).toList rfl (by decide) rfl ?c1 ?c2 ?c3 ?c4 ?_
                            case c1 =>
                              intro m u hu
                              rw [addr_add]
                              exact hnew m u (by simpa using hu)
                            case c2 =>
                              intro u hu
                              simp [vcells] at hu
                              rcases hu with rfl | rfl | rfl | rfl | rfl | rfl | rfl | rfl | rfl <;> rfl
                            case c3 => unfold maxLen; omega
                            case c4 => omega
                            intro v' w' hlo' hk'
                            refine hK' _ _ ?_
                            have HL' := Lib.hid hlo'
                            have HK' := Lib.hid hk'
                            clear hK' K' hgb hnew hlo' hk' hlo hk2
                            go_wp2_with fail
                            go_roundw
                            case rel => exact ⟨j + 1, by omega, by go_num, HK', HL'⟩
                            case measure => simp [intOf]; omega
                          · obtain rfl : j = 20 := by omega
                            clear hlo hlt2 hj
                            go_wp2_with fail
                            go_roundw
                            case rel => exact ⟨K + 1, by omega, by go_num, hk2⟩
                            case measure => simp [intOf]; omega
                      · obtain rfl : K = EF.length := by omega
                        have HK := hk
                        clear hk hlt hK hll hlf
                        have HMM := Lib.hid (MI.out.marks HK.out HM1.out HM2.out)
                        have hm := MI.out.keep HK.out
                        have KM := Lib.hid (hm.calls true (fun _ => HMM.out))
                        clear hm
                        have BT := Lib.hid (BT.out.trans (HK.out.belowB BT.out.size (fun b m hb => HLO.out b (limOf_some hb))))
                        go_upto_region 47 with (fail)
                        go_step
                        iterate 2
                          refine wpList_plain rfl (fun K' hK' => ?_)
                          go_step
                          refine hK' _ _ ?_
                          clear hK' K'
                        refine wpList_plain rfl (fun K' hK' => ?_)
                        go_step
                        refine KM.out.mono ?_
                        rintro _ W47 ⟨rfl, hf, hm1, hm2⟩
                        have BT := Lib.hid (BT.out.trans (hf.belowB HLO.out))
                        clear hf hm1 hm2 KM
                        refine hK' _ _ ?_
                        clear hK' K'
                        have HEND := Lib.hid (HW4.out.trans (BT.out.mono HW4.out.size))
                        go_wp2_with fail
                        go_ret
                        exact ⟨rfl, HEND.out⟩
end Go.Proofs.YtldjbgklmeigmaaGreatDoor
