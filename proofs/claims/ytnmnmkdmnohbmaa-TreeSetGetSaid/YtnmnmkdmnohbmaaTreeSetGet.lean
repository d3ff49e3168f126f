/- TreeSetGet: the walk: the statement answers true of any two values and any two paths. Conditions: none. -/
import Derived.Test.YtnmnmkdmnohbmaaTreeEqual
import Derived.Test.YtnmnmkdmnohbmaaSetLaws
import Derived.Test.YtnmnmkdmnohbmaaSet
namespace Go.Proofs.Ytnmnmkdmnohbmaa
open Go.RowKit
attribute [local go_sem] run_store_float

/-- A block that holds a value. -/
def Box (w : World) (g : Nat) (v : V) (cs : Array Value) : Prop := g < w.heap.size ∧ CellsAt w g 0 cs ∧ IsV w.heap.size w v cs

theorem Box.on {w w' : World} {g : Nat} {v : V} {cs : Array Value} (h : Box w g v cs) (hb : Below w.heap.size w w') : Box w' g v cs :=
  ⟨Nat.lt_of_lt_of_le h.1 hb.size, h.2.1.below hb h.1, h.2.2.on hb⟩

/-- A value's cells put into a new block. -/
theorem box_stored {w : World} {v : V} {cs : Array Value} {G : Nat} (hG : G = w.heap.size) (h : IsV w.heap.size w v cs) :
    Below w.heap.size w ((w.alloc (.cells cells0 60)).setRow G cs) ∧ Box ((w.alloc (.cells cells0 60)).setRow G cs) G v cs := by
  subst hG
  have hb : Below w.heap.size w ((w.alloc (.cells cells0 60)).setRow w.heap.size cs) := below_setRow ((Below.refl _ _).alloc (Nat.le_refl _) _) (Nat.le_refl _) _
  exact ⟨hb, by rw [setRow_size]; simp, block_of_cells (setRow_heap _ _ _ _ _ _ (heap_new w (.cells cells0 60))), h.on hb⟩

theorem eq_self_any (v : V) {cs cs' : Array Value} {w : World} (h : IsV w.heap.size w v cs) (h' : IsV w.heap.size w v cs') : Calls Try.prog 42 #[.agg cs, .agg cs'] w (RetB (.bool true) w) := by
  have := Equal_any _ v (Nat.le_refl _) v _ _ w h h'
  rwa [eqV_refl] at this

set_option maxRecDepth 100000 in
set_option maxHeartbeats 4000000 in
theorem TreeSetGet_walk (x : V) (path other : List St) (y : V) (cs cs' : Array Value) (pp qq : Option Addr) (cap cap2 : Nat) (w : World) (hv : IsV w.heap.size w x cs) (hv' : IsV w.heap.size w y cs') (hp : StepsAt w.heap.size w pp path) (hq : StepsAt w.heap.size w qq other) (lc : path.length ≤ cap) (lm : cap ≤ maxLen) (lc2 : other.length ≤ cap2) (lm2 : cap2 ≤ maxLen) :
    Calls Try.prog 11 #[.agg cs, .slice pp path.length cap, .slice qq other.length cap2, .agg cs'] w (RetB (.bool true) w) := by
  have LP := Lib.hid (Nat.le_trans lc lm)
  have LQ := Lib.hid (Nat.le_trans lc2 lm2)
  have LC := Lib.hid lc
  have LM := Lib.hid lm
  have LC2 := Lib.hid lc2
  have LM2 := Lib.hid lm2
  have HV := Lib.hid hv
  have HV' := Lib.hid hv'
  have HP := Lib.hid hp
  have HQ := Lib.hid hq
  clear hp hq lc lm lc2 lm2
  obtain ⟨k, b, i, f, t, ty, p, n, c, q, m, d, rfl⟩ := isV_shape hv
  obtain ⟨k', b', i', f', t', ty', p', n', c', q', m', d', rfl⟩ := isV_shape hv'
  clear hv hv'
  obtain ⟨wa, e, hwa, hs0, hs1, hal, hal'⟩ := two_allocs w (vcells k b i f t ty p n c q m d) (vcells k' b' i' f' t' ty' p' n' c' q' m' d') 60 60
  have HWA := Lib.hid hwa
  go_enter Try.func11, Try.ntmps11
  have tk := trivial
  go_wp2_with (go_at_call 40; clear tk; refine (known_any _).mono ?_; rintro _ w1 ⟨rfl, hb1⟩; obtain ⟨c0, c1, c2, c3, c4, c5, c6, c7⟩ := (hal.below hb1 hs0).all0)
  clear e hwa
  have tk := trivial
  by_cases hz1 : 100000 < sizeR x 100000
  · have dz : decide (100000 < sizeR x 100000) = true := by simp [hz1]
    go_wp2_with (go_at_call 27; clear tk; refine (Size_any _ x (Nat.le_refl _) _ _ 100000 (HV.out.on (HWA.out.trans (hb1.mono HWA.out.size))) (by decide) (by decide)).mono ?_; rintro _ w2 ⟨rfl, hb2⟩)
    go_ret
    exact ⟨rfl, (HWA.out.trans (hb1.mono HWA.out.size)).trans (hb2.mono (Nat.le_trans HWA.out.size hb1.size))⟩
  · have hsx : szV x ≤ 100000 := by have := sizeR_eq x 100000 (by omega); omega
    have dz : decide (100000 < sizeR x 100000) = false := by simp; omega
    go_wp2_with (go_at_call 27; clear tk; refine (Size_any _ x (Nat.le_refl _) _ _ 100000 (HV.out.on (HWA.out.trans (hb1.mono HWA.out.size))) (by decide) (by decide)).mono ?_; rintro _ w2 ⟨rfl, hb2⟩; replace hb2 := hb1.trans (hb2.mono hb1.size); obtain ⟨d0, d1, d2, d3, d4, d5, d6, d7⟩ := (hal'.below hb2 hs1).all0)
    clear hz1
    have tk := trivial
    by_cases hz2 : 100000 < sizeR y 100000
    · have dz2 : decide (100000 < sizeR y 100000) = true := by simp [hz2]
      go_wp2_with (go_at_call 27; clear tk; refine (Size_any _ y (Nat.le_refl _) _ _ 100000 (HV'.out.on (HWA.out.trans (hb2.mono HWA.out.size))) (by decide) (by decide)).mono ?_; rintro _ w3 ⟨rfl, hb3⟩)
      go_ret
      exact ⟨rfl, (HWA.out.trans (hb2.mono HWA.out.size)).trans (hb3.mono (Nat.le_trans HWA.out.size hb2.size))⟩
    · have hsy : szV y ≤ 100000 := by have := sizeR_eq y 100000 (by omega); omega
      have dz2 : decide (100000 < sizeR y 100000) = false := by simp; omega
      go_upto_region 5 with (go_at_call 27; clear tk; refine (Size_any _ y (Nat.le_refl _) _ _ 100000 (HV'.out.on (HWA.out.trans (hb2.mono HWA.out.size))) (by decide) (by decide)).mono ?_; rintro _ w3 ⟨rfl, hb3⟩; replace hb3 := hb2.trans (hb3.mono hb2.size))
      clear hz2 c0 c1 c2 c3 c4 c5 c6 c7 d0 d1 d2 d3 d4 d5 d6 d7 hb1 hb2
      have hT3 := HWA.out.trans (hb3.mono HWA.out.size)
      have HX3 := Lib.hid (show Box w3 w.heap.size x (vcells k b i f t ty p n c q m d) from ⟨Nat.lt_of_lt_of_le hs0 hb3.size, hal.below hb3 hs0, HV.out.on hT3⟩)
      have HY3 := Lib.hid (show Box w3 (w.heap.size + 1) y (vcells k' b' i' f' t' ty' p' n' c' q' m' d') from ⟨Nat.lt_of_lt_of_le hs1 hb3.size, hal'.below hb3 hs1, HV'.out.on hT3⟩)
      clear hal hal' hb3 hs0 hs1 HWA HV HV'
      obtain ⟨o, ho⟩ : ∃ o, o = (getV x path).getD V0 := ⟨_, rfl⟩
      obtain ⟨ok, hok⟩ : ∃ ok, ok = (getV x path).isSome := ⟨_, rfl⟩
      obtain ⟨z, hz⟩ : ∃ z, z = (setV x path y).getD V0 := ⟨_, rfl⟩
      have hok2 : (setV x path y).isSome = ok := by rw [set_isSome, hok]
      obtain ⟨a0, a1, a2, a3, a4, a5, a6, a7⟩ := HX3.out.2.1.all0
      have hP3 := Lib.hid (StepsAt.on HP.out hT3)
      have hQ3 := Lib.hid (StepsAt.on HQ.out hT3)
      go_step
      refine wpList_plain rfl (fun K hK => ?_)
      go_step
      refine hK _ _ ?_
      clear hK K
      refine wpList_plain rfl (fun K hK => ?_)
      go_step
      refine hK _ _ ?_
      clear hK K
      refine wpList_plain rfl (fun K hK => ?_)
      go_step
      refine (Get_any x path _ pp cap _ HX3.out.2.2 hP3.out LP.out (by omega)).mono ?_
      rintro e w3a ⟨csO, bsO, rfl, hown, -, hlow, hc⟩
      rw [← ho] at hown
      rw [← hok]
      have hIO := hown.isV (fun z hz => (hlow z hz).2)
      have HX3a := Lib.hid (HX3.out.on hc)
      have HY3a := Lib.hid (HY3.out.on hc)
      have hT3a := hT3.trans (hc.mono hT3.size)
      obtain ⟨kO, bO, iO, fO, tO, tyO, pO, nO, cO, qO, mO, dO, rfl⟩ := isV_shape hIO
      clear hown hlow hc a0 a1 a2 a3 a4 a5 a6 a7 HX3 HY3 hP3 hQ3 hT3
      have HIO := Lib.hid hIO
      clear hIO
      refine hK _ _ ?_
      clear hK K
      refine wpList_plain rfl (fun K hK => ?_)
      go_step
      refine hK _ _ ?_
      clear hK K
      refine wpList_plain rfl (fun K hK => ?_)
      go_step
      refine hK _ _ ?_
      clear hK K
      refine wpList_plain rfl (fun K hK => ?_)
      go_step
      refine hK _ _ ?_
      clear hK K
      refine wpList_plain rfl (fun K hK => ?_)
      go_step
      have hTn := heap_new w3a (.cells cells0 60)
      obtain ⟨wy, hW⟩ : ∃ y, w3a.alloc (.cells cells0 60) = y := ⟨_, rfl⟩
      have e : w3a.alloc (.cells cells0 60) = wy := hW
      rw [hW] at hTn
      rw [e]
      clear e
      refine hK _ _ ?_
      clear hK K
      obtain ⟨TO, hTq⟩ : ∃ a, a = w3a.heap.size := ⟨_, rfl⟩
      rw [← hTq] at hTn ⊢
      refine wpList_plain rfl (fun K hK => ?_)
      refine wp_store_row (P := Try.prog) 60 (.tmp 9) (.tmp 39) rfl TO (vcells kO bO iO fO tO tyO pO nO cO qO mO dO) rfl rfl 60 _ hTn (by kernel_rfl) rfl (vcells_one ..) ?_
      have hst := box_stored hTq HIO.out
      rw [hW] at hst
      clear hTn hW
      generalize wy.setRow TO (vcells kO bO iO fO tO tyO pO nO cO qO mO dO) = w5 at *
      refine hK _ _ ?_
      clear hK K
      have HO5 := Lib.hid hst.2
      have HX5 := Lib.hid (HX3a.out.on hst.1)
      have HY5 := Lib.hid (HY3a.out.on hst.1)
      have hT5 := hT3a.trans (hst.1.mono hT3a.size)
      clear hst HIO hTq hT3a HX3a HY3a
      refine wpList_plain rfl (fun K hK => ?_)
      go_step
      refine hK _ _ ?_
      clear hK K
      go_upto_region 6 with (fail)
      obtain ⟨a0, a1, a2, a3, a4, a5, a6, a7⟩ := HX5.out.2.1.all0
      obtain ⟨b0, b1, b2, b3, b4, b5, b6, b7⟩ := HY5.out.2.1.all0
      have hP5 := Lib.hid (StepsAt.on HP.out hT5)
      have hQ5 := Lib.hid (StepsAt.on HQ.out hT5)
      go_step
      refine wpList_plain rfl (fun K hK => ?_)
      go_step
      refine hK _ _ ?_
      clear hK K
      refine wpList_plain rfl (fun K hK => ?_)
      go_step
      refine hK _ _ ?_
      clear hK K
      refine wpList_plain rfl (fun K hK => ?_)
      go_step
      refine hK _ _ ?_
      clear hK K
      refine wpList_plain rfl (fun K hK => ?_)
      go_step
      refine (Set_any x path y _ _ pp cap _ HX5.out.2.2 HY5.out.2.2 hP5.out LP.out (by omega) (by omega)).mono ?_
      rintro e w5a ⟨csZ, bsZ, rfl, hown, -, hlow, hc⟩
      rw [← hz] at hown
      rw [hok2]
      have hIZ := hown.isV (fun z hz => (hlow z hz).2)
      have HX5a := Lib.hid (HX5.out.on hc)
      have HY5a := Lib.hid (HY5.out.on hc)
      have HO5a := Lib.hid (HO5.out.on hc)
      have hT5a := hT5.trans (hc.mono hT5.size)
      obtain ⟨kZ, bZ, iZ, fZ, tZ, tyZ, pZ, nZ, cZ, qZ, mZ, dZ, rfl⟩ := isV_shape hIZ
      clear hown hlow hc a0 a1 a2 a3 a4 a5 a6 a7 b0 b1 b2 b3 b4 b5 b6 b7 HX5 HY5 HO5 hP5 hQ5 hT5
      have HIZ := Lib.hid hIZ
      clear hIZ
      refine hK _ _ ?_
      clear hK K
      refine wpList_plain rfl (fun K hK => ?_)
      go_step
      refine hK _ _ ?_
      clear hK K
      refine wpList_plain rfl (fun K hK => ?_)
      go_step
      refine hK _ _ ?_
      clear hK K
      refine wpList_plain rfl (fun K hK => ?_)
      go_step
      refine hK _ _ ?_
      clear hK K
      refine wpList_plain rfl (fun K hK => ?_)
      go_step
      have hTn := heap_new w5a (.cells cells0 60)
      obtain ⟨wy, hW⟩ : ∃ y, w5a.alloc (.cells cells0 60) = y := ⟨_, rfl⟩
      have e : w5a.alloc (.cells cells0 60) = wy := hW
      rw [hW] at hTn
      rw [e]
      clear e
      refine hK _ _ ?_
      clear hK K
      obtain ⟨TZ, hTq⟩ : ∃ a, a = w5a.heap.size := ⟨_, rfl⟩
      rw [← hTq] at hTn ⊢
      refine wpList_plain rfl (fun K hK => ?_)
      refine wp_store_row (P := Try.prog) 60 (.tmp 11) (.tmp 46) rfl TZ (vcells kZ bZ iZ fZ tZ tyZ pZ nZ cZ qZ mZ dZ) rfl rfl 60 _ hTn (by kernel_rfl) rfl (vcells_one ..) ?_
      have hst := box_stored hTq HIZ.out
      rw [hW] at hst
      clear hTn hW
      generalize wy.setRow TZ (vcells kZ bZ iZ fZ tZ tyZ pZ nZ cZ qZ mZ dZ) = w6 at *
      refine hK _ _ ?_
      clear hK K
      have HZ6 := Lib.hid hst.2
      have HX6 := Lib.hid (HX5a.out.on hst.1)
      have HY6 := Lib.hid (HY5a.out.on hst.1)
      have HO6 := Lib.hid (HO5a.out.on hst.1)
      have hT6 := hT5a.trans (hst.1.mono hT5a.size)
      clear hst HIZ hTq hT5a HX5a HY5a HO5a
      refine wpList_plain rfl (fun K hK => ?_)
      go_step
      refine hK _ _ ?_
      clear hK K
      go_upto_region 9 with (fail)
      obtain ⟨a0, a1, a2, a3, a4, a5, a6, a7⟩ := HX6.out.2.1.all0
      have hP6 := Lib.hid (StepsAt.on HP.out hT6)
      have hQ6 := Lib.hid (StepsAt.on HQ.out hT6)
      go_step
      refine wpList_plain rfl (fun K hK => ?_)
      go_step
      refine hK _ _ ?_
      clear hK K
      refine wpList_plain rfl (fun K hK => ?_)
      go_step
      refine (Get_any x [] _ none 0 _ HX6.out.2.2 (.inl rfl) (by simp) (by omega)).mono ?_
      rintro e w6a ⟨csW, bsW, rfl, hown, -, hlow, hc⟩
      simp only [getV, Option.getD_some, Option.isSome_some] at hown ⊢
      have hIW := hown.isV (fun z hz => (hlow z hz).2)
      have HX6a := Lib.hid (HX6.out.on hc)
      have HY6a := Lib.hid (HY6.out.on hc)
      have HO6a := Lib.hid (HO6.out.on hc)
      have HZ6a := Lib.hid (HZ6.out.on hc)
      have hT6a := hT6.trans (hc.mono hT6.size)
      obtain ⟨kW, bW, iW, fW, tW, tyW, pW, nW, cW, qW, mW, dW, rfl⟩ := isV_shape hIW
      clear hown hlow hc a0 a1 a2 a3 a4 a5 a6 a7 HX6 HY6 HO6 HZ6 hP6 hQ6 hT6
      have HIW := Lib.hid hIW
      clear hIW
      refine hK _ _ ?_
      clear hK K
      refine wpList_plain rfl (fun K hK => ?_)
      go_step
      refine hK _ _ ?_
      clear hK K
      refine wpList_plain rfl (fun K hK => ?_)
      go_step
      refine hK _ _ ?_
      clear hK K
      refine wpList_plain rfl (fun K hK => ?_)
      go_step
      refine hK _ _ ?_
      clear hK K
      refine wpList_plain rfl (fun K hK => ?_)
      go_step
      have hTn := heap_new w6a (.cells cells0 60)
      obtain ⟨wy, hW⟩ : ∃ y, w6a.alloc (.cells cells0 60) = y := ⟨_, rfl⟩
      have e : w6a.alloc (.cells cells0 60) = wy := hW
      rw [hW] at hTn
      rw [e]
      clear e
      refine hK _ _ ?_
      clear hK K
      obtain ⟨TW, hTq⟩ : ∃ a, a = w6a.heap.size := ⟨_, rfl⟩
      rw [← hTq] at hTn ⊢
      refine wpList_plain rfl (fun K hK => ?_)
      refine wp_store_row (P := Try.prog) 60 (.tmp 13) (.tmp 54) rfl TW (vcells kW bW iW fW tW tyW pW nW cW qW mW dW) rfl rfl 60 _ hTn (by kernel_rfl) rfl (vcells_one ..) ?_
      have hst := box_stored hTq HIW.out
      rw [hW] at hst
      clear hTn hW
      generalize wy.setRow TW (vcells kW bW iW fW tW tyW pW nW cW qW mW dW) = w9 at *
      refine hK _ _ ?_
      clear hK K
      have HW9 := Lib.hid hst.2
      have HX9 := Lib.hid (HX6a.out.on hst.1)
      have HY9 := Lib.hid (HY6a.out.on hst.1)
      have HO9 := Lib.hid (HO6a.out.on hst.1)
      have HZ9 := Lib.hid (HZ6a.out.on hst.1)
      have hT9 := hT6a.trans (hst.1.mono hT6a.size)
      clear hst HIW hTq hT6a HX6a HY6a HO6a HZ6a
      refine wpList_plain rfl (fun K hK => ?_)
      go_step
      refine hK _ _ ?_
      clear hK K
      obtain ⟨a0, a1, a2, a3, a4, a5, a6, a7⟩ := HX9.out.2.1.all0
      obtain ⟨b0, b1, b2, b3, b4, b5, b6, b7⟩ := HW9.out.2.1.all0
      have tk := trivial
      have hE := Lib.hid (show Calls Try.prog 42 #[.agg (vcells kW bW iW fW tW tyW pW nW cW qW mW dW), .agg (vcells k b i f t ty p n c q m d)] w9 (RetB (.bool true) w9) from eq_self_any x HW9.out.2.2 HX9.out.2.2)
      go_upto_region 12 with (go_at_call 42; clear tk; refine hE.out.mono ?_; rintro _ w10 ⟨rfl, hb10⟩)
      clear hE a0 a1 a2 a3 a4 a5 a6 a7 b0 b1 b2 b3 b4 b5 b6 b7
      clear HW9
      have HX10 := Lib.hid (HX9.out.on hb10)
      have HY10 := Lib.hid (HY9.out.on hb10)
      have HO10 := Lib.hid (HO9.out.on hb10)
      have HZ10 := Lib.hid (HZ9.out.on hb10)
      have hT10 := hT9.trans (hb10.mono hT9.size)
      clear hb10 hT9 HX9 HY9 HO9 HZ9
      cases hg : getV x path with
      | none =>
        rw [hg] at hok ho
        have hs : setV x path y = none := by have := set_isSome path x y; rw [hg] at this; simpa using this
        rw [hs] at hz
        simp only [Option.getD_none, Option.isSome_none] at hok ho hz
        subst hok ho hz
        obtain ⟨a0, a1, a2, a3, a4, a5, a6, a7⟩ := HO10.out.2.1.all0
        have E1 := Lib.hid (show Calls Try.prog 42 #[.agg (vcells kO bO iO fO tO tyO pO nO cO qO mO dO), .agg cells0] w10 (RetB (.bool true) w10) from eq_self_any V0 HO10.out.2.2 (isV_0 _ _))
        have E2 := Lib.hid (show ∀ w', Below w10.heap.size w10 w' → Calls Try.prog 42 #[.agg (vcells kZ bZ iZ fZ tZ tyZ pZ nZ cZ qZ mZ dZ), .agg cells0] w' (RetB (.bool true) w') from fun w' h => eq_self_any V0 (HZ10.out.2.2.on h) (isV_0 _ _))
        have tk := trivial
        have tk2 := trivial
        go_wp2_with (go_at_call 42; first | (clear tk; refine E1.out.mono ?_; rintro _ w11 ⟨rfl, hb11⟩; obtain ⟨d0, d1, d2, d3, d4, d5, d6, d7⟩ := (HZ10.out.on hb11).2.1.all0) | (clear tk2; refine (E2.out _ hb11).mono ?_; rintro _ w12 ⟨rfl, hb12⟩))
        go_ret
        exact ⟨rfl, hT10.trans ((hb11.trans (hb12.mono hb11.size)).mono hT10.size)⟩
      | some u =>
        rw [hg] at hok ho
        obtain ⟨v2, hs⟩ : ∃ v2, setV x path y = some v2 := Option.isSome_iff_exists.1 (by rw [set_isSome, hg]; rfl)
        rw [hs] at hz
        simp only [Option.getD_some, Option.isSome_some] at hok ho hz
        subst hok ho hz
        have hso : szV o ≤ 100000 := Nat.le_trans (getV_size hg).1 hsx
        have hsz : szV z ≤ 200000 := Nat.le_trans (szV_set path hs) (by omega)
        have HG := Lib.hid hg
        have HS := Lib.hid hs
        clear hg hs hok2
        go_upto_region 14 with (fail)
        obtain ⟨a0, a1, a2, a3, a4, a5, a6, a7⟩ := HZ10.out.2.1.all0
        have hP10 := Lib.hid (StepsAt.on HP.out hT10)
        have hQ10 := Lib.hid (StepsAt.on HQ.out hT10)
        go_step
        refine wpList_plain rfl (fun K hK => ?_)
        go_step
        refine hK _ _ ?_
        clear hK K
        refine wpList_plain rfl (fun K hK => ?_)
        go_step
        refine hK _ _ ?_
        clear hK K
        refine wpList_plain rfl (fun K hK => ?_)
        go_step
        refine (Get_any z path _ pp cap _ HZ10.out.2.2 hP10.out LP.out (by omega)).mono ?_
        rintro e w10a ⟨csG, bsG, rfl, hown, -, hlow, hc⟩
        rw [get_set path HS.out] at hown ⊢
        simp only [Option.getD_some, Option.isSome_some] at hown ⊢
        have hIG := hown.isV (fun z hz => (hlow z hz).2)
        have HX10a := Lib.hid (HX10.out.on hc)
        have HY10a := Lib.hid (HY10.out.on hc)
        have HO10a := Lib.hid (HO10.out.on hc)
        have HZ10a := Lib.hid (HZ10.out.on hc)
        have hT10a := hT10.trans (hc.mono hT10.size)
        obtain ⟨kG, bG, iG, fG, tG, tyG, pG, nG, cG, qG, mG, dG, rfl⟩ := isV_shape hIG
        clear hown hlow hc a0 a1 a2 a3 a4 a5 a6 a7 HX10 HY10 HO10 HZ10 hP10 hQ10 hT10
        have HIG := Lib.hid hIG
        clear hIG
        refine hK _ _ ?_
        clear hK K
        refine wpList_plain rfl (fun K hK => ?_)
        go_step
        refine hK _ _ ?_
        clear hK K
        refine wpList_plain rfl (fun K hK => ?_)
        go_step
        refine hK _ _ ?_
        clear hK K
        refine wpList_plain rfl (fun K hK => ?_)
        go_step
        refine hK _ _ ?_
        clear hK K
        refine wpList_plain rfl (fun K hK => ?_)
        go_step
        have hTn := heap_new w10a (.cells cells0 60)
        obtain ⟨wy, hW⟩ : ∃ y, w10a.alloc (.cells cells0 60) = y := ⟨_, rfl⟩
        have e : w10a.alloc (.cells cells0 60) = wy := hW
        rw [hW] at hTn
        rw [e]
        clear e
        refine hK _ _ ?_
        clear hK K
        obtain ⟨TG, hTq⟩ : ∃ a, a = w10a.heap.size := ⟨_, rfl⟩
        rw [← hTq] at hTn ⊢
        refine wpList_plain rfl (fun K hK => ?_)
        refine wp_store_row (P := Try.prog) 60 (.tmp 15) (.tmp 78) rfl TG (vcells kG bG iG fG tG tyG pG nG cG qG mG dG) rfl rfl 60 _ hTn (by kernel_rfl) rfl (vcells_one ..) ?_
        have hst := box_stored hTq HIG.out
        rw [hW] at hst
        clear hTn hW
        generalize wy.setRow TG (vcells kG bG iG fG tG tyG pG nG cG qG mG dG) = w14 at *
        refine hK _ _ ?_
        clear hK K
        have HG14 := Lib.hid hst.2
        have HX14 := Lib.hid (HX10a.out.on hst.1)
        have HY14 := Lib.hid (HY10a.out.on hst.1)
        have HO14 := Lib.hid (HO10a.out.on hst.1)
        have HZ14 := Lib.hid (HZ10a.out.on hst.1)
        have hT14 := hT10a.trans (hst.1.mono hT10a.size)
        clear hst HIG hTq hT10a HX10a HY10a HO10a HZ10a
        refine wpList_plain rfl (fun K hK => ?_)
        go_step
        refine hK _ _ ?_
        clear hK K
        obtain ⟨a0, a1, a2, a3, a4, a5, a6, a7⟩ := HG14.out.2.1.all0
        obtain ⟨b0, b1, b2, b3, b4, b5, b6, b7⟩ := HY14.out.2.1.all0
        have tk := trivial
        have tk2 := trivial
        have hE := Lib.hid (show Calls Try.prog 42 #[.agg (vcells kG bG iG fG tG tyG pG nG cG qG mG dG), .agg (vcells k' b' i' f' t' ty' p' n' c' q' m' d')] w14 (RetB (.bool true) w14) from eq_self_any y HG14.out.2.2 HY14.out.2.2)
        go_upto_region 17 with (go_at_call 42; clear tk; refine hE.out.mono ?_; rintro _ w15 ⟨rfl, hb15⟩)
        clear hE HG14 HY14 a0 a1 a2 a3 a4 a5 a6 a7 b0 b1 b2 b3 b4 b5 b6 b7
        have HX15 := Lib.hid (HX14.out.on hb15)
        have HO15 := Lib.hid (HO14.out.on hb15)
        have HZ15 := Lib.hid (HZ14.out.on hb15)
        have hT15 := hT14.trans (hb15.mono hT14.size)
        clear hb15 hT14 HX14 HO14 HZ14
        obtain ⟨a0, a1, a2, a3, a4, a5, a6, a7⟩ := HZ15.out.2.1.all0
        obtain ⟨b0, b1, b2, b3, b4, b5, b6, b7⟩ := HO15.out.2.1.all0
        have hP15 := Lib.hid (StepsAt.on HP.out hT15)
        have hQ15 := Lib.hid (StepsAt.on HQ.out hT15)
        go_step
        refine wpList_plain rfl (fun K hK => ?_)
        go_step
        refine hK _ _ ?_
        clear hK K
        refine wpList_plain rfl (fun K hK => ?_)
        go_step
        refine hK _ _ ?_
        clear hK K
        refine wpList_plain rfl (fun K hK => ?_)
        go_step
        refine hK _ _ ?_
        clear hK K
        refine wpList_plain rfl (fun K hK => ?_)
        go_step
        refine (Set_any z path o _ _ pp cap _ HZ15.out.2.2 HO15.out.2.2 hP15.out LP.out (by omega) (by omega)).mono ?_
        rintro e w15a ⟨csB, bsB, rfl, hown, -, hlow, hc⟩
        rw [set_back path HG.out HS.out] at hown ⊢
        simp only [Option.getD_some, Option.isSome_some] at hown ⊢
        have hIB := hown.isV (fun z hz => (hlow z hz).2)
        have HX15a := Lib.hid (HX15.out.on hc)
        have HO15a := Lib.hid (HO15.out.on hc)
        have HZ15a := Lib.hid (HZ15.out.on hc)
        have hT15a := hT15.trans (hc.mono hT15.size)
        obtain ⟨kB, bB, iB, fB, tB, tyB, pB, nB, cB, qB, mB, dB, rfl⟩ := isV_shape hIB
        clear hown hlow hc a0 a1 a2 a3 a4 a5 a6 a7 b0 b1 b2 b3 b4 b5 b6 b7 HX15 HO15 HZ15 hP15 hQ15 hT15
        have HIB := Lib.hid hIB
        clear hIB
        refine hK _ _ ?_
        clear hK K
        refine wpList_plain rfl (fun K hK => ?_)
        go_step
        refine hK _ _ ?_
        clear hK K
        refine wpList_plain rfl (fun K hK => ?_)
        go_step
        refine hK _ _ ?_
        clear hK K
        refine wpList_plain rfl (fun K hK => ?_)
        go_step
        refine hK _ _ ?_
        clear hK K
        refine wpList_plain rfl (fun K hK => ?_)
        go_step
        have hTn := heap_new w15a (.cells cells0 60)
        obtain ⟨wy, hW⟩ : ∃ y, w15a.alloc (.cells cells0 60) = y := ⟨_, rfl⟩
        have e : w15a.alloc (.cells cells0 60) = wy := hW
        rw [hW] at hTn
        rw [e]
        clear e
        refine hK _ _ ?_
        clear hK K
        obtain ⟨TB, hTq⟩ : ∃ a, a = w15a.heap.size := ⟨_, rfl⟩
        rw [← hTq] at hTn ⊢
        refine wpList_plain rfl (fun K hK => ?_)
        refine wp_store_row (P := Try.prog) 60 (.tmp 17) (.tmp 93) rfl TB (vcells kB bB iB fB tB tyB pB nB cB qB mB dB) rfl rfl 60 _ hTn (by kernel_rfl) rfl (vcells_one ..) ?_
        have hst := box_stored hTq HIB.out
        rw [hW] at hst
        clear hTn hW
        generalize wy.setRow TB (vcells kB bB iB fB tB tyB pB nB cB qB mB dB) = w17 at *
        refine hK _ _ ?_
        clear hK K
        have HB17 := Lib.hid hst.2
        have HX17 := Lib.hid (HX15a.out.on hst.1)
        have HO17 := Lib.hid (HO15a.out.on hst.1)
        have HZ17 := Lib.hid (HZ15a.out.on hst.1)
        have hT17 := hT15a.trans (hst.1.mono hT15a.size)
        clear hst HIB hTq hT15a HX15a HO15a HZ15a
        refine wpList_plain rfl (fun K hK => ?_)
        go_step
        refine hK _ _ ?_
        clear hK K
        go_upto_region 18 with (fail)
        obtain ⟨a0, a1, a2, a3, a4, a5, a6, a7⟩ := HX17.out.2.1.all0
        obtain ⟨b0, b1, b2, b3, b4, b5, b6, b7⟩ := HO17.out.2.1.all0
        have hP17 := Lib.hid (StepsAt.on HP.out hT17)
        have hQ17 := Lib.hid (StepsAt.on HQ.out hT17)
        go_step
        refine wpList_plain rfl (fun K hK => ?_)
        go_step
        refine hK _ _ ?_
        clear hK K
        refine wpList_plain rfl (fun K hK => ?_)
        go_step
        refine hK _ _ ?_
        clear hK K
        refine wpList_plain rfl (fun K hK => ?_)
        go_step
        refine hK _ _ ?_
        clear hK K
        refine wpList_plain rfl (fun K hK => ?_)
        go_step
        refine (Set_any x path o _ _ pp cap _ HX17.out.2.2 HO17.out.2.2 hP17.out LP.out (by omega) (by omega)).mono ?_
        rintro e w17a ⟨csS, bsS, rfl, hown, -, hlow, hc⟩
        rw [set_same path HG.out] at hown ⊢
        simp only [Option.getD_some, Option.isSome_some] at hown ⊢
        have hIS := hown.isV (fun z hz => (hlow z hz).2)
        have HX17a := Lib.hid (HX17.out.on hc)
        have HO17a := Lib.hid (HO17.out.on hc)
        have HZ17a := Lib.hid (HZ17.out.on hc)
        have HB17a := Lib.hid (HB17.out.on hc)
        have hT17a := hT17.trans (hc.mono hT17.size)
        obtain ⟨kS, bS, iS, fS, tS, tyS, pS, nS, cS, qS, mS, dS, rfl⟩ := isV_shape hIS
        clear hown hlow hc a0 a1 a2 a3 a4 a5 a6 a7 b0 b1 b2 b3 b4 b5 b6 b7 HX17 HO17 HZ17 HB17 hP17 hQ17 hT17
        have HIS := Lib.hid hIS
        clear hIS
        refine hK _ _ ?_
        clear hK K
        refine wpList_plain rfl (fun K hK => ?_)
        go_step
        refine hK _ _ ?_
        clear hK K
        refine wpList_plain rfl (fun K hK => ?_)
        go_step
        refine hK _ _ ?_
        clear hK K
        refine wpList_plain rfl (fun K hK => ?_)
        go_step
        refine hK _ _ ?_
        clear hK K
        refine wpList_plain rfl (fun K hK => ?_)
        go_step
        have hTn := heap_new w17a (.cells cells0 60)
        obtain ⟨wy, hW⟩ : ∃ y, w17a.alloc (.cells cells0 60) = y := ⟨_, rfl⟩
        have e : w17a.alloc (.cells cells0 60) = wy := hW
        rw [hW] at hTn
        rw [e]
        clear e
        refine hK _ _ ?_
        clear hK K
        obtain ⟨TS, hTq⟩ : ∃ a, a = w17a.heap.size := ⟨_, rfl⟩
        rw [← hTq] at hTn ⊢
        refine wpList_plain rfl (fun K hK => ?_)
        refine wp_store_row (P := Try.prog) 60 (.tmp 19) (.tmp 100) rfl TS (vcells kS bS iS fS tS tyS pS nS cS qS mS dS) rfl rfl 60 _ hTn (by kernel_rfl) rfl (vcells_one ..) ?_
        have hst := box_stored hTq HIS.out
        rw [hW] at hst
        clear hTn hW
        generalize wy.setRow TS (vcells kS bS iS fS tS tyS pS nS cS qS mS dS) = w18 at *
        refine hK _ _ ?_
        clear hK K
        have HS18 := Lib.hid hst.2
        have HX18 := Lib.hid (HX17a.out.on hst.1)
        have HO18 := Lib.hid (HO17a.out.on hst.1)
        have HZ18 := Lib.hid (HZ17a.out.on hst.1)
        have HB18 := Lib.hid (HB17a.out.on hst.1)
        have hT18 := hT17a.trans (hst.1.mono hT17a.size)
        clear hst HIS hTq hT17a HX17a HO17a HZ17a HB17a
        refine wpList_plain rfl (fun K hK => ?_)
        go_step
        refine hK _ _ ?_
        clear hK K
        obtain ⟨a0, a1, a2, a3, a4, a5, a6, a7⟩ := HB18.out.2.1.all0
        obtain ⟨b0, b1, b2, b3, b4, b5, b6, b7⟩ := HX18.out.2.1.all0
        have E1 := Lib.hid (show Calls Try.prog 42 #[.agg (vcells kB bB iB fB tB tyB pB nB cB qB mB dB), .agg (vcells k b i f t ty p n c q m d)] w18 (RetB (.bool true) w18) from eq_self_any x HB18.out.2.2 HX18.out.2.2)
        have E2 := Lib.hid (show ∀ w', Below w18.heap.size w18 w' → Calls Try.prog 42 #[.agg (vcells kS bS iS fS tS tyS pS nS cS qS mS dS), .agg (vcells k b i f t ty p n c q m d)] w' (RetB (.bool true) w') from fun w' h => eq_self_any x (HS18.out.2.2.on h) (HX18.out.2.2.on h))
        have tk := trivial
        have tk2 := trivial
        go_upto_region 21 with (go_at_call 42; first | (clear tk; refine E1.out.mono ?_; rintro _ w19 ⟨rfl, hb19⟩; obtain ⟨d0, d1, d2, d3, d4, d5, d6, d7⟩ := (HX18.out.on hb19).2.1.all0; obtain ⟨g0, g1, g2, g3, g4, g5, g6, g7⟩ := (HS18.out.on hb19).2.1.all0) | (clear tk2; refine (E2.out _ hb19).mono ?_; rintro _ w20 ⟨rfl, hb20⟩))
        clear E1 E2 HB18 HS18 HO18 a0 a1 a2 a3 a4 a5 a6 a7 b0 b1 b2 b3 b4 b5 b6 b7 d0 d1 d2 d3 d4 d5 d6 d7 g0 g1 g2 g3 g4 g5 g6 g7
        replace hb20 := hb19.trans (hb20.mono hb19.size)
        clear hb19
        have HX20 := Lib.hid (HX18.out.on hb20)
        have HZ20 := Lib.hid (HZ18.out.on hb20)
        have hT20 := hT18.trans (hb20.mono hT18.size)
        clear hb20 hT18 HX18 HZ18
        have U1 := Lib.hid (Under_any path other pp qq cap cap2 _ (StepsAt.on HP.out hT20) (StepsAt.on HQ.out hT20) LC.out LM.out LQ.out)
        have U2 := Lib.hid (fun w' (h : Below w20.heap.size w20 w') => Under_any other path qq pp cap2 cap _ ((StepsAt.on HQ.out hT20).on h) ((StepsAt.on HP.out hT20).on h) LC2.out LM2.out LP.out)
        cases hu1 : underP path other
        case true =>
          rw [hu1] at U1
          have tk := trivial
          have tk2 := trivial
          go_wp2_with (go_at_call 22; clear tk; refine U1.out.mono ?_; rintro _ w21 ⟨rfl, hb21⟩)
          go_ret
          exact ⟨rfl, hT20.trans (hb21.mono hT20.size)⟩
        rw [hu1] at U1
        cases hu2 : underP other path
        case true =>
          rw [hu2] at U2
          have tk := trivial
          have tk2 := trivial
          go_wp2_with (go_at_call 22; first | (clear tk; refine U1.out.mono ?_; rintro _ w21 ⟨rfl, hb21⟩) | (clear tk2; refine (U2.out _ hb21).mono ?_; rintro _ w22 ⟨rfl, hb22⟩))
          go_ret
          exact ⟨rfl, hT20.trans ((hb21.trans (hb22.mono hb21.size)).mono hT20.size)⟩
        rw [hu2] at U2
        have hget := get_other path other HS.out hu1 hu2
        have HGET := Lib.hid hget
        clear hget hu1 hu2
        have tk := trivial
        have tk2 := trivial
        go_upto_region 23 with (go_at_call 22; first | (clear tk; refine U1.out.mono ?_; rintro _ w21 ⟨rfl, hb21⟩) | (clear tk2; refine (U2.out _ hb21).mono ?_; rintro _ w22 ⟨rfl, hb22⟩))
        replace hb22 := hb21.trans (hb22.mono hb21.size)
        clear hb21 U1 U2
        have HX22 := Lib.hid (HX20.out.on hb22)
        have HZ22 := Lib.hid (HZ20.out.on hb22)
        have hT22 := hT20.trans (hb22.mono hT20.size)
        clear hb22 hT20 HX20 HZ20
        obtain ⟨l, hl⟩ : ∃ l, l = (getV x other).getD V0 := ⟨_, rfl⟩
        obtain ⟨ok, hok⟩ : ∃ ok, ok = (getV x other).isSome := ⟨_, rfl⟩
        obtain ⟨a0, a1, a2, a3, a4, a5, a6, a7⟩ := HX22.out.2.1.all0
        have hP22 := Lib.hid (StepsAt.on HP.out hT22)
        have hQ22 := Lib.hid (StepsAt.on HQ.out hT22)
        go_step
        refine wpList_plain rfl (fun K hK => ?_)
        go_step
        refine hK _ _ ?_
        clear hK K
        refine wpList_plain rfl (fun K hK => ?_)
        go_step
        refine hK _ _ ?_
        clear hK K
        refine wpList_plain rfl (fun K hK => ?_)
        go_step
        refine (Get_any x other _ qq cap2 _ HX22.out.2.2 hQ22.out LQ.out (by omega)).mono ?_
        rintro e w22a ⟨csL, bsL, rfl, hown, -, hlow, hc⟩
        rw [← hl] at hown
        rw [← hok]
        have hIL := hown.isV (fun z hz => (hlow z hz).2)
        have HX22a := Lib.hid (HX22.out.on hc)
        have HZ22a := Lib.hid (HZ22.out.on hc)
        have hT22a := hT22.trans (hc.mono hT22.size)
        obtain ⟨kL, bL, iL, fL, tL, tyL, pL, nL, cL, qL, mL, dL, rfl⟩ := isV_shape hIL
        clear hown hlow hc a0 a1 a2 a3 a4 a5 a6 a7 HX22 HZ22 hP22 hQ22 hT22
        have HIL := Lib.hid hIL
        clear hIL
        refine hK _ _ ?_
        clear hK K
        refine wpList_plain rfl (fun K hK => ?_)
        go_step
        refine hK _ _ ?_
        clear hK K
        refine wpList_plain rfl (fun K hK => ?_)
        go_step
        refine hK _ _ ?_
        clear hK K
        refine wpList_plain rfl (fun K hK => ?_)
        go_step
        refine hK _ _ ?_
        clear hK K
        refine wpList_plain rfl (fun K hK => ?_)
        go_step
        have hTn := heap_new w22a (.cells cells0 60)
        obtain ⟨wy, hW⟩ : ∃ y, w22a.alloc (.cells cells0 60) = y := ⟨_, rfl⟩
        have e : w22a.alloc (.cells cells0 60) = wy := hW
        rw [hW] at hTn
        rw [e]
        clear e
        refine hK _ _ ?_
        clear hK K
        obtain ⟨TL, hTq⟩ : ∃ a, a = w22a.heap.size := ⟨_, rfl⟩
        rw [← hTq] at hTn ⊢
        refine wpList_plain rfl (fun K hK => ?_)
        refine wp_store_row (P := Try.prog) 60 (.tmp 21) (.tmp 124) rfl TL (vcells kL bL iL fL tL tyL pL nL cL qL mL dL) rfl rfl 60 _ hTn (by kernel_rfl) rfl (vcells_one ..) ?_
        have hst := box_stored hTq HIL.out
        rw [hW] at hst
        clear hTn hW
        generalize wy.setRow TL (vcells kL bL iL fL tL tyL pL nL cL qL mL dL) = w23 at *
        refine hK _ _ ?_
        clear hK K
        have HL23 := Lib.hid hst.2
        have HX23 := Lib.hid (HX22a.out.on hst.1)
        have HZ23 := Lib.hid (HZ22a.out.on hst.1)
        have hT23 := hT22a.trans (hst.1.mono hT22a.size)
        clear hst HIL hTq hT22a HX22a HZ22a
        refine wpList_plain rfl (fun K hK => ?_)
        go_step
        refine hK _ _ ?_
        clear hK K
        go_upto_region 24 with (fail)
        obtain ⟨a0, a1, a2, a3, a4, a5, a6, a7⟩ := HZ23.out.2.1.all0
        have hP23 := Lib.hid (StepsAt.on HP.out hT23)
        have hQ23 := Lib.hid (StepsAt.on HQ.out hT23)
        go_step
        refine wpList_plain rfl (fun K hK => ?_)
        go_step
        refine hK _ _ ?_
        clear hK K
        refine wpList_plain rfl (fun K hK => ?_)
        go_step
        refine hK _ _ ?_
        clear hK K
        refine wpList_plain rfl (fun K hK => ?_)
        go_step
        refine (Get_any z other _ qq cap2 _ HZ23.out.2.2 hQ23.out LQ.out (by omega)).mono ?_
        rintro e w23a ⟨csM, bsM, rfl, hown, -, hlow, hc⟩
        rw [HGET.out, ← hl] at hown
        rw [HGET.out, ← hok]
        have hIM := hown.isV (fun z hz => (hlow z hz).2)
        have HX23a := Lib.hid (HX23.out.on hc)
        have HZ23a := Lib.hid (HZ23.out.on hc)
        have HL23a := Lib.hid (HL23.out.on hc)
        have hT23a := hT23.trans (hc.mono hT23.size)
        obtain ⟨kM, bM, iM, fM, tM, tyM, pM, nM, cM, qM, mM, dM, rfl⟩ := isV_shape hIM
        clear hown hlow hc a0 a1 a2 a3 a4 a5 a6 a7 HX23 HZ23 HL23 hP23 hQ23 hT23
        have HIM := Lib.hid hIM
        clear hIM
        refine hK _ _ ?_
        clear hK K
        refine wpList_plain rfl (fun K hK => ?_)
        go_step
        refine hK _ _ ?_
        clear hK K
        refine wpList_plain rfl (fun K hK => ?_)
        go_step
        refine hK _ _ ?_
        clear hK K
        refine wpList_plain rfl (fun K hK => ?_)
        go_step
        refine hK _ _ ?_
        clear hK K
        refine wpList_plain rfl (fun K hK => ?_)
        go_step
        have hTn := heap_new w23a (.cells cells0 60)
        obtain ⟨wy, hW⟩ : ∃ y, w23a.alloc (.cells cells0 60) = y := ⟨_, rfl⟩
        have e : w23a.alloc (.cells cells0 60) = wy := hW
        rw [hW] at hTn
        rw [e]
        clear e
        refine hK _ _ ?_
        clear hK K
        obtain ⟨TM, hTq⟩ : ∃ a, a = w23a.heap.size := ⟨_, rfl⟩
        rw [← hTq] at hTn ⊢
        refine wpList_plain rfl (fun K hK => ?_)
        refine wp_store_row (P := Try.prog) 60 (.tmp 23) (.tmp 130) rfl TM (vcells kM bM iM fM tM tyM pM nM cM qM mM dM) rfl rfl 60 _ hTn (by kernel_rfl) rfl (vcells_one ..) ?_
        have hst := box_stored hTq HIM.out
        rw [hW] at hst
        clear hTn hW
        generalize wy.setRow TM (vcells kM bM iM fM tM tyM pM nM cM qM mM dM) = w24 at *
        refine hK _ _ ?_
        clear hK K
        have HM24 := Lib.hid hst.2
        have HX24 := Lib.hid (HX23a.out.on hst.1)
        have HZ24 := Lib.hid (HZ23a.out.on hst.1)
        have HL24 := Lib.hid (HL23a.out.on hst.1)
        have hT24 := hT23a.trans (hst.1.mono hT23a.size)
        clear hst HIM hTq hT23a HX23a HZ23a HL23a
        refine wpList_plain rfl (fun K hK => ?_)
        go_step
        refine hK _ _ ?_
        clear hK K
        obtain ⟨a0, a1, a2, a3, a4, a5, a6, a7⟩ := HL24.out.2.1.all0
        obtain ⟨b0, b1, b2, b3, b4, b5, b6, b7⟩ := HM24.out.2.1.all0
        have tk := trivial
        have tk2 := trivial
        have hE := Lib.hid (show Calls Try.prog 42 #[.agg (vcells kL bL iL fL tL tyL pL nL cL qL mL dL), .agg (vcells kM bM iM fM tM tyM pM nM cM qM mM dM)] w24 (RetB (.bool true) w24) from eq_self_any l HL24.out.2.2 HM24.out.2.2)
        go_wp2_with (go_at_call 42; clear tk; refine hE.out.mono ?_; rintro _ w25 ⟨rfl, hb25⟩)
        go_ret
        exact ⟨rfl, hT24.trans (hb25.mono hT24.size)⟩
end Go.Proofs.Ytnmnmkdmnohbmaa
