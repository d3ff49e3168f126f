/- Helper text: the walk over TreePlaces. Conditions: none. -/
import Derived.Test.YtnmnmkdmnohbmaaTwo
import Derived.Test.YtnmnmkdmnohbmaaRefSet
namespace Go.Proofs.Ytnmnmkdmnohbmaa
open Go.RowKit
attribute [local go_sem] run_store_float St.cells

theorem two_at : getV twoV [⟨⟨#[97]⟩, 0, false⟩, ⟨⟨#[]⟩, 0, true⟩] = some (numV 1) := by
  simp [getV, child, childIx, twoV, V.kind, kd, V.fs, V.its, nameIs, listV, List.findIdx?_cons]

theorem steps_two {w : World} {b : Nat} (h : w.heap[b]? = some (.cells #[.string ⟨#[97]⟩, .int .i64 0, .bool false, .string ⟨#[]⟩, .int .i64 0, .bool true] 53 (0, 0))) : StepsAt w.heap.size w (some ⟨b, 0, none⟩) [⟨⟨#[97]⟩, 0, false⟩, ⟨⟨#[]⟩, 0, true⟩] := by
  refine .inr ⟨b, 0, rfl, (Array.getElem?_eq_some_iff.1 h).1, fun i s hs => ?_⟩
  match i with
  | 0 => obtain rfl := (by simpa using hs : _ = s); simp [World.cell?, h]
  | 1 => obtain rfl := (by simpa using hs : _ = s); simp [World.cell?, h]
  | n + 2 => simp at hs

theorem own_cells {w : World} {y : V} {cs : Array Value} {bs : List Nat} (h : OwnV w y cs bs) : ∃ p c q d, cs = match y with | .mk k b i f t ty its fs => vcells k b i f t ty p its.length c q fs.length d := by
  obtain ⟨k, b, i, f, t, ty, its, fs⟩ := y
  obtain ⟨p, c, q, d, _, _, rfl, _⟩ := h
  exact ⟨p, c, q, d, rfl⟩

set_option maxRecDepth 100000 in
set_option maxHeartbeats 1000000 in
theorem TreePlaces_walk (v : V) (path : List St) (x : V) (cs xs : Array Value) (pp : Option Addr) (cap : Nat) (w : World) (hv : IsV w.heap.size w v cs) (hx : IsV w.heap.size w x xs) (hp : StepsAt w.heap.size w pp path) (hl : path.length ≤ cap) (hcap : cap ≤ maxLen) (hok : okV v) (hox : okV x) :
    Calls Try.prog 6 #[.agg cs, .slice pp path.length cap, .agg xs] w (RetB (.bool true) w) := by
  have hl1 : path.length ≤ maxLen := Nat.le_trans hl hcap
  have HV0 := Lib.hid hv
  have HX0 := Lib.hid hx
  have HP0 := Lib.hid hp
  obtain ⟨v0, hv0⟩ : ∃ v0, v0 = v := ⟨v, rfl⟩
  obtain ⟨x0, hx0⟩ : ∃ x0, x0 = x := ⟨x, rfl⟩
  rw [← hv0] at HV0 hok
  rw [← hx0] at HX0 hox
  have HOK := Lib.hid hok
  have HOX := Lib.hid hox
  obtain ⟨k, b, i, f, t, ty, its, fs⟩ := v
  obtain ⟨p, c, q, d, rfl, _, _, l1, l2⟩ := hv
  obtain ⟨xk, xb, xi, xf, xt, xty, xits, xfs⟩ := x
  obtain ⟨xp, xc, xq, xd, rfl, _, _, l3, l4⟩ := hx
  clear hv0 hx0 hp hok hox
  go_enter Try.func6, Try.ntmps6
  go_upto_region 1 with (fail)
  obtain ⟨wa, hW⟩ : ∃ wa, (w.alloc (.cells (vcells k b i f t ty p its.length c q fs.length d) 60)).alloc (.cells (vcells xk xb xi xf xt xty xp xits.length xc xq xfs.length xd) 60) = wa := ⟨_, rfl⟩
  have hwa : Below w.heap.size w wa := by rw [← hW]; exact ((Below.refl _ _).alloc (Nat.le_refl _) _).alloc (by simp) _
  have hsz : wa.heap.size = w.heap.size + 1 + 1 := by rw [← hW]; simp
  have h0 : wa.heap[w.heap.size]? = some (.cells (vcells k b i f t ty p its.length c q fs.length d) 60 (0, 0)) := by
    rw [← hW]; exact heap_old (heap_new _ _) _
  have h1 : wa.heap[w.heap.size + 1]? = some (.cells (vcells xk xb xi xf xt xty xp xits.length xc xq xfs.length xd) 60 (0, 0)) := by
    rw [← hW]; have := heap_new (w.alloc (.cells (vcells k b i f t ty p its.length c q fs.length d) 60)) (.cells (vcells xk xb xi xf xt xty xp xits.length xc xq xfs.length xd) 60); rwa [World.size_alloc] at this
  have e : (w.alloc (.cells (vcells k b i f t ty p its.length c q fs.length d) 60)).alloc (.cells (vcells xk xb xi xf xt xty xp xits.length xc xq xfs.length xd) 60) = wa := hW
  clear hW
  rw [e]
  clear e
  have H0 := Lib.hid h0
  have H1 := Lib.hid h1
  have HSZ := Lib.hid hsz
  clear h0 h1 hsz
  go_step
  refine wpList_plain rfl (fun K hK => ?_)
  go_step
  refine (two_any _).mono ?_
  rintro e w1 ⟨tcs, rfl, htwo, hb1⟩
  refine hK _ _ ?_
  clear hK K
  have HTWO := Lib.hid htwo
  obtain ⟨_, _, _, _, rfl, _⟩ := htwo
  refine wpList_plain rfl (fun K hK => ?_)
  go_step
  refine hK _ _ ?_
  clear hK K
  refine wpList_plain rfl (fun K hK => ?_)
  go_step
  refine hK _ _ ?_
  clear hK K
  refine wpList_plain rfl (fun K hK => ?_)
  go_step
  have hb2 : Below w1.heap.size w1 (w1.alloc (.cells #[.string ⟨#[97]⟩, .int .i64 0, .bool false, .string ⟨#[]⟩, .int .i64 0, .bool true] 53)) := (Below.refl _ _).alloc (Nat.le_refl _) _
  have hS := heap_new w1 (.cells #[.string ⟨#[97]⟩, .int .i64 0, .bool false, .string ⟨#[]⟩, .int .i64 0, .bool true] 53)
  obtain ⟨w2, hW⟩ : ∃ y, w1.alloc (.cells #[.string ⟨#[97]⟩, .int .i64 0, .bool false, .string ⟨#[]⟩, .int .i64 0, .bool true] 53) = y := ⟨_, rfl⟩
  rw [hW] at hb2 hS
  have e : w1.alloc (.cells #[.string ⟨#[97]⟩, .int .i64 0, .bool false, .string ⟨#[]⟩, .int .i64 0, .bool true] 53) = w2 := hW
  clear hW
  rw [e]
  clear e
  refine hK _ _ ?_
  clear hK K
  refine wpList_plain rfl (fun K hK => ?_)
  go_step
  refine (Get_any twoV [⟨⟨#[97]⟩, 0, false⟩, ⟨⟨#[]⟩, 0, true⟩] _ _ 2 _ (HTWO.out.on hb2) (steps_two hS) (by decide) (by decide)).mono ?_
  rw [two_at]
  rintro e w3 ⟨cs3, bs3, rfl, hown, -, -, hb3⟩
  obtain ⟨np, nc, nq, nd, rfl⟩ := own_cells hown
  refine hK _ _ ?_
  clear hK K
  clear hown hS HTWO
  have hbA : Below wa.heap.size wa w3 := (hb1.trans (hb2.mono hb1.size)).trans (hb3.mono (Nat.le_trans hb1.size hb2.size))
  clear hb1 hb2 hb3
  refine wpList_plain rfl (fun K hK => ?_)
  go_step
  refine hK _ _ ?_
  clear hK K
  refine wpList_plain rfl (fun K hK => ?_)
  go_step
  refine hK _ _ ?_
  clear hK K
  refine wpList_plain rfl (fun K hK => ?_)
  go_step
  refine hK _ _ ?_
  clear hK K
  refine wpList_plain rfl (fun K hK => ?_)
  go_step
  have hba : Below w3.heap.size w3 (w3.alloc (.cells cells0 60)) := (Below.refl _ _).alloc (Nat.le_refl _) _
  have hT := heap_new w3 (.cells cells0 60)
  obtain ⟨wy, hW⟩ : ∃ y, w3.alloc (.cells cells0 60) = y := ⟨_, rfl⟩
  rw [hW] at hba hT
  have e : w3.alloc (.cells cells0 60) = wy := hW
  clear hW
  rw [e]
  clear e
  refine hK _ _ ?_
  clear hK K
  obtain ⟨T7, hTq⟩ : ∃ a, a = w3.heap.size := ⟨_, rfl⟩
  rw [← hTq] at hT ⊢
  refine wpList_plain rfl (fun K hK => ?_)
  refine wp_store_row (P := Try.prog) 60 (.tmp 7) (.tmp 17) rfl T7 (vcells 2 false 1 0 ⟨#[]⟩ ⟨#[]⟩ np 0 nc nq 0 nd) rfl rfl 60 _ hT (by kernel_rfl) rfl (vcells_one ..) ?_
  refine hK _ _ ?_
  clear hK K
  have hTn : (wy.setRow T7 (vcells 2 false 1 0 ⟨#[]⟩ ⟨#[]⟩ np 0 nc nq 0 nd)).heap[T7]? = some (.cells (vcells 2 false 1 0 ⟨#[]⟩ ⟨#[]⟩ np 0 nc nq 0 nd) 60 (0, 0)) := setRow_heap _ _ _ _ _ _ hT
  have hbT : Below w3.heap.size w3 (wy.setRow T7 (vcells 2 false 1 0 ⟨#[]⟩ ⟨#[]⟩ np 0 nc nq 0 nd)) := below_setRow hba (by omega) _
  clear hT hba
  generalize wy.setRow T7 (vcells 2 false 1 0 ⟨#[]⟩ ⟨#[]⟩ np 0 nc nq 0 nd) = w4 at *
  have hbB := hbA.trans (hbT.mono hbA.size)
  have hT7 : wa.heap.size ≤ T7 := by have := hbA.size; omega
  clear hTq hbT hbA
  have HT7 := Lib.hid hTn
  obtain ⟨m0, m1, m2, m3, m4, m5, m6, m7⟩ := (block_of_cells hTn).all0
  clear hTn
  refine wpList_plain rfl (fun K hK => ?_)
  go_step
  refine hK _ _ ?_
  clear hK K
  have h0 : w4.heap[w.heap.size]? = some (.cells (vcells k b i f t ty p its.length c q fs.length d) 60 (0, 0)) := by rw [hbB.block _ (by have := HSZ.out; omega)]; exact H0.out
  have h1 : w4.heap[w.heap.size + 1]? = some (.cells (vcells xk xb xi xf xt xty xp xits.length xc xq xfs.length xd) 60 (0, 0)) := by rw [hbB.block _ (by have := HSZ.out; omega)]; exact H1.out
  obtain ⟨c0, c1, c2, c3, c4, c5, c6, c7⟩ := (block_of_cells h0).all0
  have hc0 := block_of_cells h1
  have hs0 : w.heap.size < w4.heap.size := (Array.getElem?_eq_some_iff.1 h0).1
  have hs1 : w.heap.size + 1 < w4.heap.size := (Array.getElem?_eq_some_iff.1 h1).1
  have hwB := hwa.trans (hbB.mono hwa.size)
  have HS1 := Lib.hid (Size_any _ v0 (Nat.le_refl _) _ w4 100000 (HV0.out.on hwB) (by decide) (by decide))
  have HS2 := Lib.hid (fun w' (hb : Below w4.heap.size w4 w') => Size_any _ x0 (Nat.le_refl _) _ w' 100000 ((HX0.out.on hwB).on hb) (by decide) (by decide))
  clear h0 h1
  by_cases hv1 : 100000 < sizeR v0 100000
  · go_wp2_with (go_at_call 27; first | (refine HS1.out.mono ?_; rintro e w5 ⟨rfl, hb5⟩; have f := (hc0.below hb5 hs1).all0) | (refine (HS2.out _ hb5).mono ?_; rintro e w6 ⟨rfl, hb6⟩))
    go_ret
    exact ⟨rfl, hwB.trans (hb5.mono hwB.size)⟩
  · have hsv : szV v0 ≤ 1000000 := by have := sizeR_eq v0 100000 (by omega); omega
    by_cases hv2 : 100000 < sizeR x0 100000
    · go_wp2_with (go_at_call 27; first | (refine (HS2.out _ hb5).mono ?_; rintro e w6 ⟨rfl, hb6⟩) | (refine HS1.out.mono ?_; rintro e w5 ⟨rfl, hb5⟩; obtain ⟨f0, f1, f2, f3, f4, f5, f6, f7⟩ := (hc0.below hb5 hs1).all0))
      go_ret
      exact ⟨rfl, (hwB.trans (hb5.mono hwB.size)).trans (hb6.mono (Nat.le_trans hwB.size hb5.size))⟩
    · have hsx : szV x0 ≤ 1000000 := by have := sizeR_eq x0 100000 (by omega); omega
      go_upto_region 6 with (go_at_call 27; first | (refine (HS2.out _ hb5).mono ?_; rintro e w6 ⟨rfl, hb6⟩) | (refine HS1.out.mono ?_; rintro e w5 ⟨rfl, hb5⟩; obtain ⟨f0, f1, f2, f3, f4, f5, f6, f7⟩ := (hc0.below hb5 hs1).all0))
      have hb46 := hb5.trans (hb6.mono hb5.size)
      have hb_w6 := hbB.trans (hb46.mono hbB.size)
      have hT76 : w6.heap[T7]? = some (.cells (vcells 2 false 1 0 ⟨#[]⟩ ⟨#[]⟩ np 0 nc nq 0 nd) 60 (0, 0)) := (hb46.block T7 (Array.getElem?_eq_some_iff.1 HT7.out).1).trans HT7.out
      clear c0 c1 c2 c3 c4 c5 c6 c7 f0 f1 f2 f3 f4 f5 f6 f7 m0 m1 m2 m3 m4 m5 m6 m7 hc0 hs0 hs1 HS1 HS2 hb5 hb6 hb46 HT7 hwB hv1 hv2
      have h0 : w6.heap[w.heap.size]? = some (.cells (vcells k b i f t ty p its.length c q fs.length d) 60 (0, 0)) := by rw [hb_w6.block _ (by have := HSZ.out; omega)]; exact H0.out
      have h1 : w6.heap[w.heap.size + 1]? = some (.cells (vcells xk xb xi xf xt xty xp xits.length xc xq xfs.length xd) 60 (0, 0)) := by rw [hb_w6.block _ (by have := HSZ.out; omega)]; exact H1.out
      obtain ⟨c0, c1, c2, c3, c4, c5, c6, c7⟩ := (block_of_cells h0).all0
      obtain ⟨d0, d1, d2, d3, d4, d5, d6, d7⟩ := (block_of_cells h1).all0
      have hs0 : w.heap.size < w6.heap.size := (Array.getElem?_eq_some_iff.1 h0).1
      have hs1 : w.heap.size + 1 < w6.heap.size := (Array.getElem?_eq_some_iff.1 h1).1
      have hw_w6 := hwa.trans (hb_w6.mono hwa.size)
      have HVX := Lib.hid (HV0.out.on hw_w6)
      have HXX := Lib.hid (HX0.out.on hw_w6)
      have HPX := Lib.hid (StepsAt.on HP0.out hw_w6)
      clear h0 h1 hw_w6
      go_step
      refine wpList_plain rfl (fun K hK => ?_)
      go_step
      refine hK _ _ ?_
      clear hK K
      refine wpList_plain rfl (fun K hK => ?_)
      go_step
      refine hK _ _ ?_
      clear hK K
      refine wpList_plain rfl (fun K hK => ?_)
      go_step
      refine (Get_any v0 path _ _ cap _ HVX.out HPX.out hl1 hsv).mono ?_
      rintro e w7 ⟨cs7, bs7, rfl, hown, -, hlow, hc⟩
      generalize hy : (getV v0 path).getD V0 = y at hown
      generalize hok : (getV v0 path).isSome = ok
      refine hK _ _ ?_
      clear hK K
      obtain ⟨yk, yb, yi, yf, yt, yty, yits, yfs⟩ := y
      have HOWN := Lib.hid hown
      obtain ⟨ypp, ypc, ypq, ypd, _, _, rfl, _⟩ := hown
      have hb_w7 := hb_w6.trans (hc.mono hb_w6.size)
      have hT77 : w7.heap[T7]? = some (.cells (vcells 2 false 1 0 ⟨#[]⟩ ⟨#[]⟩ np 0 nc nq 0 nd) 60 (0, 0)) := (hc.block T7 (Array.getElem?_eq_some_iff.1 hT76).1).trans hT76
      have ht7 := (Array.getElem?_eq_some_iff.1 hT76).1
      clear c0 c1 c2 c3 c4 c5 c6 c7 d0 d1 d2 d3 d4 d5 d6 d7 hs0 hs1 HVX HXX HPX
      refine wpList_plain rfl (fun K hK => ?_)
      go_step
      refine hK _ _ ?_
      clear hK K
      refine wpList_plain rfl (fun K hK => ?_)
      go_step
      refine hK _ _ ?_
      clear hK K
      refine wpList_plain rfl (fun K hK => ?_)
      go_step
      refine hK _ _ ?_
      clear hK K
      refine wpList_plain rfl (fun K hK => ?_)
      refine wp_store_row (P := Try.prog) 60 (.tmp 7) (.tmp 43) rfl T7 (vcells yk yb yi yf yt yty ypp yits.length ypc ypq yfs.length ypd) rfl rfl 60 _ hT77 (by kernel_rfl) rfl (vcells_one ..) ?_
      refine hK _ _ ?_
      clear hK K
      have hT78 : (w7.setRow T7 (vcells yk yb yi yf yt yty ypp yits.length ypc ypq yfs.length ypd)).heap[T7]? = some (.cells (vcells yk yb yi yf yt yty ypp yits.length ypc ypq yfs.length ypd) 60 (0, 0)) := setRow_heap _ _ _ _ _ _ hT77
      have hb_w8 : Below wa.heap.size wa (w7.setRow T7 (vcells yk yb yi yf yt yty ypp yits.length ypc ypq yfs.length ypd)) := below_setRow hb_w7 hT7 _
      have hown8 : OwnV (w7.setRow T7 (vcells yk yb yi yf yt yty ypp yits.length ypc ypq yfs.length ypd)) (.mk yk yb yi yf yt yty yits yfs) (vcells yk yb yi yf yt yty ypp yits.length ypc ypq yfs.length ypd) bs7 := HOWN.out.kept (Kept.setRow (fun _ _ => rfl) (fun h => by have := (hlow _ h).1; omega) _)
      have hz8 := setRow_size w7 T7 (vcells yk yb yi yf yt yty ypp yits.length ypc ypq yfs.length ypd)
      have hlow8 : ∀ z ∈ bs7, z < (w7.setRow T7 (vcells yk yb yi yf yt yty ypp yits.length ypc ypq yfs.length ypd)).heap.size := fun z hz => by have := (hlow z hz).2; omega
      clear hT76 hT77 hc hlow HOWN ht7
      generalize w7.setRow T7 (vcells yk yb yi yf yt yty ypp yits.length ypc ypq yfs.length ypd) = w8 at *
      have HY7 := Lib.hid hT78
      have HO8 := Lib.hid hown8
      clear hT78 hown8 hz8
      refine wpList_plain rfl (fun K hK => ?_)
      go_step
      refine hK _ _ ?_
      clear hK K
      go_upto_region 7 with (fail)
      have h0 : w8.heap[w.heap.size]? = some (.cells (vcells k b i f t ty p its.length c q fs.length d) 60 (0, 0)) := by rw [hb_w8.block _ (by have := HSZ.out; omega)]; exact H0.out
      have h1 : w8.heap[w.heap.size + 1]? = some (.cells (vcells xk xb xi xf xt xty xp xits.length xc xq xfs.length xd) 60 (0, 0)) := by rw [hb_w8.block _ (by have := HSZ.out; omega)]; exact H1.out
      obtain ⟨c0, c1, c2, c3, c4, c5, c6, c7⟩ := (block_of_cells h0).all0
      obtain ⟨d0, d1, d2, d3, d4, d5, d6, d7⟩ := (block_of_cells h1).all0
      have hs0 : w.heap.size < w8.heap.size := (Array.getElem?_eq_some_iff.1 h0).1
      have hs1 : w.heap.size + 1 < w8.heap.size := (Array.getElem?_eq_some_iff.1 h1).1
      have hw_w8 := hwa.trans (hb_w8.mono hwa.size)
      have HVX := Lib.hid (HV0.out.on hw_w8)
      have HXX := Lib.hid (HX0.out.on hw_w8)
      have HPX := Lib.hid (StepsAt.on HP0.out hw_w8)
      clear h0 h1 hw_w8
      go_step
      refine wpList_plain rfl (fun K hK => ?_)
      go_step
      refine hK _ _ ?_
      clear hK K
      refine wpList_plain rfl (fun K hK => ?_)
      go_step
      refine hK _ _ ?_
      clear hK K
      refine wpList_plain rfl (fun K hK => ?_)
      go_step
      refine (refGet_any v0 path _ _ cap _ HVX.out HPX.out hl1 hsv).mono ?_
      rintro e w9 ⟨cs9, bs9, rfl, hown, -, hlow, hc⟩
      rw [hy] at hown
      rw [hok]
      refine hK _ _ ?_
      clear hK K
      have HOWN := Lib.hid hown
      obtain ⟨yqp, yqc, yqq, yqd, _, _, rfl, _⟩ := hown
      have hb_w9 := hb_w8.trans (hc.mono hb_w8.size)
      have hT79 : w9.heap[T7]? = some (.cells (vcells yk yb yi yf yt yty ypp yits.length ypc ypq yfs.length ypd) 60 (0, 0)) := (hc.block T7 (Array.getElem?_eq_some_iff.1 HY7.out).1).trans HY7.out
      have hown79 : OwnV w9 (.mk yk yb yi yf yt yty yits yfs) (vcells yk yb yi yf yt yty ypp yits.length ypc ypq yfs.length ypd) bs7 := HO8.out.kept (fun z hz => hc.block z (hlow8 z hz))
      have hlow79 : ∀ z ∈ bs7, z < w9.heap.size := fun z hz => Nat.lt_of_lt_of_le (hlow8 z hz) hc.size
      have HT79 := Lib.hid hT79
      have HO79 := Lib.hid hown79
      clear c0 c1 c2 c3 c4 c5 c6 c7 d0 d1 d2 d3 d4 d5 d6 d7 hs0 hs1 HVX HXX HPX
      clear hT79 hown79 HY7 HO8
      refine wpList_plain rfl (fun K hK => ?_)
      go_step
      refine hK _ _ ?_
      clear hK K
      refine wpList_plain rfl (fun K hK => ?_)
      go_step
      refine hK _ _ ?_
      clear hK K
      refine wpList_plain rfl (fun K hK => ?_)
      go_step
      refine hK _ _ ?_
      clear hK K
      refine wpList_plain rfl (fun K hK => ?_)
      go_step
      have hba : Below w9.heap.size w9 (w9.alloc (.cells cells0 60)) := (Below.refl _ _).alloc (Nat.le_refl _) _
      have hT := heap_new w9 (.cells cells0 60)
      obtain ⟨wy, hW⟩ : ∃ y, w9.alloc (.cells cells0 60) = y := ⟨_, rfl⟩
      rw [hW] at hba hT
      have e : w9.alloc (.cells cells0 60) = wy := hW
      clear hW
      rw [e]
      clear e
      refine hK _ _ ?_
      clear hK K
      obtain ⟨T9, hTq⟩ : ∃ a, a = w9.heap.size := ⟨_, rfl⟩
      rw [← hTq] at hT ⊢
      refine wpList_plain rfl (fun K hK => ?_)
      refine wp_store_row (P := Try.prog) 60 (.tmp 9) (.tmp 49) rfl T9 (vcells yk yb yi yf yt yty yqp yits.length yqc yqq yfs.length yqd) rfl rfl 60 _ hT (by kernel_rfl) rfl (vcells_one ..) ?_
      refine hK _ _ ?_
      clear hK K
      have hTn : (wy.setRow T9 (vcells yk yb yi yf yt yty yqp yits.length yqc yqq yfs.length yqd)).heap[T9]? = some (.cells (vcells yk yb yi yf yt yty yqp yits.length yqc yqq yfs.length yqd) 60 (0, 0)) := setRow_heap _ _ _ _ _ _ hT
      have hbT : Below w9.heap.size w9 (wy.setRow T9 (vcells yk yb yi yf yt yty yqp yits.length yqc yqq yfs.length yqd)) := below_setRow hba (by omega) _
      clear hT hba
      generalize wy.setRow T9 (vcells yk yb yi yf yt yty yqp yits.length yqc yqq yfs.length yqd) = w10 at *
      have hb_w10 : Below wa.heap.size wa w10 := hb_w9.trans (hbT.mono hb_w9.size)
      have hT9 : wa.heap.size ≤ T9 := by have := hb_w9.size; omega
      have hown9 : OwnV w10 (.mk yk yb yi yf yt yty yits yfs) (vcells yk yb yi yf yt yty yqp yits.length yqc yqq yfs.length yqd) bs9 := HOWN.out.kept (fun z hz => hbT.block z (hlow z hz).2)
      have hlow9 : ∀ z ∈ bs9, z < w10.heap.size := fun z hz => Nat.lt_of_lt_of_le (hlow z hz).2 hbT.size
      have hown7 : OwnV w10 (.mk yk yb yi yf yt yty yits yfs) (vcells yk yb yi yf yt yty ypp yits.length ypc ypq yfs.length ypd) bs7 := HO79.out.kept (fun z hz => hbT.block z (hlow79 z hz))
      have hlow7 : ∀ z ∈ bs7, z < w10.heap.size := fun z hz => Nat.lt_of_lt_of_le (hlow79 z hz) hbT.size
      have hT710 : w10.heap[T7]? = some (.cells (vcells yk yb yi yf yt yty ypp yits.length ypc ypq yfs.length ypd) 60 (0, 0)) := (hbT.block T7 (Array.getElem?_eq_some_iff.1 HT79.out).1).trans HT79.out
      have hT79 : T7 < T9 := by have := (Array.getElem?_eq_some_iff.1 HT79.out).1; omega
      have hoky : okV (.mk yk yb yi yf yt yty yits yfs) := by
        rw [← hy]
        cases hg : getV v0 path with
        | none => exact ⟨by decide, trivial, trivial⟩
        | some z => exact (getV_size hg).2 HOK.out
      have HW := Lib.hid (Whole_same _ _ (Nat.le_refl _) hoky _ _ w10 (hown7.isV hlow7) (hown9.isV hlow9))
      have HT7 := Lib.hid hT710
      have HT9 := Lib.hid hTn
      obtain ⟨g0, g1, g2, g3, g4, g5, g6, g7⟩ := (block_of_cells hT710).all0
      obtain ⟨k0, k1, k2, k3, k4, k5, k6, k7⟩ := (block_of_cells hTn).all0
      have ht7 := (Array.getElem?_eq_some_iff.1 hT710).1
      have ht9 := (Array.getElem?_eq_some_iff.1 hTn).1
      clear hTn hT710 hown7 hown9 hlow7 hlow9 hbT hTq hc hlow HOWN HT79 HO79 hlow79 hlow8 hoky
      refine wpList_plain rfl (fun K hK => ?_)
      go_step
      refine hK _ _ ?_
      clear hK K
      go_upto_region 10 with (go_at_call 29; refine HW.out.mono ?_; rintro e w11 ⟨rfl, hc⟩)
      have hb_w11 := hb_w10.trans (hc.mono hb_w10.size)
      have hT711 : w11.heap[T7]? = some (.cells (vcells yk yb yi yf yt yty ypp yits.length ypc ypq yfs.length ypd) 60 (0, 0)) := (hc.block T7 ht7).trans HT7.out
      have hT911 : w11.heap[T9]? = some (.cells (vcells yk yb yi yf yt yty yqp yits.length yqc yqq yfs.length yqd) 60 (0, 0)) := (hc.block T9 ht9).trans HT9.out
      clear g0 g1 g2 g3 g4 g5 g6 g7 k0 k1 k2 k3 k4 k5 k6 k7 HW HT7 HT9 hc ht7 ht9
      have h0 : w11.heap[w.heap.size]? = some (.cells (vcells k b i f t ty p its.length c q fs.length d) 60 (0, 0)) := by rw [hb_w11.block _ (by have := HSZ.out; omega)]; exact H0.out
      have h1 : w11.heap[w.heap.size + 1]? = some (.cells (vcells xk xb xi xf xt xty xp xits.length xc xq xfs.length xd) 60 (0, 0)) := by rw [hb_w11.block _ (by have := HSZ.out; omega)]; exact H1.out
      obtain ⟨c0, c1, c2, c3, c4, c5, c6, c7⟩ := (block_of_cells h0).all0
      obtain ⟨d0, d1, d2, d3, d4, d5, d6, d7⟩ := (block_of_cells h1).all0
      have hs0 : w.heap.size < w11.heap.size := (Array.getElem?_eq_some_iff.1 h0).1
      have hs1 : w.heap.size + 1 < w11.heap.size := (Array.getElem?_eq_some_iff.1 h1).1
      have hw_w11 := hwa.trans (hb_w11.mono hwa.size)
      have HVX := Lib.hid (HV0.out.on hw_w11)
      have HXX := Lib.hid (HX0.out.on hw_w11)
      have HPX := Lib.hid (StepsAt.on HP0.out hw_w11)
      clear h0 h1 hw_w11
      go_step
      refine wpList_plain rfl (fun K hK => ?_)
      go_step
      refine hK _ _ ?_
      clear hK K
      refine wpList_plain rfl (fun K hK => ?_)
      go_step
      refine hK _ _ ?_
      clear hK K
      refine wpList_plain rfl (fun K hK => ?_)
      go_step
      refine hK _ _ ?_
      clear hK K
      refine wpList_plain rfl (fun K hK => ?_)
      go_step
      refine (Set_any v0 path x0 _ _ _ cap _ HVX.out HXX.out HPX.out hl1 hsv hsx).mono ?_
      rintro e w12 ⟨cs12, bs12, rfl, hown, -, hlow, hc⟩
      generalize hzq : (setV v0 path x0).getD V0 = z at hown
      generalize hokz : (setV v0 path x0).isSome = okz
      refine hK _ _ ?_
      clear hK K
      obtain ⟨zk, zb, zi, zf, zt, zty, zits, zfs⟩ := z
      have HOWN := Lib.hid hown
      obtain ⟨zpp, zpc, zpq, zpd, _, _, rfl, _⟩ := hown
      have hb_w12 := hb_w11.trans (hc.mono hb_w11.size)
      have ht7 := (Array.getElem?_eq_some_iff.1 hT711).1
      have ht9 := (Array.getElem?_eq_some_iff.1 hT911).1
      have hT712 : w12.heap[T7]? = some (.cells (vcells yk yb yi yf yt yty ypp yits.length ypc ypq yfs.length ypd) 60 (0, 0)) := (hc.block T7 ht7).trans hT711
      have hT912 : w12.heap[T9]? = some (.cells (vcells yk yb yi yf yt yty yqp yits.length yqc yqq yfs.length yqd) 60 (0, 0)) := (hc.block T9 ht9).trans hT911
      clear c0 c1 c2 c3 c4 c5 c6 c7 d0 d1 d2 d3 d4 d5 d6 d7 hs0 hs1 HVX HXX HPX
      clear hT711 hT911
      refine wpList_plain rfl (fun K hK => ?_)
      go_step
      refine hK _ _ ?_
      clear hK K
      refine wpList_plain rfl (fun K hK => ?_)
      go_step
      refine hK _ _ ?_
      clear hK K
      refine wpList_plain rfl (fun K hK => ?_)
      go_step
      refine hK _ _ ?_
      clear hK K
      refine wpList_plain rfl (fun K hK => ?_)
      refine wp_store_row (P := Try.prog) 60 (.tmp 7) (.tmp 65) rfl T7 (vcells zk zb zi zf zt zty zpp zits.length zpc zpq zfs.length zpd) rfl rfl 60 _ hT712 (by kernel_rfl) rfl (vcells_one ..) ?_
      refine hK _ _ ?_
      clear hK K
      have hT713 : (w12.setRow T7 (vcells zk zb zi zf zt zty zpp zits.length zpc zpq zfs.length zpd)).heap[T7]? = some (.cells (vcells zk zb zi zf zt zty zpp zits.length zpc zpq zfs.length zpd) 60 (0, 0)) := setRow_heap _ _ _ _ _ _ hT712
      have hT913 : (w12.setRow T7 (vcells zk zb zi zf zt zty zpp zits.length zpc zpq zfs.length zpd)).heap[T9]? = some (.cells (vcells yk yb yi yf yt yty yqp yits.length yqc yqq yfs.length yqd) 60 (0, 0)) := (setRow_other _ _ _ _ (by omega)).trans hT912
      have hb_w13 : Below wa.heap.size wa (w12.setRow T7 (vcells zk zb zi zf zt zty zpp zits.length zpc zpq zfs.length zpd)) := below_setRow hb_w12 hT7 _
      have hown13 : OwnV (w12.setRow T7 (vcells zk zb zi zf zt zty zpp zits.length zpc zpq zfs.length zpd)) (.mk zk zb zi zf zt zty zits zfs) (vcells zk zb zi zf zt zty zpp zits.length zpc zpq zfs.length zpd) bs12 := HOWN.out.kept (Kept.setRow (fun _ _ => rfl) (fun h => by have := (hlow _ h).1; omega) _)
      have hz13 := setRow_size w12 T7 (vcells zk zb zi zf zt zty zpp zits.length zpc zpq zfs.length zpd)
      have hlow13 : ∀ z ∈ bs12, T9 < z ∧ z < (w12.setRow T7 (vcells zk zb zi zf zt zty zpp zits.length zpc zpq zfs.length zpd)).heap.size := fun z hz => by have := hlow z hz; omega
      clear hT712 hT912 hc hlow HOWN ht7 ht9
      generalize w12.setRow T7 (vcells zk zb zi zf zt zty zpp zits.length zpc zpq zfs.length zpd) = w13 at *
      have HT713 := Lib.hid hT713
      have HT913 := Lib.hid hT913
      have HO13 := Lib.hid hown13
      clear hT713 hT913 hown13 hz13
      refine wpList_plain rfl (fun K hK => ?_)
      go_step
      refine hK _ _ ?_
      clear hK K
      go_upto_region 11 with (fail)
      have h0 : w13.heap[w.heap.size]? = some (.cells (vcells k b i f t ty p its.length c q fs.length d) 60 (0, 0)) := by rw [hb_w13.block _ (by have := HSZ.out; omega)]; exact H0.out
      have h1 : w13.heap[w.heap.size + 1]? = some (.cells (vcells xk xb xi xf xt xty xp xits.length xc xq xfs.length xd) 60 (0, 0)) := by rw [hb_w13.block _ (by have := HSZ.out; omega)]; exact H1.out
      obtain ⟨c0, c1, c2, c3, c4, c5, c6, c7⟩ := (block_of_cells h0).all0
      obtain ⟨d0, d1, d2, d3, d4, d5, d6, d7⟩ := (block_of_cells h1).all0
      have hs0 : w.heap.size < w13.heap.size := (Array.getElem?_eq_some_iff.1 h0).1
      have hs1 : w.heap.size + 1 < w13.heap.size := (Array.getElem?_eq_some_iff.1 h1).1
      have hw_w13 := hwa.trans (hb_w13.mono hwa.size)
      have HVX := Lib.hid (HV0.out.on hw_w13)
      have HXX := Lib.hid (HX0.out.on hw_w13)
      have HPX := Lib.hid (StepsAt.on HP0.out hw_w13)
      clear h0 h1 hw_w13
      go_step
      refine wpList_plain rfl (fun K hK => ?_)
      go_step
      refine hK _ _ ?_
      clear hK K
      refine wpList_plain rfl (fun K hK => ?_)
      go_step
      refine hK _ _ ?_
      clear hK K
      refine wpList_plain rfl (fun K hK => ?_)
      go_step
      refine hK _ _ ?_
      clear hK K
      refine wpList_plain rfl (fun K hK => ?_)
      go_step
      refine (refSet_any path v0 x0 _ _ _ cap _ HVX.out HXX.out HPX.out hl hcap hsv hsx).mono ?_
      rintro e w14 ⟨cs14, bs14, rfl, hown, -, hlow, hc⟩
      rw [hzq] at hown
      rw [hokz]
      refine hK _ _ ?_
      clear hK K
      have HOWN := Lib.hid hown
      obtain ⟨zqp, zqc, zqq, zqd, _, _, rfl, _⟩ := hown
      have hb_w14 := hb_w13.trans (hc.mono hb_w13.size)
      have ht7 := (Array.getElem?_eq_some_iff.1 HT713.out).1
      have ht9 := (Array.getElem?_eq_some_iff.1 HT913.out).1
      have hT714 : w14.heap[T7]? = some (.cells (vcells zk zb zi zf zt zty zpp zits.length zpc zpq zfs.length zpd) 60 (0, 0)) := (hc.block T7 ht7).trans HT713.out
      have hT914 : w14.heap[T9]? = some (.cells (vcells yk yb yi yf yt yty yqp yits.length yqc yqq yfs.length yqd) 60 (0, 0)) := (hc.block T9 ht9).trans HT913.out
      have hown714 : OwnV w14 (.mk zk zb zi zf zt zty zits zfs) (vcells zk zb zi zf zt zty zpp zits.length zpc zpq zfs.length zpd) bs12 := HO13.out.kept (fun z hz => hc.block z (hlow13 z hz).2)
      have hlow714 : ∀ z ∈ bs12, T9 < z ∧ z < w14.heap.size := fun z hz => ⟨(hlow13 z hz).1, Nat.lt_of_lt_of_le (hlow13 z hz).2 hc.size⟩
      clear c0 c1 c2 c3 c4 c5 c6 c7 d0 d1 d2 d3 d4 d5 d6 d7 hs0 hs1 HVX HXX HPX
      clear HT713 HT913 HO13 hlow13
      refine wpList_plain rfl (fun K hK => ?_)
      go_step
      refine hK _ _ ?_
      clear hK K
      refine wpList_plain rfl (fun K hK => ?_)
      go_step
      refine hK _ _ ?_
      clear hK K
      refine wpList_plain rfl (fun K hK => ?_)
      go_step
      refine hK _ _ ?_
      clear hK K
      refine wpList_plain rfl (fun K hK => ?_)
      refine wp_store_row (P := Try.prog) 60 (.tmp 9) (.tmp 72) rfl T9 (vcells zk zb zi zf zt zty zqp zits.length zqc zqq zfs.length zqd) rfl rfl 60 _ hT914 (by kernel_rfl) rfl (vcells_one ..) ?_
      refine hK _ _ ?_
      clear hK K
      have hT715 : (w14.setRow T9 (vcells zk zb zi zf zt zty zqp zits.length zqc zqq zfs.length zqd)).heap[T7]? = some (.cells (vcells zk zb zi zf zt zty zpp zits.length zpc zpq zfs.length zpd) 60 (0, 0)) := (setRow_other _ _ _ _ (by omega)).trans hT714
      have hT915 : (w14.setRow T9 (vcells zk zb zi zf zt zty zqp zits.length zqc zqq zfs.length zqd)).heap[T9]? = some (.cells (vcells zk zb zi zf zt zty zqp zits.length zqc zqq zfs.length zqd) 60 (0, 0)) := setRow_heap _ _ _ _ _ _ hT914
      have hb_w15 : Below wa.heap.size wa (w14.setRow T9 (vcells zk zb zi zf zt zty zqp zits.length zqc zqq zfs.length zqd)) := below_setRow hb_w14 hT9 _
      have hown15 : OwnV (w14.setRow T9 (vcells zk zb zi zf zt zty zqp zits.length zqc zqq zfs.length zqd)) (.mk zk zb zi zf zt zty zits zfs) (vcells zk zb zi zf zt zty zqp zits.length zqc zqq zfs.length zqd) bs14 := HOWN.out.kept (Kept.setRow (fun _ _ => rfl) (fun h => by have := (hlow _ h).1; omega) _)
      have hown715 : OwnV (w14.setRow T9 (vcells zk zb zi zf zt zty zqp zits.length zqc zqq zfs.length zqd)) (.mk zk zb zi zf zt zty zits zfs) (vcells zk zb zi zf zt zty zpp zits.length zpc zpq zfs.length zpd) bs12 := hown714.kept (Kept.setRow (fun _ _ => rfl) (fun h => by have := (hlow714 _ h).1; omega) _)
      have hz15 := setRow_size w14 T9 (vcells zk zb zi zf zt zty zqp zits.length zqc zqq zfs.length zqd)
      have hlow15 : ∀ z ∈ bs14, z < (w14.setRow T9 (vcells zk zb zi zf zt zty zqp zits.length zqc zqq zfs.length zqd)).heap.size := fun z hz => by have := (hlow z hz).2; omega
      have hlow715 : ∀ z ∈ bs12, z < (w14.setRow T9 (vcells zk zb zi zf zt zty zqp zits.length zqc zqq zfs.length zqd)).heap.size := fun z hz => by have := (hlow714 z hz).2; omega
      clear hT714 hT914 hc hlow HOWN ht7 ht9 hown714 hlow714 hz15
      generalize w14.setRow T9 (vcells zk zb zi zf zt zty zqp zits.length zqc zqq zfs.length zqd) = w15 at *
      have hokzz : okV (.mk zk zb zi zf zt zty zits zfs) := by
        rw [← hzq]
        cases hg : setV v0 path x0 with
        | none => exact ⟨by decide, trivial, trivial⟩
        | some z => exact okV_setV HOK.out HOX.out hg
      have HW := Lib.hid (Whole_same _ _ (Nat.le_refl _) hokzz _ _ w15 (hown715.isV hlow715) (hown15.isV hlow15))
      obtain ⟨g0, g1, g2, g3, g4, g5, g6, g7⟩ := (block_of_cells hT715).all0
      obtain ⟨k0, k1, k2, k3, k4, k5, k6, k7⟩ := (block_of_cells hT915).all0
      have hfin := hwa.trans (hb_w15.mono hwa.size)
      clear hT715 hT915 hown715 hown15 hlow715 hlow15 hokzz
      refine wpList_plain rfl (fun K hK => ?_)
      go_step
      refine hK _ _ ?_
      clear hK K
      go_wp2_with (go_at_call 29; refine HW.out.mono ?_; rintro e w16 ⟨rfl, hc⟩)
      go_ret
      exact ⟨rfl, hfin.trans (hc.mono hfin.size)⟩
end Go.Proofs.Ytnmnmkdmnohbmaa
