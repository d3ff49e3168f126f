/- TreeCounts: the walk: the statement answers true of any value. Conditions: none. -/
import Derived.Test.YtnmnmkdmnohbmaaTreeEqual
import Derived.Test.YtnmnmkdmnohbmaaRefCount
namespace Go.Proofs.Ytnmnmkdmnohbmaa
open Go.RowKit
attribute [local go_sem] run_store_float

/-- The list of a value twice. -/
def twiceV (v : V) : V := .mk 5 false 0 0 ⟨#[]⟩ ⟨#[]⟩ [v, v] []

theorem cnt_twice (v : V) : cntV (twiceV v) = 1 + 2 * cntV v := by
  have h : kd 5 = 5 := by decide
  simp only [twiceV, cntV, cntVs, h, if_true]
  omega
theorem dep_twice (v : V) : depV (twiceV v) = 1 + depV v := by
  have h : kd 5 = 5 := by decide
  simp only [twiceV, depV, depVs, h, if_true]
  omega
theorem sz_twice (v : V) : szV (twiceV v) = 3 + 2 * szV v := by
  simp only [twiceV, szV, szV.szVs, szV.szFs, List.length_cons, List.length_nil]
  omega

theorem isV_twice {B : Nat} {w : World} {v : V} {cs : Array Value} {g : Nat} (hg : g < B) (hv : IsV B w v cs) (h0 : CellsAt w g 0 cs) (h1 : CellsAt w g 8 cs) : IsV B w (twiceV v) (vcells 5 false 0 0 ⟨#[]⟩ ⟨#[]⟩ (some ⟨g, 0, none⟩) 2 2 none 0 0) :=
  ⟨some ⟨g, 0, none⟩, 2, none, 0, rfl, .inr ⟨g, 0, rfl, hg, ⟨cs, h0, hv⟩, ⟨cs, h1, hv⟩, trivial⟩, .inl rfl, by simp [lenMax], by simp [lenMax]⟩

theorem CellsAt.left {w : World} {g o : Nat} {A B : Array Value} (h : CellsAt w g o (A ++ B)) : CellsAt w g o A := fun j x hx =>
  h j x (by rw [Array.getElem?_append_left (Array.getElem?_eq_some_iff.1 hx).1]; exact hx)
theorem CellsAt.right {w : World} {g o : Nat} {A B : Array Value} (h : CellsAt w g o (A ++ B)) : CellsAt w g (o + A.size) B := fun j x hx => by
  have := h (A.size + j) x (by rw [Array.getElem?_append_right (by omega)]; simpa using hx)
  rw [← Nat.add_assoc] at this
  exact this

set_option maxRecDepth 100000 in
set_option maxHeartbeats 4000000 in
theorem TreeCounts_walk (x : V) (cs : Array Value) (w : World) (hv : IsV w.heap.size w x cs) :
    Calls Try.prog 10 #[.agg cs] w (RetB (.bool true) w) := by
  have HV := Lib.hid hv
  obtain ⟨k, b, i, f, t, ty, p, n, c, q, m, d, rfl⟩ := isV_shape hv
  clear hv
  have hwa : Below w.heap.size w (w.alloc (.cells (vcells k b i f t ty p n c q m d) 60)) := (Below.refl _ _).alloc (Nat.le_refl _) _
  have hal := cellsAt_alloc w (vcells k b i f t ty p n c q m d) 60 (0, 0)
  have hs0 : w.heap.size < (w.alloc (.cells (vcells k b i f t ty p n c q m d) 60)).heap.size := by simp
  go_enter Try.func10, Try.ntmps10
  have tk := trivial
  go_wp2_with (go_at_call 40; clear tk; refine (known_any _).mono ?_; rintro _ w1 ⟨rfl, hb1⟩; obtain ⟨c0, c1, c2, c3, c4, c5, c6, c7⟩ := (hal.below hb1 hs0).all0)
  generalize w.alloc (.cells (vcells k b i f t ty p n c q m d) 60) = wa at *
  have HWA := Lib.hid hwa
  clear hwa
  have tk := trivial
  by_cases hz1 : 100000 < sizeR x 100000
  · go_wp2_with (go_at_call 27; clear tk; refine (Size_any _ x (Nat.le_refl _) _ _ 100000 (HV.out.on (HWA.out.trans (hb1.mono HWA.out.size))) (by decide) (by decide)).mono ?_; rintro _ w2 ⟨rfl, hb2⟩)
    go_ret
    exact ⟨rfl, (HWA.out.trans (hb1.mono HWA.out.size)).trans (hb2.mono (Nat.le_trans HWA.out.size hb1.size))⟩
  · have hsx : szV x ≤ 100000 := by have := sizeR_eq x 100000 (by omega); omega
    go_wp2_with (go_at_call 27; clear tk; refine (Size_any _ x (Nat.le_refl _) _ _ 100000 (HV.out.on (HWA.out.trans (hb1.mono HWA.out.size))) (by decide) (by decide)).mono ?_; rintro _ w2 ⟨rfl, hb2⟩; replace hb2 := hb1.trans (hb2.mono hb1.size); obtain ⟨d0, d1, d2, d3, d4, d5, d6, d7⟩ := (hal.below hb2 hs0).all0)
    have hp2 := hb2.mono (Nat.le_refl _)
    have hb20 : Below w2.heap.size w2 ((w2.alloc (.cells #[.int .i64 k, .bool b, .int .i64 i, .float .f64 f, .string t, .string ty, .slice p n c, .slice q m d, .int .i64 k, .bool b, .int .i64 i, .float .f64 f, .string t, .string ty, .slice p n c, .slice q m d] 60)).alloc (.cells (vcells 5 false 0 0 ⟨#[]⟩ ⟨#[]⟩ (some ⟨w2.heap.size, 0, none⟩) 2 2 none 0 0) 60)) := ((Below.refl _ _).alloc (Nat.le_refl _) _).alloc (by simp) _
    have hcL : CellsAt ((w2.alloc (.cells #[.int .i64 k, .bool b, .int .i64 i, .float .f64 f, .string t, .string ty, .slice p n c, .slice q m d, .int .i64 k, .bool b, .int .i64 i, .float .f64 f, .string t, .string ty, .slice p n c, .slice q m d] 60)).alloc (.cells (vcells 5 false 0 0 ⟨#[]⟩ ⟨#[]⟩ (some ⟨w2.heap.size, 0, none⟩) 2 2 none 0 0) 60)) (w2.heap.size + 1) 0 (vcells 5 false 0 0 ⟨#[]⟩ ⟨#[]⟩ (some ⟨w2.heap.size, 0, none⟩) 2 2 none 0 0) := by have := cellsAt_alloc (w2.alloc (.cells #[.int .i64 k, .bool b, .int .i64 i, .float .f64 f, .string t, .string ty, .slice p n c, .slice q m d, .int .i64 k, .bool b, .int .i64 i, .float .f64 f, .string t, .string ty, .slice p n c, .slice q m d] 60)) (vcells 5 false 0 0 ⟨#[]⟩ ⟨#[]⟩ (some ⟨w2.heap.size, 0, none⟩) 2 2 none 0 0) 60 (0, 0); simpa using this
    have hc0 : CellsAt ((w2.alloc (.cells #[.int .i64 k, .bool b, .int .i64 i, .float .f64 f, .string t, .string ty, .slice p n c, .slice q m d, .int .i64 k, .bool b, .int .i64 i, .float .f64 f, .string t, .string ty, .slice p n c, .slice q m d] 60)).alloc (.cells (vcells 5 false 0 0 ⟨#[]⟩ ⟨#[]⟩ (some ⟨w2.heap.size, 0, none⟩) 2 2 none 0 0) 60)) w2.heap.size 0 #[.int .i64 k, .bool b, .int .i64 i, .float .f64 f, .string t, .string ty, .slice p n c, .slice q m d, .int .i64 k, .bool b, .int .i64 i, .float .f64 f, .string t, .string ty, .slice p n c, .slice q m d] := (cellsAt_alloc w2 #[.int .i64 k, .bool b, .int .i64 i, .float .f64 f, .string t, .string ty, .slice p n c, .slice q m d, .int .i64 k, .bool b, .int .i64 i, .float .f64 f, .string t, .string ty, .slice p n c, .slice q m d] 60 (0, 0)).below ((Below.refl (w2.alloc (.cells #[.int .i64 k, .bool b, .int .i64 i, .float .f64 f, .string t, .string ty, .slice p n c, .slice q m d, .int .i64 k, .bool b, .int .i64 i, .float .f64 f, .string t, .string ty, .slice p n c, .slice q m d] 60)).heap.size (w2.alloc (.cells #[.int .i64 k, .bool b, .int .i64 i, .float .f64 f, .string t, .string ty, .slice p n c, .slice q m d, .int .i64 k, .bool b, .int .i64 i, .float .f64 f, .string t, .string ty, .slice p n c, .slice q m d] 60))).alloc (Nat.le_refl _) (.cells (vcells 5 false 0 0 ⟨#[]⟩ ⟨#[]⟩ (some ⟨w2.heap.size, 0, none⟩) 2 2 none 0 0) 60)) (by simp)
    have hsW : w2.heap.size + 1 < ((w2.alloc (.cells #[.int .i64 k, .bool b, .int .i64 i, .float .f64 f, .string t, .string ty, .slice p n c, .slice q m d, .int .i64 k, .bool b, .int .i64 i, .float .f64 f, .string t, .string ty, .slice p n c, .slice q m d] 60)).alloc (.cells (vcells 5 false 0 0 ⟨#[]⟩ ⟨#[]⟩ (some ⟨w2.heap.size, 0, none⟩) 2 2 none 0 0) 60)).heap.size := by simp
    generalize hWn : ((w2.alloc (.cells #[.int .i64 k, .bool b, .int .i64 i, .float .f64 f, .string t, .string ty, .slice p n c, .slice q m d, .int .i64 k, .bool b, .int .i64 i, .float .f64 f, .string t, .string ty, .slice p n c, .slice q m d] 60)).alloc (.cells (vcells 5 false 0 0 ⟨#[]⟩ ⟨#[]⟩ (some ⟨w2.heap.size, 0, none⟩) 2 2 none 0 0) 60)) = W at *
    have hc1 := CellsAt.left (A := (vcells k b i f t ty p n c q m d)) (B := (vcells k b i f t ty p n c q m d)) hc0
    have hc2 : CellsAt W w2.heap.size 8 (vcells k b i f t ty p n c q m d) := CellsAt.right (A := (vcells k b i f t ty p n c q m d)) (B := (vcells k b i f t ty p n c q m d)) hc0
    have hbW := hb2.trans (hb20.mono hb2.size)
    have hww := HWA.out.trans (hbW.mono HWA.out.size)
    have hX : IsV W.heap.size W x (vcells k b i f t ty p n c q m d) := HV.out.on hww
    have hT : IsV W.heap.size W (twiceV x) (vcells 5 false 0 0 ⟨#[]⟩ ⟨#[]⟩ (some ⟨w2.heap.size, 0, none⟩) 2 2 none 0 0) := isV_twice (Nat.lt_of_succ_lt hsW) hX hc1 hc2
    clear c0 c1 c2 c3 c4 c5 c6 c7 d0 d1 d2 d3 d4 d5 d6 d7 hc0 hc1 hc2 hb20
    obtain ⟨x0, x1, x2, x3, x4, x5, x6, x7⟩ := (hal.below hbW hs0).all0
    obtain ⟨z0, z1, z2, z3, z4, z5, z6, z7⟩ := hcL.all0
    have q0 : w.heap.size < W.heap.size := Nat.lt_of_lt_of_le hs0 hbW.size
    have hcn : cntV x ≤ 100000 := Nat.le_trans (cntV_le x) hsx
    have hdn : depV x ≤ 100000 := Nat.le_trans (depV_le x) hsx
    have C1 := Lib.hid (show ∀ w', Below W.heap.size W w' → Calls Try.prog 46 #[.agg (vcells k b i f t ty p n c q m d)] w' (RetB (.int .i64 (cntV x)) w') from fun w' h => Count_any _ x (Nat.le_refl _) _ w' (hX.on h) (by omega))
    have C2 := Lib.hid (show ∀ w', Below W.heap.size W w' → Calls Try.prog 48 #[.agg (vcells k b i f t ty p n c q m d)] w' (RetB (.int .i64 (cntV x)) w') from fun w' h => refCount_any _ x (Nat.le_refl _) _ w' (hX.on h) (by omega))
    have C3 := Lib.hid (show ∀ w', Below W.heap.size W w' → Calls Try.prog 47 #[.agg (vcells k b i f t ty p n c q m d)] w' (RetB (.int .i64 (depV x)) w') from fun w' h => Depth_any _ x (Nat.le_refl _) _ w' (hX.on h) (by omega))
    have C4 := Lib.hid (show ∀ w', Below W.heap.size W w' → Calls Try.prog 49 #[.agg (vcells k b i f t ty p n c q m d)] w' (RetB (.int .i64 (depV x)) w') from fun w' h => refDepth_any _ x (Nat.le_refl _) _ w' (hX.on h) (by omega))
    have C5 := Lib.hid (show ∀ w', Below W.heap.size W w' → Calls Try.prog 46 #[.agg (vcells 5 false 0 0 ⟨#[]⟩ ⟨#[]⟩ (some ⟨w2.heap.size, 0, none⟩) 2 2 none 0 0)] w' (RetB (.int .i64 (1 + 2 * (cntV x : Int))) w') from fun w' h => by have := Count_any _ (twiceV x) (Nat.le_refl _) _ w' (hT.on h) (by rw [sz_twice]; omega); rw [cnt_twice] at this; exact_mod_cast this)
    have C6 := Lib.hid (show ∀ w', Below W.heap.size W w' → Calls Try.prog 47 #[.agg (vcells 5 false 0 0 ⟨#[]⟩ ⟨#[]⟩ (some ⟨w2.heap.size, 0, none⟩) 2 2 none 0 0)] w' (RetB (.int .i64 (1 + (depV x : Int))) w') from fun w' h => by have := Depth_any _ (twiceV x) (Nat.le_refl _) _ w' (hT.on h) (by rw [sz_twice]; omega); rw [dep_twice] at this; exact_mod_cast this)
    generalize cntV x = cn at *
    generalize depV x = dn at *
    clear hX hT hb1 hb2 hbW HV hp2
    refine wp_region_plan_below 30 [(0, [0, 2]), (1, [1, 3, 4, 5]), (0, [6, 8]), (1, [7, 9, 10, 11, 12]), (0, [13, 15]), (1, [14, 16, 17, 18, 19, 20, 21]), (0, [22, 24]), (1, [23, 25, 26, 27, 28, 29])] (by kernel_rfl) (by kernel_rfl) (fun _ _ _ _ h => h) ?_
    simp only [wpSegs, pickOps, List.getElem?_toArray, List.getElem?_cons_zero, List.getElem?_cons_succ]
    have kc := cell_cls W
    have hk0 := (Below.drew (Below.refl W.heap.size W))
    iterate 2 (go_big_quiet_step (fail))
    refine wpQuiet_nil ?_
    refine wpListC_plain rfl (fun K hK => ?_)
    go_step
    refine (C1.out _ hk0).mono ?_
    rintro e wW1 ⟨rfl, hbc⟩
    have hk1 := hk0.trans (hbc.mono hk0.size)
    refine hK _ _ (cls_of_below hk1) ?_
    clear hK K hbc
    refine wpListC_plain rfl (fun K hK => ?_)
    go_step
    refine (C2.out _ hk1).mono ?_
    rintro e wW2 ⟨rfl, hbc⟩
    have hk2 := hk1.trans (hbc.mono hk1.size)
    refine hK _ _ (cls_of_below hk2) ?_
    clear hK K hbc
    refine wpListC_plain rfl (fun K hK => ?_)
    go_step
    refine hK _ _ (cls_of_below hk2) ?_
    clear hK K
    refine wpListC_plain rfl (fun K hK => ?_)
    go_step
    refine hK _ _ (cls_of_below hk2) ?_
    clear hK K
    refine wpListC_nil ?_
    iterate 2 (go_big_quiet_step (fail))
    refine wpQuiet_nil ?_
    refine wpListC_want (by rfl) (fun K hK => ?_)
    go_step
    refine (C3.out _ hk2).mono ?_
    rintro e wW3 ⟨rfl, hbc⟩
    have hk3 := hk2.trans (hbc.mono hk2.size)
    refine hK _ _ (cls_of_below hk3) ?_
    clear hK K hbc
    refine wpListC_want (by rfl) (fun K hK => ?_)
    go_step
    refine (C4.out _ hk3).mono ?_
    rintro e wW4 ⟨rfl, hbc⟩
    have hk4 := hk3.trans (hbc.mono hk3.size)
    refine hK _ _ (cls_of_below hk4) ?_
    clear hK K hbc
    refine wpListC_want (by rfl) (fun K hK => ?_)
    go_step
    refine hK _ _ (cls_of_below hk4) ?_
    clear hK K
    refine wpListC_plain rfl (fun K hK => ?_)
    go_step
    refine hK _ _ (cls_of_below hk4) ?_
    clear hK K
    refine wpListC_plain rfl (fun K hK => ?_)
    go_step
    refine hK _ _ (cls_of_below hk4) ?_
    clear hK K
    refine wpListC_nil ?_
    iterate 2 (go_big_quiet_step (fail))
    refine wpQuiet_nil ?_
    refine wpListC_want (by rfl) (fun K hK => ?_)
    go_step
    refine (C5.out _ hk4).mono ?_
    rintro e wW5 ⟨rfl, hbc⟩
    have hk5 := hk4.trans (hbc.mono hk4.size)
    refine hK _ _ (cls_of_below hk5) ?_
    clear hK K hbc
    refine wpListC_want (by rfl) (fun K hK => ?_)
    go_step
    refine (C1.out _ hk5).mono ?_
    rintro e wW6 ⟨rfl, hbc⟩
    have hk6 := hk5.trans (hbc.mono hk5.size)
    refine hK _ _ (cls_of_below hk6) ?_
    clear hK K hbc
    refine wpListC_want (by rfl) (fun K hK => ?_)
    go_step
    refine hK _ _ (cls_of_below hk6) ?_
    clear hK K
    refine wpListC_want (by rfl) (fun K hK => ?_)
    go_step
    refine hK _ _ (cls_of_below hk6) ?_
    clear hK K
    refine wpListC_want (by rfl) (fun K hK => ?_)
    go_step
    refine hK _ _ (cls_of_below hk6) ?_
    clear hK K
    refine wpListC_plain rfl (fun K hK => ?_)
    go_step
    refine hK _ _ (cls_of_below hk6) ?_
    clear hK K
    refine wpListC_plain rfl (fun K hK => ?_)
    go_step
    refine hK _ _ (cls_of_below hk6) ?_
    clear hK K
    refine wpListC_nil ?_
    iterate 2 (go_big_quiet_step (fail))
    refine wpQuiet_nil ?_
    refine wpListC_want (by rfl) (fun K hK => ?_)
    go_step
    refine (C6.out _ hk6).mono ?_
    rintro e wW7 ⟨rfl, hbc⟩
    have hk7 := hk6.trans (hbc.mono hk6.size)
    refine hK _ _ (cls_of_below hk7) ?_
    clear hK K hbc
    refine wpListC_want (by rfl) (fun K hK => ?_)
    go_step
    refine (C3.out _ hk7).mono ?_
    rintro e wW8 ⟨rfl, hbc⟩
    have hk8 := hk7.trans (hbc.mono hk7.size)
    refine hK _ _ (cls_of_below hk8) ?_
    clear hK K hbc
    refine wpListC_want (by rfl) (fun K hK => ?_)
    go_step
    refine hK _ _ (cls_of_below hk8) ?_
    clear hK K
    refine wpListC_want (by rfl) (fun K hK => ?_)
    go_step
    refine hK _ _ (cls_of_below hk8) ?_
    clear hK K
    refine wpListC_plain rfl (fun K hK => ?_)
    go_step
    refine hK _ _ (cls_of_below hk8) ?_
    clear hK K
    refine wpListC_plain rfl (fun K hK => ?_)
    go_step
    refine hK _ _ (cls_of_below hk8) ?_
    clear hK K
    refine wpListC_nil ?_
    clear kc
    go_wp2_with fail
    go_ret
    exact ⟨rfl, hww.trans (hk8.mono hww.size)⟩
end Go.Proofs.Ytnmnmkdmnohbmaa
