/- Helper text: the walk over TreeListsFresh. Conditions: none. -/
import Derived.Test.YtnmnmkdmnohbmaaGreatDoorPackT
namespace Go.Proofs.YtnmnmkdmnohbmaaGreatDoor
open Go Go.RowKit
attribute [local go_sem] run_store_float undef

set_option maxRecDepth 100000 in
set_option maxHeartbeats 16000000 in
theorem TreeLists_walk (v : V) (cs : Array Value) (s : ByteArray) (x y : List LF) (vx vy : Value) (w : World) (hv : IsV w.heap.size w v cs) (hsh : shV v) (ax : ArgF w vx x) (ay : ArgF w vy y) (lx : x.length ≤ 1048576) (ly : y.length ≤ 1048576) (hs : s.size ≤ 1048576) (hT : TabsIn w) (hR : RdW w) :
    Calls Tryz.prog 3 #[.agg cs, .string s, vx, vy] w (RetB (.bool true) w) := by
  have HV := Lib.hid hv
  have HSH := Lib.hid hsh
  have HT := Lib.hid hT
  have HRD := Lib.hid hR
  have AX := Lib.hid ax
  have AY := Lib.hid ay
  have LX := Lib.hid lx
  have LY := Lib.hid ly
  have LS := Lib.hid hs
  obtain ⟨k, b, i, f, t, ty, p, n, c, q, m, d, rfl⟩ := isV_cells hv
  obtain ⟨qx, dx, rfl, _, _⟩ := ax
  obtain ⟨qy, dy, rfl, _, _⟩ := ay
  clear hv hsh hT hR lx ly hs
  obtain ⟨W0, hW0⟩ : ∃ W0, w.alloc (.cells (vcells k b i f t ty p n c q m d) 27) = W0 := ⟨_, rfl⟩
  have hb0 : Below w.heap.size w W0 := by rw [← hW0]; exact (Below.refl _ _).alloc (Nat.le_refl _) _
  have hc0 : CellsAt W0 w.heap.size 0 (vcells k b i f t ty p n c q m d) := by rw [← hW0]; exact cellsAt_alloc _ _ _ _
  have hlt : w.heap.size < W0.heap.size := by rw [← hW0]; simp
  have HB0 := Lib.hid hb0
  have HC0 := Lib.hid hc0
  obtain ⟨a0, a1, a2, a3, a4, a5, a6, a7⟩ := hc0.all0
  have HSZ := Lib.hid (Size_any _ v (Nat.le_refl _) _ W0 100000 (HV.out.on hb0) (by decide) (by decide))
  clear hb0 hc0
  by_cases hz : 100000 < sizeR v 100000
  · have dz : decide (100000 < sizeR v 100000) = true := by simp [hz]
    go_enter Tryz.func3, Tryz.ntmps3
    go_upto_region 1 with fail
    clear hW0
    go_wp2_with (go_at_call 4; refine HSZ.out.mono ?_; rintro _ w4 ⟨rfl, hb4⟩)
    go_ret
    exact ⟨rfl, HB0.out.trans (hb4.mono HB0.out.size)⟩
  have hsv : szV v ≤ 100000 := by have := sizeR_eq v 100000 (by omega); omega
  have dz : decide (100000 < sizeR v 100000) = false := by simp; omega
  have hsl := snd_len _ v (Nat.le_refl _)
  have HSV := Lib.hid hsv
  clear hz hsv
  have HSO := Lib.hid (show ∀ w4, Below w.heap.size w w4 → Calls Tryz.prog 5 #[.agg (vcells k b i f t ty p n c q m d)] w4 (SndP v w4) from fun w4 hb => Sound_any _ v (Nat.le_refl _) _ w4 (HV.out.on hb) (by have := HSV.out; omega) HSH.out (HT.out.on hb))
  have HSR := Lib.hid (show ∀ w4, Below w.heap.size w w4 → Calls Tryz.prog 9 #[.agg (vcells k b i f t ty p n c q m d)] w4 (SndP v w4) from fun w4 hb => refSound_any v _ w4 (HV.out.on hb) (by have := HSV.out; omega) HSH.out)
  unfold SndP at HSO HSR
  have hsl' : (sndV v).1.length ≤ 100000 := by have := HSV.out; omega
  generalize sndV v = S at *
  obtain ⟨path, E⟩ := S
  dsimp only at HSO HSR hsl'
  have HSL := Lib.hid hsl'
  have HPR := Lib.hid (show ∀ w4, Below w.heap.size w w4 → Calls Tryz.prog 6 #[.string s] w4 (ReadQ s w4) from fun w4 hb => PathRead_own s (by have := LS.out; omega) w4 (HRD.out.on hb))
  have HPF := Lib.hid (show ∀ w4, Below w.heap.size w w4 → Calls Tryz.prog 10 #[.string s] w4 (ReadP s w4) from fun w4 hb => refPathRead_any s (by have := LS.out; omega) w4 (HRD.out.on hb).tab)
  unfold ReadQ at HPR
  unfold ReadP at HPF
  clear hsl hsl'
  go_enter Tryz.func3, Tryz.ntmps3
  go_upto_region 1 with fail
  clear hW0
  go_upto_region 3 with (go_at_call 4; refine HSZ.out.mono ?_; rintro _ W1 ⟨rfl, hb1⟩; have HB1 := Lib.hid hb1; clear hb1)
  clear a0 a1 a2 a3 a4 a5 a6 a7 HSZ dz
  have HC1 := Lib.hid (HC0.out.below HB1.out hlt)
  have HW1 := Lib.hid (HB0.out.trans (HB1.out.mono HB0.out.size))
  have hlt1 : w.heap.size < W1.heap.size := Nat.lt_of_lt_of_le hlt HB1.out.size
  clear HB1 HB0 HC0 hlt
  obtain ⟨a0, a1, a2, a3, a4, a5, a6, a7⟩ := HC1.out.all0
  go_upto_region 4 with (go_at_call 5; refine (HSO.out _ HW1.out).mono ?_; rintro _ w2 ⟨sv2, rfl, hr2, hb2⟩; obtain ⟨p2, c2, rfl⟩ := row_slice hr2; have HR2 := Lib.hid hr2; have HB2 := Lib.hid hb2; clear hr2 hb2)
  obtain ⟨W2, eW, hbA, hsA, hxA⟩ := box_new w2 (.cells #[.slice p2 path.length c2] 30)
  rw [eW]
  clear eW
  have HBC2 := Lib.hid (HB2.out.trans (hbA.mono HB2.out.size))
  have HP2 := Lib.hid ((stIn_of HR2.out).on hbA)
  have K2 := Lib.hid hxA
  have HW2 := Lib.hid (HW1.out.trans (HBC2.out.mono HW1.out.size))
  have HC2 := Lib.hid (HC1.out.below HBC2.out hlt1)
  have S2 := Lib.hid (And.intro HB2.out.size hsA)
  have hlt2 : w.heap.size < W2.heap.size := Nat.lt_of_lt_of_le hlt1 HBC2.out.size
  clear hbA hsA hxA HR2 HB2 HC1 a0 a1 a2 a3 a4 a5 a6 a7
  obtain ⟨a0, a1, a2, a3, a4, a5, a6, a7⟩ := HC2.out.all0
  go_upto_region 5 with (go_at_call 5; refine (HSO.out _ HW2.out).mono ?_; rintro _ w3 ⟨sv3, rfl, hr3, hb3⟩; obtain ⟨p3, c3, rfl⟩ := row_slice hr3; have HR3 := Lib.hid hr3; have HB3 := Lib.hid hb3; clear hr3 hb3)
  obtain ⟨W3, eW, hbA, hsA, hxA⟩ := box_new w3 (.cells #[.slice p3 path.length c3] 30)
  rw [eW]
  clear eW
  have HBC3 := Lib.hid (HB3.out.trans (hbA.mono HB3.out.size))
  have HP3 := Lib.hid ((stIn_of HR3.out).on hbA)
  have K3 := Lib.hid hxA
  have HW3 := Lib.hid (HW2.out.trans (HBC3.out.mono HW2.out.size))
  have S3 := Lib.hid (And.intro HB3.out.size hsA)
  clear hbA hsA hxA HR3 HB3 a0 a1 a2 a3 a4 a5 a6 a7 HSO
  go_upto_region 6 with (go_at_call 6; refine (HPR.out _ HW3.out).mono ?_; rintro _ w4 ⟨p4, l4, c4, b4, rfl, hy4, hn4, _, _, _, hb4, hr4⟩; have HR4 := Lib.hid hr4; have HB4 := Lib.hid hb4; have HL4 := Lib.hid (read_getD hy4 hn4); clear hr4 hb4 hy4 hn4)
  obtain ⟨W4, eW, hbA, hsA, hxA⟩ := box_new w4 (.cells #[.slice p4 l4.length c4] 30)
  rw [eW]
  clear eW
  have HBC4 := Lib.hid (HB4.out.trans (hbA.mono HB4.out.size))
  have HP4 := Lib.hid ((stIn_of HR4.out).on hbA)
  have K4 := Lib.hid hxA
  have HW4 := Lib.hid (HW3.out.trans (HBC4.out.mono HW3.out.size))
  have S4 := Lib.hid (And.intro HB4.out.size hsA)
  clear hbA hsA hxA HR4 HB4
  go_upto_region 7 with (go_at_call 6; refine (HPR.out _ HW4.out).mono ?_; rintro _ w5 ⟨p5, l5, c5, b5, rfl, hy5, hn5, _, _, _, hb5, hr5⟩; have HR5 := Lib.hid hr5; have HB5 := Lib.hid hb5; have HL5 := Lib.hid (read_getD hy5 hn5); clear hr5 hb5 hy5 hn5)
  obtain ⟨W5, eW, hbA, hsA, hxA⟩ := box_new w5 (.cells #[.slice p5 l5.length c5] 30)
  rw [eW]
  clear eW
  have HBC5 := Lib.hid (HB5.out.trans (hbA.mono HB5.out.size))
  have HP5 := Lib.hid ((stIn_of HR5.out).on hbA)
  have K5 := Lib.hid hxA
  have HW5 := Lib.hid (HW4.out.trans (HBC5.out.mono HW4.out.size))
  have S5 := Lib.hid (And.intro HB5.out.size hsA)
  clear hbA hsA hxA HR5 HB5 HPR
  have hbig : big = 4194304 := rfl
  have tk := trivial
  go_upto_region 8 with (first
    | (clear tk; go_at_call 7; refine (copyFs x _ _ (AX.out.below HW5.out) (by have := LX.out; omega)).mono ?_; rintro _ w6 ⟨p6, c6, m6, rfl, hm6, hl6, hi6, hb6⟩; have HM6 := Lib.hid hm6; have HL6 := Lib.hid hl6; have HI6 := Lib.hid hi6; have HB6 := Lib.hid hb6; have HW6 := Lib.hid (HW5.out.trans (hb6.mono HW5.out.size)); clear hm6 hl6 hi6 hb6)
    | (go_at_call 7; refine (copyFs y _ _ (AY.out.below HW6.out) (by have := LY.out; omega)).mono ?_; rintro _ w7 ⟨p7, c7, m7, rfl, hm7, hl7, hi7, hb7⟩; have HM7 := Lib.hid hm7; have HL7 := Lib.hid hl7; have HI7 := Lib.hid hi7; have HB7 := Lib.hid hb7; have HW7 := Lib.hid (HW6.out.trans (hb7.mono HW6.out.size)); clear hm7 hl7 hi7 hb7))
  have HAM := Lib.hid (show ∀ W', Below w7.heap.size w7 W' → ∀ z ∈ [(Value.slice p6 m6.length c6, m6), (Value.slice p7 m7.length c7, m7)], ArgF W' z.1 z.2 from fun W' hb z hz => by
    simp only [List.mem_cons, List.not_mem_nil, or_false] at hz
    rcases hz with rfl | rfl
    · exact ((HI6.out.on HB7.out).on hb).own.arg
    · exact (HI7.out.on hb).own.arg)
  have HCT := Lib.hid (show (cat [(Value.slice p6 m6.length c6, m6), (Value.slice p7 m7.length c7, m7)]).length ≤ big from by
    have := LX.out; have := LY.out; have := HL6.out; have := HL7.out
    simp [cat]
    omega)
  go_upto_region 9 with (go_at_call 8; refine (treeFs [(.slice p6 m6.length c6, m6), (.slice p7 m7.length c7, m7)] #[.slice p6 m6.length c6, .slice p7 m7.length c7] rfl w7 (HAM.out w7 (Below.refl _ _)) (by simp [big]) HCT.out 2 rfl).mono ?_; rintro _ w8 ⟨p8, c8, f8, rfl, hu8, hi8, hl8, hb8⟩; have HU8 := Lib.hid hu8; have HI8 := Lib.hid hi8; have HL8 := Lib.hid hl8; have HB8 := Lib.hid hb8; have HW8 := Lib.hid (HW7.out.trans (hb8.mono HW7.out.size)); clear hu8 hi8 hl8 hb8)
  go_upto_region 10 with (go_at_call 8; refine (treeFs [(.slice p6 m6.length c6, m6), (.slice p7 m7.length c7, m7)] #[.slice p6 m6.length c6, .slice p7 m7.length c7] rfl w8 (HAM.out w8 HB8.out) (by simp [big]) HCT.out 2 rfl).mono ?_; rintro _ w9 ⟨p9, c9, f9, rfl, hu9, hi9, hl9, hb9⟩; have HU9 := Lib.hid hu9; have HI9 := Lib.hid hi9; have HL9 := Lib.hid hl9; have HB9 := Lib.hid hb9; have HW9 := Lib.hid (HW8.out.trans (hb9.mono HW8.out.size)); clear hu9 hi9 hl9 hb9)
  have HB59 := Lib.hid (show Below W5.heap.size W5 w9 from HB6.out.trans ((HB7.out.trans ((HB8.out.trans (HB9.out.mono HB8.out.size)).mono HB7.out.size)).mono HB6.out.size))
  have HB29 := Lib.hid (show Below W2.heap.size W2 w9 from HBC3.out.trans ((HBC4.out.trans ((HBC5.out.trans (HB59.out.mono HBC5.out.size)).mono HBC4.out.size)).mono HBC3.out.size))
  obtain ⟨a0, a1, a2, a3, a4, a5, a6, a7⟩ := (HC2.out.below HB29.out hlt2).all0
  go_upto_region 11 with (go_at_call 9; refine (HSR.out _ HW9.out).mono ?_; rintro _ w10 ⟨sv10, rfl, hr10, hb10⟩; obtain ⟨p10, c10, rfl⟩ := row_slice hr10; have HR10 := Lib.hid (stIn_of hr10); have HB10 := Lib.hid hb10; have HW10 := Lib.hid (HW9.out.trans (hb10.mono HW9.out.size)); clear hr10 hb10)
  clear a0 a1 a2 a3 a4 a5 a6 a7 HSR HC2
  go_upto_region 12 with (go_at_call 10; refine (HPF.out _ HW10.out).mono ?_; rintro _ w11 ⟨p11, l11, c11, b11, rfl, hy11, hn11, hs11, _, _, hb11⟩; have HS11 := Lib.hid hs11; have HB11 := Lib.hid hb11; have HL11 := Lib.hid (read_getD hy11 hn11); have HW11 := Lib.hid (HW10.out.trans (hb11.mono HW10.out.size)); clear hs11 hb11 hy11 hn11)
  clear HPF
  have HAXY := Lib.hid (show ∀ W', Below w.heap.size w W' → ∀ z ∈ [(Value.slice qx x.length dx, x), (Value.slice qy y.length dy, y)], ArgF W' z.1 z.2 from fun W' hb z hz => by
    simp only [List.mem_cons, List.not_mem_nil, or_false] at hz
    rcases hz with rfl | rfl
    · exact AX.out.below hb
    · exact AY.out.below hb)
  have HCX := Lib.hid (show (cat [(Value.slice qx x.length dx, x), (Value.slice qy y.length dy, y)]).length ≤ big from by
    have := LX.out; have := LY.out
    simp [cat]
    omega)
  go_upto_region 13 with (go_at_call 11; refine (refFs [(.slice qx x.length dx, x), (.slice qy y.length dy, y)] #[.slice qx x.length dx, .slice qy y.length dy] rfl w11 (HAXY.out w11 HW11.out) (by simp [big]) HCX.out 2 rfl).mono ?_; rintro _ w12 ⟨p12, c12, r12, rfl, hu12, hf12, hl12, hb12⟩; have HU12 := Lib.hid hu12; have HF12 := Lib.hid hf12; have HL12 := Lib.hid hl12; have HB12 := Lib.hid hb12; have HW12 := Lib.hid (HW11.out.trans (hb12.mono HW11.out.size)); clear hu12 hf12 hl12 hb12)
  obtain rfl : l4 = l5 := HL4.out.trans HL5.out.symm
  obtain rfl : l4 = l11 := HL4.out.trans HL11.out.symm
  have HL4L := Lib.hid (show l4.length ≤ 4194304 from by
    have h1 := read_len (s := s.data.toList)
    rw [← HL4.out, ba_len] at h1
    have := LS.out
    omega)
  have HB9_12 := Lib.hid (show Below w9.heap.size w9 w12 from HB10.out.trans ((HB11.out.trans (HB12.out.mono HB11.out.size)).mono HB10.out.size))
  have HB5_12 := Lib.hid (show Below W5.heap.size W5 w12 from HB59.out.trans (HB9_12.out.mono HB59.out.size))
  have HB4_12 := Lib.hid (show Below W4.heap.size W4 w12 from HBC5.out.trans (HB5_12.out.mono HBC5.out.size))
  have HB3_12 := Lib.hid (show Below W3.heap.size W3 w12 from HBC4.out.trans (HB4_12.out.mono HBC4.out.size))
  have HB2_12 := Lib.hid (show Below W2.heap.size W2 w12 from HBC3.out.trans (HB3_12.out.mono HBC3.out.size))
  have HBX := Lib.hid (show ∀ W', Below w12.heap.size w12 W' → W'.cell? ⟨w2.heap.size, 0, none⟩ = some (.slice p2 path.length c2) ∧ W'.cell? ⟨w3.heap.size, 0, none⟩ = some (.slice p3 path.length c3) ∧ W'.cell? ⟨w4.heap.size, 0, none⟩ = some (.slice p4 l4.length c4) ∧ W'.cell? ⟨w5.heap.size, 0, none⟩ = some (.slice p5 l4.length c5) from fun W' hb => by
    have h2 := HB2_12.out.trans (hb.mono HB2_12.out.size)
    have h3 := HB3_12.out.trans (hb.mono HB3_12.out.size)
    have h4 := HB4_12.out.trans (hb.mono HB4_12.out.size)
    have h5 := HB5_12.out.trans (hb.mono HB5_12.out.size)
    have s2 := S2.out.2
    have s3 := S3.out.2
    have s4 := S4.out.2
    have s5 := S5.out.2
    exact ⟨box_at K2.out (h2.block _ (by omega)), box_at K3.out (h3.block _ (by omega)), box_at K4.out (h4.block _ (by omega)), box_at K5.out (h5.block _ (by omega))⟩)
  have HUW := Lib.hid (show IsUnion (r12.map LF.f) (cat [(Value.slice p6 m6.length c6, m6), (Value.slice p7 m7.length c7, m7)]) from union_clean HU12.out (by
    have h6 := HM6.out
    have h7 := HM7.out
    simp only [cat, List.flatMap_cons, List.flatMap_nil, List.append_nil, List.map_append, h6, h7]))
  have HS1 := Lib.hid (show ∀ W', Below w12.heap.size w12 W' → Calls Tryz.prog 12 #[.slice p2 path.length c2, .slice p10 path.length c10] W' (RetB (.bool true) W') from fun W' hb => by
    have hb2 := HB2_12.out.trans (hb.mono HB2_12.out.size)
    have hb10 := HB11.out.trans ((HB12.out.trans (hb.mono HB12.out.size)).mono HB11.out.size)
    exact sameSt path p2 p10 c2 c10 W' (HP2.out.on hb2).at'.1 (HR10.out.on hb10).at'.1 (by have := HSL.out; omega))
  have HS2 := Lib.hid (show ∀ W', Below w12.heap.size w12 W' → Calls Tryz.prog 12 #[.slice p3 path.length c3, .slice p10 path.length c10] W' (RetB (.bool true) W') from fun W' hb => by
    have hb3 := HB3_12.out.trans (hb.mono HB3_12.out.size)
    have hb10 := HB11.out.trans ((HB12.out.trans (hb.mono HB12.out.size)).mono HB11.out.size)
    exact sameSt path p3 p10 c3 c10 W' (HP3.out.on hb3).at'.1 (HR10.out.on hb10).at'.1 (by have := HSL.out; omega))
  have HS3 := Lib.hid (show ∀ W', Below w12.heap.size w12 W' → Calls Tryz.prog 12 #[.slice p4 l4.length c4, .slice p11 l4.length c11] W' (RetB (.bool true) W') from fun W' hb => by
    have hb4 := HB4_12.out.trans (hb.mono HB4_12.out.size)
    exact sameSt l4 p4 p11 c4 c11 W' (HP4.out.on hb4).at'.1 (HS11.out.on (HB12.out.trans (hb.mono HB12.out.size))) HL4L.out)
  have HS4 := Lib.hid (show ∀ W', Below w12.heap.size w12 W' → Calls Tryz.prog 12 #[.slice p5 l4.length c5, .slice p11 l4.length c11] W' (RetB (.bool true) W') from fun W' hb => by
    have hb5 := HB5_12.out.trans (hb.mono HB5_12.out.size)
    exact sameSt l4 p5 p11 c5 c11 W' (HP5.out.on hb5).at'.1 (HS11.out.on (HB12.out.trans (hb.mono HB12.out.size))) HL4L.out)
  have HI8W := Lib.hid (show ∀ W', Below w12.heap.size w12 W' → FsIn w7.heap.size w8.heap.size W' (.slice p8 f8.length c8) f8 from fun W' hb => HI8.out.on (HB9.out.trans ((HB9_12.out.trans (hb.mono HB9_12.out.size)).mono HB9.out.size)))
  have HI9W := Lib.hid (show ∀ W', Below w12.heap.size w12 W' → FsIn w8.heap.size w9.heap.size W' (.slice p9 f9.length c9) f9 from fun W' hb => HI9.out.on (HB9_12.out.trans (hb.mono HB9_12.out.size)))
  have HS5 := Lib.hid (show ∀ W', Below w12.heap.size w12 W' → Calls Tryz.prog 13 #[.slice p8 f8.length c8, .slice p12 r12.length c12] W' (RetB (.bool true) W') from fun W' hb => sameFs f8 r12 (union_same HU8.out HUW.out) p8 p12 c8 c12 W' (HI8W.out W' hb).fsAt.1 (HF12.out.on hb).at' HL8.out HL12.out)
  have HS6 := Lib.hid (show ∀ W', Below w12.heap.size w12 W' → Calls Tryz.prog 13 #[.slice p9 f9.length c9, .slice p12 r12.length c12] W' (RetB (.bool true) W') from fun W' hb => sameFs f9 r12 (union_same HU9.out HUW.out) p9 p12 c9 c12 W' (HI9W.out W' hb).fsAt.1 (HF12.out.on hb).at' HL9.out HL12.out)
  obtain ⟨k2, k3, k4, k5⟩ := HBX.out w12 (Below.refl _ _)
  have tk1 := trivial
  have tk2 := trivial
  have tk3 := trivial
  have tk4 := trivial
  have tk5 := trivial
  go_upto_region 15 with (first
    | (clear tk1; go_at_call 12; refine (HS1.out _ (Below.refl _ _)).mono ?_; rintro _ w13 ⟨rfl, hb13⟩; have HB13 := Lib.hid hb13; clear k2 k3 k4 k5 hb13; obtain ⟨k2, k3, k4, k5⟩ := HBX.out w13 HB13.out)
    | (clear tk2; go_at_call 12; refine (HS2.out _ HB13.out).mono ?_; rintro _ w14 ⟨rfl, hb14⟩; have HB14 := Lib.hid (HB13.out.trans (hb14.mono HB13.out.size)); clear k2 k3 k4 k5 hb14; obtain ⟨k2, k3, k4, k5⟩ := HBX.out w14 HB14.out)
    | (clear tk3; go_at_call 12; refine (HS3.out _ HB14.out).mono ?_; rintro _ w15 ⟨rfl, hb15⟩; have HB15 := Lib.hid (HB14.out.trans (hb15.mono HB14.out.size)); clear k2 k3 k4 k5 hb15; obtain ⟨k2, k3, k4, k5⟩ := HBX.out w15 HB15.out)
    | (clear tk4; go_at_call 12; refine (HS4.out _ HB15.out).mono ?_; rintro _ w16 ⟨rfl, hb16⟩; have HB16 := Lib.hid (HB15.out.trans (hb16.mono HB15.out.size)); clear k2 k3 k4 k5 hb16)
    | (clear tk5; go_at_call 13; refine (HS5.out _ HB16.out).mono ?_; rintro _ w17 ⟨rfl, hb17⟩; have HB17 := Lib.hid (HB16.out.trans (hb17.mono HB16.out.size)); clear hb17)
    | (go_at_call 13; refine (HS6.out _ HB17.out).mono ?_; rintro _ w18 ⟨rfl, hb18⟩; have HB18 := Lib.hid (HB17.out.trans (hb18.mono HB17.out.size)); clear hb18))
  clear HS1 HS2 HS3 HS4 HS5 HS6 HB13 HB14 HB15 HB16 HB17
  have HI6W := Lib.hid (show ∀ W', Below w12.heap.size w12 W' → FsIn W5.heap.size w6.heap.size W' (.slice p6 m6.length c6) m6 from fun W' hb => HI6.out.on (HB7.out.trans ((HB8.out.trans ((HB9.out.trans ((HB9_12.out.trans (hb.mono HB9_12.out.size)).mono HB9.out.size)).mono HB8.out.size)).mono HB7.out.size)))
  have HI7W := Lib.hid (show ∀ W', Below w12.heap.size w12 W' → FsIn w6.heap.size w7.heap.size W' (.slice p7 m7.length c7) m7 from fun W' hb => HI7.out.on (HB8.out.trans ((HB9.out.trans ((HB9_12.out.trans (hb.mono HB9_12.out.size)).mono HB9.out.size)).mono HB8.out.size)))
  have tk1 := trivial
  have tk2 := trivial
  go_upto_region 17 with (first
    | (clear tk1; go_at_call 7; refine (copyFs x _ _ (AX.out.below (HW12.out.trans (HB18.out.mono HW12.out.size))) (by have := LX.out; omega)).mono ?_; rintro _ w19 ⟨p19, c19, x19, rfl, hm19, hl19, hi19, hb19⟩; have HB19 := Lib.hid (HB18.out.trans (hb19.mono HB18.out.size)); have HC19 := Lib.hid (sameFs m6 x19 (HM6.out.trans hm19.symm) p6 p19 c6 c19 w19 (HI6W.out w19 HB19.out).fsAt.1 hi19.fsAt.1 (by have := HL6.out; have := LX.out; omega) (by have := LX.out; omega)); clear hm19 hl19 hi19 hb19)
    | (clear tk2; go_at_call 13; refine HC19.out.mono ?_; rintro _ w20 ⟨rfl, hb20⟩; have HB20 := Lib.hid (HB19.out.trans (hb20.mono HB19.out.size)); clear hb20)
    | (go_at_call 7; refine (copyFs y _ _ (AY.out.below (HW12.out.trans (HB20.out.mono HW12.out.size))) (by have := LY.out; omega)).mono ?_; rintro _ w21 ⟨p21, c21, x21, rfl, hm21, hl21, hi21, hb21⟩; have HB21 := Lib.hid (HB20.out.trans (hb21.mono HB20.out.size)); have HC21 := Lib.hid (sameFs m7 x21 (HM7.out.trans hm21.symm) p7 p21 c7 c21 w21 (HI7W.out w21 HB21.out).fsAt.1 hi21.fsAt.1 (by have := HL7.out; have := LY.out; omega) (by have := LY.out; omega)); clear hm21 hl21 hi21 hb21)
    | (go_at_call 13; refine HC21.out.mono ?_; rintro _ w22 ⟨rfl, hb22⟩; have HB22 := Lib.hid (HB21.out.trans (hb22.mono HB21.out.size)); clear hb22))
  clear HC19 HC21
  have HM0 := Lib.hid (HI6W.out w22 HB22.out)
  go_upto_region 18 with fail
  go_loopw [141] (fun ii wr => ∃ (j : Nat) (l' : List LF), j ≤ m6.length ∧ ii = .int .i64 j ∧ Hid (FsOwn W5.heap.size wr (.slice p6 m6.length c6) l') ∧ Hid (blkF l' = blkF m6) ∧ Hid (l'.length = m6.length) ∧ Hid (Moved (fun b => b ∈ bF (.slice p6 m6.length c6) m6) w22 wr)) (fun ii _ => m6.length - (intOf ii).toNat)
  case atStart => exact ⟨0, m6, by omega, rfl, Lib.hid HM0.out.own, Lib.hid rfl, Lib.hid rfl, Lib.hid (moved_refl _ _)⟩
  case round =>
    obtain ⟨j, l', hj, rfl, hown, hblk, hlen, hmv⟩ := hrel
    by_cases h1 : j < m6.length
    · obtain ⟨⟨⟨xk, xpos, xpath⟩, xp, xq⟩, hx⟩ : ∃ x, l'[j]? = some x := ⟨_, List.getElem?_eq_getElem (by rw [hlen.out]; exact h1)⟩
      obtain ⟨l1, l2, rfl, hl1⟩ := parts_at hx
      obtain ⟨g, rfl, q0, q1, q2, hg, hfz⟩ := fs_at hown.out hx
      obtain ⟨pp, cp, hpp⟩ := row_shape (hown.out.own.all _ (List.mem_append_right l1 List.mem_cons_self)).1
      dsimp only at hpp
      subst hpp
      dsimp only at q0 q1 q2
      have HJ := Lib.hid hl1
      have HX := Lib.hid hx
      have H1 := Lib.hid h1
      have hjb : j < 4194304 := by have := HL6.out; have := LX.out; omega
      have HMEM := Lib.hid (show g ∈ bF (.slice (some ⟨g, 0, none⟩) m6.length c6) m6 from mem_bF.2 (.inl rfl))
      clear hx
      go_upto_region 21 with fail
      obtain ⟨hk1, hb1⟩ := hown.out.setKind (wrap64 (xk + 1))
      rw [HJ.out] at hk1
      dsimp only at hk1 hb1
      have hm1 : Moved (fun b => b ∈ bF (.slice (some ⟨g, 0, none⟩) m6.length c6) m6) w22 (wr.setCell ⟨g, j * 3, none⟩ (.int .i64 (wrap64 (xk + 1)))) := moved_set hmv.out HMEM.out _
      have hx1 : (l1 ++ (⟨⟨wrap64 (xk + 1), xpos, xpath⟩, .slice pp xpos.length cp, xq⟩ : LF) :: l2)[j]? = some ⟨⟨wrap64 (xk + 1), xpos, xpath⟩, .slice pp xpos.length cp, xq⟩ := by rw [← HJ.out]; simp
      obtain ⟨g', e, _, r1, _, hg1, _⟩ := fs_at hk1 hx1
      cases e
      dsimp only at r1
      obtain ⟨w23, hw23⟩ : ∃ w23, wr.setCell ⟨g, j * 3, none⟩ (.int .i64 (wrap64 (xk + 1))) = w23 := ⟨_, rfl⟩
      rw [hw23] at hk1 hm1 r1 hg1 ⊢
      clear hw23 hx1
      have HK1 := Lib.hid hk1
      have HBL1 := Lib.hid (hb1.trans hblk.out)
      have HM1 := Lib.hid hm1
      have HLEN1 := Lib.hid (show (l1 ++ (⟨⟨wrap64 (xk + 1), xpos, xpath⟩, .slice pp xpos.length cp, xq⟩ : LF) :: l2).length = m6.length from by have := hlen.out; simpa using this)
      clear hk1 hb1 hm1 hown hblk hmv hlen q0 q1 q2 hg hfz
      cases hxp : xpos with
      | nil =>
        subst hxp
        have d0 : decide ((0 : Int) < ((([] : List (Int × Int)).length : Nat) : Int)) = false := by decide
        go_wp2_with fail
        go_roundw
        case rel => exact ⟨j + 1, _, H1.out, by go_num, HK1, HBL1, HLEN1, HM1⟩
        case measure => have := H1.out; simp [intOf]; omega
      | cons ab r =>
        obtain ⟨a, bb⟩ := ab
        subst hxp
        have d0 : decide ((0 : Int) < (((a, bb) :: r).length : Int)) = true := decide_eq_true (by simp only [List.length_cons]; omega)
        obtain ⟨gp, cp', e1, hin, s1, sf, hgl, hcol⟩ := HK1.out.setCol (a := a) (b := bb) (r := r) rfl
        dsimp only at e1
        cases e1
        have HCOL := Lib.hid hcol
        have HIN := Lib.hid hin
        clear hcol hin
        go_upto_region 22 with fail
        have kc := cell_cls w23
        refine wp_region_plan_below 16 [(0, [0, 1, 2, 3, 4, 5, 6, 7, 8, 9, 10, 11, 12, 13, 14, 15]), (2, [16])] (by kernel_rfl) (by kernel_rfl) (fun _ _ _ _ h => h) ?_
        simp only [wpSegs, pickOps, List.getElem?_toArray, List.getElem?_cons_zero, List.getElem?_cons_succ]
        iterate 16 (go_big_quiet_step (fail))
        refine wpQuiet_nil ?_
        clear kc
        refine wpList_plain rfl (fun K hK => ?_)
        go_step
        refine hK _ _ ?_
        clear hK K
        refine wpList_nil ?_
        go_wp2_with fail
        go_roundw
        case rel =>
          obtain ⟨hc1, hc2⟩ := HCOL.out (wrap64 (bb + 1))
          exact ⟨j + 1, _, H1.out, by go_num, Lib.hid (hc1.on (Below.drew (Below.refl _ _))), Lib.hid (hc2.trans HBL1.out), Lib.hid (by have := HLEN1.out; simpa using this), Lib.hid (moved_on (moved_set HM1.out (mem_bF.2 (.inr (HBL1.out ▸ HIN.out))) _) (Below.drew (Below.refl _ _)))⟩
        case measure => have := H1.out; simp [intOf]; omega
    · obtain rfl : j = m6.length := by omega
      clear h1 hj
      have HSO := Lib.hid (show W5.heap.size ≤ w6.heap.size ∧ w6.heap.size ≤ w7.heap.size ∧ w7.heap.size ≤ w8.heap.size ∧ w8.heap.size ≤ w9.heap.size ∧ w9.heap.size ≤ w11.heap.size ∧ w11.heap.size ≤ w12.heap.size ∧ w12.heap.size ≤ w22.heap.size ∧ w22.heap.size ≤ wr.heap.size from ⟨HB6.out.size, HB7.out.size, HB8.out.size, HB9.out.size, Nat.le_trans HB10.out.size HB11.out.size, HB12.out.size, HB22.out.size, hmv.out.size⟩)
      have HOLD := Lib.hid (show ∀ b, b < W5.heap.size ∨ w6.heap.size ≤ b → b < w22.heap.size → wr.heap[b]? = w22.heap[b]? from fun b hb hl => hmv.out.block b hl (fun hin => by
        have h1 := (HM0.out.own.lt b hin).1
        have h2 := HM0.out.top b hin
        omega))
      have HBW5 := Lib.hid (show Below W5.heap.size w22 wr from hmv.out.below (by have := HSO.out; omega) (fun b hin => (HM0.out.own.lt b hin).1))
      have HWW := Lib.hid (show Below w.heap.size w wr from (HW12.out.trans (HB22.out.mono HW12.out.size)).trans (HBW5.out.mono HW5.out.size))
      have HI6 := Lib.hid (show FsIn W5.heap.size w6.heap.size wr (.slice p6 m6.length c6) l' from ⟨hown.out, fun b hb => HM0.out.top b (by unfold bF at hb ⊢; rwa [hblk.out] at hb)⟩)
      have HI7 := Lib.hid ((HI7W.out w22 HB22.out).moved (fun b h1 h2 => HOLD.out b (.inr h1) (by have := HSO.out; omega)))
      have HI8 := Lib.hid ((HI8W.out w22 HB22.out).moved (fun b h1 h2 => HOLD.out b (.inr (by have := HSO.out; omega)) (by have := HSO.out; omega)))
      have HI9 := Lib.hid ((HI9W.out w22 HB22.out).moved (fun b h1 h2 => HOLD.out b (.inr (by have := HSO.out; omega)) (by have := HSO.out; omega)))
      have HF12 := Lib.hid ((HF12.out.on HB22.out).moved (fun b h1 h2 => HOLD.out b (.inr (by have := HSO.out; omega)) h2) hmv.out.size)
      have HAM := Lib.hid (show ∀ W', Below wr.heap.size wr W' → ∀ z ∈ [(Value.slice p6 m6.length c6, l'), (Value.slice p7 m7.length c7, m7)], ArgF W' z.1 z.2 from fun W' hb z hz => by
        simp only [List.mem_cons, List.not_mem_nil, or_false] at hz
        rcases hz with rfl | rfl
        · exact (HI6.out.on hb).own.arg
        · exact (HI7.out.on hb).own.arg)
      have HCT := Lib.hid (show (cat [(Value.slice p6 m6.length c6, l'), (Value.slice p7 m7.length c7, m7)]).length ≤ big from by
        have := LX.out; have := LY.out; have := HL6.out; have := HL7.out; have := hlen.out
        simp [cat]
        omega)
      have HLEN := Lib.hid (show l'.length = m6.length from hlen.out)
      clear hown hblk hlen hmv HI6W HI7W HI8W HI9W HM0 HBX
      go_upto_region 25 with (go_at_call 8; refine (treeFs [(.slice p6 m6.length c6, l'), (.slice p7 m7.length c7, m7)] #[.slice p6 m6.length c6, .slice p7 m7.length c7] rfl wr (HAM.out wr (Below.refl _ _)) (by simp [big]) HCT.out 2 rfl).mono ?_; rintro _ w25 ⟨p25, c25, f25, rfl, hu25, hi25, hl25, hb25⟩; have HU25 := Lib.hid hu25; have HI25 := Lib.hid hi25; have HL25 := Lib.hid hl25; have HB25 := Lib.hid hb25; clear hu25 hi25 hl25 hb25)
      have tk1 := trivial
      have tk2 := trivial
      go_upto_region 27 with (first
        | (clear tk1; go_at_call 11; refine (refFs [(.slice p6 m6.length c6, l'), (.slice p7 m7.length c7, m7)] #[.slice p6 m6.length c6, .slice p7 m7.length c7] rfl w25 (HAM.out w25 HB25.out) (by simp [big]) HCT.out 2 rfl).mono ?_; rintro _ w26 ⟨p26, c26, r26, rfl, hu26, hf26, hl26, hb26⟩; have HX26 := Lib.hid hb26; have HB26 := Lib.hid (HB25.out.trans (hb26.mono HB25.out.size)); have HC26 := Lib.hid (sameFs f25 r26 (union_same HU25.out hu26) p25 p26 c25 c26 w26 (HI25.out.on hb26).fsAt.1 hf26.at' HL25.out hl26); clear hu26 hf26 hl26 hb26)
        | (clear tk2; go_at_call 13; refine HC26.out.mono ?_; rintro _ w27 ⟨rfl, hb27⟩; have HX27 := Lib.hid (HX26.out.trans (hb27.mono HX26.out.size)); have HB27 := Lib.hid (HB26.out.trans (hb27.mono HB26.out.size)); have HC27 := Lib.hid (sameFs f9 r12 (union_same HU9.out HUW.out) p9 p12 c9 c12 w27 (HI9.out.on HB27.out).fsAt.1 (HF12.out.on HB27.out).at' HL9.out HL12.out); clear hb27)
        | (go_at_call 13; refine HC27.out.mono ?_; rintro _ w28 ⟨rfl, hb28⟩; have HX28 := Lib.hid (HX27.out.trans (hb28.mono HX27.out.size)); have HB28 := Lib.hid (HB27.out.trans (hb28.mono HB27.out.size)); clear hb28))
      clear HAM HCT HU8 HU9 HU12 HU25 HC26 HC27 HF12 HUW
      go_upto_region 28 with (go_at_call 14; refine (new_any _).mono ?_; rintro _ w29 ⟨rfl, ht29, hb29⟩; have HT29 := Lib.hid ht29; have HB29 := Lib.hid hb29; clear ht29 hb29)
      go_upto_region 30 with (go_at_call 15; refine (Put_new HT29.out s 1 (by have := LS.out; unfold maxLen; omega) rfl (by decide) (by decide) HB29.out.size).mono ?_; rintro _ w30 ⟨rfl, kv', vv', D', ht30, hmv30, _, _⟩; have HT30 := Lib.hid ht30; have HB30 := Lib.hid (HB29.out.trans (hmv30.below HB29.out.size (fun k hk => by rcases hk with rfl | rfl | hk | hk; omega; exact Nat.le_refl _; cases hk; cases hk))); clear ht30 hmv30)
      have HK30 := Lib.hid (show Calls Tryz.prog 16 #[.pointer (some ⟨w28.heap.size + 1, 0, none⟩)] w30 (fun e w' => ∃ v, e = .returned v ∧ w'.ownsRow w30.heap.size 9 1 v 1 [.string s] ∧ Below w30.heap.size w30 w') from Keys_any HT30.out)
      have HK31 := Lib.hid (show ∀ W', Below w30.heap.size w30 W' → Calls Tryz.prog 16 #[.pointer (some ⟨w28.heap.size + 1, 0, none⟩)] W' (fun e w' => ∃ v, e = .returned v ∧ w'.ownsRow W'.heap.size 9 1 v 1 [.string s] ∧ Below W'.heap.size W' w') from fun W' hb => Keys_any (HT30.out.on hb))
      have tk1 := trivial
      go_upto_region 31 with (first
        | (clear tk1; go_at_call 16; refine HK30.out.mono ?_; rintro _ w31 ⟨v31, rfl, hr31, hb31⟩; obtain ⟨p31, c31, rfl⟩ := row_slice hr31; have HR31 := Lib.hid hr31; have HB31 := Lib.hid hb31; clear hr31 hb31)
        | (go_at_call 16; refine (HK31.out _ HB31.out).mono ?_; rintro _ w32 ⟨v32, rfl, hr32, hb32⟩; obtain ⟨p32, c32, rfl⟩ := row_slice hr32; have HR32 := Lib.hid hr32; have HB32 := Lib.hid hb32; clear hr32 hb32))
      clear HK30 HK31 HT29 HT30
      obtain ⟨g31, rfl, hlo31, hhi31, x31, y31⟩ : ∃ g, p31 = some ⟨g, 0, none⟩ ∧ w30.heap.size ≤ g ∧ g < w31.heap.size ∧ w32.cell? ⟨g, 0, none⟩ = some (.string s) ∧ w32.frozen? ⟨g, 0, none⟩ = false := by
        have hr := HR31.out
        rcases hr.2 with ⟨_, h0⟩ | ⟨g, cap, cur, hv, hB, hh, _⟩
        · cases h0
        · cases hv
          have hr2 := rowF_at hr (w' := w32) (fun k hk => HB32.out.block k (hr.lt k hk).2)
          obtain ⟨e1, e2, _⟩ := row_cell (j := 0) hr2 rfl
          exact ⟨g, rfl, hB, (Array.getElem?_eq_some_iff.1 hh).1, e1, e2⟩
      obtain ⟨g32, rfl, hlo32, hhi32, x32⟩ : ∃ g, p32 = some ⟨g, 0, none⟩ ∧ w31.heap.size ≤ g ∧ g < w32.heap.size ∧ w32.cell? ⟨g, 0, none⟩ = some (.string s) := by
        have hr := HR32.out
        rcases hr.2 with ⟨_, h0⟩ | ⟨g, cap, cur, hv, hB, hh, _⟩
        · cases h0
        · cases hv
          obtain ⟨e1, _, _⟩ := row_cell (j := 0) hr rfl
          exact ⟨g, rfl, hB, (Array.getElem?_eq_some_iff.1 hh).1, e1⟩
      have hsl : s.size ≤ 1048576 := LS.out
      go_upto_region 34 with fail
      have z32 : (w32.setCell ⟨g31, 0, none⟩ (.string (s ++ ⟨#[33]⟩))).cell? ⟨g32, 0, none⟩ = some (.string s) := (World.cell?_of_block (a := ⟨g32, 0, none⟩) (Below.heap_setCell _ _ _ _ (by show g32 ≠ g31; omega))).trans x32
      have HB33 := Lib.hid (show Below w30.heap.size w30 (w32.setCell ⟨g31, 0, none⟩ (.string (s ++ ⟨#[33]⟩))) from (HB31.out.trans (HB32.out.mono HB31.out.size)).setCell (p := ⟨g31, 0, none⟩) hlo31 _)
      obtain ⟨w33, hw33⟩ : ∃ w33, w32.setCell ⟨g31, 0, none⟩ (.string (s ++ ⟨#[33]⟩)) = w33 := ⟨_, rfl⟩
      rw [hw33] at z32 HB33 ⊢
      have hg33 : g32 < w33.heap.size := World.block_lt_of_cell? w33 _ z32
      clear hw33 x31 y31 x32 hlo31 hhi31 hlo32 hhi32 HR31 HR32 HB31 HB32
      have dz := beq_self s.toList
      have HBR := Lib.hid (show Below wr.heap.size wr w33 from HB28.out.trans ((HB30.out.trans (HB33.out.mono HB30.out.size)).mono HB28.out.size))
      have HB2533 := Lib.hid (show Below w25.heap.size w25 w33 from HX28.out.trans ((HB30.out.trans (HB33.out.mono HB30.out.size)).mono HX28.out.size))
      clear HB33 HB30 HB29 HB28
      go_upto_region 37 with fail
      obtain ⟨w36, eW, hb36, hs36, hheld⟩ := four_new (w := w33) w2.heap.size w3.heap.size w4.heap.size w5.heap.size
      rw [eW]
      clear eW
      have HELD := Lib.hid (hheld p2 p3 p4 p5 path.length path.length l4.length l4.length c2 c3 c4 c5)
      have HB36 := Lib.hid hb36
      have HS36 := Lib.hid hs36
      clear hheld hb36 hs36 z32 hg33 dz hsl
      have HLQ := HLEN.out
      generalize hq6 : m6.length = q6 at *
      subst HLQ
      have HQ6 := Lib.hid hq6
      clear hq6
      obtain ⟨w37, eW, hb37, hs37, hA⟩ := box_new w36 (.cells #[.slice p8 f8.length c8, .slice p9 f9.length c9, .slice p25 f25.length c25, .slice p6 l'.length c6, .slice p7 m7.length c7] 28)
      go_upto_region 38 with fail
      obtain ⟨arr, harr⟩ : ∃ arr : Array Value, #[.slice p8 f8.length c8, .slice p9 f9.length c9, .slice p25 f25.length c25, .slice p6 l'.length c6, .slice p7 m7.length c7] = arr := ⟨_, rfl⟩
      obtain ⟨Ls, hLs⟩ : ∃ Ls : List (Value × List LF), Ls = [(.slice p8 f8.length c8, f8), (.slice p9 f9.length c9, f9), (.slice p25 f25.length c25, f25), (.slice p6 l'.length c6, l'), (.slice p7 m7.length c7, m7)] := ⟨_, rfl⟩
      obtain ⟨PB, hPB⟩ : ∃ PB : List Ent, PB = [⟨w2.heap.size, 0, p2, path.length, c2⟩, ⟨w3.heap.size, 0, p3, path.length, c3⟩, ⟨w4.heap.size, 0, p4, l4.length, c4⟩, ⟨w5.heap.size, 0, p5, l4.length, c5⟩] := ⟨_, rfl⟩
      rw [harr] at hA
      have HELD37 := HELD.out.grow hb37
      rw [← hPB] at HELD37
      have HARR := Lib.hid harr
      have HLSQ := Lib.hid hLs
      have HPBQ := Lib.hid hPB
      have HLL := Lib.hid (show Ls.length = 5 from by rw [hLs]; rfl)
      have HPL := Lib.hid (show PB.length = 4 from by rw [hPB]; rfl)
      have HAR := Lib.hid (show ∀ (kk : Nat) (z : Value × List LF), Ls[kk]? = some z → arr[kk]? = some z.1 from fun kk z hz => by
        rw [hLs] at hz
        rw [← harr]
        match kk, hz with
        | 0, hz | 1, hz | 2, hz | 3, hz | 4, hz => cases hz; rfl
        | kk + 5, hz => simp at hz)
      have HLS := Lib.hid (show ∀ W', Below w33.heap.size w33 W' → ∀ z ∈ Ls, ∃ lo p c, z.1 = .slice p z.2.length c ∧ FsOwn lo W' z.1 z.2 ∧ z.2.length ≤ 4194304 from fun W' hb z hz => by
        have hbr := HBR.out.trans (hb.mono HBR.out.size)
        have hb25 := HB2533.out.trans (hb.mono HB2533.out.size)
        rw [hLs] at hz
        simp only [List.mem_cons, List.not_mem_nil, or_false] at hz
        rcases hz with rfl | rfl | rfl | rfl | rfl
        · exact ⟨_, _, _, rfl, (HI8.out.on hbr).own, HL8.out⟩
        · exact ⟨_, _, _, rfl, (HI9.out.on hbr).own, HL9.out⟩
        · exact ⟨_, _, _, rfl, (HI25.out.on hb25).own, HL25.out⟩
        · exact ⟨_, _, _, rfl, (HI6.out.on hbr).own, by have := LX.out; have := HL6.out; have := HQ6.out; show l'.length ≤ _; omega⟩
        · exact ⟨_, _, _, rfl, (HI7.out.on hbr).own, by have := LY.out; have := HL7.out; show m7.length ≤ _; omega⟩)
      have HS37 := Lib.hid (show w33.heap.size + 2 = w36.heap.size ∧ w37.heap.size = w36.heap.size + 1 from ⟨HS36.out.symm, hs37⟩)
      have HBG := Lib.hid (show Below w33.heap.size w33 w37 from HB36.out.trans (hb37.mono HB36.out.size))
      have HA37 := Lib.hid hA
      have HH37 := Lib.hid HELD37
      clear harr hLs hPB hA eW hb37 hs37 HELD HELD37
      obtain ⟨wm, rfl⟩ : ∃ z, z = wr := ⟨_, rfl⟩
      go_loopw [235] (fun ii wg => ∃ kk : Nat, kk ≤ 5 ∧ ii = .int .i64 kk ∧ ∃ s2 s3, Hid (HeldS wg w33.heap.size (w33.heap.size + 1) s2 s3 (.slice none 0 0) (.slice none 0 0) ((PB ++ eSof (Ls.take kk)).map Ent.ptr) ((ePof (Ls.take kk)).map Ent.ptr)) ∧ Hid (Below w33.heap.size w33 wg) ∧ Hid (wg.heap[w36.heap.size]? = some (.cells arr 28 (0, 0)))) (fun ii _ => 5 - (intOf ii).toNat)
      case atStart => exact ⟨0, by omega, rfl, _, _, Lib.hid (by simpa [eSof, ePof] using HH37.out), HBG, HA37⟩
      case round =>
        obtain ⟨wg, rfl⟩ : ∃ z, z = wr := ⟨_, rfl⟩
        obtain ⟨kk, hkk, rfl, s2, s3, hh, hbg, harr⟩ := hrel
        by_cases hk5 : kk < 5
        · obtain ⟨⟨lv, l⟩, hz⟩ : ∃ z, Ls[kk]? = some z := ⟨_, List.getElem?_eq_getElem (by rw [HLL.out]; exact hk5)⟩
          have car : wg.cell? ⟨w36.heap.size, kk, none⟩ = some lv := by simp [World.cell?, harr.out, HAR.out kk _ hz]
          obtain ⟨lo, pl, cl, hlv, _, hln⟩ := HLS.out wg hbg.out _ (List.mem_of_getElem? hz)
          dsimp only at hlv hln
          subst hlv
          have HZ := Lib.hid hz
          have HK5 := Lib.hid hk5
          have hgA : w36.heap.size < wg.heap.size := World.block_lt_of_cell? wg _ car
          clear hz
          go_upto_region 41 with fail
          go_loopw [241] (fun ii wj => ∃ j : Nat, j ≤ l.length ∧ ii = .int .i64 j ∧ ∃ s2 s3, Hid (HeldS wj w33.heap.size (w33.heap.size + 1) s2 s3 (.slice none 0 0) (.slice none 0 0) ((PB ++ eSof (Ls.take kk) ++ (entS (gOf (.slice pl l.length cl)) 0 l).take j).map Ent.ptr) ((ePof (Ls.take kk) ++ (entP (gOf (.slice pl l.length cl)) 0 l).take j).map Ent.ptr)) ∧ Hid (Below w33.heap.size w33 wj) ∧ Hid (wj.heap[w36.heap.size]? = some (.cells arr 28 (0, 0)))) (fun ii _ => l.length - (intOf ii).toNat)
          case atStart => exact ⟨0, by omega, rfl, _, _, Lib.hid (by simpa using hh.out), hbg, harr⟩
          case round =>
            obtain ⟨wj, rfl⟩ : ∃ z, z = wr := ⟨_, rfl⟩
            clear hh hbg harr car hgA
            obtain ⟨j, hj, rfl, t2, t3, hh2, hbg2, harr2⟩ := hrel
            by_cases hjl : j < l.length
            · obtain ⟨x0, hx⟩ : ∃ x, l[j]? = some x := ⟨_, List.getElem?_eq_getElem hjl⟩
              obtain ⟨lo', pl', cl', e, hown, _⟩ := HLS.out wj hbg2.out _ (List.mem_of_getElem? HZ.out)
              dsimp only at e hown
              cases e
              obtain ⟨g, rfl, _, _, _, hg, _⟩ := fs_at hown hx
              have hS1 := entS_at g l 0 j x0 hx
              have hP1 := entP_at g l 0 j x0 hx
              rw [Nat.zero_add] at hS1 hP1
              have hxl : ((PB ++ eSof (Ls.take kk) ++ (entS g 0 l).take j).map Ent.ptr).length ≤ 40000000 := by
                have h1 := eS_len (Ls := Ls.take kk) (N := 4194304) (fun z hz => (HLS.out wj hbg2.out z (List.mem_of_mem_take hz)).elim (fun _ h => h.elim (fun _ h => h.elim (fun _ h => h.2.2))))
                have h2 : (Ls.take kk).length ≤ 5 := by rw [List.length_take, HLL.out]; omega
                have h3 := HPL.out
                have h4 : ((entS g 0 l).take j).length ≤ 4194304 := by rw [List.length_take, entS_len]; omega
                simp only [List.length_map, List.length_append]
                omega
              have hxf : ((ePof (Ls.take kk) ++ (entP g 0 l).take j).map Ent.ptr).length ≤ 40000000 := by
                have h1 := eP_len (Ls := Ls.take kk) (N := 4194304) (fun z hz => (HLS.out wj hbg2.out z (List.mem_of_mem_take hz)).elim (fun _ h => h.elim (fun _ h => h.elim (fun _ h => h.2.2))))
                have h2 : (Ls.take kk).length ≤ 5 := by rw [List.length_take, HLL.out]; omega
                have h4 : ((entP g 0 l).take j).length ≤ 4194304 := by rw [List.length_take, entP_len]; omega
                simp only [List.length_map, List.length_append]
                omega
              have HE2 := Lib.hid (show ((PB ++ eSof (Ls.take kk) ++ (entS g 0 l).take (j + 1)).map Ent.ptr) = ((PB ++ eSof (Ls.take kk) ++ (entS g 0 l).take j).map Ent.ptr) ++ [.pointer (some ⟨g, j * 3 + 2, none⟩)] from by
                rw [List.take_add_one, hS1, ← List.append_assoc, List.map_append]
                rfl)
              have HE3 := Lib.hid (show ((ePof (Ls.take kk) ++ (entP g 0 l).take (j + 1)).map Ent.ptr) = ((ePof (Ls.take kk) ++ (entP g 0 l).take j).map Ent.ptr) ++ [.pointer (some ⟨g, j * 3 + 1, none⟩)] from by
                rw [List.take_add_one, hP1, ← List.append_assoc, List.map_append]
                rfl)
              have hh2' : Hid (HeldS wj w33.heap.size (w33.heap.size + 1) t2 t3 (.slice none 0 0) (.slice none 0 0) ((PB ++ eSof (Ls.take kk) ++ (entS g 0 l).take j).map Ent.ptr) ((ePof (Ls.take kk) ++ (entP g 0 l).take j).map Ent.ptr)) := hh2
              generalize ((PB ++ eSof (Ls.take kk) ++ (entS g 0 l).take j).map Ent.ptr) = xI at hh2' HE2 hxl
              generalize ((ePof (Ls.take kk) ++ (entP g 0 l).take j).map Ent.ptr) = xF at hh2' HE3 hxf
              have HXxI := Lib.hid hxl
              have HXxF := Lib.hid hxf
              have HJL := Lib.hid hjl
              obtain ⟨r0p, r0c, rfl⟩ := row_slice hh2'.out.r0
              obtain ⟨r1p, r1c, rfl⟩ := row_slice hh2'.out.r1
              clear hh2 hx hown hS1 hP1 hxl hxf
              have c2 : wj.cell? ⟨w33.heap.size + 1, 2, none⟩ = some (.slice r0p xI.length r0c) := by simp [World.cell?, hh2'.out.block]
              have hlt2 : w33.heap.size + 1 < wj.heap.size := hh2'.out.lt
              go_upto_region 43 with fail
              refine wp_region_plan 11 [(0, [0, 1, 2, 3, 4, 5, 6, 7, 8]), (1, [9, 10]), (2, [11, 12, 13])] (OneCls (w33.heap.size + 1) 2 (.slice r0p xI.length r0c)) (by kernel_rfl) (by kernel_rfl) (one_of c2) (fun _ _ _ _ h => h) ?_
              simp only [wpSegs, pickOps, List.getElem?_toArray, List.getElem?_cons_zero, List.getElem?_cons_succ]
              have kc := fun z : OneW (w33.heap.size + 1) 2 (.slice r0p xI.length r0c) => z.h
              have hne : Nonempty (OneW (w33.heap.size + 1) 2 (.slice r0p xI.length r0c)) := ⟨⟨wj, c2⟩⟩
              iterate 9 (go_big_quiet_step (fail))
              refine wpQuiet_nil ?_
              clear kc hne
              refine wpListC_plain rfl (fun K hK => ?_)
              go_step
              refine hK _ _ (one_of (show (wj.alloc (.cells #[.pointer (some ⟨g, j * 3 + 2, none⟩)] 51)).cell? ⟨w33.heap.size + 1, 2, none⟩ = _ from (World.cell?_of_block (Below.heap_alloc _ _ _ hlt2)).trans c2)) ?_
              clear hK K
              obtain ⟨wA, hwA⟩ : ∃ wA, (wj.alloc (.cells #[.pointer (some ⟨g, j * 3 + 2, none⟩)] 51)).drew = wA := ⟨_, rfl⟩
              have hbA : Below wj.heap.size wj wA := by rw [← hwA]; exact ((Below.refl wj.heap.size wj).alloc (Nat.le_refl _) _).trans (Below.drew (Below.refl _ _) |>.mono (Nat.le_refl _))
              have hsA : wA.heap.size = wj.heap.size + 1 := by rw [← hwA]; show (wj.alloc _).heap.size = _; simp
              have hcA : wA.cell? ⟨wj.heap.size, 0, none⟩ = some (.pointer (some ⟨g, j * 3 + 2, none⟩)) := by
                rw [← hwA]
                have := cellsAt_alloc wj #[.pointer (some ⟨g, j * 3 + 2, none⟩)] 51 (0, 0) 0 _ rfl
                exact this
              rw [hwA]
              clear hwA
              have hHA := hh2'.out.grow hbA
              have haA : wA.heap[w36.heap.size]? = some (.cells arr 28 (0, 0)) := (hbA.block _ (Array.getElem?_eq_some_iff.1 harr2.out).1).trans harr2.out
              have hbw : w33.heap.size ≤ wj.heap.size := hbg2.out.size
              refine wpListC_plain rfl (fun K hK => ?_)
              refine wp_append_x (P := Tryz.prog) wA (.tmp 248) (.tmp 253) 52 rfl w33.heap.size 51 (.pointer none) 1 8 Tryz.underlying52 (by kernel_rfl) rfl (by decide) (.slice r0p xI.length r0c) xI.length _ rfl hHA.r0 ⟨wj.heap.size, 0, none⟩ 1 1 [.pointer (some ⟨g, j * 3 + 2, none⟩)] rfl (by decide) rfl ?c1 ?c2 ?c3 ?c4 ?c5 ?_
              case c1 =>
                intro m u hu
                match m, hu with
                | 0, hu => cases hu; rw [addr_add]; exact hcA
                | m + 1, hu => simp at hu
              case c2 => intro u hu; simp at hu; subst hu; rfl
              case c3 => have := HXxI.out; unfold maxLen; omega
              case c4 => have := HXxI.out; omega
              case c5 => omega
              intro v' wB hrow hgr hloc
              have hcw : wB.cell? ⟨w33.heap.size + 1, 2, none⟩ = some (.slice r0p xI.length r0c) := (World.cell?_of_block (hgr.block (w33.heap.size + 1) hHA.lt (fun e => hHA.d0 e.symm))).trans (by simp [World.cell?, hHA.block])
              refine hK _ _ (one_of hcw) ?_
              clear hK K
              refine wpListC_nil ?_
              obtain ⟨hH1, hb1⟩ := hHA.push2 (by omega) hrow hgr hloc
              have hne3 := hHA.arr haA
              obtain ⟨pv2, cv2, rfl⟩ := row_slice hrow
              have hfw : wB.frozen? ⟨w33.heap.size + 1, 2, none⟩ = false := by simp [World.frozen?, (hgr.block (w33.heap.size + 1) hHA.lt (fun e => hHA.d0 e.symm)).trans hHA.block]
              have hA1 : (wB.setCell ⟨w33.heap.size + 1, 2, none⟩ (.slice pv2 (xI.length + 1) cv2)).heap[w36.heap.size]? = some (.cells arr 28 (0, 0)) := (Below.heap_setCell _ _ _ _ hne3.2.2).trans ((hgr.block _ (Array.getElem?_eq_some_iff.1 haA).1 (fun e => hne3.1 e.symm)).trans haA)
              have hb2 := (hbg2.out.trans (hbA.mono hbw)).trans hb1
              clear hHA hgr hloc hrow hb1 hcA hbA hsA c2 haA hne3 hlt2 hbw
              go_upto_region 44 with fail
              obtain ⟨w3, hw3⟩ : ∃ w3, wB.setCell ⟨w33.heap.size + 1, 2, none⟩ (.slice pv2 (xI.length + 1) cv2) = w3 := ⟨_, rfl⟩
              rw [hw3] at hH1 hb2 hA1 ⊢
              clear hw3 hcw hfw
              have HH1 := Lib.hid hH1
              have HB1 := Lib.hid hb2
              have HA1 := Lib.hid hA1
              clear hH1 hb2 hA1 harr2 hbg2
              have c3 : w3.cell? ⟨w33.heap.size + 1, 3, none⟩ = some (.slice r1p xF.length r1c) := by simp [World.cell?, HH1.out.block]
              have hlt3 : w33.heap.size + 1 < w3.heap.size := HH1.out.lt
              go_upto_region 44 with fail
              refine wp_region_plan 11 [(0, [0, 1, 2, 3, 4, 5, 6, 7, 8]), (1, [9, 10]), (2, [11, 12, 13])] (OneCls (w33.heap.size + 1) 3 (.slice r1p xF.length r1c)) (by kernel_rfl) (by kernel_rfl) (one_of c3) (fun _ _ _ _ h => h) ?_
              simp only [wpSegs, pickOps, List.getElem?_toArray, List.getElem?_cons_zero, List.getElem?_cons_succ]
              have kc := fun z : OneW (w33.heap.size + 1) 3 (.slice r1p xF.length r1c) => z.h
              have hne : Nonempty (OneW (w33.heap.size + 1) 3 (.slice r1p xF.length r1c)) := ⟨⟨w3, c3⟩⟩
              iterate 9 (go_big_quiet_step (fail))
              refine wpQuiet_nil ?_
              clear kc hne
              refine wpListC_plain rfl (fun K hK => ?_)
              go_step
              refine hK _ _ (one_of (show (w3.alloc (.cells #[.pointer (some ⟨g, j * 3 + 1, none⟩)] 59)).cell? ⟨w33.heap.size + 1, 3, none⟩ = _ from (World.cell?_of_block (Below.heap_alloc _ _ _ hlt3)).trans c3)) ?_
              clear hK K
              obtain ⟨wA, hwA⟩ : ∃ wA, (w3.alloc (.cells #[.pointer (some ⟨g, j * 3 + 1, none⟩)] 59)).drew = wA := ⟨_, rfl⟩
              have hbA : Below w3.heap.size w3 wA := by rw [← hwA]; exact ((Below.refl w3.heap.size w3).alloc (Nat.le_refl _) _).trans (Below.drew (Below.refl _ _) |>.mono (Nat.le_refl _))
              have hsA : wA.heap.size = w3.heap.size + 1 := by rw [← hwA]; show (w3.alloc _).heap.size = _; simp
              have hcA : wA.cell? ⟨w3.heap.size, 0, none⟩ = some (.pointer (some ⟨g, j * 3 + 1, none⟩)) := by
                rw [← hwA]
                have := cellsAt_alloc w3 #[.pointer (some ⟨g, j * 3 + 1, none⟩)] 59 (0, 0) 0 _ rfl
                exact this
              rw [hwA]
              clear hwA
              have hHA := HH1.out.grow hbA
              have haA : wA.heap[w36.heap.size]? = some (.cells arr 28 (0, 0)) := (hbA.block _ (Array.getElem?_eq_some_iff.1 HA1.out).1).trans HA1.out
              have hbw : w33.heap.size ≤ w3.heap.size := HB1.out.size
              refine wpListC_plain rfl (fun K hK => ?_)
              refine wp_append_x (P := Tryz.prog) wA (.tmp 261) (.tmp 266) 55 rfl w33.heap.size 59 (.pointer none) 1 8 Tryz.underlying55 (by kernel_rfl) rfl (by decide) (.slice r1p xF.length r1c) xF.length _ rfl hHA.r1 ⟨w3.heap.size, 0, none⟩ 1 1 [.pointer (some ⟨g, j * 3 + 1, none⟩)] rfl (by decide) rfl ?c1 ?c2 ?c3 ?c4 ?c5 ?_
              case c1 =>
                intro m u hu
                match m, hu with
                | 0, hu => cases hu; rw [addr_add]; exact hcA
                | m + 1, hu => simp at hu
              case c2 => intro u hu; simp at hu; subst hu; rfl
              case c3 => have := HXxF.out; unfold maxLen; omega
              case c4 => have := HXxF.out; omega
              case c5 => omega
              intro v' wB hrow hgr hloc
              have hcw : wB.cell? ⟨w33.heap.size + 1, 3, none⟩ = some (.slice r1p xF.length r1c) := (World.cell?_of_block (hgr.block (w33.heap.size + 1) hHA.lt (fun e => hHA.d1 e.symm))).trans (by simp [World.cell?, hHA.block])
              refine hK _ _ (one_of hcw) ?_
              clear hK K
              refine wpListC_nil ?_
              obtain ⟨hH1, hb1⟩ := hHA.push3 (by omega) hrow hgr hloc
              have hne3 := hHA.arr haA
              obtain ⟨pv3, cv3, rfl⟩ := row_slice hrow
              have hfw : wB.frozen? ⟨w33.heap.size + 1, 3, none⟩ = false := by simp [World.frozen?, (hgr.block (w33.heap.size + 1) hHA.lt (fun e => hHA.d1 e.symm)).trans hHA.block]
              have hA1 : (wB.setCell ⟨w33.heap.size + 1, 3, none⟩ (.slice pv3 (xF.length + 1) cv3)).heap[w36.heap.size]? = some (.cells arr 28 (0, 0)) := (Below.heap_setCell _ _ _ _ hne3.2.2).trans ((hgr.block _ (Array.getElem?_eq_some_iff.1 haA).1 (fun e => hne3.2.1 e.symm)).trans haA)
              have hb2 := (HB1.out.trans (hbA.mono hbw)).trans hb1
              clear hHA hgr hloc hrow hb1 hcA hbA hsA c3 haA hne3 hlt3 hbw
              go_wp2_with fail
              go_roundw
              case rel =>
                have e2 : (PB ++ eSof (List.take kk Ls) ++ List.take (j + 1) (entS (gOf (Value.slice (some ⟨g, 0, none⟩) l.length cl)) 0 l)).map Ent.ptr = xI ++ [.pointer (some ⟨g, j * 3 + 2, none⟩)] := HE2.out
                have e3 : (ePof (List.take kk Ls) ++ List.take (j + 1) (entP (gOf (Value.slice (some ⟨g, 0, none⟩) l.length cl)) 0 l)).map Ent.ptr = xF ++ [.pointer (some ⟨g, j * 3 + 1, none⟩)] := HE3.out
                rw [← e2, ← e3] at hH1
                exact ⟨j + 1, HJL.out, num_up j, _, _, Lib.hid hH1, Lib.hid hb2, Lib.hid hA1⟩
              case measure => exact meas_up HJL.out
            · have hfull := hh2.out
              have eS : List.take j (entS (gOf (Value.slice pl l.length cl)) 0 l) = entS (gOf (Value.slice pl l.length cl)) 0 l := List.take_of_length_le (by rw [entS_len]; exact Nat.le_of_not_lt hjl)
              have eP : List.take j (entP (gOf (Value.slice pl l.length cl)) 0 l) = entP (gOf (Value.slice pl l.length cl)) 0 l := List.take_of_length_le (by rw [entP_len]; exact Nat.le_of_not_lt hjl)
              rw [eS, eP, List.append_assoc, ← eS_take (z := (Value.slice pl l.length cl, l)) HZ.out, ← eP_take (z := (Value.slice pl l.length cl, l)) HZ.out] at hfull
              clear eS eP
              have HFULL := Lib.hid hfull
              obtain rfl : j = l.length := Nat.le_antisymm hj (Nat.le_of_not_lt hjl)
              clear hfull hh2 hjl hj
              go_wp2_with fail
              go_roundw
              case rel => exact ⟨kk + 1, HK5.out, num_up kk, _, _, HFULL, hbg2, harr2⟩
              case measure => exact meas_up HK5.out
        · have hfull := hh.out
          rw [List.take_of_length_le (by rw [HLL.out]; exact Nat.le_of_not_lt hk5)] at hfull
          have HFULL := Lib.hid hfull
          obtain rfl : kk = 5 := Nat.le_antisymm hkk (Nat.le_of_not_lt hk5)
          clear hfull hh harr hk5 hkk
          have HCH := Lib.hid (show ∀ b, b < W5.heap.size → wg.heap[b]? = w22.heap[b]? from fun b hb => (hbg.out.block b (by have := HSO.out; have := HBR.out.size; omega)).trans ((HBR.out.block b (by have := HSO.out; omega)).trans (HOLD.out b (.inl hb) (by have := HSO.out; omega))))
          have e2 := pb_ent (w := wg) HP2.out K2.out (fun b hb => (HCH.out b (by have := S2.out; have := S3.out; have := S4.out; have := S5.out; omega)).trans ((HB2_12.out.trans (HB22.out.mono HB2_12.out.size)).block b hb))
          have e3 := pb_ent (w := wg) HP3.out K3.out (fun b hb => (HCH.out b (by have := S3.out; have := S4.out; have := S5.out; omega)).trans ((HB3_12.out.trans (HB22.out.mono HB3_12.out.size)).block b hb))
          have e4 := pb_ent (w := wg) HP4.out K4.out (fun b hb => (HCH.out b (by have := S4.out; have := S5.out; omega)).trans ((HB4_12.out.trans (HB22.out.mono HB4_12.out.size)).block b hb))
          have e5 := pb_ent (w := wg) HP5.out K5.out (fun b hb => (HCH.out b hb).trans ((HB5_12.out.trans (HB22.out.mono HB5_12.out.size)).block b hb))
          obtain ⟨R, hR⟩ : ∃ R : List (Nat × Nat × List Nat), R = [(W1.heap.size, w2.heap.size, (p2.map (·.block)).toList), (W2.heap.size, w3.heap.size, (p3.map (·.block)).toList), (W3.heap.size, w4.heap.size, (p4.map (·.block)).toList), (W4.heap.size, w5.heap.size, (p5.map (·.block)).toList), (w7.heap.size, w8.heap.size, blkF f8), (w8.heap.size, w9.heap.size, blkF f9), (wm.heap.size, w25.heap.size, blkF f25), (W5.heap.size, w6.heap.size, blkF l'), (w6.heap.size, w7.heap.size, blkF m7)] := ⟨_, rfl⟩
          have HRN := Lib.hid (show ∀ r ∈ R, r.2.2.Nodup ∧ ∀ b ∈ r.2.2, r.1 ≤ b ∧ b < r.2.1 from fun r hr => by
            rw [hR] at hr
            simp only [List.mem_cons, List.not_mem_nil, or_false] at hr
            rcases hr with rfl | rfl | rfl | rfl | rfl | rfl | rfl | rfl | rfl
            · exact e2.2.2
            · exact e3.2.2
            · exact e4.2.2
            · exact e5.2.2
            · exact fs_range HI8.out
            · exact fs_range HI9.out
            · exact fs_range HI25.out
            · exact fs_range HI6.out
            · exact fs_range HI7.out)
          have HRW := Lib.hid (show ∀ r ∈ R, w.heap.size ≤ r.1 ∧ r.2.1 ≤ w33.heap.size from fun r hr => by
            have h1 := S2.out; have h2 := S3.out; have h3 := S4.out; have h4 := S5.out; have h5 := HSO.out; have h6 := HB25.out.size; have h7 := HB2533.out.size; have h8 := HW1.out.size; have h9 := HBR.out.size
            rw [hR] at hr
            simp only [List.mem_cons, List.not_mem_nil, or_false] at hr
            rcases hr with rfl | rfl | rfl | rfl | rfl | rfl | rfl | rfl | rfl <;> (refine ⟨?_, ?_⟩ <;> dsimp only <;> omega))
          have HRE := Lib.hid (show R.flatMap (·.2.2) = blks PB ++ Ls.flatMap (fun x => blkF x.2) from by
            rw [hR, HPBQ.out, HLSQ.out]
            simp only [blks_cons, List.flatMap_cons, List.flatMap_nil, List.append_nil, List.append_assoc, show blks [] = [] from rfl])
          have HRP := Lib.hid (show R.Pairwise (fun r s => r.2.1 ≤ s.1 ∨ s.2.1 ≤ r.1) from by
            have h1 := S2.out; have h2 := S3.out; have h3 := S4.out; have h4 := S5.out; have h5 := HSO.out; have h6 := HB25.out.size
            rw [hR]
            simp only [List.pairwise_cons, List.mem_cons, List.not_mem_nil, or_false, forall_eq_or_imp, forall_eq, false_implies, implies_true, List.Pairwise.nil, and_true]
            repeat' apply And.intro
            all_goals first | (left; omega) | (right; omega))
          have HPE := Lib.hid (show ∀ e ∈ PB, EntAt wg 69 3 e ∧ ∃ cur, wg.heap[e.hb]? = some (.cells cur 30 (0, 0)) from fun e he => by
            rw [HPBQ.out] at he
            simp only [List.mem_cons, List.not_mem_nil, or_false] at he
            rcases he with rfl | rfl | rfl | rfl
            · exact ⟨e2.1, e2.2.1⟩
            · exact ⟨e3.1, e3.2.1⟩
            · exact ⟨e4.1, e4.2.1⟩
            · exact ⟨e5.1, e5.2.1⟩)
          have HFW := Lib.hid (HLS.out wg hbg.out)
          have HFR := Lib.hid (four_ls (fun e he => (HPE.out e he).1) (fun z hz => (HFW.out z hz).elim (fun lo h => h.elim (fun _ h => h.elim (fun _ h => ⟨lo, h.2.1⟩)))) (fun e he => (HPE.out e he).2) (by rw [← HRE.out]; exact nodup_ranges R HRN.out HRP.out))
          have HWG := Lib.hid (show Below w.heap.size w wg from HWW.out.trans ((HBR.out.trans (hbg.out.mono HBR.out.size)).mono HWW.out.size))
          have HBAD := Lib.hid (show ∀ b, Bad [] [] (PB ++ eSof Ls) (ePof Ls) b → w.heap.size ≤ b ∧ b < w33.heap.size from fun b hb => by
            obtain ⟨r, hr, h1, h2⟩ := ls_bad HRN.out HRE.out hb
            have := HRW.out r hr
            omega)
          have HNE := Lib.hid (show (∀ e ∈ PB, e.n ≤ 1000000000) from fun e he => by
            rw [HPBQ.out] at he
            have h1 := HSL.out
            have h2 := HL4L.out
            simp only [List.mem_cons, List.not_mem_nil, or_false] at he
            rcases he with rfl | rfl | rfl | rfl <;> (dsimp only; omega))
          have HAP := Lib.hid (apart_full wg (w33.heap.size + 1) w.heap.size (.slice none 0 0) (.slice none 0 0) s2 s3 [] [] (PB ++ eSof Ls) (ePof Ls) HFR.out (HFULL.out.four (fun b hb => (HBAD.out b hb).2)) (by simp) (by simp)
            (by
              have h1 := eS_len (Ls := Ls) (N := 4194304) (fun z hz => (HFW.out z hz).elim (fun _ h => h.elim (fun _ h => h.elim (fun _ h => h.2.2))))
              have h2 := HLL.out
              have h3 := HPL.out
              rw [List.length_append]
              omega)
            (by
              have h1 := eP_len (Ls := Ls) (N := 4194304) (fun z hz => (HFW.out z hz).elim (fun _ h => h.elim (fun _ h => h.elim (fun _ h => h.2.2))))
              have h2 := HLL.out
              omega)
            (fun e he => by cases he) (fun e he => by cases he)
            (fun e he => by
              rcases List.mem_append.1 he with he | he
              · exact HNE.out e he
              · obtain ⟨z, hz, he⟩ := List.mem_flatMap.1 he
                obtain ⟨j, x, hx, rfl⟩ := entS_mem _ he
                obtain ⟨lo, _, _, _, h, _⟩ := HFW.out z hz
                have := (h.own.all x (List.mem_of_getElem? hx)).2.2.2
                unfold big at this
                dsimp only
                omega)
            (fun e he => by
              obtain ⟨z, hz, he⟩ := List.mem_flatMap.1 he
              obtain ⟨j, x, hx, rfl⟩ := entP_mem _ he
              obtain ⟨lo, _, _, _, h, _⟩ := HFW.out z hz
              have := (h.own.all x (List.mem_of_getElem? hx)).2.2.1
              unfold big at this
              dsimp only
              omega)
            HWG.out.size (fun b hb => (HBAD.out b hb).1) (fun W hb => Lib.tabBelow_of_tabIs HRD.out.tab W (HWG.out.trans hb)))
          have HRB := Lib.hid (show ∀ z ∈ Ls, ∀ g, z.1.ownBlock = some g → ¬ Bad [] [] (PB ++ eSof Ls) (ePof Ls) g ∧ g < wg.heap.size from fun z hz g hg => by
            obtain ⟨lo, _, _, _, h, _⟩ := HFW.out z hz
            refine ⟨fun hb => ?_, (h.row.lt g hg).2⟩
            obtain ⟨cur, T, h1, h2⟩ := bad_type HFR.out.a2 HFR.out.a3 hb
            obtain ⟨cur', h3⟩ := row_cells0 h.row hg
            rw [h1] at h3
            have h4 := (Obj.cells.inj (Option.some.inj h3)).2.1
            rcases h2 with h2 | h2 <;> (rw [h2] at h4; exact absurd h4 (by decide)))
          clear e2 e3 e4 e5 hR
          go_upto_region 49 with (go_at_call 17; refine HAP.out.mono ?_; rintro _ w48 ⟨rfl, hb48, hk48⟩; have HB48 := Lib.hid hb48; have HK48 := Lib.hid hk48; clear hb48 hk48)
          have HRO := Lib.hid (show ∀ z ∈ Ls, ∃ lo, w48.ownsRow lo 42 3 z.1 z.2.length (fC z.2) from fun z hz => by
            obtain ⟨lo, _, _, _, h, _⟩ := HFW.out z hz
            exact ⟨lo, rowF_at h.row (fun g hg => HK48.out g (HRB.out z hz g hg).2 (HRB.out z hz g hg).1)⟩)
          have HW48 := Lib.hid (HWG.out.trans HB48.out)
          obtain ⟨Lt, hLt⟩ : ∃ Lt : List (Value × List LF), Lt = [(.slice p8 f8.length c8, f8), (.slice p9 f9.length c9, f9), (.slice p25 f25.length c25, f25)] := ⟨_, rfl⟩
          have HTL := Lib.hid (show Lt.length = 3 from by rw [hLt]; rfl)
          have HTM := Lib.hid (show ∀ z ∈ Lt, z ∈ Ls from fun z hz => by
            rw [hLt] at hz
            rw [HLSQ.out]
            simp only [List.mem_cons, List.not_mem_nil, or_false] at hz ⊢
            rcases hz with rfl | rfl | rfl <;> simp)
          have HTN := Lib.hid (show ∀ z ∈ Lt, z.2.length ≤ 4194304 from fun z hz => (HFW.out z (HTM.out z hz)).elim (fun _ h => h.elim (fun _ h => h.elim (fun _ h => h.2.2))))
          have HTS := Lib.hid (show ∀ z ∈ Lt, ∃ p c, z.1 = .slice p z.2.length c from fun z hz => (HFW.out z (HTM.out z hz)).elim (fun _ h => h.elim (fun p h => h.elim (fun c h => ⟨p, c, h.1⟩))))
          have HAPT := Lib.hid (show Apt Lt from by
            have q8 : ∀ g, (Value.slice p8 f8.length c8).ownBlock = some g → w7.heap.size ≤ g ∧ g < w8.heap.size := fun g hg => ⟨(HI8.out.own.row.lt g hg).1, HI8.out.top g (mem_bF.2 (.inl hg))⟩
            have q9 : ∀ g, (Value.slice p9 f9.length c9).ownBlock = some g → w8.heap.size ≤ g ∧ g < w9.heap.size := fun g hg => ⟨(HI9.out.own.row.lt g hg).1, HI9.out.top g (mem_bF.2 (.inl hg))⟩
            have q25 : ∀ g, (Value.slice p25 f25.length c25).ownBlock = some g → wm.heap.size ≤ g ∧ g < w25.heap.size := fun g hg => ⟨(HI25.out.own.row.lt g hg).1, HI25.out.top g (mem_bF.2 (.inl hg))⟩
            have h5 := HSO.out
            intro i j zi zj hne hi hj g hg hg2
            rw [hLt] at hi hj
            match i, j, hi, hj with
            | 0, 0, _, _ | 1, 1, _, _ | 2, 2, _, _ => exact hne rfl
            | 0, 1, hi, hj => cases hi; cases hj; have := q8 g hg; have := q9 g hg2; omega
            | 0, 2, hi, hj => cases hi; cases hj; have := q8 g hg; have := q25 g hg2; omega
            | 1, 0, hi, hj => cases hi; cases hj; have := q9 g hg; have := q8 g hg2; omega
            | 1, 2, hi, hj => cases hi; cases hj; have := q9 g hg; have := q25 g hg2; omega
            | 2, 0, hi, hj => cases hi; cases hj; have := q25 g hg; have := q8 g hg2; omega
            | 2, 1, hi, hj => cases hi; cases hj; have := q25 g hg; have := q9 g hg2; omega
            | i + 3, _, hi, _ => simp at hi
            | _, j + 3, _, hj => simp at hj)
          have HAR3 := Lib.hid (show ∀ (kk : Nat) (z : Value × List LF), Lt[kk]? = some z → (#[Value.slice p8 f8.length c8, .slice p9 f9.length c9, .slice p25 f25.length c25] : Array Value)[kk]? = some z.1 from fun kk z hz => by
            rw [hLt] at hz
            match kk, hz with
            | 0, hz | 1, hz | 2, hz => cases hz; rfl
            | kk + 3, hz => simp at hz)
          have HK0 := Lib.hid (show KSt w48 Lt 0 0 from ⟨fun z hz => (HRO.out z (HTM.out z hz)).elim (fun lo h => ⟨_, row_lower h (Nat.zero_le _)⟩), fun i z j _ _ hc => by omega⟩)
          have HOB := Lib.hid (show ∀ z ∈ Lt, ∀ g, z.1.ownBlock = some g → w.heap.size ≤ g ∧ g < w48.heap.size from fun z hz g hg => by
            obtain ⟨lo, _, _, _, h, _⟩ := HFW.out z (HTM.out z hz)
            obtain ⟨lo', h'⟩ := HRO.out z (HTM.out z hz)
            refine ⟨?_, (h'.lt g hg).2⟩
            have h5 := HSO.out
            have h8 := HWW.out.size
            have hz' := hz
            rw [hLt] at hz'
            simp only [List.mem_cons, List.not_mem_nil, or_false] at hz'
            have hw5 := HW5.out.size
            rcases hz' with rfl | rfl | rfl
            · have := (HI8.out.own.row.lt g hg).1; omega
            · have := (HI9.out.own.row.lt g hg).1; omega
            · have := (HI25.out.own.row.lt g hg).1; omega)
          clear hLt HFW HFR HRB HRO HBAD HNE HPE HRE HRN HRW HRP HCH HFULL HK48 HAP HAR HLS
          go_upto_region 50 with fail
          obtain ⟨w49, eW, hb49, hs49, hA49⟩ := box_new w48 (.cells #[.slice p8 f8.length c8, .slice p9 f9.length c9, .slice p25 f25.length c25] 28)
          rw [eW]
          obtain ⟨arr3, ha3⟩ : ∃ arr3 : Array Value, #[Value.slice p8 f8.length c8, .slice p9 f9.length c9, .slice p25 f25.length c25] = arr3 := ⟨_, rfl⟩
          rw [ha3] at hA49 HAR3
          have HA3 := Lib.hid ha3
          have HK49 := Lib.hid (HK0.out.on hb49)
          have HB49 := Lib.hid (HW48.out.trans (hb49.mono HW48.out.size))
          have HA49 := Lib.hid hA49
          have HS49 := Lib.hid (show w48.heap.size ≤ w49.heap.size from hb49.size)
          clear ha3 eW hb49 hs49 hA49 HK0
          go_loopw [280] (fun ii wx => ∃ kk : Nat, kk ≤ 3 ∧ ii = .int .i64 kk ∧ Hid (KSt wx Lt kk 0) ∧ Hid (Below w.heap.size w wx) ∧ Hid (wx.heap[w48.heap.size]? = some (.cells arr3 28 (0, 0))) ∧ Hid (w48.heap.size ≤ wx.heap.size)) (fun ii _ => 3 - (intOf ii).toNat)
          case atStart => exact ⟨0, by omega, rfl, HK49, HB49, HA49, HS49⟩
          case round =>
            obtain ⟨wx, rfl⟩ : ∃ z, z = wr := ⟨_, rfl⟩
            obtain ⟨kk, hkk, rfl, hks, hbx, hax, hsx⟩ := hrel
            by_cases hk3 : kk < 3
            · obtain ⟨⟨lv, l⟩, hz⟩ : ∃ z, Lt[kk]? = some z := ⟨_, List.getElem?_eq_getElem (by rw [HTL.out]; exact hk3)⟩
              have car : wx.cell? ⟨w48.heap.size, kk, none⟩ = some lv := by simp [World.cell?, hax.out, HAR3.out kk _ hz]
              obtain ⟨pl, cl, hlv⟩ := HTS.out _ (List.mem_of_getElem? hz)
              dsimp only at hlv
              subst hlv
              have HZ := Lib.hid hz
              have HK3 := Lib.hid hk3
              have hgA : w48.heap.size < wx.heap.size := World.block_lt_of_cell? wx _ car
              have hln := HTN.out _ (List.mem_of_getElem? hz)
              dsimp only at hln
              obtain ⟨hw1, hw2⟩ := wrap_k hk3
              clear hz
              go_upto_region 53 with fail
              go_loopw [287] (fun ii wy => ∃ j : Nat, j ≤ l.length ∧ ii = .int .i64 j ∧ Hid (KSt wy Lt kk j) ∧ Hid (Below w.heap.size w wy) ∧ Hid (wy.heap[w48.heap.size]? = some (.cells arr3 28 (0, 0))) ∧ Hid (w48.heap.size ≤ wy.heap.size)) (fun ii _ => l.length - (intOf ii).toNat)
              case atStart => exact ⟨0, by omega, rfl, hks, hbx, hax, hsx⟩
              case round =>
                clear hks hbx hax hsx car hgA
                obtain ⟨wy, rfl⟩ : ∃ z, z = wr := ⟨_, rfl⟩
                obtain ⟨j, hj, rfl, hks, hbx, hax, hsx⟩ := hrel
                by_cases hjl : j < l.length
                · obtain ⟨g, c9', u, hv, ho, hg, hu, hf, hst⟩ := hks.out.store HAPT.out HZ.out hjl
                  dsimp only at hv
                  cases hv
                  have HST := Lib.hid hst
                  have HOG := Lib.hid (HOB.out _ (List.mem_of_getElem? HZ.out) g ho)
                  have HJL := Lib.hid hjl
                  have hcl : decide ((j : Int) < (l.length : Int)) = true := decide_eq_true (by omega)
                  clear hst ho hks
                  go_wp2_with fail
                  go_roundw
                  case rel => exact ⟨j + 1, HJL.out, num_up j, HST, Lib.hid (hbx.out.setCell (p := ⟨g, j * 3, none⟩) HOG.out.1 _), Lib.hid ((Below.heap_setCell _ _ _ _ (by show w48.heap.size ≠ g; have := HOG.out.2; omega)).trans hax.out), Lib.hid (by have := hsx.out; simpa [World.setCell] using this)⟩
                  case measure => exact meas_up HJL.out
                · obtain rfl : j = l.length := Nat.le_antisymm hj (Nat.le_of_not_lt hjl)
                  have HNX := Lib.hid (hks.out.next HZ.out rfl)
                  clear hks hjl hj
                  go_wp2_with fail
                  go_roundw
                  case rel => exact ⟨kk + 1, HK3.out, num_up kk, HNX, hbx, hax, hsx⟩
                  case measure => exact meas_up HK3.out
            · have hk3e : kk = 3 := Nat.le_antisymm hkk (Nat.le_of_not_lt hk3)
              have hks : Hid (KSt wx Lt 3 0) := Lib.hid (by rw [← hk3e]; exact hks.out)
              have hlt3 : decide ((kk : Int) < 3) = false := decide_eq_false (by omega)
              clear hkk hax hk3e hk3
              go_upto_region 59 with fail
              clear hlt3
              obtain ⟨w58, eW, hb58, hs58, hA58⟩ := box_new wx (.cells #[.slice p8 f8.length c8, .slice p9 f9.length c9, .slice p25 f25.length c25] 28)
              rw [eW]
              rw [HA3.out] at hA58
              have HK58 := Lib.hid (hks.out.on hb58)
              have HB58 := Lib.hid (hbx.out.trans (hb58.mono hbx.out.size))
              have HA58 := Lib.hid hA58
              have HS58 := Lib.hid (show wx.heap.size < w58.heap.size ∧ limK Lt wx.heap.size = none from ⟨by omega, limK_none (fun z hz e => by have := (HOB.out z hz _ e).2; have := hsx.out; omega)⟩)
              clear eW hb58 hs58 hA58 hks hbx hsx
              go_loopw [304] (fun ii wy => ∃ kk : Nat, kk ≤ 3 ∧ ii = .int .i64 kk ∧ Hid (Keep (limK Lt) w58 wy)) (fun ii _ => 3 - (intOf ii).toNat)
              case atStart => exact ⟨0, by omega, rfl, Lib.hid (Keep.refl _ _)⟩
              case round =>
                obtain ⟨wy, rfl⟩ : ∃ z, z = wr := ⟨_, rfl⟩
                obtain ⟨kk, hkk, rfl, hkp⟩ := hrel
                by_cases hk3 : kk < 3
                · obtain ⟨⟨lv, l⟩, hz⟩ : ∃ z, Lt[kk]? = some z := ⟨_, List.getElem?_eq_getElem (by rw [HTL.out]; exact hk3)⟩
                  have car : wy.cell? ⟨wx.heap.size, kk, none⟩ = some lv := by
                    have := (hkp.out.block wx.heap.size HS58.out.1 HS58.out.2).trans HA58.out
                    simp [World.cell?, this, HAR3.out kk _ hz]
                  obtain ⟨pl, cl, hlv⟩ := HTS.out _ (List.mem_of_getElem? hz)
                  dsimp only at hlv
                  subst hlv
                  have HZ := Lib.hid hz
                  have HK3 := Lib.hid hk3
                  have hgA : wx.heap.size < wy.heap.size := World.block_lt_of_cell? wy _ car
                  have hln := HTN.out _ (List.mem_of_getElem? hz)
                  dsimp only at hln
                  have hcl3 : decide ((kk : Int) < 3) = true := decide_eq_true (by omega)
                  clear hz
                  go_upto_region 63 with fail
                  go_loopw [40, 309] (fun lv' ii wz => ∃ j : Nat, j ≤ 16 ∧ ii = .int .i64 j ∧ Hid (Keep (limK Lt) w58 wz) ∧ Hid (Loose (limK Lt) w58.heap.size wz 42 3 lv' (l.length + j))) (fun _ ii _ => 16 - (intOf ii).toNat)
                  case atStart => exact ⟨0, by omega, rfl, hkp, Lib.hid (loose_keep HK58.out HAPT.out HZ.out hkp.out)⟩
                  case round =>
                    clear hkp car hgA
                    obtain ⟨wz, rfl⟩ : ∃ z, z = wr := ⟨_, rfl⟩
                    obtain ⟨j, hj, rfl, hk2, hlo⟩ := hrel
                    by_cases hj16 : j < 16
                    · go_upto_region 64 with (fail)
                      go_step
                      iterate 3
                        refine wpList_plain rfl (fun K' hK' => ?_)
                        go_step
                        refine hK' _ _ ?_
                        clear hK' K'
                      have hgb := Below.alloc (Below.refl wz.heap.size wz) (Nat.le_refl _) (.cells (List.toArray [.int .i64 (-1), .slice none 0 0, .slice none 0 0]) 42)
                      have hnew := cellsAt_alloc wz (List.toArray [.int .i64 (-1), .slice none 0 0, .slice none 0 0]) 42 (0, 0)
                      refine wpList_plain rfl (fun K' hK' => ?_)
                      refine wp_append_l (P := Tryz.prog) _ (hk2.out.grow hgb) (.tmp 311) (.tmp 313) 28 rfl 42 (.agg #[.int .i64 0, .slice none 0 0, .slice none 0 0]) 3 56 Tryz.underlying28 (by kernel_rfl) rfl (by decide) u40 (l.length + j) rfl (hlo.out.grow hgb) ⟨wz.heap.size, 0, none⟩ 1 1 [.int .i64 (-1), .slice none 0 0, .slice none 0 0] rfl (by decide) rfl ?c1 ?c2 ?c3 ?c4 ?_
                      case c1 =>
                        intro m u hu
                        rw [addr_add]
                        exact hnew m u (by simpa using hu)
                      case c2 =>
                        intro u hu
                        simp at hu
                        rcases hu with rfl | rfl <;> rfl
                      case c3 => unfold maxLen; omega
                      case c4 => omega
                      intro v' w' hlo' hk'
                      refine hK' _ _ ?_
                      have HL' := Lib.hid hlo'
                      have HK' := Lib.hid hk'
                      have HJ16 := Lib.hid hj16
                      clear hK' K' hgb hnew hlo' hk' hlo hk2
                      go_wp2_with fail
                      go_roundw
                      case rel => exact ⟨j + 1, HJ16.out, num_up j, HK', HL'⟩
                      case measure => exact meas_up HJ16.out
                    · obtain rfl : j = 16 := Nat.le_antisymm hj (Nat.le_of_not_lt hj16)
                      have HLO := Lib.hid (loose_keep HK58.out HAPT.out HZ.out hk2.out)
                      clear hlo hj16 hj
                      go_upto_region 66 with (fail)
                      go_step
                      refine wpList_plain rfl (fun K' hK' => ?_)
                      go_step
                      refine hK' _ _ ?_
                      clear hK' K'
                      refine wpList_plain rfl (fun K' hK' => ?_)
                      refine wp_make_l (P := Tryz.prog) _ hk2.out (.tmp 316) (.const (.int .i64 64)) 28 3 rfl 42 (.agg #[.int .i64 0, .slice none 0 0, .slice none 0 0]) 3 56 Tryz.underlying28 Tryz.underlying3 (by kernel_rfl) rfl (by decide) (by decide) (by decide) (.slice pl l.length cl) l.length rfl HLO.out 64 rfl (by decide) (by decide) ?c2 ?c3 ?c4 ?_
                      case c2 =>
                        refine zero_one (fun u hu => ?_)
                        simp [Value.cells] at hu
                        rcases hu with rfl | rfl <;> rfl
                      case c3 => unfold maxLen; omega
                      case c4 => omega
                      intro v' w' hk'
                      refine hK' _ _ ?_
                      have HK' := Lib.hid hk'
                      clear hK' K' hk' hk2 HLO
                      go_wp2_with fail
                      go_roundw
                      case rel => exact ⟨kk + 1, HK3.out, num_up kk, HK'⟩
                      case measure => exact meas_up HK3.out
                · have hlt3 : decide ((kk : Int) < 3) = false := decide_eq_false (by omega)
                  clear hk3 hkk
                  go_upto_region 69 with fail
                  clear hlt3
                  obtain ⟨w68, eW, hb68, hs68, hA68⟩ := box_new wy (.cells #[.slice p8 f8.length c8, .slice p9 f9.length c9, .slice p25 f25.length c25] 28)
                  rw [eW]
                  rw [HA3.out] at hA68
                  have HKP := Lib.hid (hkp.out.grow hb68)
                  have HA68 := Lib.hid hA68
                  have HBE := Lib.hid (keep_below HKP.out HB58.out (fun z hz g hg => (HOB.out z hz g hg).1))
                  clear eW hb68 hs68 hA68 hkp
                  go_loopw [324] (fun ii wv => ∃ kk : Nat, kk ≤ 3 ∧ ii = .int .i64 kk ∧ Hid (wv = w68)) (fun ii _ => 3 - (intOf ii).toNat)
                  case atStart => exact ⟨0, by omega, rfl, Lib.hid rfl⟩
                  case round =>
                    obtain ⟨kk', hkk, rfl, hwv⟩ := hrel
                    have hwv' := hwv.out
                    subst hwv'
                    clear hwv
                    obtain ⟨wv, rfl⟩ : ∃ z, z = wr := ⟨_, rfl⟩
                    by_cases hk3 : kk' < 3
                    · obtain ⟨⟨lv, l⟩, hz⟩ : ∃ z, Lt[kk']? = some z := ⟨_, List.getElem?_eq_getElem (by rw [HTL.out]; exact hk3)⟩
                      have car : wv.cell? ⟨wy.heap.size, kk', none⟩ = some lv := by simp [World.cell?, HA68.out, HAR3.out kk' _ hz]
                      obtain ⟨pl, cl, hlv⟩ := HTS.out _ (List.mem_of_getElem? hz)
                      dsimp only at hlv
                      subst hlv
                      have HZ := Lib.hid hz
                      have HK3 := Lib.hid hk3
                      have hgA : wy.heap.size < wv.heap.size := World.block_lt_of_cell? wv _ car
                      have hln := HTN.out _ (List.mem_of_getElem? hz)
                      dsimp only at hln
                      obtain ⟨hw1, hw2⟩ := wrap_k hk3
                      clear hz
                      go_upto_region 72 with fail
                      clear car hgA
                      go_loopw [331] (fun ii wu => ∃ j : Nat, j ≤ l.length ∧ ii = .int .i64 j ∧ Hid (wu = wv)) (fun ii _ => l.length - (intOf ii).toNat)
                      case atStart => exact ⟨0, by omega, rfl, Lib.hid rfl⟩
                      case round =>
                        obtain ⟨j, hj, rfl, hwu⟩ := hrel
                        have hwu' := hwu.out
                        subst hwu'
                        clear hwu
                        by_cases hjl : j < l.length
                        · obtain ⟨g, c9', hv, hg, hc⟩ := kind_keep HK58.out HAPT.out HKP.out HZ.out hjl HK3.out
                          dsimp only at hv
                          cases hv
                          have HJL := Lib.hid hjl
                          go_wp2_with fail
                          go_roundw
                          case rel => exact ⟨j + 1, HJL.out, num_up j, Lib.hid (by first | rfl | trivial)⟩
                          case measure => exact meas_up HJL.out
                        · obtain rfl : j = l.length := Nat.le_antisymm hj (Nat.le_of_not_lt hjl)
                          clear hjl hj
                          go_wp2_with fail
                          go_roundw
                          case rel => exact ⟨kk' + 1, HK3.out, num_up kk', Lib.hid (by first | rfl | trivial)⟩
                          case measure => exact meas_up HK3.out
                    · have hlt3 : decide ((kk' : Int) < 3) = false := decide_eq_false (by omega)
                      clear hk3 hkk
                      go_wp2_with fail
                      go_ret
                      exact ⟨rfl, HBE.out⟩
end Go.Proofs.YtnmnmkdmnohbmaaGreatDoor
