/- TreeSound: the walk over the law. Conditions: none. -/
import Derived.Test.YtnmnmkdmnohbmaaDoorPackF
import Derived.Test.YtnmnmkdmnohbmaaDoorPackG
import Derived.Test.YtnmnmkdmnohbmaaDoorTwo
import Derived.Test.YtnmnmkdmnohbmaaDoorSize
namespace Go.Proofs.YtnmnmkdmnohbmaaDoor
open Go Go.RowKit
attribute [local go_sem] run_store_float

/-- The value of the fixed check: a list of a number and of a handle. -/
def numV1 : V := .mk 2 false 1 0 ⟨#[]⟩ ⟨#[]⟩ [] []
def hdlV : V := .mk 7 false 0 0 ⟨#[]⟩ ⟨#[]⟩ [] []
def badV : V := .mk 5 false 0 0 ⟨#[]⟩ ⟨#[]⟩ [numV1, hdlV] []
theorem badV_snd : sndV badV = ([⟨⟨#[]⟩, 1, true⟩], 2) := by
  have h1 : ownF badV = 0 := by decide
  have h2 : ownF numV1 = 0 := by decide
  have h3 : ownF hdlV = 2 := by decide
  have e : sndV numV1 = ([], 0) := by
    rw [sndV_bad, if_neg (by simp [h2])]
    rfl
  have e2 : sndV hdlV = ([], 2) := by
    rw [sndV_bad, if_pos (by simp [h3]), h3]
  rw [sndV_bad, if_neg (by simp [h1])]
  show bad [(⟨⟨#[]⟩, ((0 : Nat) : Int), true⟩, numV1), (⟨⟨#[]⟩, ((0 + 1 : Nat) : Int), true⟩, hdlV)] = _
  rw [bad, if_neg (by simp [e]), bad, if_pos (by simp [e2])]
  simp [e2]
theorem badV_sz : szV badV ≤ 1000000 := by decide
theorem badV_sh : shV badV := by
  have e : (⟨#[]⟩ : ByteArray).size = 0 := rfl
  simp [badV, numV1, hdlV, shV, shVs, shFs, e]
theorem badV_is {w : World} {g : Nat} (h : w.heap[g]? = some (.cells #[.int .i64 2, .bool false, .int .i64 1, .float .f64 0, .string ⟨#[]⟩, .string ⟨#[]⟩, .slice none 0 0, .slice none 0 0, .int .i64 7, .bool false, .int .i64 0, .float .f64 0, .string ⟨#[]⟩, .string ⟨#[]⟩, .slice none 0 0, .slice none 0 0] 27 (0, 0))) :
    IsV w.heap.size w badV #[.int .i64 5, .bool false, .int .i64 0, .float .f64 0, .string ⟨#[]⟩, .string ⟨#[]⟩, .slice (some ⟨g, 0, none⟩) 2 2, .slice none 0 0] := by
  refine ⟨some ⟨g, 0, none⟩, 2, none, 0, rfl, .inr ⟨g, 0, rfl, (Array.getElem?_eq_some_iff.1 h).1, ⟨⟨vcells 2 false 1 0 ⟨#[]⟩ ⟨#[]⟩ none 0 0 none 0 0, ?_, none, 0, none, 0, rfl, .inl rfl, .inl rfl, by simp [lenMax], by simp [lenMax]⟩, ⟨vcells 7 false 0 0 ⟨#[]⟩ ⟨#[]⟩ none 0 0 none 0 0, ?_, none, 0, none, 0, rfl, .inl rfl, .inl rfl, by simp [lenMax], by simp [lenMax]⟩, trivial⟩⟩, .inl rfl, by simp [lenMax], by simp [lenMax]⟩
  · intro j x hx
    match j, hx with
    | 0, hx | 1, hx | 2, hx | 3, hx | 4, hx | 5, hx | 6, hx | 7, hx => cases hx; simp [World.cell?, h]
    | j + 8, hx => simp at hx
  · intro j x hx
    match j, hx with
    | 0, hx | 1, hx | 2, hx | 3, hx | 4, hx | 5, hx | 6, hx | 7, hx => cases hx; simp [World.cell?, h]
    | j + 8, hx => simp at hx

set_option maxRecDepth 100000 in
set_option maxHeartbeats 4000000 in
theorem TreeSound_walk (v : V) (cs : Array Value) (w : World) (hv : IsV w.heap.size w v cs) (hsh : shV v) (hT : TabsIn w) :
    Calls Tryd.prog 3 #[.agg cs] w (RetB (.bool true) w) := by
  have HV := Lib.hid hv
  have HSH := Lib.hid hsh
  have HT := Lib.hid hT
  obtain ⟨k, b, i, f, t, ty, p, n, c, q, m, d, rfl⟩ := isV_cells hv
  clear hv hsh hT
  obtain ⟨W0, hW0⟩ : ∃ W0, w.alloc (.cells (vcells k b i f t ty p n c q m d) 27) = W0 := ⟨_, rfl⟩
  have hb0 : Below w.heap.size w W0 := by rw [← hW0]; exact (Below.refl _ _).alloc (Nat.le_refl _) _
  have hc0 : CellsAt W0 w.heap.size 0 (vcells k b i f t ty p n c q m d) := by rw [← hW0]; exact cellsAt_alloc _ _ _ _
  have hlt : w.heap.size < W0.heap.size := by rw [← hW0]; simp
  have HB0 := Lib.hid hb0
  have HC0 := Lib.hid hc0
  clear hb0 hc0
  have tk := trivial
  go_enter Tryd.func3, Tryd.ntmps3
  go_upto_region 2 with (go_at_call 11; clear tk; refine (num_any _ _).mono ?_; rintro e w1 ⟨rfl, hb1⟩)
  have HW0 := Lib.hid hW0
  clear hW0
  obtain ⟨W2, hW2, hb2, hsz2, hbad, hbox⟩ : ∃ W2, ((w1.alloc (.cells #[.int .i64 2, .bool false, .int .i64 1, .float .f64 0, .string ⟨#[]⟩, .string ⟨#[]⟩, .slice none 0 0, .slice none 0 0, .int .i64 7, .bool false, .int .i64 0, .float .f64 0, .string ⟨#[]⟩, .string ⟨#[]⟩, .slice none 0 0, .slice none 0 0] 27)).alloc (.cells #[.int .i64 5, .bool false, .int .i64 0, .float .f64 0, .string ⟨#[]⟩, .string ⟨#[]⟩, .slice (some ⟨w1.heap.size, 0, none⟩) 2 2, .slice none 0 0] 27)) = W2 ∧ Below w1.heap.size w1 W2 ∧ W2.heap.size = w1.heap.size + 2 ∧
      W2.heap[w1.heap.size]? = some (.cells #[.int .i64 2, .bool false, .int .i64 1, .float .f64 0, .string ⟨#[]⟩, .string ⟨#[]⟩, .slice none 0 0, .slice none 0 0, .int .i64 7, .bool false, .int .i64 0, .float .f64 0, .string ⟨#[]⟩, .string ⟨#[]⟩, .slice none 0 0, .slice none 0 0] 27 (0, 0)) ∧
      W2.heap[w1.heap.size + 1]? = some (.cells (vcells 5 false 0 0 ⟨#[]⟩ ⟨#[]⟩ (some ⟨w1.heap.size, 0, none⟩) 2 2 none 0 0) 27 (0, 0)) := by
    refine ⟨_, rfl, ((Below.refl _ _).alloc (Nat.le_refl _) _).alloc (by simp) _, by simp, (Below.heap_alloc _ _ _ (by simp)).trans (heap_new w1 _), ?_⟩
    have := heap_new (w1.alloc (.cells #[.int .i64 2, .bool false, .int .i64 1, .float .f64 0, .string ⟨#[]⟩, .string ⟨#[]⟩, .slice none 0 0, .slice none 0 0, .int .i64 7, .bool false, .int .i64 0, .float .f64 0, .string ⟨#[]⟩, .string ⟨#[]⟩, .slice none 0 0, .slice none 0 0] 27)) (.cells #[.int .i64 5, .bool false, .int .i64 0, .float .f64 0, .string ⟨#[]⟩, .string ⟨#[]⟩, .slice (some ⟨w1.heap.size, 0, none⟩) 2 2, .slice none 0 0] 27)
    rwa [World.size_alloc] at this
  rw [hW2]
  clear hW2
  have hb12 : Below w.heap.size w W2 := HB0.out.trans ((hb1.trans (hb2.mono hb1.size)).mono HB0.out.size)
  obtain ⟨b0, b1, b2, b3, b4, b5, b6, b7⟩ := (block_of_cells hbox).all0
  have hlb : w1.heap.size + 1 < W2.heap.size := by omega
  have hlv : w.heap.size < W2.heap.size := by have := hb1.size; omega
  have HCB := Lib.hid (Sound_any _ badV (Nat.le_refl _) _ W2 (badV_is hbad) badV_sz badV_sh (HT.out.on hb12))
  have HCV : Hid (CellsAt W2 w.heap.size 0 (vcells k b i f t ty p n c q m d)) := Lib.hid (HC0.out.below (hb1.trans (hb2.mono hb1.size)) hlt)
  have HB2 := Lib.hid hb12
  unfold SndP at HCB
  rw [badV_snd] at HCB
  clear hb1 hb2 hbad hbox hb12 HB0 HC0 hsz2
  have tk := trivial
  go_upto_region 3 with (go_at_call 12; clear tk; refine HCB.out.mono ?_; rintro e w3 ⟨sv, rfl, hrow, hb3⟩)
  obtain ⟨g, cap, rfl, hgl, g0, g1, g2⟩ : ∃ g cap, sv = .slice (some ⟨g, 0, none⟩) 1 cap ∧ g < w3.heap.size ∧ w3.cell? ⟨g, 0, none⟩ = some (.string ⟨#[]⟩) ∧ w3.cell? ⟨g, 1, none⟩ = some (.int .i64 1) ∧ w3.cell? ⟨g, 2, none⟩ = some (.bool true) := by
    rcases hrow.2 with ⟨rfl, h0⟩ | ⟨g, cap, cur, rfl, _, hb, _⟩
    · cases h0
    · have hc := fun j u h => hrow.cells (g := g) rfl j u h
      refine ⟨g, cap, rfl, (Array.getElem?_eq_some_iff.1 hb).1, ?_, ?_, ?_⟩
      · have := hc 0 (.string ⟨#[]⟩) rfl; rwa [addr_add] at this
      · have := hc 1 (.int .i64 1) rfl; rwa [addr_add] at this
      · have := hc 2 (.bool true) rfl; rwa [addr_add] at this
  have hb3' := HB2.out.trans (hb3.mono HB2.out.size)
  have HB3 := Lib.hid hb3'
  have HCV3 : Hid (CellsAt w3 w.heap.size 0 (vcells k b i f t ty p n c q m d)) := Lib.hid (HCV.out.below hb3 hlv)
  have hlv3 : w.heap.size < w3.heap.size := Nat.lt_of_lt_of_le hlv hb3.size
  clear hb3 hb3' hrow b0 b1 b2 b3 b4 b5 b6 b7 HCB HCV hlb hlv
  obtain ⟨a0, a1, a2, a3, a4, a5, a6, a7⟩ := HCV3.out.all0
  have HSZ := Lib.hid (Size_any _ v (Nat.le_refl _) _ w3 100000 (HV.out.on HB3.out) (by decide) (by decide))
  have tk := trivial
  by_cases hz : 100000 < sizeR v 100000
  · have dz : decide (100000 < sizeR v 100000) = true := by simp [hz]
    go_wp2_with (go_at_call 13; clear tk; refine HSZ.out.mono ?_; rintro _ w4 ⟨rfl, hb4⟩)
    go_ret
    exact ⟨rfl, HB3.out.trans (hb4.mono HB3.out.size)⟩
  · have hsv : szV v ≤ 100000 := by have := sizeR_eq v 100000 (by omega); omega
    have dz : decide (100000 < sizeR v 100000) = false := by simp; omega
    have hsl := snd_len _ v (Nat.le_refl _)
    have HSV := Lib.hid hsv
    clear hz hsv
    have HSO := Lib.hid (show ∀ w4, Below w.heap.size w w4 → Calls Tryd.prog 12 #[.agg (vcells k b i f t ty p n c q m d)] w4 (SndP v w4) from fun w4 hb => Sound_any _ v (Nat.le_refl _) _ w4 (HV.out.on hb) (by have := HSV.out; omega) HSH.out (HT.out.on hb))
    have HSR := Lib.hid (show ∀ w4, Below w.heap.size w w4 → Calls Tryd.prog 14 #[.agg (vcells k b i f t ty p n c q m d)] w4 (SndP v w4) from fun w4 hb => refSound_any v _ w4 (HV.out.on hb) (by have := HSV.out; omega) HSH.out)
    unfold SndP at HSO HSR
    have hsl' : (sndV v).1.length ≤ 100000 := by have := HSV.out; omega
    generalize sndV v = S at *
    obtain ⟨path, E⟩ := S
    dsimp only at HSO HSR hsl'
    clear hsl
    have tk := trivial
    have tk2 := trivial
    have tk3 := trivial
    have tk4 := trivial
    go_wp2_with (first
      | (go_at_call 13; clear tk; refine HSZ.out.mono ?_; rintro _ w4 ⟨rfl, hb4⟩; have HB4 := Lib.hid (HB3.out.trans (hb4.mono HB3.out.size)); clear a0 a1 a2 a3 a4 a5 a6 a7; obtain ⟨a0, a1, a2, a3, a4, a5, a6, a7⟩ := (HCV3.out.below hb4 hlv3).all0; have HCV4 := Lib.hid (HCV3.out.below hb4 hlv3); have hlv4 := Nat.lt_of_lt_of_le hlv3 hb4.size; clear hb4)
      | (go_at_call 12; clear tk2; refine (HSO.out _ HB4.out).mono ?_; rintro _ w5 ⟨sv5, rfl, hr5, hb5⟩; have HB5 := Lib.hid (HB4.out.trans (hb5.mono HB4.out.size)); obtain ⟨d0, d1, d2, d3, d4, d5, d6, d7⟩ := (HCV4.out.below hb5 hlv4).all0; have hlv5 := Nat.lt_of_lt_of_le hlv4 hb5.size; have HR5 := Lib.hid hr5; clear hb5 hr5)
      | (go_at_call 14; clear tk3; refine (HSR.out _ HB5.out).mono ?_; rintro _ w6 ⟨sv6, rfl, hr6, hb6⟩; have HB6 := Lib.hid (HB5.out.trans (hb6.mono HB5.out.size)); obtain ⟨p5, c5, rfl, _, _, hst5⟩ := row_steps HR5.out; obtain ⟨p6, c6, rfl, _, _, hst6⟩ := row_steps hr6; have HC := Lib.hid (SameSteps_d path path p5 p6 c5 c6 w6 (hst5.on hb6) hst6 (by omega) (by omega)); clear hr6 hst5 hst6 hb6)
      | (go_at_call 15; clear tk4; refine HC.out.mono ?_; rintro _ w7 ⟨r, rfl, hr7, hb7⟩; obtain rfl : r = true := hr7.2 (by trivial)))
    go_ret
    exact ⟨rfl, HB6.out.trans (hb7.mono HB6.out.size)⟩
end Go.Proofs.YtnmnmkdmnohbmaaDoor
