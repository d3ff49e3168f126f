/- The reference's order of faults, and what it takes for alike. Conditions: none. -/
import Derived.Test.YtnmnmkdmnohbmaaFlt
namespace Go.Proofs.Ytnmnmkdmnohbmaa
open Go.RowKit

set_option maxRecDepth 100000 in
set_option maxHeartbeats 4000000 in
theorem comparePos_any (a b : List (Int × Int)) (p q : Option Addr) (c d : Nat) (w : World) (ha : PosAt w.heap.size w p a) (hb : PosAt w.heap.size w q b) (la : a.length ≤ big) (lb : b.length ≤ big) :
    Calls Try.prog 78 #[.slice p a.length c, .slice q b.length d] w (RetB (.int .i64 (lexL cmpPos1 a b)) w) := by
  unfold big at la lb
  go_enter Try.func78, Try.ntmps78
  go_wp2
  go_loopw [5] (fun i wr => ∃ k : Nat, k ≤ a.length ∧ k ≤ b.length ∧ i = .int .i64 k ∧ Hid (lexL cmpPos1 (a.drop k) (b.drop k) = lexL cmpPos1 a b) ∧ Hid (Below w.heap.size w wr)) (fun i _ => a.length - (intOf i).toNat)
  case atStart => exact ⟨0, Nat.zero_le _, Nat.zero_le _, rfl, rfl, Lib.hid (Below.refl _ _)⟩
  case round =>
    obtain ⟨k, hka, hkb, rfl, hcmp, HBwr⟩ := hrel
    by_cases h1 : k < a.length
    · by_cases h2 : k < b.length
      · obtain ⟨x, hx⟩ : ∃ x, a[k]? = some x := ⟨a[k], by simp [h1]⟩
        obtain ⟨y, hy⟩ : ∃ y, b[k]? = some y := ⟨b[k], by simp [h2]⟩
        rcases ha with ha | ⟨ba, oa, rfl, hBa, hca⟩
        · subst ha; simp at h1
        rcases hb with hb | ⟨bb, ob, rfl, hBb, hcb⟩
        · subst hb; simp at h2
        obtain ⟨a1, a2⟩ := hca k x hx
        obtain ⟨b1, b2⟩ := hcb k y hy
        have a1 := (HBwr.out.cell (p := ⟨ba, oa + k * 2, none⟩) hBa).trans a1
        have a2 := (HBwr.out.cell (p := ⟨ba, oa + k * 2 + 1, none⟩) hBa).trans a2
        have b1 := (HBwr.out.cell (p := ⟨bb, ob + k * 2, none⟩) hBb).trans b1
        have b2 := (HBwr.out.cell (p := ⟨bb, ob + k * 2 + 1, none⟩) hBb).trans b2
        have hw1 : ba < wr.heap.size := Nat.lt_of_lt_of_le hBa HBwr.out.size
        have hw2 : bb < wr.heap.size := Nat.lt_of_lt_of_le hBb HBwr.out.size
        have HX := Lib.hid hx
        have HY := Lib.hid hy
        clear hca hcb hx hy
        obtain ⟨x1, x2⟩ := x
        obtain ⟨y1, y2⟩ := y
        dsimp only at a1 a2 b1 b2
        by_cases g1 : x1 < y1
        · have g1' : decide (x1 < y1) = true := decide_eq_true g1
          have HE := Lib.hid (show cmpPos1 (x1, x2) (y1, y2) = -1 by unfold cmpPos1; rw [cmpI_lt g1]; rfl)
          go_wp2
          refine wp_region_plan_below 12 [(0, [0, 1, 2, 3, 4, 5, 6, 7, 8, 9, 10, 11])] (by kernel_rfl) (by kernel_rfl) (fun _ _ _ _ h => h) ?_
          simp only [wpSegs, pickOps, List.getElem?_toArray, List.getElem?_cons_zero, List.getElem?_cons_succ]
          have kc := cell_cls wr
          iterate 12 (go_big_quiet_step (fail))
          refine wpQuiet_nil ?_
          clear kc
          obtain ⟨v1, hV⟩ : ∃ v1 : World, { wr with drawn := wr.drawn + 1 } = v1 := ⟨_, rfl⟩
          rw [hV]
          have a1_1 : v1.cell? ⟨ba, oa + k * 2, none⟩ = some (.int .i64 x1) := by rw [← hV]; exact a1
          have a2_1 : v1.cell? ⟨ba, oa + k * 2 + 1, none⟩ = some (.int .i64 x2) := by rw [← hV]; exact a2
          have b1_1 : v1.cell? ⟨bb, ob + k * 2, none⟩ = some (.int .i64 y1) := by rw [← hV]; exact b1
          have b2_1 : v1.cell? ⟨bb, ob + k * 2 + 1, none⟩ = some (.int .i64 y2) := by rw [← hV]; exact b2
          have szv1 : v1.heap.size = wr.heap.size := by rw [← hV]
          have h1v1 : ba < v1.heap.size := by omega
          have h2v1 : bb < v1.heap.size := by omega
          have HBv1 : Hid (Below w.heap.size w v1) := Lib.hid (by rw [← hV]; exact HBwr.out.trans ((Below.drew (Below.refl wr.heap.size wr)).mono HBwr.out.size))
          clear hV szv1
          clear a1 a2 b1 b2
          go_wp2
          go_ret
          exact ⟨ret_eq (by rw [← lexL_stop HX.out HY.out (by rw [HE.out]; decide) hcmp.out, HE.out]; rfl), HBv1.out⟩
        by_cases g2 : y1 < x1
        · have g1' : decide (x1 < y1) = false := decide_eq_false g1
          have g2' : decide (y1 < x1) = true := decide_eq_true g2
          have HE := Lib.hid (show cmpPos1 (x1, x2) (y1, y2) = 1 by unfold cmpPos1; rw [cmpI_gt g2]; rfl)
          go_wp2
          refine wp_region_plan_below 12 [(0, [0, 1, 2, 3, 4, 5, 6, 7, 8, 9, 10, 11])] (by kernel_rfl) (by kernel_rfl) (fun _ _ _ _ h => h) ?_
          simp only [wpSegs, pickOps, List.getElem?_toArray, List.getElem?_cons_zero, List.getElem?_cons_succ]
          have kc := cell_cls wr
          iterate 12 (go_big_quiet_step (fail))
          refine wpQuiet_nil ?_
          clear kc
          obtain ⟨v1, hV⟩ : ∃ v1 : World, { wr with drawn := wr.drawn + 1 } = v1 := ⟨_, rfl⟩
          rw [hV]
          have a1_1 : v1.cell? ⟨ba, oa + k * 2, none⟩ = some (.int .i64 x1) := by rw [← hV]; exact a1
          have a2_1 : v1.cell? ⟨ba, oa + k * 2 + 1, none⟩ = some (.int .i64 x2) := by rw [← hV]; exact a2
          have b1_1 : v1.cell? ⟨bb, ob + k * 2, none⟩ = some (.int .i64 y1) := by rw [← hV]; exact b1
          have b2_1 : v1.cell? ⟨bb, ob + k * 2 + 1, none⟩ = some (.int .i64 y2) := by rw [← hV]; exact b2
          have szv1 : v1.heap.size = wr.heap.size := by rw [← hV]
          have h1v1 : ba < v1.heap.size := by omega
          have h2v1 : bb < v1.heap.size := by omega
          have HBv1 : Hid (Below w.heap.size w v1) := Lib.hid (by rw [← hV]; exact HBwr.out.trans ((Below.drew (Below.refl wr.heap.size wr)).mono HBwr.out.size))
          clear hV szv1
          clear a1 a2 b1 b2
          go_wp2
          refine wp_region_plan_below 12 [(0, [0, 1, 2, 3, 4, 5, 6, 7, 8, 9, 10, 11])] (by kernel_rfl) (by kernel_rfl) (fun _ _ _ _ h => h) ?_
          simp only [wpSegs, pickOps, List.getElem?_toArray, List.getElem?_cons_zero, List.getElem?_cons_succ]
          have kc := cell_cls v1
          iterate 12 (go_big_quiet_step (fail))
          refine wpQuiet_nil ?_
          clear kc
          obtain ⟨v2, hV⟩ : ∃ v2 : World, { v1 with drawn := v1.drawn + 1 } = v2 := ⟨_, rfl⟩
          rw [hV]
          have a1_2 : v2.cell? ⟨ba, oa + k * 2, none⟩ = some (.int .i64 x1) := by rw [← hV]; exact a1_1
          have a2_2 : v2.cell? ⟨ba, oa + k * 2 + 1, none⟩ = some (.int .i64 x2) := by rw [← hV]; exact a2_1
          have b1_2 : v2.cell? ⟨bb, ob + k * 2, none⟩ = some (.int .i64 y1) := by rw [← hV]; exact b1_1
          have b2_2 : v2.cell? ⟨bb, ob + k * 2 + 1, none⟩ = some (.int .i64 y2) := by rw [← hV]; exact b2_1
          have szv2 : v2.heap.size = v1.heap.size := by rw [← hV]
          have h1v2 : ba < v2.heap.size := by omega
          have h2v2 : bb < v2.heap.size := by omega
          have HBv2 : Hid (Below w.heap.size w v2) := Lib.hid (by rw [← hV]; exact HBv1.out.trans ((Below.drew (Below.refl v1.heap.size v1)).mono HBv1.out.size))
          clear hV szv2
          clear a1_1 a2_1 b1_1 b2_1
          go_wp2
          go_ret
          exact ⟨ret_eq (by rw [← lexL_stop HX.out HY.out (by rw [HE.out]; decide) hcmp.out, HE.out]; rfl), HBv2.out⟩
        by_cases g3 : x2 < y2
        · have g1' : decide (x1 < y1) = false := decide_eq_false g1
          have g2' : decide (y1 < x1) = false := decide_eq_false g2
          have g3' : decide (x2 < y2) = true := decide_eq_true g3
          have HE := Lib.hid (show cmpPos1 (x1, x2) (y1, y2) = -1 by unfold cmpPos1; rw [cmpI_eq (by omega) (by omega), if_pos rfl, cmpI_lt g3])
          go_wp2
          refine wp_region_plan_below 12 [(0, [0, 1, 2, 3, 4, 5, 6, 7, 8, 9, 10, 11])] (by kernel_rfl) (by kernel_rfl) (fun _ _ _ _ h => h) ?_
          simp only [wpSegs, pickOps, List.getElem?_toArray, List.getElem?_cons_zero, List.getElem?_cons_succ]
          have kc := cell_cls wr
          iterate 12 (go_big_quiet_step (fail))
          refine wpQuiet_nil ?_
          clear kc
          obtain ⟨v1, hV⟩ : ∃ v1 : World, { wr with drawn := wr.drawn + 1 } = v1 := ⟨_, rfl⟩
          rw [hV]
          have a1_1 : v1.cell? ⟨ba, oa + k * 2, none⟩ = some (.int .i64 x1) := by rw [← hV]; exact a1
          have a2_1 : v1.cell? ⟨ba, oa + k * 2 + 1, none⟩ = some (.int .i64 x2) := by rw [← hV]; exact a2
          have b1_1 : v1.cell? ⟨bb, ob + k * 2, none⟩ = some (.int .i64 y1) := by rw [← hV]; exact b1
          have b2_1 : v1.cell? ⟨bb, ob + k * 2 + 1, none⟩ = some (.int .i64 y2) := by rw [← hV]; exact b2
          have szv1 : v1.heap.size = wr.heap.size := by rw [← hV]
          have h1v1 : ba < v1.heap.size := by omega
          have h2v1 : bb < v1.heap.size := by omega
          have HBv1 : Hid (Below w.heap.size w v1) := Lib.hid (by rw [← hV]; exact HBwr.out.trans ((Below.drew (Below.refl wr.heap.size wr)).mono HBwr.out.size))
          clear hV szv1
          clear a1 a2 b1 b2
          go_wp2
          refine wp_region_plan_below 12 [(0, [0, 1, 2, 3, 4, 5, 6, 7, 8, 9, 10, 11])] (by kernel_rfl) (by kernel_rfl) (fun _ _ _ _ h => h) ?_
          simp only [wpSegs, pickOps, List.getElem?_toArray, List.getElem?_cons_zero, List.getElem?_cons_succ]
          have kc := cell_cls v1
          iterate 12 (go_big_quiet_step (fail))
          refine wpQuiet_nil ?_
          clear kc
          obtain ⟨v2, hV⟩ : ∃ v2 : World, { v1 with drawn := v1.drawn + 1 } = v2 := ⟨_, rfl⟩
          rw [hV]
          have a1_2 : v2.cell? ⟨ba, oa + k * 2, none⟩ = some (.int .i64 x1) := by rw [← hV]; exact a1_1
          have a2_2 : v2.cell? ⟨ba, oa + k * 2 + 1, none⟩ = some (.int .i64 x2) := by rw [← hV]; exact a2_1
          have b1_2 : v2.cell? ⟨bb, ob + k * 2, none⟩ = some (.int .i64 y1) := by rw [← hV]; exact b1_1
          have b2_2 : v2.cell? ⟨bb, ob + k * 2 + 1, none⟩ = some (.int .i64 y2) := by rw [← hV]; exact b2_1
          have szv2 : v2.heap.size = v1.heap.size := by rw [← hV]
          have h1v2 : ba < v2.heap.size := by omega
          have h2v2 : bb < v2.heap.size := by omega
          have HBv2 : Hid (Below w.heap.size w v2) := Lib.hid (by rw [← hV]; exact HBv1.out.trans ((Below.drew (Below.refl v1.heap.size v1)).mono HBv1.out.size))
          clear hV szv2
          clear a1_1 a2_1 b1_1 b2_1
          go_wp2
          refine wp_region_plan_below 12 [(0, [0, 1, 2, 3, 4, 5, 6, 7, 8, 9, 10, 11])] (by kernel_rfl) (by kernel_rfl) (fun _ _ _ _ h => h) ?_
          simp only [wpSegs, pickOps, List.getElem?_toArray, List.getElem?_cons_zero, List.getElem?_cons_succ]
          have kc := cell_cls v2
          iterate 12 (go_big_quiet_step (fail))
          refine wpQuiet_nil ?_
          clear kc
          obtain ⟨v3, hV⟩ : ∃ v3 : World, { v2 with drawn := v2.drawn + 1 } = v3 := ⟨_, rfl⟩
          rw [hV]
          have a1_3 : v3.cell? ⟨ba, oa + k * 2, none⟩ = some (.int .i64 x1) := by rw [← hV]; exact a1_2
          have a2_3 : v3.cell? ⟨ba, oa + k * 2 + 1, none⟩ = some (.int .i64 x2) := by rw [← hV]; exact a2_2
          have b1_3 : v3.cell? ⟨bb, ob + k * 2, none⟩ = some (.int .i64 y1) := by rw [← hV]; exact b1_2
          have b2_3 : v3.cell? ⟨bb, ob + k * 2 + 1, none⟩ = some (.int .i64 y2) := by rw [← hV]; exact b2_2
          have szv3 : v3.heap.size = v2.heap.size := by rw [← hV]
          have h1v3 : ba < v3.heap.size := by omega
          have h2v3 : bb < v3.heap.size := by omega
          have HBv3 : Hid (Below w.heap.size w v3) := Lib.hid (by rw [← hV]; exact HBv2.out.trans ((Below.drew (Below.refl v2.heap.size v2)).mono HBv2.out.size))
          clear hV szv3
          clear a1_2 a2_2 b1_2 b2_2
          go_wp2
          go_ret
          exact ⟨ret_eq (by rw [← lexL_stop HX.out HY.out (by rw [HE.out]; decide) hcmp.out, HE.out]; rfl), HBv3.out⟩
        by_cases g4 : y2 < x2
        · have g1' : decide (x1 < y1) = false := decide_eq_false g1
          have g2' : decide (y1 < x1) = false := decide_eq_false g2
          have g3' : decide (x2 < y2) = false := decide_eq_false g3
          have g4' : decide (y2 < x2) = true := decide_eq_true g4
          have HE := Lib.hid (show cmpPos1 (x1, x2) (y1, y2) = 1 by unfold cmpPos1; rw [cmpI_eq (by omega) (by omega), if_pos rfl, cmpI_gt g4])
          go_wp2
          refine wp_region_plan_below 12 [(0, [0, 1, 2, 3, 4, 5, 6, 7, 8, 9, 10, 11])] (by kernel_rfl) (by kernel_rfl) (fun _ _ _ _ h => h) ?_
          simp only [wpSegs, pickOps, List.getElem?_toArray, List.getElem?_cons_zero, List.getElem?_cons_succ]
          have kc := cell_cls wr
          iterate 12 (go_big_quiet_step (fail))
          refine wpQuiet_nil ?_
          clear kc
          obtain ⟨v1, hV⟩ : ∃ v1 : World, { wr with drawn := wr.drawn + 1 } = v1 := ⟨_, rfl⟩
          rw [hV]
          have a1_1 : v1.cell? ⟨ba, oa + k * 2, none⟩ = some (.int .i64 x1) := by rw [← hV]; exact a1
          have a2_1 : v1.cell? ⟨ba, oa + k * 2 + 1, none⟩ = some (.int .i64 x2) := by rw [← hV]; exact a2
          have b1_1 : v1.cell? ⟨bb, ob + k * 2, none⟩ = some (.int .i64 y1) := by rw [← hV]; exact b1
          have b2_1 : v1.cell? ⟨bb, ob + k * 2 + 1, none⟩ = some (.int .i64 y2) := by rw [← hV]; exact b2
          have szv1 : v1.heap.size = wr.heap.size := by rw [← hV]
          have h1v1 : ba < v1.heap.size := by omega
          have h2v1 : bb < v1.heap.size := by omega
          have HBv1 : Hid (Below w.heap.size w v1) := Lib.hid (by rw [← hV]; exact HBwr.out.trans ((Below.drew (Below.refl wr.heap.size wr)).mono HBwr.out.size))
          clear hV szv1
          clear a1 a2 b1 b2
          go_wp2
          refine wp_region_plan_below 12 [(0, [0, 1, 2, 3, 4, 5, 6, 7, 8, 9, 10, 11])] (by kernel_rfl) (by kernel_rfl) (fun _ _ _ _ h => h) ?_
          simp only [wpSegs, pickOps, List.getElem?_toArray, List.getElem?_cons_zero, List.getElem?_cons_succ]
          have kc := cell_cls v1
          iterate 12 (go_big_quiet_step (fail))
          refine wpQuiet_nil ?_
          clear kc
          obtain ⟨v2, hV⟩ : ∃ v2 : World, { v1 with drawn := v1.drawn + 1 } = v2 := ⟨_, rfl⟩
          rw [hV]
          have a1_2 : v2.cell? ⟨ba, oa + k * 2, none⟩ = some (.int .i64 x1) := by rw [← hV]; exact a1_1
          have a2_2 : v2.cell? ⟨ba, oa + k * 2 + 1, none⟩ = some (.int .i64 x2) := by rw [← hV]; exact a2_1
          have b1_2 : v2.cell? ⟨bb, ob + k * 2, none⟩ = some (.int .i64 y1) := by rw [← hV]; exact b1_1
          have b2_2 : v2.cell? ⟨bb, ob + k * 2 + 1, none⟩ = some (.int .i64 y2) := by rw [← hV]; exact b2_1
          have szv2 : v2.heap.size = v1.heap.size := by rw [← hV]
          have h1v2 : ba < v2.heap.size := by omega
          have h2v2 : bb < v2.heap.size := by omega
          have HBv2 : Hid (Below w.heap.size w v2) := Lib.hid (by rw [← hV]; exact HBv1.out.trans ((Below.drew (Below.refl v1.heap.size v1)).mono HBv1.out.size))
          clear hV szv2
          clear a1_1 a2_1 b1_1 b2_1
          go_wp2
          refine wp_region_plan_below 12 [(0, [0, 1, 2, 3, 4, 5, 6, 7, 8, 9, 10, 11])] (by kernel_rfl) (by kernel_rfl) (fun _ _ _ _ h => h) ?_
          simp only [wpSegs, pickOps, List.getElem?_toArray, List.getElem?_cons_zero, List.getElem?_cons_succ]
          have kc := cell_cls v2
          iterate 12 (go_big_quiet_step (fail))
          refine wpQuiet_nil ?_
          clear kc
          obtain ⟨v3, hV⟩ : ∃ v3 : World, { v2 with drawn := v2.drawn + 1 } = v3 := ⟨_, rfl⟩
          rw [hV]
          have a1_3 : v3.cell? ⟨ba, oa + k * 2, none⟩ = some (.int .i64 x1) := by rw [← hV]; exact a1_2
          have a2_3 : v3.cell? ⟨ba, oa + k * 2 + 1, none⟩ = some (.int .i64 x2) := by rw [← hV]; exact a2_2
          have b1_3 : v3.cell? ⟨bb, ob + k * 2, none⟩ = some (.int .i64 y1) := by rw [← hV]; exact b1_2
          have b2_3 : v3.cell? ⟨bb, ob + k * 2 + 1, none⟩ = some (.int .i64 y2) := by rw [← hV]; exact b2_2
          have szv3 : v3.heap.size = v2.heap.size := by rw [← hV]
          have h1v3 : ba < v3.heap.size := by omega
          have h2v3 : bb < v3.heap.size := by omega
          have HBv3 : Hid (Below w.heap.size w v3) := Lib.hid (by rw [← hV]; exact HBv2.out.trans ((Below.drew (Below.refl v2.heap.size v2)).mono HBv2.out.size))
          clear hV szv3
          clear a1_2 a2_2 b1_2 b2_2
          go_wp2
          refine wp_region_plan_below 12 [(0, [0, 1, 2, 3, 4, 5, 6, 7, 8, 9, 10, 11])] (by kernel_rfl) (by kernel_rfl) (fun _ _ _ _ h => h) ?_
          simp only [wpSegs, pickOps, List.getElem?_toArray, List.getElem?_cons_zero, List.getElem?_cons_succ]
          have kc := cell_cls v3
          iterate 12 (go_big_quiet_step (fail))
          refine wpQuiet_nil ?_
          clear kc
          obtain ⟨v4, hV⟩ : ∃ v4 : World, { v3 with drawn := v3.drawn + 1 } = v4 := ⟨_, rfl⟩
          rw [hV]
          have a1_4 : v4.cell? ⟨ba, oa + k * 2, none⟩ = some (.int .i64 x1) := by rw [← hV]; exact a1_3
          have a2_4 : v4.cell? ⟨ba, oa + k * 2 + 1, none⟩ = some (.int .i64 x2) := by rw [← hV]; exact a2_3
          have b1_4 : v4.cell? ⟨bb, ob + k * 2, none⟩ = some (.int .i64 y1) := by rw [← hV]; exact b1_3
          have b2_4 : v4.cell? ⟨bb, ob + k * 2 + 1, none⟩ = some (.int .i64 y2) := by rw [← hV]; exact b2_3
          have szv4 : v4.heap.size = v3.heap.size := by rw [← hV]
          have h1v4 : ba < v4.heap.size := by omega
          have h2v4 : bb < v4.heap.size := by omega
          have HBv4 : Hid (Below w.heap.size w v4) := Lib.hid (by rw [← hV]; exact HBv3.out.trans ((Below.drew (Below.refl v3.heap.size v3)).mono HBv3.out.size))
          clear hV szv4
          clear a1_3 a2_3 b1_3 b2_3
          go_wp2
          go_ret
          exact ⟨ret_eq (by rw [← lexL_stop HX.out HY.out (by rw [HE.out]; decide) hcmp.out, HE.out]; rfl), HBv4.out⟩
        · have g1' : decide (x1 < y1) = false := decide_eq_false g1
          have g2' : decide (y1 < x1) = false := decide_eq_false g2
          have g3' : decide (x2 < y2) = false := decide_eq_false g3
          have g4' : decide (y2 < x2) = false := decide_eq_false g4
          have HE := Lib.hid (show cmpPos1 (x1, x2) (y1, y2) = 0 by unfold cmpPos1; rw [cmpI_eq (by omega) (by omega), if_pos rfl, cmpI_eq (by omega) (by omega)])
          go_wp2
          refine wp_region_plan_below 12 [(0, [0, 1, 2, 3, 4, 5, 6, 7, 8, 9, 10, 11])] (by kernel_rfl) (by kernel_rfl) (fun _ _ _ _ h => h) ?_
          simp only [wpSegs, pickOps, List.getElem?_toArray, List.getElem?_cons_zero, List.getElem?_cons_succ]
          have kc := cell_cls wr
          iterate 12 (go_big_quiet_step (fail))
          refine wpQuiet_nil ?_
          clear kc
          obtain ⟨v1, hV⟩ : ∃ v1 : World, { wr with drawn := wr.drawn + 1 } = v1 := ⟨_, rfl⟩
          rw [hV]
          have a1_1 : v1.cell? ⟨ba, oa + k * 2, none⟩ = some (.int .i64 x1) := by rw [← hV]; exact a1
          have a2_1 : v1.cell? ⟨ba, oa + k * 2 + 1, none⟩ = some (.int .i64 x2) := by rw [← hV]; exact a2
          have b1_1 : v1.cell? ⟨bb, ob + k * 2, none⟩ = some (.int .i64 y1) := by rw [← hV]; exact b1
          have b2_1 : v1.cell? ⟨bb, ob + k * 2 + 1, none⟩ = some (.int .i64 y2) := by rw [← hV]; exact b2
          have szv1 : v1.heap.size = wr.heap.size := by rw [← hV]
          have h1v1 : ba < v1.heap.size := by omega
          have h2v1 : bb < v1.heap.size := by omega
          have HBv1 : Hid (Below w.heap.size w v1) := Lib.hid (by rw [← hV]; exact HBwr.out.trans ((Below.drew (Below.refl wr.heap.size wr)).mono HBwr.out.size))
          clear hV szv1
          clear a1 a2 b1 b2
          go_wp2
          refine wp_region_plan_below 12 [(0, [0, 1, 2, 3, 4, 5, 6, 7, 8, 9, 10, 11])] (by kernel_rfl) (by kernel_rfl) (fun _ _ _ _ h => h) ?_
          simp only [wpSegs, pickOps, List.getElem?_toArray, List.getElem?_cons_zero, List.getElem?_cons_succ]
          have kc := cell_cls v1
          iterate 12 (go_big_quiet_step (fail))
          refine wpQuiet_nil ?_
          clear kc
          obtain ⟨v2, hV⟩ : ∃ v2 : World, { v1 with drawn := v1.drawn + 1 } = v2 := ⟨_, rfl⟩
          rw [hV]
          have a1_2 : v2.cell? ⟨ba, oa + k * 2, none⟩ = some (.int .i64 x1) := by rw [← hV]; exact a1_1
          have a2_2 : v2.cell? ⟨ba, oa + k * 2 + 1, none⟩ = some (.int .i64 x2) := by rw [← hV]; exact a2_1
          have b1_2 : v2.cell? ⟨bb, ob + k * 2, none⟩ = some (.int .i64 y1) := by rw [← hV]; exact b1_1
          have b2_2 : v2.cell? ⟨bb, ob + k * 2 + 1, none⟩ = some (.int .i64 y2) := by rw [← hV]; exact b2_1
          have szv2 : v2.heap.size = v1.heap.size := by rw [← hV]
          have h1v2 : ba < v2.heap.size := by omega
          have h2v2 : bb < v2.heap.size := by omega
          have HBv2 : Hid (Below w.heap.size w v2) := Lib.hid (by rw [← hV]; exact HBv1.out.trans ((Below.drew (Below.refl v1.heap.size v1)).mono HBv1.out.size))
          clear hV szv2
          clear a1_1 a2_1 b1_1 b2_1
          go_wp2
          refine wp_region_plan_below 12 [(0, [0, 1, 2, 3, 4, 5, 6, 7, 8, 9, 10, 11])] (by kernel_rfl) (by kernel_rfl) (fun _ _ _ _ h => h) ?_
          simp only [wpSegs, pickOps, List.getElem?_toArray, List.getElem?_cons_zero, List.getElem?_cons_succ]
          have kc := cell_cls v2
          iterate 12 (go_big_quiet_step (fail))
          refine wpQuiet_nil ?_
          clear kc
          obtain ⟨v3, hV⟩ : ∃ v3 : World, { v2 with drawn := v2.drawn + 1 } = v3 := ⟨_, rfl⟩
          rw [hV]
          have a1_3 : v3.cell? ⟨ba, oa + k * 2, none⟩ = some (.int .i64 x1) := by rw [← hV]; exact a1_2
          have a2_3 : v3.cell? ⟨ba, oa + k * 2 + 1, none⟩ = some (.int .i64 x2) := by rw [← hV]; exact a2_2
          have b1_3 : v3.cell? ⟨bb, ob + k * 2, none⟩ = some (.int .i64 y1) := by rw [← hV]; exact b1_2
          have b2_3 : v3.cell? ⟨bb, ob + k * 2 + 1, none⟩ = some (.int .i64 y2) := by rw [← hV]; exact b2_2
          have szv3 : v3.heap.size = v2.heap.size := by rw [← hV]
          have h1v3 : ba < v3.heap.size := by omega
          have h2v3 : bb < v3.heap.size := by omega
          have HBv3 : Hid (Below w.heap.size w v3) := Lib.hid (by rw [← hV]; exact HBv2.out.trans ((Below.drew (Below.refl v2.heap.size v2)).mono HBv2.out.size))
          clear hV szv3
          clear a1_2 a2_2 b1_2 b2_2
          go_wp2
          refine wp_region_plan_below 12 [(0, [0, 1, 2, 3, 4, 5, 6, 7, 8, 9, 10, 11])] (by kernel_rfl) (by kernel_rfl) (fun _ _ _ _ h => h) ?_
          simp only [wpSegs, pickOps, List.getElem?_toArray, List.getElem?_cons_zero, List.getElem?_cons_succ]
          have kc := cell_cls v3
          iterate 12 (go_big_quiet_step (fail))
          refine wpQuiet_nil ?_
          clear kc
          obtain ⟨v4, hV⟩ : ∃ v4 : World, { v3 with drawn := v3.drawn + 1 } = v4 := ⟨_, rfl⟩
          rw [hV]
          have a1_4 : v4.cell? ⟨ba, oa + k * 2, none⟩ = some (.int .i64 x1) := by rw [← hV]; exact a1_3
          have a2_4 : v4.cell? ⟨ba, oa + k * 2 + 1, none⟩ = some (.int .i64 x2) := by rw [← hV]; exact a2_3
          have b1_4 : v4.cell? ⟨bb, ob + k * 2, none⟩ = some (.int .i64 y1) := by rw [← hV]; exact b1_3
          have b2_4 : v4.cell? ⟨bb, ob + k * 2 + 1, none⟩ = some (.int .i64 y2) := by rw [← hV]; exact b2_3
          have szv4 : v4.heap.size = v3.heap.size := by rw [← hV]
          have h1v4 : ba < v4.heap.size := by omega
          have h2v4 : bb < v4.heap.size := by omega
          have HBv4 : Hid (Below w.heap.size w v4) := Lib.hid (by rw [← hV]; exact HBv3.out.trans ((Below.drew (Below.refl v3.heap.size v3)).mono HBv3.out.size))
          clear hV szv4
          clear a1_3 a2_3 b1_3 b2_3
          go_wp2
          go_roundw
          case rel => exact ⟨k + 1, by omega, by omega, by go_num, lexL_step HX.out HY.out HE.out hcmp.out, HBv4⟩
          case measure => simp [intOf]; omega
      · have hb0 : k = b.length := by omega
        go_wp2
        go_ret
        exact ⟨ret_eq (by rw [lexL_long h1 h2 hcmp.out]; rfl), HBwr.out⟩
    · by_cases h2 : k < b.length
      · go_wp2
        go_ret
        exact ⟨ret_eq (by rw [lexL_short h1 h2 hcmp.out]; rfl), HBwr.out⟩
      · go_wp2
        go_ret
        exact ⟨ret_eq (by rw [lexL_both h1 h2 hcmp.out]; rfl), HBwr.out⟩

set_option maxRecDepth 100000 in
set_option maxHeartbeats 1000000 in
theorem CompareFault_any (x y : LF) (B : Nat) (w : World) (hx : LOk B w x) (hy : LOk B w y) (hB : B ≤ w.heap.size) :
    Calls Try.prog 90 #[.agg x.cells, .agg y.cells] w (RetB (.int .i64 (cmpF x.f y.f)) w) := by
  obtain ⟨⟨k, pos, path⟩, pv, qv⟩ := x
  obtain ⟨⟨k', pos', path'⟩, pv', qv'⟩ := y
  obtain ⟨⟨p, c, h1, h2, h3⟩, q, d, h4, h5, h6⟩ := hx
  obtain ⟨⟨p', c', h1', h2', h3'⟩, q', d', h4', h5', h6'⟩ := hy
  dsimp only at *
  subst h1 h4 h1' h4'
  by_cases hk : k = k'
  · subst hk
    have e : cmpF ⟨k, pos, path⟩ ⟨k, pos', path'⟩ = if lexL cmpPos1 pos pos' = 0 then cmpP path path' else lexL cmpPos1 pos pos' := by unfold cmpF; rw [if_pos (cmpI_zero.2 rfl)]
    rw [e]
    have C1 : Hid (∀ W, Below w.heap.size w W → Calls Try.prog 78 #[.slice p pos.length c, .slice p' pos'.length c'] W (RetB (.int .i64 (lexL cmpPos1 pos pos')) W)) := Lib.hid (fun W h => comparePos_any pos pos' p p' c c' W ((h2.up hB).below h |>.up h.size) ((h2'.up hB).below h |>.up h.size) h3 h3')
    have C2 : Hid (∀ W, Below w.heap.size w W → Calls Try.prog 23 #[.slice q path.length d, .slice q' path'.length d'] W (RetB (.int .i64 (cmpP path path')) W)) := Lib.hid (fun W h => refCompare_any path path' q q' d d' W ((h5.up hB).below h |>.up h.size) ((h5'.up hB).below h |>.up h.size) (by unfold big at h6; unfold maxLen; omega) (by unfold big at h6'; unfold maxLen; omega))
    clear h2 h5 h2' h5' h3 h6 h3' h6' e
    generalize lexL cmpPos1 pos pos' = r at *
    generalize cmpP path path' = s at *
    have hbb : Below w.heap.size w ((w.alloc (.cells #[.int .i64 k, .slice p pos.length c, .slice q path.length d] 91)).alloc (.cells #[.int .i64 k, .slice p' pos'.length c', .slice q' path'.length d'] 91)) := ((Below.refl _ _).alloc (Nat.le_refl _) _).alloc (by simp) _
    have hcx : ((w.alloc (.cells #[.int .i64 k, .slice p pos.length c, .slice q path.length d] 91)).alloc (.cells #[.int .i64 k, .slice p' pos'.length c', .slice q' path'.length d'] 91)).heap[w.heap.size]? = some (.cells #[.int .i64 k, .slice p pos.length c, .slice q path.length d] 91 (0, 0)) := by
      rw [Below.heap_alloc _ _ _ (by simp)]
      exact heap_new w _
    have hcy : ((w.alloc (.cells #[.int .i64 k, .slice p pos.length c, .slice q path.length d] 91)).alloc (.cells #[.int .i64 k, .slice p' pos'.length c', .slice q' path'.length d'] 91)).heap[w.heap.size + 1]? = some (.cells #[.int .i64 k, .slice p' pos'.length c', .slice q' path'.length d'] 91 (0, 0)) := by
      have := heap_new (w.alloc (.cells #[.int .i64 k, .slice p pos.length c, .slice q path.length d] 91)) (.cells #[.int .i64 k, .slice p' pos'.length c', .slice q' path'.length d'] 91)
      rwa [World.size_alloc] at this
    have hsz : ((w.alloc (.cells #[.int .i64 k, .slice p pos.length c, .slice q path.length d] 91)).alloc (.cells #[.int .i64 k, .slice p' pos'.length c', .slice q' path'.length d'] 91)).heap.size = w.heap.size + 1 + 1 := by simp
    have HBB := Lib.hid hbb
    have HCX : Hid (∀ w1, Below (w.heap.size + 1 + 1) ((w.alloc (.cells #[.int .i64 k, .slice p pos.length c, .slice q path.length d] 91)).alloc (.cells #[.int .i64 k, .slice p' pos'.length c', .slice q' path'.length d'] 91)) w1 → w1.cell? ⟨w.heap.size, 2, none⟩ = some (.slice q path.length d) ∧ w1.cell? ⟨w.heap.size + 1, 2, none⟩ = some (.slice q' path'.length d') ∧ Below w.heap.size w w1) := Lib.hid (fun w1 hg => by
      have h1 := (hg.block _ (by omega)).trans hcx
      have h2 := (hg.block _ (by omega)).trans hcy
      exact ⟨by simp [World.cell?, h1], by simp [World.cell?, h2], hbb.trans (hg.mono (by omega))⟩)
    clear hbb hcx hcy hsz
    by_cases hr : r = 0
    · subst hr
      rw [if_pos rfl]
      go_enter Try.func90, Try.ntmps90
      go_wp2_with (first
        | (go_at_call 78; refine (C1.out _ HBB.out).mono ?_; rintro e w1 ⟨rfl, hg1⟩; rw [World.size_alloc, World.size_alloc] at hg1; obtain ⟨qx, qy, hbw⟩ := HCX.out _ hg1; have HBW := Lib.hid hbw; clear hg1 hbw)
        | (go_at_call 23; refine (C2.out _ HBW.out).mono ?_; rintro e w2 ⟨rfl, hg2⟩; have HG2 := Lib.hid hg2; clear hg2))
      go_ret
      exact ⟨rfl, HBW.out.trans (HG2.out.mono HBW.out.size)⟩
    · rw [if_neg hr]
      go_enter Try.func90, Try.ntmps90
      go_wp2_with (first
        | (go_at_call 78; refine (C1.out _ HBB.out).mono ?_; rintro e w1 ⟨rfl, hg1⟩; rw [World.size_alloc, World.size_alloc] at hg1; obtain ⟨qx, qy, hbw⟩ := HCX.out _ hg1; have HBW := Lib.hid hbw; clear hg1 hbw))
      go_ret
      exact ⟨rfl, HBW.out⟩
  · have e : cmpF ⟨k, pos, path⟩ ⟨k', pos', path'⟩ = cmpI k k' := by unfold cmpF; rw [if_neg (fun e => hk (cmpI_zero.1 e))]
    rw [e]
    clear h2 h5 h2' h5' e
    by_cases hl : k < k'
    · rw [cmpI_lt hl]
      go_enter Try.func90, Try.ntmps90
      go_wp2
      go_ret
      exact ⟨rfl, ((Below.refl _ _).alloc (Nat.le_refl _) _).alloc (by simp) _⟩
    · have hg : k' < k := by omega
      rw [cmpI_gt hg]
      go_enter Try.func90, Try.ntmps90
      go_wp2
      go_ret
      exact ⟨rfl, ((Below.refl _ _).alloc (Nat.le_refl _) _).alloc (by simp) _⟩

theorem lexL_refl_eq {α : Type} {c : α → α → Int} (h : ∀ x y, c x y = 0 ↔ x = y) : ∀ {a b : List α}, lexL c a b = 0 ↔ a = b := by
  intro a b
  refine ⟨lexL_eq (fun x _ y _ => (h x y).1), ?_⟩
  rintro rfl
  induction a with
  | nil => rfl
  | cons x a ih => rw [lexL, if_pos ((h x x).2 rfl), ih]

theorem st_eq {x y : St} : x = y ↔ x.it = y.it ∧ x.ix = y.ix ∧ (x.nm.toList == y.nm.toList) = true := by
  obtain ⟨n, i, b⟩ := x
  obtain ⟨n2, i2, b2⟩ := y
  constructor
  · rintro h
    cases h
    simp
  · rintro ⟨h1, h2, h3⟩
    dsimp only at *
    subst h1 h2
    have h4 : n.toList = n2.toList := by simpa using h3
    have : n = n2 := by
      have h5 : n.data = n2.data := by
        rw [ByteArray.toList_eq, ByteArray.toList_eq] at h4
        exact Array.toList_inj.1 h4
      obtain ⟨d⟩ := n
      obtain ⟨d2⟩ := n2
      cases h5
      rfl
    rw [this]

set_option maxRecDepth 100000 in
set_option maxHeartbeats 4000000 in
theorem SameSteps_any (a b : List St) (p q : Option Addr) (c d : Nat) (w : World) (ha : StepsAt w.heap.size w p a) (hb : StepsAt w.heap.size w q b) (la : a.length ≤ big) (lb : b.length ≤ big) :
    Calls Try.prog 79 #[.slice p a.length c, .slice q b.length d] w (fun e w' => ∃ r : Bool, e = .returned (.bool r) ∧ (r = true ↔ a = b) ∧ Below w.heap.size w w') := by
  unfold big at la lb
  by_cases hlen : a.length = b.length
  · have HLEN := Lib.hid hlen
    have hd5 : ((a.length : Int) != (b.length : Int)) = false := by simp [hlen]
    clear hlen
    go_enter Try.func79, Try.ntmps79
    go_wp2
    clear hd5
    go_loopw [5] (fun i wr => ∃ k : Nat, k ≤ a.length ∧ i = .int .i64 k ∧ Hid (a.take k = b.take k) ∧ Hid (Below w.heap.size w wr)) (fun i _ => a.length - (intOf i).toNat)
    case atStart => exact ⟨0, Nat.zero_le _, rfl, rfl, Lib.hid (Below.refl _ _)⟩
    case round =>
      obtain ⟨k, hka, rfl, hcmp, HBwr⟩ := hrel
      by_cases h1 : k < a.length
      · have h2 : k < b.length := by have := HLEN.out; omega
        obtain ⟨x, hx⟩ : ∃ x, a[k]? = some x := ⟨a[k], by simp [h1]⟩
        obtain ⟨y, hy⟩ : ∃ y, b[k]? = some y := ⟨b[k], by simp [h2]⟩
        rcases ha with ha | ⟨ba, oa, rfl, hBa, hca⟩
        · subst ha; simp at h1
        rcases hb with hb | ⟨bb, ob, rfl, hBb, hcb⟩
        · subst hb; simp at h2
        obtain ⟨a1, a2, a3⟩ := hca k x hx
        obtain ⟨b1, b2, b3⟩ := hcb k y hy
        have a1 := (HBwr.out.cell (p := ⟨ba, oa + k * 3, none⟩) hBa).trans a1
        have a2 := (HBwr.out.cell (p := ⟨ba, oa + k * 3 + 1, none⟩) hBa).trans a2
        have a3 := (HBwr.out.cell (p := ⟨ba, oa + k * 3 + 2, none⟩) hBa).trans a3
        have b1 := (HBwr.out.cell (p := ⟨bb, ob + k * 3, none⟩) hBb).trans b1
        have b2 := (HBwr.out.cell (p := ⟨bb, ob + k * 3 + 1, none⟩) hBb).trans b2
        have b3 := (HBwr.out.cell (p := ⟨bb, ob + k * 3 + 2, none⟩) hBb).trans b3
        have hw1 : ba < wr.heap.size := Nat.lt_of_lt_of_le hBa HBwr.out.size
        have hw2 : bb < wr.heap.size := Nat.lt_of_lt_of_le hBb HBwr.out.size
        have HE : Hid ((x.it = y.it ∧ x.ix = y.ix ∧ (x.nm.toList == y.nm.toList) = true → a.take (k + 1) = b.take (k + 1)) ∧ (¬ (x.it = y.it ∧ x.ix = y.ix ∧ (x.nm.toList == y.nm.toList) = true) → ¬ a = b)) := Lib.hid ⟨fun h => by
            rw [List.take_add_one, List.take_add_one, hcmp.out, hx, hy, st_eq.2 h], fun h e => h (st_eq.1 (by subst e; rw [hx] at hy; exact Option.some.inj hy))⟩
        clear hca hcb hx hy
        obtain ⟨xn, xi, xt⟩ := x
        obtain ⟨yn, yi, yt⟩ := y
        dsimp only at a1 a2 a3 b1 b2 b3 HE
        have tail : ∀ W, W = wr → True := fun _ _ => trivial
        clear tail
        by_cases e1 : xt = yt
        · subst e1
          by_cases e2 : xi = yi
          · subst e2
            cases e3 : (xn.toList == yn.toList) with
            | true =>
              rw [e3] at HE
              cases xt <;> (
                go_wp2
                refine wp_region_plan_below 37 [(0, [0, 1, 2, 3, 4, 5, 6, 7, 8, 9, 10, 11, 12, 13, 14, 15, 16, 17, 18, 19, 20, 21, 22, 23, 24, 25, 26, 27, 28, 29, 30, 31, 32, 33, 34, 35, 36])] (by kernel_rfl) (by kernel_rfl) (fun _ _ _ _ h => h) ?_
                simp only [wpSegs, pickOps, List.getElem?_toArray, List.getElem?_cons_zero, List.getElem?_cons_succ]
                have kc := cell_cls wr
                iterate 37 (go_big_quiet_step (fail))
                refine wpQuiet_nil ?_
                clear kc
                go_wp2
                go_roundw
                case rel => exact ⟨k + 1, by omega, by go_num, HE.out.1 (by simp), Lib.hid (HBwr.out.trans ((Below.drew (Below.refl wr.heap.size wr)).mono HBwr.out.size))⟩
                case measure => simp [intOf]; omega)
            | false =>
              rw [e3] at HE
              have HN := HE.out.2 (by simp)
              clear HE
              cases xt <;> (
                go_wp2
                refine wp_region_plan_below 37 [(0, [0, 1, 2, 3, 4, 5, 6, 7, 8, 9, 10, 11, 12, 13, 14, 15, 16, 17, 18, 19, 20, 21, 22, 23, 24, 25, 26, 27, 28, 29, 30, 31, 32, 33, 34, 35, 36])] (by kernel_rfl) (by kernel_rfl) (fun _ _ _ _ h => h) ?_
                simp only [wpSegs, pickOps, List.getElem?_toArray, List.getElem?_cons_zero, List.getElem?_cons_succ]
                have kc := cell_cls wr
                iterate 37 (go_big_quiet_step (fail))
                refine wpQuiet_nil ?_
                clear kc
                go_wp2
                go_ret
                exact ⟨false, rfl, by simp [HN], HBwr.out.trans ((Below.drew (Below.refl wr.heap.size wr)).mono HBwr.out.size)⟩)
          · have HN := HE.out.2 (by simp [e2])
            have e2' : decide (xi = yi) = false := decide_eq_false e2
            have e3' : decide (¬ xi = yi) = true := decide_eq_true e2
            have e4' : (xi != yi) = true := by simp [e2]
            have e5' : (xi == yi) = false := by simp [e2]
            clear HE
            cases xt <;> (
                go_wp2
                refine wp_region_plan_below 37 [(0, [0, 1, 2, 3, 4, 5, 6, 7, 8, 9, 10, 11, 12, 13, 14, 15, 16, 17, 18, 19, 20, 21, 22, 23, 24, 25, 26, 27, 28, 29, 30, 31, 32, 33, 34, 35, 36])] (by kernel_rfl) (by kernel_rfl) (fun _ _ _ _ h => h) ?_
                simp only [wpSegs, pickOps, List.getElem?_toArray, List.getElem?_cons_zero, List.getElem?_cons_succ]
                have kc := cell_cls wr
                iterate 37 (go_big_quiet_step (fail))
                refine wpQuiet_nil ?_
                clear kc
                go_wp2
                go_ret
                exact ⟨false, rfl, by simp [HN], HBwr.out.trans ((Below.drew (Below.refl wr.heap.size wr)).mono HBwr.out.size)⟩)
        · have HN := HE.out.2 (by simp [e1])
          clear HE
          cases xt <;> cases yt <;> first | exact absurd rfl e1 | (
                clear e1
                go_wp2
                refine wp_region_plan_below 37 [(0, [0, 1, 2, 3, 4, 5, 6, 7, 8, 9, 10, 11, 12, 13, 14, 15, 16, 17, 18, 19, 20, 21, 22, 23, 24, 25, 26, 27, 28, 29, 30, 31, 32, 33, 34, 35, 36])] (by kernel_rfl) (by kernel_rfl) (fun _ _ _ _ h => h) ?_
                simp only [wpSegs, pickOps, List.getElem?_toArray, List.getElem?_cons_zero, List.getElem?_cons_succ]
                have kc := cell_cls wr
                iterate 37 (go_big_quiet_step (fail))
                refine wpQuiet_nil ?_
                clear kc
                go_wp2
                go_ret
                exact ⟨false, rfl, by simp [HN], HBwr.out.trans ((Below.drew (Below.refl wr.heap.size wr)).mono HBwr.out.size)⟩)
      · have hall := hcmp.out
        rw [List.take_of_length_le (by omega), List.take_of_length_le (by have := HLEN.out; omega)] at hall
        have HA := Lib.hid hall
        clear hall
        go_wp2
        go_ret
        exact ⟨true, rfl, by simp [HA.out], HBwr.out⟩
  · have hne : ¬ a = b := fun e => hlen (by rw [e])
    have HN := Lib.hid hne
    have hd : decide (a.length = b.length) = false := decide_eq_false hlen
    clear hne
    go_enter Try.func79, Try.ntmps79
    go_wp2
    go_ret
    exact ⟨false, rfl, by simp [HN.out], Below.refl _ _⟩

end Go.Proofs.Ytnmnmkdmnohbmaa
