/- Helper text: spot of the program: the address of the child to which a step leads. Conditions: none. -/
import Derived.Test.YtnmnmkdmnohbmaaDoorFind
import Derived.Deep.CutBlock
namespace Go.Proofs.YtnmnmkdmnohbmaaDoor
open Go.RowKit
attribute [local go_sem] run_store_float St.cells

def shift (a : Addr) (n : Nat) : Addr := ⟨a.block, a.off + n, none⟩

/-- The address of the child. -/
def spotA (p q : Option Addr) (v : V) (s : St) : Option Addr := (childIx v s).bind fun n => if s.it then p.map (shift · (n * 8)) else q.map (shift · (n * 9 + 1))

theorem cells_one (w : World) (A : Array Value) (s : TypeId) : ∀ w1, Below (w.alloc (.cells A s)).heap.size (w.alloc (.cells A s)) w1 → CellsAt w1 w.heap.size 0 A :=
  fun w1 hb => (cellsAt_alloc w _ _ _).below hb (by simp)

set_option maxRecDepth 100000 in
set_option maxHeartbeats 1000000 in
theorem spot_any (k : Int) (b : Bool) (i : Int) (f : Nat) (t ty : ByteArray) (its : List V) (fs : List (ByteArray × V)) (p q : Option Addr) (c d : Nat) (s : St) (g o : Nat) (w : World) (hc : CellsAt w g o (vcells k b i f t ty p its.length c q fs.length d)) (hg : g < w.heap.size)
    (hv : IsV w.heap.size w (.mk k b i f t ty its fs) (vcells k b i f t ty p its.length c q fs.length d)) :
    Calls Tryd.prog 57 #[.pointer (some ⟨g, o, none⟩), .agg s.cells] w (RetB (.pointer (spotA p q (.mk k b i f t ty its fs) s)) w) := by
  obtain ⟨p', c', q', d', he, hi, hf, l1, l2⟩ := hv
  obtain ⟨⟨rfl, rfl⟩, rfl, rfl⟩ : (p = p' ∧ c = c') ∧ q = q' ∧ d = d' := by simpa [vcells] using he
  clear he
  obtain ⟨nm, ix, it⟩ := s
  unfold lenMax at l1 l2
  have HI := Lib.hid hi
  have HF := Lib.hid hf
  clear hi hf
  cases it
  · by_cases hk : kd k = 6
    · go_enter Tryd.func57, Tryd.ntmps57
      go_upto_region 5 with (fail)
      have hb0 : Below w.heap.size w (w.alloc (.cells #[.string nm, .int .i64 ix, .bool false] 34)) := (Below.refl _ _).alloc (Nat.le_refl _) _
      have hst := cellsAt_alloc w #[.string nm, .int .i64 ix, .bool false] 34 (0, 0)
      have hsz : w.heap.size < (w.alloc (.cells #[.string nm, .int .i64 ix, .bool false] 34)).heap.size := by simp
      generalize w.alloc (.cells #[.string nm, .int .i64 ix, .bool false] 34) = wa at *
      obtain ⟨e0, e1, e2, e3, e4, e5, e6, e7⟩ := (hc.below hb0 hg).all
      have s1 : wa.cell? ⟨w.heap.size, 1, none⟩ = some (.int .i64 ix) := hst 1 _ rfl
      have hga : g < wa.heap.size := by omega
      go_wp2_with (go_at_call 75; refine (kind_any _ _ _ _ _ _ _ _ _ _ _ _ _).mono ?_; rintro e w1 ⟨rfl, hb1⟩; have q7 := ((hc.below hb0 hg).below hb1 hga).all.2.2.2.2.2.2.2)
      have hwa : Below w.heap.size w w1 := hb0.trans (hb1.mono hb0.size)
      have hst := hst.below hb1 hsz
      have hg1 : g < w1.heap.size := Nat.lt_of_lt_of_le hga hb1.size
      have hs1 : w.heap.size < w1.heap.size := Nat.lt_of_lt_of_le hsz hb1.size
      have hcw := (hc.below hb0 hg).below hb1 hga
      clear e0 e1 e2 e3 e4 e5 e6 e7 hb0 hb1 s1 hga hsz
      go_loopw [45] (fun ii wr => ∃ j : Nat, j ≤ fs.length ∧ ii = .int .i64 j ∧ Hid (∀ (i : Nat) x, i < j → fs[i]? = some x → nameIs nm x = false) ∧ Below w1.heap.size w1 wr) (fun ii _ => fs.length - (intOf ii).toNat)
      case atStart => exact ⟨0, by omega, rfl, (fun i x hi => by omega), Below.refl _ _⟩
      case round =>
        obtain ⟨j, hj, rfl, hno, hbel⟩ := hrel
        obtain ⟨_, _, _, _, _, _, e6, e7⟩ := (hcw.below hbel hg1).all
        have s0 : wr.cell? ⟨w.heap.size, 0, none⟩ = some (.string nm) := (hst.below hbel hs1) 0 _ rfl
        have hgr0 : g < wr.heap.size := Nat.lt_of_lt_of_le hg1 hbel.size
        have hsr : w.heap.size < wr.heap.size := Nat.lt_of_lt_of_le hs1 hbel.size
        have HWA := Lib.hid hwa
        have HST := Lib.hid hst
        by_cases h3 : j < fs.length
        · obtain ⟨x, hx⟩ : ∃ x, fs[j]? = some x := ⟨fs[j], by simp [h3]⟩
          obtain hf := HF.out
          rcases hf with hf | ⟨gf, of, rfl, hgf, hvs⟩
          · subst hf; simp at h3
          obtain ⟨hnm, _, _, _⟩ := hvs.get hx
          have hbw := hwa.trans (hbel.mono hwa.size)
          have hnm := (hbw.cell (p := ⟨gf, _, none⟩) hgf).trans hnm
          have hgr : gf < wr.heap.size := Nat.lt_of_lt_of_le hgf hbw.size
          have HX := Lib.hid hx
          have HBW := Lib.hid hbw
          clear hx hvs hwa hst hbw hc hcw
          by_cases hnn : x.1.toList = nm.toList
          · have hfin : spotA p (some ⟨gf, of, none⟩) (.mk k b i f t ty its fs) ⟨nm, ix, false⟩ = some ⟨gf, of + j * 9 + 1, none⟩ := by
              simp [spotA, childIx, V.kind, V.fs, hk, findIdx_at HX.out (show nameIs nm x = true by simp [nameIs, hnn]) hno.out, shift, Nat.add_assoc]
            have HFIN := Lib.hid hfin
            have hq : (x.1.toList == nm.toList) = true := by simp [hnn]
            clear hfin hk hnn
            go_wp2
            refine wp_region_plan_below 10 [(0, [0, 1, 2, 3, 4, 5, 6, 7, 8, 9]), (2, [10])] (by kernel_rfl) (by kernel_rfl) (fun _ _ _ _ h => h) ?_
            simp only [wpSegs, pickOps, List.getElem?_toArray, List.getElem?_cons_zero, List.getElem?_cons_succ]
            have kc := cell_cls wr
            repeat (go_big_quiet_step (fail))
            refine wpQuiet_nil ?_
            clear kc
            go_wp2_with fail
            all_goals go_ret
            all_goals exact ⟨ret_eq (by rw [HFIN.out]; rfl), HBW.out.trans ((Below.drew (Below.refl wr.heap.size wr)).mono HBW.out.size)⟩
          · have hq : (x.1.toList == nm.toList) = false := by simp [hnn]
            have HNN := Lib.hid hnn
            clear hnn
            go_wp2
            refine wp_region_plan_below 10 [(0, [0, 1, 2, 3, 4, 5, 6, 7, 8, 9]), (2, [10])] (by kernel_rfl) (by kernel_rfl) (fun _ _ _ _ h => h) ?_
            simp only [wpSegs, pickOps, List.getElem?_toArray, List.getElem?_cons_zero, List.getElem?_cons_succ]
            have kc := cell_cls wr
            repeat (go_big_quiet_step (fail))
            refine wpQuiet_nil ?_
            clear kc
            go_wp2_with fail
            have hbn := hbel.trans ((Below.drew (Below.refl wr.heap.size wr)).mono hbel.size)
            go_roundw
            case rel =>
              refine ⟨j + 1, by omega, by go_num, (fun i y hi hy => ?_), hbn⟩
              by_cases hij : i < j
              · exact hno.out i y hij hy
              · obtain rfl : i = j := by omega
                obtain rfl : x = y := by have := HX.out; rw [this] at hy; simpa using hy
                simp [nameIs, HNN.out]
            case measure => simp [intOf]; omega
        · have hfin : spotA p q (.mk k b i f t ty its fs) ⟨nm, ix, false⟩ = none := by
            simp only [spotA, childIx, V.kind, V.fs, hk]
            rw [findIdx_none (fun i x hx => hno.out i x (by have := (List.getElem?_eq_some_iff.1 hx).1; omega) hx)]
            simp
          have HFIN := Lib.hid hfin
          clear hfin
          go_wp2_with fail
          go_ret
          exact ⟨ret_eq (by rw [HFIN.out]; rfl), hwa.trans (hbel.mono hwa.size)⟩
    · have hr : spotA p q (.mk k b i f t ty its fs) ⟨nm, ix, false⟩ = none := by
        simp [spotA, childIx, V.kind, hk]
      rw [hr]
      clear hr
      go_enter Tryd.func57, Tryd.ntmps57
      go_upto_region 5 with (fail)
      have hb0 : Below w.heap.size w (w.alloc (.cells #[.string nm, .int .i64 ix, .bool false] 34)) := (Below.refl _ _).alloc (Nat.le_refl _) _
      have hst := cellsAt_alloc w #[.string nm, .int .i64 ix, .bool false] 34 (0, 0)
      have hsz : w.heap.size < (w.alloc (.cells #[.string nm, .int .i64 ix, .bool false] 34)).heap.size := by simp
      generalize w.alloc (.cells #[.string nm, .int .i64 ix, .bool false] 34) = wa at *
      obtain ⟨e0, e1, e2, e3, e4, e5, e6, e7⟩ := (hc.below hb0 hg).all
      have s1 : wa.cell? ⟨w.heap.size, 1, none⟩ = some (.int .i64 ix) := hst 1 _ rfl
      have hga : g < wa.heap.size := by omega
      go_wp2_with (go_at_call 75; refine (kind_any _ _ _ _ _ _ _ _ _ _ _ _ _).mono ?_; rintro e w1 ⟨rfl, hb1⟩)
      go_ret
      exact ⟨rfl, hb0.trans (hb1.mono hb0.size)⟩
  · by_cases hk : kd k = 5
    · by_cases h0 : 0 ≤ ix
      · by_cases h1 : ix < its.length
        · obtain ⟨n, rfl⟩ : ∃ n : Nat, ix = n := ⟨ix.toNat, by omega⟩
          have hn : n < its.length := by omega
          obtain hi := HI.out
          rcases hi with hi | ⟨gi, oi, rfl, hgi, hvs⟩
          · subst hi; simp at hn
          have hr : spotA (some ⟨gi, oi, none⟩) q (.mk k b i f t ty its fs) ⟨nm, n, true⟩ = some ⟨gi, oi + n * 8, none⟩ := by
            simp [spotA, childIx, V.kind, V.its, hk, hn, shift]
          rw [hr]
          clear hr h0 h1 hvs
          go_enter Tryd.func57, Tryd.ntmps57
          go_wp2
          have hb0 : Below w.heap.size w (w.alloc (.cells #[.string nm, .int .i64 n, .bool true] 34)) := (Below.refl _ _).alloc (Nat.le_refl _) _
          have hst := cellsAt_alloc w #[.string nm, .int .i64 n, .bool true] 34 (0, 0)
          have hsz : w.heap.size < (w.alloc (.cells #[.string nm, .int .i64 n, .bool true] 34)).heap.size := by simp
          generalize w.alloc (.cells #[.string nm, .int .i64 n, .bool true] 34) = wa at *
          obtain ⟨e0, e1, e2, e3, e4, e5, e6, e7⟩ := (hc.below hb0 hg).all
          have s1 : wa.cell? ⟨w.heap.size, 1, none⟩ = some (.int .i64 n) := hst 1 _ rfl
          have hga : g < wa.heap.size := by omega
          have hgia : gi < wa.heap.size := by omega
          have hd : decide ((n : Int) < 0) = false := by simp
          have hd2 : decide (¬ kd k = 5) = false := by simp [hk]
          have kc := cell_cls wa
          refine wp_region_plan_below 18 [(0, [0, 1, 2]), (1, [3]), (0, [4, 5, 6, 7, 8, 9, 10, 11, 12, 13, 14, 15, 16, 17]), (2, [18, 19])] (by kernel_rfl) (by kernel_rfl) (fun _ _ _ _ h => h) ?_
          simp only [wpSegs, pickOps, List.getElem?_toArray, List.getElem?_cons_zero, List.getElem?_cons_succ]
          repeat (go_big_quiet_step (fail))
          refine wpQuiet_nil ?_
          refine wpListC_plain rfl (fun K hK => ?_)
          go_step
          refine (kind_any _ _ _ _ _ _ _ _ _ _ _ _ _).mono ?_
          rintro e w1 ⟨rfl, hb1⟩
          have hb1 := (Below.drew (Below.refl wa.heap.size wa)).trans hb1
          refine hK _ _ (cls_of_below hb1) ?_
          clear hK K
          refine wpListC_nil ?_
          repeat (go_big_quiet_step (fail))
          refine wpQuiet_nil ?_
          clear kc
          go_wp2
          obtain ⟨e0, e1, e2, e3, e4, e5, e6, e7⟩ := ((hc.below hb0 hg).below hb1 hga).all
          have s1 : w1.cell? ⟨w.heap.size, 1, none⟩ = some (.int .i64 n) := (hst.below hb1 hsz) 1 _ rfl
          have kc := cell_cls w1
          have hga : g < w1.heap.size := Nat.lt_of_lt_of_le hga hb1.size
          have hsz : w.heap.size < w1.heap.size := Nat.lt_of_lt_of_le hsz hb1.size
          refine wp_region_plan_below 7 [(0, [0, 1, 2, 3, 4, 5, 6]), (2, [7])] (by kernel_rfl) (by kernel_rfl) (fun _ _ _ _ h => h) ?_
          simp only [wpSegs, pickOps, List.getElem?_toArray, List.getElem?_cons_zero, List.getElem?_cons_succ]
          repeat (go_big_quiet_step (fail))
          refine wpQuiet_nil ?_
          clear kc
          go_wp2
          go_ret
          exact ⟨rfl, (hb0.trans (hb1.mono hb0.size)).trans ((Below.drew (Below.refl w1.heap.size w1)).mono (by omega))⟩
        · have hr : spotA p q (.mk k b i f t ty its fs) ⟨nm, ix, true⟩ = none := by
            simp [spotA, childIx, V.kind, V.its, hk]
            omega
          rw [hr]
          clear hr
          go_enter Tryd.func57, Tryd.ntmps57
          go_wp2
          have hb0 : Below w.heap.size w (w.alloc (.cells #[.string nm, .int .i64 ix, .bool true] 34)) := (Below.refl _ _).alloc (Nat.le_refl _) _
          have hst := cellsAt_alloc w #[.string nm, .int .i64 ix, .bool true] 34 (0, 0)
          have hsz : w.heap.size < (w.alloc (.cells #[.string nm, .int .i64 ix, .bool true] 34)).heap.size := by simp
          generalize w.alloc (.cells #[.string nm, .int .i64 ix, .bool true] 34) = wa at *
          obtain ⟨e0, e1, e2, e3, e4, e5, e6, e7⟩ := (hc.below hb0 hg).all
          have s1 : wa.cell? ⟨w.heap.size, 1, none⟩ = some (.int .i64 ix) := hst 1 _ rfl
          have hga : g < wa.heap.size := by omega
          have hd : decide (ix < 0) = false := by simp; omega
          have hd2 : decide (¬ kd k = 5) = false := by simp [hk]
          have hd3 : decide ((its.length : Int) ≤ ix) = true := by simp; omega
          have kc := cell_cls wa
          refine wp_region_plan_below 18 [(0, [0, 1, 2]), (1, [3]), (0, [4, 5, 6, 7, 8, 9, 10, 11, 12, 13, 14, 15, 16, 17]), (2, [18, 19])] (by kernel_rfl) (by kernel_rfl) (fun _ _ _ _ h => h) ?_
          simp only [wpSegs, pickOps, List.getElem?_toArray, List.getElem?_cons_zero, List.getElem?_cons_succ]
          repeat (go_big_quiet_step (fail))
          refine wpQuiet_nil ?_
          refine wpListC_plain rfl (fun K hK => ?_)
          go_step
          refine (kind_any _ _ _ _ _ _ _ _ _ _ _ _ _).mono ?_
          rintro e w1 ⟨rfl, hb1⟩
          have hb1 := (Below.drew (Below.refl wa.heap.size wa)).trans hb1
          refine hK _ _ (cls_of_below hb1) ?_
          clear hK K
          refine wpListC_nil ?_
          repeat (go_big_quiet_step (fail))
          refine wpQuiet_nil ?_
          clear kc
          go_wp2
          go_ret
          exact ⟨rfl, hb0.trans (hb1.mono hb0.size)⟩
      · have hr : spotA p q (.mk k b i f t ty its fs) ⟨nm, ix, true⟩ = none := by
          simp [spotA, childIx, V.kind, V.its, hk]
          omega
        rw [hr]
        clear hr
        go_enter Tryd.func57, Tryd.ntmps57
        go_wp2
        have hb0 : Below w.heap.size w (w.alloc (.cells #[.string nm, .int .i64 ix, .bool true] 34)) := (Below.refl _ _).alloc (Nat.le_refl _) _
        have hst := cellsAt_alloc w #[.string nm, .int .i64 ix, .bool true] 34 (0, 0)
        have hsz : w.heap.size < (w.alloc (.cells #[.string nm, .int .i64 ix, .bool true] 34)).heap.size := by simp
        generalize w.alloc (.cells #[.string nm, .int .i64 ix, .bool true] 34) = wa at *
        obtain ⟨e0, e1, e2, e3, e4, e5, e6, e7⟩ := (hc.below hb0 hg).all
        have s1 : wa.cell? ⟨w.heap.size, 1, none⟩ = some (.int .i64 ix) := hst 1 _ rfl
        have hga : g < wa.heap.size := by omega
        have hd : decide (ix < 0) = true := by simp; omega
        have hd2 : decide (¬ kd k = 5) = false := by simp [hk]
        have kc := cell_cls wa
        refine wp_region_plan_below 18 [(0, [0, 1, 2]), (1, [3]), (0, [4, 5, 6, 7, 8, 9, 10, 11, 12, 13, 14, 15, 16, 17]), (2, [18, 19])] (by kernel_rfl) (by kernel_rfl) (fun _ _ _ _ h => h) ?_
        simp only [wpSegs, pickOps, List.getElem?_toArray, List.getElem?_cons_zero, List.getElem?_cons_succ]
        repeat (go_big_quiet_step (fail))
        refine wpQuiet_nil ?_
        refine wpListC_plain rfl (fun K hK => ?_)
        go_step
        refine (kind_any _ _ _ _ _ _ _ _ _ _ _ _ _).mono ?_
        rintro e w1 ⟨rfl, hb1⟩
        have hb1 := (Below.drew (Below.refl wa.heap.size wa)).trans hb1
        refine hK _ _ (cls_of_below hb1) ?_
        clear hK K
        refine wpListC_nil ?_
        repeat (go_big_quiet_step (fail))
        refine wpQuiet_nil ?_
        clear kc
        go_wp2
        go_ret
        exact ⟨rfl, hb0.trans (hb1.mono hb0.size)⟩
    · have hr : spotA p q (.mk k b i f t ty its fs) ⟨nm, ix, true⟩ = none := by
        simp [spotA, childIx, V.kind, V.its, hk]
      rw [hr]
      clear hr
      go_enter Tryd.func57, Tryd.ntmps57
      go_wp2
      have hb0 : Below w.heap.size w (w.alloc (.cells #[.string nm, .int .i64 ix, .bool true] 34)) := (Below.refl _ _).alloc (Nat.le_refl _) _
      have hst := cellsAt_alloc w #[.string nm, .int .i64 ix, .bool true] 34 (0, 0)
      have hsz : w.heap.size < (w.alloc (.cells #[.string nm, .int .i64 ix, .bool true] 34)).heap.size := by simp
      generalize w.alloc (.cells #[.string nm, .int .i64 ix, .bool true] 34) = wa at *
      obtain ⟨e0, e1, e2, e3, e4, e5, e6, e7⟩ := (hc.below hb0 hg).all
      have s1 : wa.cell? ⟨w.heap.size, 1, none⟩ = some (.int .i64 ix) := hst 1 _ rfl
      have hga : g < wa.heap.size := by omega
      have hd2 : (kd k != 5) = true := by simp [hk]
      have hd3 : decide (kd k = 5) = false := by simp [hk]
      have hd4 : (kd k == 5) = false := by simp [hk]
      have kc := cell_cls wa
      refine wp_region_plan_below 18 [(0, [0, 1, 2]), (1, [3]), (0, [4, 5, 6, 7, 8, 9, 10, 11, 12, 13, 14, 15, 16, 17]), (2, [18, 19])] (by kernel_rfl) (by kernel_rfl) (fun _ _ _ _ h => h) ?_
      simp only [wpSegs, pickOps, List.getElem?_toArray, List.getElem?_cons_zero, List.getElem?_cons_succ]
      repeat (go_big_quiet_step (fail))
      refine wpQuiet_nil ?_
      refine wpListC_plain rfl (fun K hK => ?_)
      go_step
      refine (kind_any _ _ _ _ _ _ _ _ _ _ _ _ _).mono ?_
      rintro e w1 ⟨rfl, hb1⟩
      have hb1 := (Below.drew (Below.refl wa.heap.size wa)).trans hb1
      refine hK _ _ (cls_of_below hb1) ?_
      clear hK K
      refine wpListC_nil ?_
      repeat (go_big_quiet_step (fail))
      refine wpQuiet_nil ?_
      clear kc
      go_wp2
      go_ret
      exact ⟨rfl, hb0.trans (hb1.mono hb0.size)⟩
end Go.Proofs.YtnmnmkdmnohbmaaDoor
