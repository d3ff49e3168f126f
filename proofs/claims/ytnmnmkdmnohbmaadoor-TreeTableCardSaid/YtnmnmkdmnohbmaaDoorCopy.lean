/- Helper text: the walks over Copy of the program and of the reference. Conditions: none. -/
import Derived.Test.YtnmnmkdmnohbmaaDoorOwn
import Derived.Test.YtnmnmkdmnohbmaaDoorUnder
import Derived.Deep.CutBlock
namespace Go.Proofs.YtnmnmkdmnohbmaaDoor
open Go.RowKit
attribute [local go_sem] run_store_float

/-- What Copy answers: the same value in blocks of its own. -/
def CopyPost (v : V) (w : World) (e : Ending) (w' : World) : Prop :=
  ∃ cs bs, e = .returned (.agg cs) ∧ OwnV w' v cs bs ∧ bs.Nodup ∧ (∀ x ∈ bs, w.heap.size ≤ x ∧ x < w'.heap.size) ∧ Below w.heap.size w w'

set_option maxRecDepth 100000 in
set_option maxHeartbeats 1000000 in
theorem Copy_any : ∀ (N : Nat) (v : V), szV v ≤ N → ∀ (cs : Array Value) (w : World), IsV w.heap.size w v cs → szV v ≤ 1000000 →
    Calls Tryd.prog 19 #[.agg cs] w (CopyPost v w) := by
  intro N
  induction N with
  | zero => intro v hv; have := szV_pos v; omega
  | succ N ih =>
    intro v hN cs w hv hm
    obtain ⟨k, b, i, f, t, ty, its, fs⟩ := v
    have hv0 := hv
    obtain ⟨p, c, q, d, rfl, hi, hf, l1, l2⟩ := hv
    unfold lenMax at l1 l2
    have hln : its.length ≤ 1000000 ∧ fs.length ≤ 1000000 := by
      simp only [szV] at hm
      omega
    have IH := Lib.hid ih
    have HV := Lib.hid hv0
    have HI := Lib.hid hi
    have HF := Lib.hid hf
    have HN := Lib.hid hN
    clear ih hv0 hi hf hN
    go_enter Tryd.func19, Tryd.ntmps19
    go_wp2_with fail
    obtain ⟨wa, hW⟩ : ∃ wa, ((w.alloc (.cells (vcells k b i f t ty p its.length c q fs.length d) 27)).alloc (.cells (vcells 0 false 0 0 ⟨#[]⟩ ⟨#[]⟩ none 0 0 none 0 0) 27)).alloc (.cells (vcells k b i f t ty none 0 0 q fs.length d) 27) = wa := ⟨_, rfl⟩
    have hbel : Below w.heap.size w wa := by rw [← hW]; exact (((Below.refl _ _).alloc (Nat.le_refl _) _).alloc (by simp) _).alloc (by simp; omega) _
    have hsz : wa.heap.size = w.heap.size + 1 + 1 + 1 := by rw [← hW]; simp
    have h0 : wa.heap[w.heap.size]? = some (.cells (vcells k b i f t ty p its.length c q fs.length d) 27 (0, 0)) := by
      rw [← hW]; exact heap_old (heap_old (heap_new _ _) _) _
    have h1 : wa.heap[w.heap.size + 1]? = some (.cells (vcells 0 false 0 0 ⟨#[]⟩ ⟨#[]⟩ none 0 0 none 0 0) 27 (0, 0)) := by
      rw [← hW]; exact heap_old (by have := heap_new (w.alloc (.cells (vcells k b i f t ty p its.length c q fs.length d) 27)) (.cells (vcells 0 false 0 0 ⟨#[]⟩ ⟨#[]⟩ none 0 0 none 0 0) 27); rwa [World.size_alloc] at this) _
    have h2 : wa.heap[w.heap.size + 1 + 1]? = some (.cells (vcells k b i f t ty none 0 0 q fs.length d) 27 (0, 0)) := by
      rw [← hW]; have := heap_new ((w.alloc (.cells (vcells k b i f t ty p its.length c q fs.length d) 27)).alloc (.cells (vcells 0 false 0 0 ⟨#[]⟩ ⟨#[]⟩ none 0 0 none 0 0) 27)) (.cells (vcells k b i f t ty none 0 0 q fs.length d) 27); rwa [World.size_alloc, World.size_alloc] at this
    have H0 := Lib.hid h0
    have H1 := Lib.hid h1
    have H2 := Lib.hid h2
    have HSZ := Lib.hid hsz
    have e : ((w.alloc (.cells (vcells k b i f t ty p its.length c q fs.length d) 27)).alloc (.cells (vcells 0 false 0 0 ⟨#[]⟩ ⟨#[]⟩ none 0 0 none 0 0) 27)).alloc (.cells (vcells k b i f t ty none 0 0 q fs.length d) 27) = wa := hW
    clear h0 h1 h2 hsz hW
    rw [e]
    clear e
    go_loopw [13] (fun ii wr => ∃ j : Nat, j ≤ its.length ∧ ii = .int .i64 j ∧ ∃ sv css bs, Hid (wr.heap[w.heap.size + 1 + 1]? = some (.cells #[.int .i64 k, .bool b, .int .i64 i, .float .f64 f, .string t, .string ty, sv, .slice q fs.length d] 27 (0, 0))) ∧
        Gath (w.heap.size + 1 + 1 + 1) 27 8 wr sv j (css.flatMap (·.toList)) (its.take j) css bs ∧ Below (w.heap.size + 1 + 1) wa wr) (fun ii _ => its.length - (intOf ii).toNat)
    case atStart => exact ⟨0, by omega, rfl, _, [], [], H2, Gath.start _ _ _ _, Below.refl _ _⟩
    case round =>
      obtain ⟨j, hj, rfl, sv, css, bs, hL, hG, hbel2⟩ := hrel
      by_cases h1 : j < its.length
      · obtain ⟨x, hx⟩ : ∃ x, its[j]? = some x := ⟨its[j], by simp [h1]⟩
        obtain hi := HI.out
        rcases hi with hi | ⟨g, o, rfl, hg, hvs⟩
        · subst hi; simp at h1
        obtain ⟨csx, hcx, hvx⟩ := hvs.get hx
        have hbw := hbel.trans (hbel2.mono (by omega))
        have hcx' := hcx.below hbw hg
        have hvx' := hvx.on hbw
        have hx1 : szV x ≤ N ∧ szV x ≤ 1000000 := by
          have := szVs_get hx
          have := HN.out
          simp only [szV] at this hm
          omega
        obtain ⟨xk, xb, xi, xf, xt, xty, xits, xfs⟩ := x
        obtain ⟨xp, xc, xq, xd, rfl, _, _, _, _⟩ := hvx
        obtain ⟨c0, c1, c2, c3, c4, c5, c6, c7⟩ := hcx'.all
        have hcell : wr.cell? ⟨w.heap.size + 1 + 1, 6, none⟩ = some sv := by simp [World.cell?, hL.out]
        have HX := Lib.hid hx
        have HX1 := Lib.hid hx1
        have HVX := Lib.hid hvx'
        have HG := Lib.hid hG
        have hsL : w.heap.size + 1 + 1 < wr.heap.size := (Array.getElem?_eq_some_iff.1 hL.out).1
        clear hx hvs hcx hcx' hx1 hvx' hG
        go_wp2
        obtain ⟨W1, hW⟩ : ∃ W1, wr.alloc (.cells (vcells xk xb xi xf xt xty xp xits.length xc xq xfs.length xd) 27) = W1 := ⟨_, rfl⟩
        have hb1 : Below wr.heap.size wr W1 := by rw [← hW]; exact (Below.refl _ _).alloc (Nat.le_refl _) _
        have hs1 : wr.heap.size < W1.heap.size := by rw [← hW]; simp
        obtain ⟨d0, d1, d2, d3, d4, d5, d6, d7⟩ := (show CellsAt W1 wr.heap.size 0 (vcells xk xb xi xf xt xty xp xits.length xc xq xfs.length xd) by rw [← hW]; exact cellsAt_alloc _ _ _ _).all0
        have e : wr.alloc (.cells (vcells xk xb xi xf xt xty xp xits.length xc xq xfs.length xd) 27) = W1 := hW
        clear hW
        rw [e]
        clear e c0 c1 c2 c3 c4 c5 c6 c7
        have hcell' : W1.cell? ⟨w.heap.size + 1 + 1, 6, none⟩ = some sv := (hb1.cell (p := ⟨_, _, none⟩) hsL).trans hcell
        have hsL1 : w.heap.size + 1 + 1 < W1.heap.size := by omega
        have kc := cell_cls W1
        clear hcell
        refine wp_region_plan_below 5 [(0, [0, 1]), (1, [2, 3, 4]), (2, [5, 6, 7])] (by kernel_rfl) (by kernel_rfl) (fun _ _ _ _ h => h) ?_
        simp only [wpSegs, pickOps, List.getElem?_toArray, List.getElem?_cons_zero, List.getElem?_cons_succ]
        repeat (go_big_quiet_step (fail))
        refine wpQuiet_nil ?_
        clear kc
        refine wpListC_plain rfl (fun K hK => ?_)
        go_step
        refine hK _ _ (cls_drew _) ?_
        clear hK K
        refine wpListC_plain rfl (fun K hK => ?_)
        go_step
        refine (IH.out _ HX1.out.1 _ _ ((HVX.out.on hb1).on (Below.drew (Below.refl _ _))) HX1.out.2).mono ?_
        rintro e w1 ⟨cs', b', rfl, hown, hnod, hlow, hbc⟩
        have hbc1 := (Below.drew (Below.refl W1.heap.size W1)).trans hbc
        refine hK _ _ (cls_of_below hbc1) ?_
        clear hK K
        have HOWN := Lib.hid hown
        obtain ⟨p', c', q', d', bI, bF, rfl, _⟩ := hown
        refine wpListC_plain rfl (fun K hK => ?_)
        go_step
        have hb3 : Below w1.heap.size w1 (w1.alloc (.cells (vcells xk xb xi xf xt xty p' xits.length c' q' xfs.length d') 27)) := (Below.refl _ _).alloc (Nat.le_refl _) _
        have hnew := cellsAt_alloc w1 (vcells xk xb xi xf xt xty p' xits.length c' q' xfs.length d') 27 (0, 0)
        have hs3 : w1.heap.size < (w1.alloc (.cells (vcells xk xb xi xf xt xty p' xits.length c' q' xfs.length d') 27)).heap.size := by simp
        obtain ⟨W3, hW⟩ : ∃ W3, w1.alloc (.cells (vcells xk xb xi xf xt xty p' xits.length c' q' xfs.length d') 27) = W3 := ⟨_, rfl⟩
        rw [hW] at hb3 hnew hs3
        have e : w1.alloc (.cells (vcells xk xb xi xf xt xty p' xits.length c' q' xfs.length d') 27) = W3 := hW
        clear hW
        rw [e]
        clear e
        have hb13 := hbc1.trans (hb3.mono hbc1.size)
        refine hK _ _ (cls_of_below hb13) ?_
        clear hK K
        refine wpListC_nil ?_
        have hbr3 := hb1.trans (hb13.mono hb1.size)
        refine wpList_plain rfl (fun K hK => ?_)
        have HG3 := HG.out.below hbr3
        refine wp_append_x (P := Tryd.prog) W3 (.tmp 18) (.tmp 21) 24 rfl (w.heap.size + 1 + 1 + 1) 27 (.agg (vcells 0 false 0 0 ⟨#[]⟩ ⟨#[]⟩ none 0 0 none 0 0)) 8 112 Tryd.underlying24 (by kernel_rfl) rfl (by decide) sv j _ rfl HG3.row ⟨w1.heap.size, 0, none⟩ 1 1 (vcells xk xb xi xf xt xty p' xits.length c' q' xfs.length d').toList rfl (by decide) rfl ?c1 ?c2 ?c3 ?c4 ?c5 ?_
        case c1 =>
          intro m u hu
          have := hnew m u (by simpa using hu)
          rw [addr_add]
          exact this
        case c2 => intro u hu; simp at hu; rcases hu with rfl | rfl | rfl | rfl | rfl | rfl | rfl | rfl <;> rfl
        case c3 => unfold maxLen; omega
        case c4 => omega
        case c5 => have := HSZ.out; have := hbr3.size; omega
        intro v' w' hrow hgr hv'
        refine hK _ _ ?_
        clear hK K
        have hlow3 : ∀ y ∈ b', wr.heap.size ≤ y ∧ y < W3.heap.size := fun y hy => ⟨Nat.le_trans (Nat.le_of_lt hs1) (hlow y hy).1, Nat.lt_of_lt_of_le (hlow y hy).2 hb3.size⟩
        have hown3 : OwnV W3 (V.mk xk xb xi xf xt xty xits xfs) (vcells xk xb xi xf xt xty p' xits.length c' q' xfs.length d') b' := HOWN.out.kept (fun y hy => hb3.block y (hlow y hy).2)
        have hG' := HG.out.step hbr3 hown3 hnod hlow3 (by have := HSZ.out; have := hbel2.size; omega) hrow hgr hv'
        have hLw' : w'.heap[w.heap.size + 1 + 1]? = some (.cells #[.int .i64 k, .bool b, .int .i64 i, .float .f64 f, .string t, .string ty, sv, .slice q fs.length d] 27 (0, 0)) := by
          rw [hgr.block _ (by have := hbr3.size; omega) (fun e => by have := (HG.out.row.lt _ e.symm).1; omega), hbr3.block _ hsL]
          exact hL.out
        have hfin := heap_setCell_same (j := 6) hLw' v'
        have hbw' : Below (w.heap.size + 1 + 1) wa (w'.setCell ⟨w.heap.size + 1 + 1, 6, none⟩ v') :=
          ((hbel2.trans (hbr3.mono (by omega))).grown hgr (by have := hbr3.size; omega) (fun y hy => by have := (HG.out.row.lt y hy).1; omega)).setCell (Nat.le_refl _) _
        have hGf := hG'.setCell (L := w.heap.size + 1 + 1) (j := 6) (by omega) v'
        have hc6 : w'.cell? ⟨w.heap.size + 1 + 1, 6, none⟩ = some sv := by simp [World.cell?, hLw']
        have hf6 : w'.frozen? ⟨w.heap.size + 1 + 1, 6, none⟩ = false := by simp [World.frozen?, hLw']
        obtain ⟨g', cap', rfl⟩ : ∃ g' cap', v' = .slice (some ⟨g', 0, none⟩) (j + 1) cap' := by
          rcases hrow.2 with ⟨_, h⟩ | ⟨g', cap', cur, h, _⟩
          · omega
          · exact ⟨g', cap', h⟩
        have HFIN := Lib.hid hfin
        have HGF := Lib.hid hGf
        have HBW := Lib.hid hbw'
        clear hfin hGf hbw' hG' hLw' hrow hgr hv' hown3 hlow3 HG3 hbr3 hb13 hnew hb3 hbc1 hbc hlow hnod hcell'
        go_wp2
        go_roundw
        case rel =>
          refine ⟨j + 1, by omega, by go_num, .slice (some ⟨g', 0, none⟩) (j + 1) cap', css ++ [vcells xk xb xi xf xt xty p' xits.length c' q' xfs.length d'], bs ++ b', ?_, ?_, HBW.out⟩
          · exact HFIN
          · have h := HGF.out
            rw [List.flatMap_append, List.take_add_one, HX.out]
            simpa using h
        case measure => simp [intOf]; omega
      · obtain rfl : j = its.length := by omega
        rw [List.take_of_length_le (Nat.le_refl _)] at hG
        obtain ⟨p1, c1, b1, rfl, hIO, hnd1, hlow1⟩ := hG.items
        have hL' := hL.out
        have hc7 : wr.cell? ⟨w.heap.size + 1 + 1, 7, none⟩ = some (.slice q fs.length d) := by simp [World.cell?, hL']
        have hf7 : wr.frozen? ⟨w.heap.size + 1 + 1, 7, none⟩ = false := by simp [World.frozen?, hL']
        have hcb : wr.cell? ⟨w.heap.size, 7, none⟩ = some (.slice q fs.length d) := by
          rw [hbel2.cell (p := ⟨w.heap.size, 7, none⟩) (by simp only []; omega)]
          simp [World.cell?, H0.out, vcells]
        have hsL : w.heap.size + 1 + 1 < wr.heap.size := (Array.getElem?_eq_some_iff.1 hL').1
        have hne : ¬ w.heap.size + 1 + 1 = w.heap.size := by omega
        have HIO := Lib.hid hIO
        have HL := Lib.hid hL'
        clear hG hIO hL' hL
        go_wp2
        obtain ⟨wb, hW⟩ : ∃ wb, wr.setCell ⟨w.heap.size + 1 + 1, 7, none⟩ (.slice none 0 0) = wb := ⟨_, rfl⟩
        have hbb : Below (w.heap.size + 1 + 1) wa wb := by rw [← hW]; exact hbel2.setCell (Nat.le_refl _) _
        have hLb : wb.heap[w.heap.size + 1 + 1]? = some (.cells #[.int .i64 k, .bool b, .int .i64 i, .float .f64 f, .string t, .string ty, .slice p1 its.length c1, .slice none 0 0] 27 (0, 0)) := by rw [← hW]; exact heap_setCell_same HL.out _
        have hszb : wb.heap.size = wr.heap.size := by rw [← hW]; simp [World.setCell]
        have hIOb : ItemsOwn wb its p1 c1 b1 := HIO.out.kept (by rw [← hW]; exact Kept.setCell (fun _ _ => rfl) (fun h => by have := (hlow1 _ h).1; omega) _)
        have e : wr.setCell ⟨w.heap.size + 1 + 1, 7, none⟩ (.slice none 0 0) = wb := hW
        clear hW
        rw [e]
        clear e hc7 hf7 HL HIO hcb
        have hsb : w.heap.size + 1 + 1 + 1 ≤ wb.heap.size := by have := HSZ.out; have := hbel2.size; omega
        have HLB := Lib.hid hLb
        have HIOB := Lib.hid hIOb
        rw [← hszb] at hlow1
        clear hLb hIOb hszb
        go_loopw [29] (fun ii wr => ∃ j : Nat, j ≤ fs.length ∧ ii = .int .i64 j ∧ ∃ sv css bs, Hid (wr.heap[w.heap.size + 1 + 1]? = some (.cells #[.int .i64 k, .bool b, .int .i64 i, .float .f64 f, .string t, .string ty, .slice p1 its.length c1, sv] 27 (0, 0))) ∧
            Gath wb.heap.size 79 9 wr sv j (flatF ((fs.map (·.1)).take j) css) ((fs.map (·.2)).take j) css bs ∧ Below (w.heap.size + 1 + 1) wb wr ∧ Kept b1 wb wr) (fun ii _ => fs.length - (intOf ii).toNat)
        case atStart => exact ⟨0, by omega, rfl, _, [], [], HLB, Gath.start _ _ _ _, Below.refl _ _, fun _ _ => rfl⟩
        case round =>
          clear hbel2 hsL
          obtain ⟨j, hj, rfl, sv, css, bs, hL, hG, hbel2, hK1⟩ := hrel
          have hsL : w.heap.size + 1 + 1 < wr.heap.size := (Array.getElem?_eq_some_iff.1 hL.out).1
          by_cases h1 : j < fs.length
          · obtain ⟨x, hx⟩ : ∃ x, fs[j]? = some x := ⟨fs[j], by simp [h1]⟩
            obtain hf := HF.out
            rcases hf with hf | ⟨g, o, rfl, hg, hvs⟩
            · subst hf; simp at h1
            obtain ⟨hnm, csx, hcx, hvx⟩ := hvs.get hx
            have hbw := (hbel.trans (hbb.mono (by omega))).trans (hbel2.mono (by omega))
            have hcx' := hcx.below hbw hg
            have hvx' := hvx.on hbw
            have hnm' : wr.cell? ⟨g, o + j * 9, none⟩ = some (.string x.1) := (hbw.cell (p := ⟨g, _, none⟩) hg).trans hnm
            have hx1 : szV x.2 ≤ N ∧ szV x.2 ≤ 1000000 := by
              have := szFs_get hx
              have := HN.out
              simp only [szV] at this hm
              omega
            obtain ⟨xn, xk, xb, xi, xf, xt, xty, xits, xfs⟩ := x
            obtain ⟨xp, xc, xq, xd, rfl, _, _, _, _⟩ := hvx
            obtain ⟨c0, c1', c2, c3, c4, c5, c6, c7⟩ := hcx'.all
            have hcell : wr.cell? ⟨w.heap.size + 1 + 1, 7, none⟩ = some sv := by simp [World.cell?, hL.out]
            have HX := Lib.hid hx
            have HX1 := Lib.hid hx1
            have HVX := Lib.hid hvx'
            have HG := Lib.hid hG
            clear hx hvs hcx hcx' hx1 hvx' hG hnm
            go_wp2
            obtain ⟨W1, hW⟩ : ∃ W1, wr.alloc (.cells #[.string xn, .int .i64 xk, .bool xb, .int .i64 xi, .float .f64 xf, .string xt, .string xty, .slice xp xits.length xc, .slice xq xfs.length xd] 79) = W1 := ⟨_, rfl⟩
            have hb1 : Below wr.heap.size wr W1 := by rw [← hW]; exact (Below.refl _ _).alloc (Nat.le_refl _) _
            have hs1 : wr.heap.size < W1.heap.size := by rw [← hW]; simp
            have hcm : CellsAt W1 wr.heap.size 0 #[.string xn, .int .i64 xk, .bool xb, .int .i64 xi, .float .f64 xf, .string xt, .string xty, .slice xp xits.length xc, .slice xq xfs.length xd] := by rw [← hW]; exact cellsAt_alloc _ _ _ _
            have m0 : W1.cell? ⟨wr.heap.size, 0, none⟩ = some (.string xn) := hcm 0 _ rfl
            have m1 : W1.cell? ⟨wr.heap.size, 1, none⟩ = some (.int .i64 xk) := hcm 1 _ rfl
            have m2 : W1.cell? ⟨wr.heap.size, 2, none⟩ = some (.bool xb) := hcm 2 _ rfl
            have m3 : W1.cell? ⟨wr.heap.size, 3, none⟩ = some (.int .i64 xi) := hcm 3 _ rfl
            have m4 : W1.cell? ⟨wr.heap.size, 4, none⟩ = some (.float .f64 xf) := hcm 4 _ rfl
            have m5 : W1.cell? ⟨wr.heap.size, 5, none⟩ = some (.string xt) := hcm 5 _ rfl
            have m6 : W1.cell? ⟨wr.heap.size, 6, none⟩ = some (.string xty) := hcm 6 _ rfl
            have m7 : W1.cell? ⟨wr.heap.size, 7, none⟩ = some (.slice xp xits.length xc) := hcm 7 _ rfl
            have m8 : W1.cell? ⟨wr.heap.size, 8, none⟩ = some (.slice xq xfs.length xd) := hcm 8 _ rfl
            have e : wr.alloc (.cells #[.string xn, .int .i64 xk, .bool xb, .int .i64 xi, .float .f64 xf, .string xt, .string xty, .slice xp xits.length xc, .slice xq xfs.length xd] 79) = W1 := hW
            clear hW hcm
            rw [e]
            clear e c0 c1' c2 c3 c4 c5 c6 c7 hnm'
            have hcell' : W1.cell? ⟨w.heap.size + 1 + 1, 7, none⟩ = some sv := (hb1.cell (p := ⟨_, _, none⟩) hsL).trans hcell
            have hsL1 : w.heap.size + 1 + 1 < W1.heap.size := by omega
            have kc := cell_cls W1
            clear hcell
            refine wp_region_plan_below 9 [(0, [0, 1, 2, 3]), (1, [4, 5, 6, 7, 8]), (2, [9, 10, 11])] (by kernel_rfl) (by kernel_rfl) (fun _ _ _ _ h => h) ?_
            simp only [wpSegs, pickOps, List.getElem?_toArray, List.getElem?_cons_zero, List.getElem?_cons_succ]
            repeat (go_big_quiet_step (fail))
            refine wpQuiet_nil ?_
            clear kc
            refine wpListC_plain rfl (fun K hK => ?_)
            go_step
            refine hK _ _ (cls_drew _) ?_
            clear hK K
            refine wpListC_plain rfl (fun K hK => ?_)
            go_step
            refine hK _ _ (cls_drew _) ?_
            clear hK K
            refine wpListC_plain rfl (fun K hK => ?_)
            go_step
            refine (IH.out _ HX1.out.1 _ _ ((HVX.out.on hb1).on (Below.drew (Below.refl _ _))) HX1.out.2).mono ?_
            rintro e w1 ⟨cs', b', rfl, hown, hnod, hlow, hbc⟩
            have hbc1 := (Below.drew (Below.refl W1.heap.size W1)).trans hbc
            refine hK _ _ (cls_of_below hbc1) ?_
            clear hK K
            have HOWN := Lib.hid hown
            obtain ⟨p', c', q', d', bI, bF, rfl, _⟩ := hown
            refine wpListC_plain rfl (fun K hK => ?_)
            go_step
            refine hK _ _ (cls_of_below hbc1) ?_
            clear hK K
            refine wpListC_plain rfl (fun K hK => ?_)
            go_step
            have hb3 : Below w1.heap.size w1 (w1.alloc (.cells #[.string xn, .int .i64 xk, .bool xb, .int .i64 xi, .float .f64 xf, .string xt, .string xty, .slice p' xits.length c', .slice q' xfs.length d'] 79)) := (Below.refl _ _).alloc (Nat.le_refl _) _
            have hnew := cellsAt_alloc w1 #[.string xn, .int .i64 xk, .bool xb, .int .i64 xi, .float .f64 xf, .string xt, .string xty, .slice p' xits.length c', .slice q' xfs.length d'] 79 (0, 0)
            have hs3 : w1.heap.size < (w1.alloc (.cells #[.string xn, .int .i64 xk, .bool xb, .int .i64 xi, .float .f64 xf, .string xt, .string xty, .slice p' xits.length c', .slice q' xfs.length d'] 79)).heap.size := by simp
            obtain ⟨W3, hW⟩ : ∃ W3, w1.alloc (.cells #[.string xn, .int .i64 xk, .bool xb, .int .i64 xi, .float .f64 xf, .string xt, .string xty, .slice p' xits.length c', .slice q' xfs.length d'] 79) = W3 := ⟨_, rfl⟩
            rw [hW] at hb3 hnew hs3
            have e : w1.alloc (.cells #[.string xn, .int .i64 xk, .bool xb, .int .i64 xi, .float .f64 xf, .string xt, .string xty, .slice p' xits.length c', .slice q' xfs.length d'] 79) = W3 := hW
            clear hW
            rw [e]
            clear e m0 m1 m2 m3 m4 m5 m6 m7 m8
            have hb13 := hbc1.trans (hb3.mono hbc1.size)
            refine hK _ _ (cls_of_below hb13) ?_
            clear hK K
            refine wpListC_nil ?_
            have hbr3 := hb1.trans (hb13.mono hb1.size)
            refine wpList_plain rfl (fun K hK => ?_)
            have HG3 := HG.out.below hbr3
            refine wp_append_x (P := Tryd.prog) W3 (.tmp 34) (.tmp 41) 25 rfl wb.heap.size 79 (.agg (#[Value.string ⟨#[]⟩] ++ vcells 0 false 0 0 ⟨#[]⟩ ⟨#[]⟩ none 0 0 none 0 0)) 9 128 Tryd.underlying25 (by kernel_rfl) rfl (by decide) sv j _ rfl HG3.row ⟨w1.heap.size, 0, none⟩ 1 1 (#[Value.string xn] ++ vcells xk xb xi xf xt xty p' xits.length c' q' xfs.length d').toList rfl (by decide) rfl ?c1 ?c2 ?c3 ?c4 ?c5 ?_
            case c1 =>
              intro m u hu
              have := hnew m u (by simpa using hu)
              rw [addr_add]
              exact this
            case c2 => intro u hu; simp at hu; rcases hu with rfl | rfl | rfl | rfl | rfl | rfl | rfl | rfl | rfl <;> rfl
            case c3 => unfold maxLen; omega
            case c4 => omega
            case c5 => have := hbr3.size; have := hbel2.size; omega
            intro v' w' hrow hgr hv'
            refine hK _ _ ?_
            clear hK K
            have hlow3 : ∀ y ∈ b', wr.heap.size ≤ y ∧ y < W3.heap.size := fun y hy => ⟨Nat.le_trans (Nat.le_of_lt hs1) (hlow y hy).1, Nat.lt_of_lt_of_le (hlow y hy).2 hb3.size⟩
            have hown3 : OwnV W3 (V.mk xk xb xi xf xt xty xits xfs) (vcells xk xb xi xf xt xty p' xits.length c' q' xfs.length d') b' := HOWN.out.kept (fun y hy => hb3.block y (hlow y hy).2)
            have hG' := HG.out.step hbr3 hown3 hnod hlow3 hbel2.size hrow hgr hv'
            have hLw' : w'.heap[w.heap.size + 1 + 1]? = some (.cells #[.int .i64 k, .bool b, .int .i64 i, .float .f64 f, .string t, .string ty, .slice p1 its.length c1, sv] 27 (0, 0)) := by
              rw [hgr.block _ (by have := hbr3.size; omega) (fun e => by have := (HG.out.row.lt _ e.symm).1; omega), hbr3.block _ hsL]
              exact hL.out
            have hfin := heap_setCell_same (j := 7) hLw' v'
            have hbw' : Below (w.heap.size + 1 + 1) wb (w'.setCell ⟨w.heap.size + 1 + 1, 7, none⟩ v') :=
              ((hbel2.trans (hbr3.mono (by omega))).grown hgr (by have := hbr3.size; omega) (fun y hy => by have := (HG.out.row.lt y hy).1; omega)).setCell (Nat.le_refl _) _
            have hGf := hG'.setCell (L := w.heap.size + 1 + 1) (j := 7) (by omega) v'
            have hK1' : Kept b1 wb (w'.setCell ⟨w.heap.size + 1 + 1, 7, none⟩ v') :=
              ((hK1.trans (Kept.below hbr3 (fun y hy => by have := (hlow1 y hy).2; have := hbel2.size; omega))).grown hgr (fun y hy => by have := (hlow1 y hy).2; have := hbel2.size; have := hbr3.size; omega) (fun g hg hm => by have := (hlow1 g hm).2; have := (HG.out.row.lt g hg).1; omega)).setCell (fun h => by have := (hlow1 _ h).1; omega) _
            have hc6 : w'.cell? ⟨w.heap.size + 1 + 1, 7, none⟩ = some sv := by simp [World.cell?, hLw']
            have hf6 : w'.frozen? ⟨w.heap.size + 1 + 1, 7, none⟩ = false := by simp [World.frozen?, hLw']
            obtain ⟨g', cap', rfl⟩ : ∃ g' cap', v' = .slice (some ⟨g', 0, none⟩) (j + 1) cap' := by
              rcases hrow.2 with ⟨_, h⟩ | ⟨g', cap', cur, h, _⟩
              · omega
              · exact ⟨g', cap', h⟩
            have HFIN := Lib.hid hfin
            have HGF := Lib.hid hGf
            have HBW := Lib.hid hbw'
            have HK1 := Lib.hid hK1'
            clear hfin hGf hbw' hG' hLw' hrow hgr hv' hown3 hlow3 HG3 hbr3 hb13 hnew hb3 hbc1 hbc hlow hnod hcell' hK1'
            go_wp2
            go_roundw
            case rel =>
              refine ⟨j + 1, by omega, by go_num, .slice (some ⟨g', 0, none⟩) (j + 1) cap', css ++ [vcells xk xb xi xf xt xty p' xits.length c' q' xfs.length d'], bs ++ b', ?_, ?_, HBW.out, HK1.out⟩
              · exact HFIN
              · have h := HGF.out
                have hlen := HG.out.own.length
                have e1 : (fs.map (·.1)).take (j + 1) = (fs.map (·.1)).take j ++ [xn] := by rw [List.take_add_one]; simp [HX.out]
                have e2 : (fs.map (·.2)).take (j + 1) = (fs.map (·.2)).take j ++ [V.mk xk xb xi xf xt xty xits xfs] := by rw [List.take_add_one]; simp [HX.out]
                rw [e1, e2, flatF_snoc _ _ _ _ (by rw [hlen]; simp)]
                simpa using h
            case measure => simp [intOf]; omega
          · obtain rfl : j = fs.length := by omega
            rw [List.take_of_length_le (by simp), List.take_of_length_le (by simp)] at hG
            obtain ⟨q1, d1, b2, rfl, hFO, hnd2, hlow2⟩ := hG.fields
            have hL' := hL.out
            obtain ⟨e0, e1, e2, e3, e4, e5, e6, e7⟩ := (show CellsAt wr (w.heap.size + 1 + 1) 0 (vcells k b i f t ty p1 its.length c1 q1 fs.length d1) by intro m x hx; rw [Nat.zero_add]; simp only [World.cell?, hL']; exact hx).all0
            have hIO := HIOB.out.kept hK1
            have h1' : wr.heap[w.heap.size + 1]? = some (.cells (vcells 0 false 0 0 ⟨#[]⟩ ⟨#[]⟩ none 0 0 none 0 0) 27 (0, 0)) := by
              rw [hbel2.block _ (by omega), hbb.block _ (by omega)]; exact H1.out
            have H1' := Lib.hid h1'
            have HIO := Lib.hid hIO
            have HFO := Lib.hid hFO
            clear hL' hL hG hIO hFO h1'
            go_upto_region 14 with (fail)
            go_step
            refine wpList_plain rfl (fun K hK => ?_)
            go_step
            refine hK _ _ ?_
            clear hK K
            refine wpList_plain rfl (fun K hK => ?_)
            refine wp_store_row (P := Tryd.prog) 27 (.tmp 2) (.tmp 45) rfl (w.heap.size + 1) (vcells k b i f t ty p1 its.length c1 q1 fs.length d1) rfl rfl 27 _ H1'.out (by kernel_rfl) rfl (vcells_one ..) ?_
            refine hK _ _ ?_
            clear hK K
            have hnew : (wr.setRow (w.heap.size + 1) (vcells k b i f t ty p1 its.length c1 q1 fs.length d1)).heap[w.heap.size + 1]? = some (.cells (vcells k b i f t ty p1 its.length c1 q1 fs.length d1) 27 (0, 0)) := setRow_heap _ _ _ _ _ _ H1'.out
            have hwfin : Below w.heap.size w (wr.setRow (w.heap.size + 1) (vcells k b i f t ty p1 its.length c1 q1 fs.length d1)) := below_setRow ((hbel.trans (hbb.mono (by omega))).trans (hbel2.mono (by omega))) (by omega) _
            have hk1 : Kept b1 wr (wr.setRow (w.heap.size + 1) (vcells k b i f t ty p1 its.length c1 q1 fs.length d1)) := Kept.setRow (fun _ _ => rfl) (fun h => by have := (hlow1 _ h).1; omega) _
            have hk2 : Kept b2 wr (wr.setRow (w.heap.size + 1) (vcells k b i f t ty p1 its.length c1 q1 fs.length d1)) := Kept.setRow (fun _ _ => rfl) (fun h => by have := (hlow2 _ h).1; omega) _
            have hsz := setRow_size wr (w.heap.size + 1) (vcells k b i f t ty p1 its.length c1 q1 fs.length d1)
            generalize wr.setRow (w.heap.size + 1) (vcells k b i f t ty p1 its.length c1 q1 fs.length d1) = wz at *
            obtain ⟨r0, r1, r2, r3, r4, r5, r6, r7⟩ := (show CellsAt wz (w.heap.size + 1) 0 (vcells k b i f t ty p1 its.length c1 q1 fs.length d1) by intro m x hx; rw [Nat.zero_add]; simp only [World.cell?, hnew]; exact hx).all0
            have hpost : CopyPost (.mk k b i f t ty its fs) w (.returned (.agg (vcells k b i f t ty p1 its.length c1 q1 fs.length d1))) wz := by
              refine ⟨_, _, rfl, OwnV.intro l1 l2 (HIO.out.kept hk1) (HFO.out.kept hk2), ?_, ?_, hwfin⟩
              · exact List.nodup_append.2 ⟨hnd1, hnd2, fun x hx y hy e => by have := (hlow1 x hx).2; have := (hlow2 y hy).1; omega⟩
              · intro x hx
                rcases List.mem_append.1 hx with hx | hx
                · have := hlow1 x hx; have := hbel2.size; omega
                · have := hlow2 x hx; omega
            have HP := Lib.hid hpost
            clear hpost e0 e1 e2 e3 e4 e5 e6 e7 hwfin hk1 hk2 hnew
            go_wp2
            exact bodyPost_ret (v := .agg (vcells k b i f t ty p1 its.length c1 q1 fs.length d1)) (by simp [results, Tryd.results19, go_sem, r0, r1, r2, r3, r4, r5, r6, r7]) rfl HP.out
end Go.Proofs.YtnmnmkdmnohbmaaDoor
