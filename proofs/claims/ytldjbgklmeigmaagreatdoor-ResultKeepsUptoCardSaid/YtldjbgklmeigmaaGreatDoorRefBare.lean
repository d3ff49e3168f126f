/- Helper text: the walk over Bare of the reference. Conditions: none. -/
import Derived.Test.YtldjbgklmeigmaaGreatDoorBare
namespace Go.Proofs.YtldjbgklmeigmaaGreatDoor
open Go.RowKit
attribute [local go_sem] run_store_float

set_option maxRecDepth 100000 in
set_option maxHeartbeats 4000000 in
theorem refBare_any : ∀ (N : Nat) (v : V), szV v ≤ N → ∀ (cs : Array Value) (w : World), IsV w.heap.size w v cs → szV v ≤ 1000000 →
    Calls Tryz.prog 15 #[.agg cs] w (CopyPost (bareV v) w) := by
  intro N
  induction N with
  | zero => intro v hv; have := szV_pos v; omega
  | succ N ih =>
    intro v hN cs w hv hm
    obtain ⟨k, b, i, f, t, ty, its, fs⟩ := v
    have hv0 := hv
    obtain ⟨p, c, q, d, rfl, hi, hf, l1, l2⟩ := hv
    unfold lenMax at l1 l2
    have hln : its.length ≤ 1000000 ∧ fs.length ≤ 1000000 := by
      simp only [szV] at hm
      omega
    have IH := Lib.hid ih
    have HI := Lib.hid hi
    have HF := Lib.hid hf
    have HN := Lib.hid hN
    clear ih hv0 hi hf hN
    go_enter Tryz.func15, Tryz.ntmps15
    go_upto_block 0 with (fail)
    obtain ⟨wa, hW⟩ : ∃ wa, ((w.alloc (.cells (vcells k b i f t ty p its.length c q fs.length d) 34)).alloc (.cells (vcells 0 false 0 0 ⟨#[]⟩ ⟨#[]⟩ none 0 0 none 0 0) 34)).alloc (.cells (vcells k false 0 0 ⟨#[]⟩ ⟨#[]⟩ none 0 0 none 0 0) 34) = wa := ⟨_, rfl⟩
    have hbel : Below w.heap.size w wa := by rw [← hW]; exact (((Below.refl _ _).alloc (Nat.le_refl _) _).alloc (by simp) _).alloc (by simp; omega) _
    have hsz : wa.heap.size = w.heap.size + 1 + 1 + 1 := by rw [← hW]; simp
    have h0 : wa.heap[w.heap.size]? = some (.cells (vcells k b i f t ty p its.length c q fs.length d) 34 (0, 0)) := by
      rw [← hW]; exact heap_old (heap_old (heap_new _ _) _) _
    have h1 : wa.heap[w.heap.size + 1]? = some (.cells (vcells 0 false 0 0 ⟨#[]⟩ ⟨#[]⟩ none 0 0 none 0 0) 34 (0, 0)) := by
      rw [← hW]; exact heap_old (by have := heap_new (w.alloc (.cells (vcells k b i f t ty p its.length c q fs.length d) 34)) (.cells (vcells 0 false 0 0 ⟨#[]⟩ ⟨#[]⟩ none 0 0 none 0 0) 34); rwa [World.size_alloc] at this) _
    have h2 : wa.heap[w.heap.size + 1 + 1]? = some (.cells (vcells k false 0 0 ⟨#[]⟩ ⟨#[]⟩ none 0 0 none 0 0) 34 (0, 0)) := by
      rw [← hW]; have := heap_new ((w.alloc (.cells (vcells k b i f t ty p its.length c q fs.length d) 34)).alloc (.cells (vcells 0 false 0 0 ⟨#[]⟩ ⟨#[]⟩ none 0 0 none 0 0) 34)) (.cells (vcells k false 0 0 ⟨#[]⟩ ⟨#[]⟩ none 0 0 none 0 0) 34); rwa [World.size_alloc, World.size_alloc] at this
    have H0 := Lib.hid h0
    have H1 := Lib.hid h1
    have H2 := Lib.hid h2
    have HSZ := Lib.hid hsz
    have HBEL := Lib.hid hbel
    have e : ((w.alloc (.cells (vcells k b i f t ty p its.length c q fs.length d) 34)).alloc (.cells (vcells 0 false 0 0 ⟨#[]⟩ ⟨#[]⟩ none 0 0 none 0 0) 34)).alloc (.cells (vcells k false 0 0 ⟨#[]⟩ ⟨#[]⟩ none 0 0 none 0 0) 34) = wa := hW
    clear h0 h1 h2 hsz hW
    rw [e]
    clear e
    have hsa : w.heap.size < wa.heap.size := by have := HSZ.out; omega
    have hsa2 : w.heap.size + 1 + 1 < wa.heap.size := by have := HSZ.out; omega
    obtain ⟨a0, a1, a2, a3, a4, a5, a6, a7⟩ := (show CellsAt wa w.heap.size 0 (vcells k b i f t ty p its.length c q fs.length d) by intro m x hx; rw [Nat.zero_add]; simp only [World.cell?, H0.out]; exact hx).all0
    have hne : ¬ w.heap.size + 1 + 1 = w.heap.size := by omega
    go_cut [] (fun wx => BareR w (w.heap.size + 1 + 1) (bareV (.mk k b i f t ty its fs)) wx)
    case first =>
      have scal : ∀ (j : Nat) (u : Value) (b' : Bool) (i' : Int) (f' : Nat) (t' : ByteArray), (vcells k false 0 0 ⟨#[]⟩ ⟨#[]⟩ none 0 0 none 0 0).setIfInBounds j u = vcells k b' i' f' t' ⟨#[]⟩ none 0 0 none 0 0 → BareR w (w.heap.size + 1 + 1) (.mk k b' i' f' t' ⟨#[]⟩ [] []) (wa.setCell ⟨w.heap.size + 1 + 1, j, none⟩ u) := fun j u b' i' f' t' hc =>
        BareR.plain (HBEL.out.setCell (by show w.heap.size ≤ w.heap.size + 1 + 1; omega) u) (by rw [Below.heap_setCell _ _ _ _ (by simp)]; exact H1.out) (heap_setCell_at H2.out u hc)
      have SCAL := Lib.hid scal
      clear scal
      have hq : ∀ j : Nat, j < 8 → (wa.cell? ⟨w.heap.size + 1 + 1, j, none⟩).isSome = true ∧ wa.frozen? ⟨w.heap.size + 1 + 1, j, none⟩ = false := fun j hj => by
        refine ⟨?_, by simp [World.frozen?, H2.out]⟩
        simp only [World.cell?, H2.out]
        rw [Array.getElem?_eq_getElem (by simpa [vcells] using hj)]
        rfl
      have c1' : wa.cell? ⟨w.heap.size + 1 + 1, 1, none⟩ = some (.bool false) := by simp [World.cell?, H2.out, vcells]
      have c2' : wa.cell? ⟨w.heap.size + 1 + 1, 2, none⟩ = some (.int .i64 0) := by simp [World.cell?, H2.out, vcells]
      have c3' : wa.cell? ⟨w.heap.size + 1 + 1, 3, none⟩ = some (.float .f64 0) := by simp [World.cell?, H2.out, vcells]
      have c4' : wa.cell? ⟨w.heap.size + 1 + 1, 4, none⟩ = some (.string ⟨#[]⟩) := by simp [World.cell?, H2.out, vcells]
      have z1 : wa.frozen? ⟨w.heap.size + 1 + 1, 1, none⟩ = false := (hq 1 (by omega)).2
      have z2 : wa.frozen? ⟨w.heap.size + 1 + 1, 2, none⟩ = false := (hq 2 (by omega)).2
      have z3 : wa.frozen? ⟨w.heap.size + 1 + 1, 3, none⟩ = false := (hq 3 (by omega)).2
      have z4 : wa.frozen? ⟨w.heap.size + 1 + 1, 4, none⟩ = false := (hq 4 (by omega)).2
      clear hq
      by_cases k1 : k = 1
      · subst k1
        go_wp2_with fail
        go_meet
        simpa [bareV] using SCAL.out 1 (.bool b) b 0 0 ⟨#[]⟩ rfl
      have k1' : (k == 1) = false := beq_eq_false_iff_ne.2 k1
      by_cases k2 : k = 2
      · subst k2
        go_wp2_with fail
        go_meet
        simpa [bareV] using SCAL.out 2 (.int .i64 i) false i 0 ⟨#[]⟩ rfl
      have k2' : (k == 2) = false := beq_eq_false_iff_ne.2 k2
      by_cases k3 : k = 3
      · subst k3
        go_wp2_with fail
        go_meet
        simpa [bareV] using SCAL.out 3 (.float .f64 f) false 0 f ⟨#[]⟩ rfl
      have k3' : (k == 3) = false := beq_eq_false_iff_ne.2 k3
      by_cases k4 : k = 4
      · subst k4
        go_wp2_with fail
        go_meet
        simpa [bareV] using SCAL.out 4 (.string t) false 0 0 t rfl
      have k4' : (k == 4) = false := beq_eq_false_iff_ne.2 k4
      clear c1' c2' c3' c4' z1 z2 z3 z4 SCAL
      by_cases k5 : k = 5
      · subst k5
        clear k1 k2 k3 k4 k1' k2' k3' k4'
        have HFIN5 : Hid (∀ (wr : World) (sv : Value) (css : List (Array Value)) (bs : List Nat), Hid (wr.heap[w.heap.size + 1 + 1]? = some (.cells #[.int .i64 5, .bool false, .int .i64 0, .float .f64 0, .string ⟨#[]⟩, .string ⟨#[]⟩, sv, .slice none 0 0] 34 (0, 0))) →
            Gath (w.heap.size + 1 + 1 + 1) 34 8 wr sv its.length (css.flatMap (·.toList)) ((its.map bareV).take its.length) css bs → Below (w.heap.size + 1 + 1) wa wr → BareR w (w.heap.size + 1 + 1) (bareV (.mk 5 b i f t ty its fs)) wr) := Lib.hid (by
          intro wr sv css bs hL hG hbel2
          rw [List.take_of_length_le (by simp)] at hG
          have hG : Gath (w.heap.size + 1 + 1 + 1) 34 8 wr sv (its.map bareV).length (css.flatMap (·.toList)) (its.map bareV) css bs := by simpa using hG
          obtain ⟨p1, c1, b1, rfl, hIO, hnd1, hlow1⟩ := hG.items
          refine ⟨Lib.hid (HBEL.out.trans (hbel2.mono (by omega))), Lib.hid ((hbel2.block _ (by omega)).trans H1.out), _, b1 ++ [], hL, Lib.hid ?_, Lib.hid ?_⟩
          · rw [show bareV (.mk 5 b i f t ty its fs) = .mk 5 false 0 0 ⟨#[]⟩ ⟨#[]⟩ (its.map bareV) [] by simp [bareV, bareVs_eq]]
            exact OwnV.intro (by simpa [lenMax] using l1) (by simp [lenMax]) hIO (.inl ⟨rfl, rfl, rfl, rfl⟩)
          · rw [List.append_nil]
            exact ⟨hnd1, fun x hx => by have := hlow1 x hx; omega⟩)
        go_wp2_with fail
        go_loopw [4] (fun ii wr => ∃ j : Nat, j ≤ its.length ∧ ii = .int .i64 j ∧ ∃ sv css bs, Hid (wr.heap[w.heap.size + 1 + 1]? = some (.cells #[.int .i64 5, .bool false, .int .i64 0, .float .f64 0, .string ⟨#[]⟩, .string ⟨#[]⟩, sv, .slice none 0 0] 34 (0, 0))) ∧
            Gath (w.heap.size + 1 + 1 + 1) 34 8 wr sv j (css.flatMap (·.toList)) ((its.map bareV).take j) css bs ∧ Below (w.heap.size + 1 + 1) wa wr) (fun ii _ => its.length - (intOf ii).toNat)
        case atStart => exact ⟨0, by omega, rfl, _, [], [], H2, Gath.start _ _ _ _, Below.refl _ _⟩
        case round =>
          obtain ⟨j, hj, rfl, sv, css, bs, hL, hG, hbel2⟩ := hrel
          have hq6 : wr.cell? ⟨w.heap.size, 6, none⟩ = some (.slice p its.length c) := by
            rw [hbel2.cell (p := ⟨w.heap.size, 6, none⟩) (by simp only []; omega)]
            simp [World.cell?, H0.out, vcells]
          by_cases h1 : j < its.length
          · obtain ⟨x, hx⟩ : ∃ x, its[j]? = some x := ⟨its[j], by simp [h1]⟩
            obtain hi := HI.out
            rcases hi with hi | ⟨g, o, rfl, hg, hvs⟩
            · subst hi; simp at h1
            obtain ⟨csx, hcx, hvx⟩ := hvs.get hx
            have hbw := HBEL.out.trans (hbel2.mono (by omega))
            have hcx' := hcx.below hbw hg
            have hvx' := hvx.on hbw
            have hx1 : szV x ≤ N ∧ szV x ≤ 1000000 := by
              have := szVs_get hx
              have := HN.out
              simp only [szV] at this hm
              omega
            obtain ⟨xk, xb, xi, xf, xt, xty, xits, xfs⟩ := x
            obtain ⟨xp, xc, xq, xd, rfl, _, _, _, _⟩ := hvx
            obtain ⟨c0, c1, c2, c3, c4, c5, c6, c7⟩ := hcx'.all
            have hcell : wr.cell? ⟨w.heap.size + 1 + 1, 6, none⟩ = some sv := by simp [World.cell?, hL.out]
            have HX := Lib.hid hx
            have HX1 := Lib.hid hx1
            have HVX := Lib.hid hvx'
            have HG := Lib.hid hG
            have hsL : w.heap.size + 1 + 1 < wr.heap.size := (Array.getElem?_eq_some_iff.1 hL.out).1
            clear hx hvs hcx hcx' hx1 hvx' hG
            go_wp2_with fail
            refine (IH.out _ HX1.out.1 _ _ HVX.out HX1.out.2).mono ?_
            rintro e w1 ⟨cs', b', rfl, hown, hnod, hlow, hbc⟩
            obtain ⟨yk, yb, yi, yf, yt, yty, yits, yfs, hy⟩ : ∃ yk yb yi yf yt yty yits yfs, bareV (V.mk xk xb xi xf xt xty xits xfs) = V.mk yk yb yi yf yt yty yits yfs := ⟨_, _, _, _, _, _, _, _, by rw [bareV]⟩
            have HY := Lib.hid hy
            rw [hy] at hown
            clear hy
            have HOWN := Lib.hid hown
            obtain ⟨p', c', q', d', bI, bF, rfl, _⟩ := hown
            clear c0 c1 c2 c3 c4 c5 c6 c7
            have hcell1 : w1.cell? ⟨w.heap.size + 1 + 1, 6, none⟩ = some sv := (hbc.cell (p := ⟨_, _, none⟩) hsL).trans hcell
            have hsL1 : w.heap.size + 1 + 1 < w1.heap.size := Nat.lt_of_lt_of_le hsL hbc.size
            clear hcell
            go_upto_region 16 with (fail)
            have hb2 : Below w1.heap.size w1 (w1.alloc (.cells (vcells yk yb yi yf yt yty p' yits.length c' q' yfs.length d') 34)) := (Below.refl _ _).alloc (Nat.le_refl _) _
            have hcc := cellsAt_alloc w1 (vcells yk yb yi yf yt yty p' yits.length c' q' yfs.length d') 34 (0, 0)
            have hs2 : w1.heap.size < (w1.alloc (.cells (vcells yk yb yi yf yt yty p' yits.length c' q' yfs.length d') 34)).heap.size := by simp
            obtain ⟨W2, hW⟩ : ∃ W2, w1.alloc (.cells (vcells yk yb yi yf yt yty p' yits.length c' q' yfs.length d') 34) = W2 := ⟨_, rfl⟩
            rw [hW] at hb2 hcc hs2
            have e : w1.alloc (.cells (vcells yk yb yi yf yt yty p' yits.length c' q' yfs.length d') 34) = W2 := hW
            clear hW
            rw [e]
            clear e
            obtain ⟨d0, d1, d2, d3, d4, d5, d6, d7⟩ := hcc.all0
            have hcell' : W2.cell? ⟨w.heap.size + 1 + 1, 6, none⟩ = some sv := (hb2.cell (p := ⟨_, _, none⟩) hsL1).trans hcell1
            clear hcc hcell1
            go_step
            refine wpList_plain rfl (fun K hK => ?_)
            go_step
            refine hK _ _ ?_
            clear hK K
            refine wpList_plain rfl (fun K hK => ?_)
            go_step
            refine hK _ _ ?_
            clear hK K
            refine wpList_plain rfl (fun K hK => ?_)
            go_step
            refine hK _ _ ?_
            clear hK K
            refine wpList_plain rfl (fun K hK => ?_)
            go_step
            have hb3 : Below W2.heap.size W2 (W2.alloc (.cells (vcells yk yb yi yf yt yty p' yits.length c' q' yfs.length d') 34)) := (Below.refl _ _).alloc (Nat.le_refl _) _
            have hnew := cellsAt_alloc W2 (vcells yk yb yi yf yt yty p' yits.length c' q' yfs.length d') 34 (0, 0)
            obtain ⟨W3, hW⟩ : ∃ W3, W2.alloc (.cells (vcells yk yb yi yf yt yty p' yits.length c' q' yfs.length d') 34) = W3 := ⟨_, rfl⟩
            rw [hW] at hb3 hnew
            have e : W2.alloc (.cells (vcells yk yb yi yf yt yty p' yits.length c' q' yfs.length d') 34) = W3 := hW
            clear hW
            rw [e]
            clear e d0 d1 d2 d3 d4 d5 d6 d7
            refine hK _ _ ?_
            clear hK K
            have hb23 := hb2.trans (hb3.mono hb2.size)
            have hbr3 := hbc.trans (hb23.mono hbc.size)
            refine wpList_plain rfl (fun K hK => ?_)
            have HG3 := HG.out.below hbr3
            refine wp_append_x (P := Tryz.prog) W3 (.tmp 49) (.tmp 51) 31 rfl (w.heap.size + 1 + 1 + 1) 34 (.agg (vcells 0 false 0 0 ⟨#[]⟩ ⟨#[]⟩ none 0 0 none 0 0)) 8 112 Tryz.underlying31 (by kernel_rfl) rfl (by decide) sv j _ rfl HG3.row ⟨W2.heap.size, 0, none⟩ 1 1 (vcells yk yb yi yf yt yty p' yits.length c' q' yfs.length d').toList rfl (by decide) rfl ?c1 ?c2 ?c3 ?c4 ?c5 ?_
            case c1 =>
              intro m u hu
              have := hnew m u (by simpa using hu)
              rw [addr_add]
              exact this
            case c2 => intro u hu; simp at hu; rcases hu with rfl | rfl | rfl | rfl | rfl | rfl | rfl | rfl <;> rfl
            case c3 => unfold maxLen; omega
            case c4 => omega
            case c5 => have := HSZ.out; have := hbr3.size; omega
            intro v' w' hrow hgr hv'
            refine hK _ _ ?_
            clear hK K
            have hlow3 : ∀ y ∈ b', wr.heap.size ≤ y ∧ y < W3.heap.size := fun y hy => ⟨(hlow y hy).1, Nat.lt_of_lt_of_le (hlow y hy).2 hb23.size⟩
            have hown3 : OwnV W3 (V.mk yk yb yi yf yt yty yits yfs) (vcells yk yb yi yf yt yty p' yits.length c' q' yfs.length d') b' := HOWN.out.kept (fun y hy => hb23.block y (hlow y hy).2)
            have hG' := HG.out.step hbr3 hown3 hnod hlow3 (by have := HSZ.out; have := hbel2.size; omega) hrow hgr hv'
            have hLw' : w'.heap[w.heap.size + 1 + 1]? = some (.cells #[.int .i64 5, .bool false, .int .i64 0, .float .f64 0, .string ⟨#[]⟩, .string ⟨#[]⟩, sv, .slice none 0 0] 34 (0, 0)) := by
              rw [hgr.block _ (by have := hbr3.size; omega) (fun e => by have := (HG.out.row.lt _ e.symm).1; omega), hbr3.block _ hsL]
              exact hL.out
            have hfin := heap_setCell_same (j := 6) hLw' v'
            have hbw' : Below (w.heap.size + 1 + 1) wa (w'.setCell ⟨w.heap.size + 1 + 1, 6, none⟩ v') :=
              ((hbel2.trans (hbr3.mono (by omega))).grown hgr (by have := hbr3.size; omega) (fun y hy => by have := (HG.out.row.lt y hy).1; omega)).setCell (Nat.le_refl _) _
            have hGf := hG'.setCell (L := w.heap.size + 1 + 1) (j := 6) (by omega) v'
            have hc6 : w'.cell? ⟨w.heap.size + 1 + 1, 6, none⟩ = some sv := by simp [World.cell?, hLw']
            have hf6 : w'.frozen? ⟨w.heap.size + 1 + 1, 6, none⟩ = false := by simp [World.frozen?, hLw']
            obtain ⟨g', cap', rfl⟩ : ∃ g' cap', v' = .slice (some ⟨g', 0, none⟩) (j + 1) cap' := by
              rcases hrow.2 with ⟨_, h⟩ | ⟨g', cap', cur, h, _⟩
              · omega
              · exact ⟨g', cap', h⟩
            have HFIN := Lib.hid hfin
            have HGF := Lib.hid hGf
            have HBW := Lib.hid hbw'
            clear hfin hGf hbw' hG' hLw' hrow hgr hv' hown3 hlow3 HG3 hbr3 hb23 hnew hb3 hb2 hbc hlow hnod hcell'
            go_wp2
            go_roundw
            case rel =>
              refine ⟨j + 1, by omega, by go_num, .slice (some ⟨g', 0, none⟩) (j + 1) cap', css ++ [vcells yk yb yi yf yt yty p' yits.length c' q' yfs.length d'], bs ++ b', ?_, ?_, HBW.out⟩
              · exact HFIN
              · have h := HGF.out
                rw [List.flatMap_append, List.take_add_one, List.getElem?_map, HX.out]
                simpa [HY.out] using h
            case measure => simp [intOf]; omega
          · obtain rfl : j = its.length := by omega
            go_wp2_with fail
            go_meet
            exact HFIN5.out _ _ _ _ hL hG hbel2
      have k5' : (k == 5) = false := beq_eq_false_iff_ne.2 k5
      by_cases k6 : k = 6
      · subst k6
        clear k1 k2 k3 k4 k5 k1' k2' k3' k4' k5'
        have HFIN6 : Hid (∀ (wr : World) (sv : Value) (css : List (Array Value)) (bs : List Nat), Hid (wr.heap[w.heap.size + 1 + 1]? = some (.cells #[.int .i64 6, .bool false, .int .i64 0, .float .f64 0, .string ⟨#[]⟩, .string ⟨#[]⟩, .slice none 0 0, sv] 34 (0, 0))) →
            Gath (w.heap.size + 1 + 1 + 1) 58 9 wr sv fs.length (flatF ((fs.map (·.1)).take fs.length) css) (((fs.map (·.2)).map bareV).take fs.length) css bs → Below (w.heap.size + 1 + 1) wa wr → BareR w (w.heap.size + 1 + 1) (bareV (.mk 6 b i f t ty its fs)) wr) := Lib.hid (by
          intro wr sv css bs hL hG hbel2
          rw [List.take_of_length_le (by simp), List.take_of_length_le (by simp), ← bareFs_names, ← bareFs_vals] at hG
          have hG : Gath (w.heap.size + 1 + 1 + 1) 58 9 wr sv (fs.map (fun x => (x.1, bareV x.2))).length (flatF ((fs.map (fun x => (x.1, bareV x.2))).map (·.1)) css) ((fs.map (fun x => (x.1, bareV x.2))).map (·.2)) css bs := by simpa using hG
          obtain ⟨q1, d1, b2, rfl, hFO, hnd2, hlow2⟩ := hG.fields
          refine ⟨Lib.hid (HBEL.out.trans (hbel2.mono (by omega))), Lib.hid ((hbel2.block _ (by omega)).trans H1.out), _, [] ++ b2, hL, Lib.hid ?_, Lib.hid ?_⟩
          · rw [show bareV (.mk 6 b i f t ty its fs) = .mk 6 false 0 0 ⟨#[]⟩ ⟨#[]⟩ [] (fs.map (fun x => (x.1, bareV x.2))) by simp [bareV, bareFs_eq]]
            exact OwnV.intro (by simp [lenMax]) (by simpa [lenMax] using l2) (.inl ⟨rfl, rfl, rfl, rfl⟩) hFO
          · exact ⟨hnd2, fun x hx => by have := hlow2 x hx; omega⟩)
        go_wp2_with fail
        go_loopw [6] (fun ii wr => ∃ j : Nat, j ≤ fs.length ∧ ii = .int .i64 j ∧ ∃ sv css bs, Hid (wr.heap[w.heap.size + 1 + 1]? = some (.cells #[.int .i64 6, .bool false, .int .i64 0, .float .f64 0, .string ⟨#[]⟩, .string ⟨#[]⟩, .slice none 0 0, sv] 34 (0, 0))) ∧
            Gath (w.heap.size + 1 + 1 + 1) 58 9 wr sv j (flatF ((fs.map (·.1)).take j) css) (((fs.map (·.2)).map bareV).take j) css bs ∧ Below (w.heap.size + 1 + 1) wa wr) (fun ii _ => fs.length - (intOf ii).toNat)
        case atStart => exact ⟨0, by omega, rfl, _, [], [], H2, Gath.start _ _ _ _, Below.refl _ _⟩
        case round =>
          obtain ⟨j, hj, rfl, sv, css, bs, hL, hG, hbel2⟩ := hrel
          have hq7 : wr.cell? ⟨w.heap.size, 7, none⟩ = some (.slice q fs.length d) := by
            rw [hbel2.cell (p := ⟨w.heap.size, 7, none⟩) (by simp only []; omega)]
            simp [World.cell?, H0.out, vcells]
          have hsL : w.heap.size + 1 + 1 < wr.heap.size := (Array.getElem?_eq_some_iff.1 hL.out).1
          by_cases h1 : j < fs.length
          · obtain ⟨x, hx⟩ : ∃ x, fs[j]? = some x := ⟨fs[j], by simp [h1]⟩
            obtain hf := HF.out
            rcases hf with hf | ⟨g, o, rfl, hg, hvs⟩
            · subst hf; simp at h1
            obtain ⟨hnm, csx, hcx, hvx⟩ := hvs.get hx
            have hbw := HBEL.out.trans (hbel2.mono (by omega))
            have hcx' := hcx.below hbw hg
            have hvx' := hvx.on hbw
            have hnm' : wr.cell? ⟨g, o + j * 9, none⟩ = some (.string x.1) := (hbw.cell (p := ⟨g, _, none⟩) hg).trans hnm
            have hx1 : szV x.2 ≤ N ∧ szV x.2 ≤ 1000000 := by
              have := szFs_get hx
              have := HN.out
              simp only [szV] at this hm
              omega
            obtain ⟨xn, xk, xb, xi, xf, xt, xty, xits, xfs⟩ := x
            obtain ⟨xp, xc, xq, xd, rfl, _, _, _, _⟩ := hvx
            obtain ⟨c0, c1', c2, c3, c4, c5, c6, c7⟩ := hcx'.all
            have hcell : wr.cell? ⟨w.heap.size + 1 + 1, 7, none⟩ = some sv := by simp [World.cell?, hL.out]
            have HX := Lib.hid hx
            have HX1 := Lib.hid hx1
            have HVX := Lib.hid hvx'
            have HG := Lib.hid hG
            clear hx hvs hcx hcx' hx1 hvx' hG hnm
            go_wp2_with fail
            refine (IH.out _ HX1.out.1 _ _ HVX.out HX1.out.2).mono ?_
            rintro e w1 ⟨cs', b', rfl, hown, hnod, hlow, hbc⟩
            obtain ⟨yk, yb, yi, yf, yt, yty, yits, yfs, hy⟩ : ∃ yk yb yi yf yt yty yits yfs, bareV (V.mk xk xb xi xf xt xty xits xfs) = V.mk yk yb yi yf yt yty yits yfs := ⟨_, _, _, _, _, _, _, _, by rw [bareV]⟩
            have HY := Lib.hid hy
            rw [hy] at hown
            clear hy
            have HOWN := Lib.hid hown
            obtain ⟨p', c', q', d', bI, bF, rfl, _⟩ := hown
            clear c0 c1' c2 c3 c4 c5 c6 c7
            have hgw : g < wr.heap.size := Nat.lt_of_lt_of_le hg hbw.size
            have hcell1 : w1.cell? ⟨w.heap.size + 1 + 1, 7, none⟩ = some sv := (hbc.cell (p := ⟨_, _, none⟩) hsL).trans hcell
            have hsL1 : w.heap.size + 1 + 1 < w1.heap.size := Nat.lt_of_lt_of_le hsL hbc.size
            have hq71 := (hbc.cell (p := ⟨w.heap.size, 7, none⟩) (by simp only []; omega)).trans hq7
            have hnm1 := (hbc.cell (p := ⟨g, o + j * 9, none⟩) hgw).trans hnm'
            have hs0 : w.heap.size < w1.heap.size := by omega
            have hgw1 : g < w1.heap.size := Nat.lt_of_lt_of_le hgw hbc.size
            clear hcell hq7 hnm'
            go_upto_region 22 with (fail)
            have hb2 : Below w1.heap.size w1 (w1.alloc (.cells (vcells yk yb yi yf yt yty p' yits.length c' q' yfs.length d') 34)) := (Below.refl _ _).alloc (Nat.le_refl _) _
            have hcc := cellsAt_alloc w1 (vcells yk yb yi yf yt yty p' yits.length c' q' yfs.length d') 34 (0, 0)
            have hs2 : w1.heap.size < (w1.alloc (.cells (vcells yk yb yi yf yt yty p' yits.length c' q' yfs.length d') 34)).heap.size := by simp
            obtain ⟨W2, hW⟩ : ∃ W2, w1.alloc (.cells (vcells yk yb yi yf yt yty p' yits.length c' q' yfs.length d') 34) = W2 := ⟨_, rfl⟩
            rw [hW] at hb2 hcc hs2
            have e : w1.alloc (.cells (vcells yk yb yi yf yt yty p' yits.length c' q' yfs.length d') 34) = W2 := hW
            clear hW
            rw [e]
            clear e
            obtain ⟨d0, d1', d2, d3, d4, d5, d6, d7⟩ := hcc.all0
            have hcell' : W2.cell? ⟨w.heap.size + 1 + 1, 7, none⟩ = some sv := (hb2.cell (p := ⟨_, _, none⟩) hsL1).trans hcell1
            have hq72 := (hb2.cell (p := ⟨w.heap.size, 7, none⟩) hs0).trans hq71
            have hnm2 := (hb2.cell (p := ⟨g, o + j * 9, none⟩) hgw1).trans hnm1
            have hsL2 : w.heap.size + 1 + 1 < W2.heap.size := Nat.lt_of_lt_of_le hsL1 hb2.size
            have hs02 : w.heap.size < W2.heap.size := by omega
            have hgw2 : g < W2.heap.size := Nat.lt_of_lt_of_le hgw1 hb2.size
            have kc := cell_cls W2
            clear hcc hcell1 hq71 hnm1
            refine wp_region_plan_below 11 [(0, [0, 1, 2, 3, 4, 5, 6, 7, 8]), (1, [9, 10]), (2, [11, 12, 13])] (by kernel_rfl) (by kernel_rfl) (fun _ _ _ _ h => h) ?_
            simp only [wpSegs, pickOps, List.getElem?_toArray, List.getElem?_cons_zero, List.getElem?_cons_succ]
            repeat (go_big_quiet_step (fail))
            refine wpQuiet_nil ?_
            clear kc
            refine wpListC_plain rfl (fun K hK => ?_)
            go_step
            refine hK _ _ (cls_drew _) ?_
            clear hK K
            refine wpListC_plain rfl (fun K hK => ?_)
            go_step
            have hb3 : Below W2.heap.size W2 ((W2.alloc (.cells #[.string xn, .int .i64 yk, .bool yb, .int .i64 yi, .float .f64 yf, .string yt, .string yty, .slice p' yits.length c', .slice q' yfs.length d'] 58)).drew) := Below.drew ((Below.refl _ _).alloc (Nat.le_refl _) _)
            have hnew : CellsAt ((W2.alloc (.cells #[.string xn, .int .i64 yk, .bool yb, .int .i64 yi, .float .f64 yf, .string yt, .string yty, .slice p' yits.length c', .slice q' yfs.length d'] 58)).drew) W2.heap.size 0 #[.string xn, .int .i64 yk, .bool yb, .int .i64 yi, .float .f64 yf, .string yt, .string yty, .slice p' yits.length c', .slice q' yfs.length d'] := cellsAt_alloc W2 #[.string xn, .int .i64 yk, .bool yb, .int .i64 yi, .float .f64 yf, .string yt, .string yty, .slice p' yits.length c', .slice q' yfs.length d'] 58 (0, 0)
            obtain ⟨W3, hW⟩ : ∃ W3, (W2.alloc (.cells #[.string xn, .int .i64 yk, .bool yb, .int .i64 yi, .float .f64 yf, .string yt, .string yty, .slice p' yits.length c', .slice q' yfs.length d'] 58)).drew = W3 := ⟨_, rfl⟩
            rw [hW] at hb3 hnew
            have e : (W2.alloc (.cells #[.string xn, .int .i64 yk, .bool yb, .int .i64 yi, .float .f64 yf, .string yt, .string yty, .slice p' yits.length c', .slice q' yfs.length d'] 58)).drew = W3 := hW
            clear hW
            rw [e]
            clear e d0 d1' d2 d3 d4 d5 d6 d7
            refine hK _ _ (cls_of_below hb3) ?_
            clear hK K
            have hb23 := hb2.trans (hb3.mono hb2.size)
            have hbr3 := hbc.trans (hb23.mono hbc.size)
            refine wpListC_nil ?_
            refine wpList_plain rfl (fun K hK => ?_)
            have HG3 := HG.out.below hbr3
            refine wp_append_x (P := Tryz.prog) W3 (.tmp 71) (.tmp 80) 32 rfl (w.heap.size + 1 + 1 + 1) 58 (.agg (#[Value.string ⟨#[]⟩] ++ vcells 0 false 0 0 ⟨#[]⟩ ⟨#[]⟩ none 0 0 none 0 0)) 9 128 Tryz.underlying32 (by kernel_rfl) rfl (by decide) sv j _ rfl HG3.row ⟨W2.heap.size, 0, none⟩ 1 1 (#[Value.string xn] ++ vcells yk yb yi yf yt yty p' yits.length c' q' yfs.length d').toList rfl (by decide) rfl ?c1 ?c2 ?c3 ?c4 ?c5 ?_
            case c1 =>
              intro m u hu
              have := hnew m u (by simpa using hu)
              rw [addr_add]
              exact this
            case c2 => intro u hu; simp at hu; rcases hu with rfl | rfl | rfl | rfl | rfl | rfl | rfl | rfl | rfl <;> rfl
            case c3 => unfold maxLen; omega
            case c4 => omega
            case c5 => have := HSZ.out; have := hbr3.size; have := hbel2.size; omega
            intro v' w' hrow hgr hv'
            refine hK _ _ ?_
            clear hK K
            have hlow3 : ∀ y ∈ b', wr.heap.size ≤ y ∧ y < W3.heap.size := fun y hy => ⟨(hlow y hy).1, Nat.lt_of_lt_of_le (hlow y hy).2 hb23.size⟩
            have hown3 : OwnV W3 (V.mk yk yb yi yf yt yty yits yfs) (vcells yk yb yi yf yt yty p' yits.length c' q' yfs.length d') b' := HOWN.out.kept (fun y hy => hb23.block y (hlow y hy).2)
            have hG' := HG.out.step hbr3 hown3 hnod hlow3 (by have := HSZ.out; have := hbel2.size; omega) hrow hgr hv'
            have hLw' : w'.heap[w.heap.size + 1 + 1]? = some (.cells #[.int .i64 6, .bool false, .int .i64 0, .float .f64 0, .string ⟨#[]⟩, .string ⟨#[]⟩, .slice none 0 0, sv] 34 (0, 0)) := by
              rw [hgr.block _ (by have := hbr3.size; omega) (fun e => by have := (HG.out.row.lt _ e.symm).1; omega), hbr3.block _ hsL]
              exact hL.out
            have hfin := heap_setCell_same (j := 7) hLw' v'
            have hbw' : Below (w.heap.size + 1 + 1) wa (w'.setCell ⟨w.heap.size + 1 + 1, 7, none⟩ v') :=
              ((hbel2.trans (hbr3.mono (by omega))).grown hgr (by have := hbr3.size; omega) (fun y hy => by have := (HG.out.row.lt y hy).1; omega)).setCell (Nat.le_refl _) _
            have hGf := hG'.setCell (L := w.heap.size + 1 + 1) (j := 7) (by omega) v'
            have hc6 : w'.cell? ⟨w.heap.size + 1 + 1, 7, none⟩ = some sv := by simp [World.cell?, hLw']
            have hf6 : w'.frozen? ⟨w.heap.size + 1 + 1, 7, none⟩ = false := by simp [World.frozen?, hLw']
            obtain ⟨g', cap', rfl⟩ : ∃ g' cap', v' = .slice (some ⟨g', 0, none⟩) (j + 1) cap' := by
              rcases hrow.2 with ⟨_, h⟩ | ⟨g', cap', cur, h, _⟩
              · omega
              · exact ⟨g', cap', h⟩
            have HFIN := Lib.hid hfin
            have HGF := Lib.hid hGf
            have HBW := Lib.hid hbw'
            clear hfin hGf hbw' hG' hLw' hrow hgr hv' hown3 hlow3 HG3 hbr3 hb23 hnew hb3 hb2 hbc hlow hnod hcell' hq72 hnm2
            go_wp2
            go_roundw
            case rel =>
              refine ⟨j + 1, by omega, by go_num, .slice (some ⟨g', 0, none⟩) (j + 1) cap', css ++ [vcells yk yb yi yf yt yty p' yits.length c' q' yfs.length d'], bs ++ b', ?_, ?_, HBW.out⟩
              · exact HFIN
              · have h := HGF.out
                have hlen := HG.out.own.length
                have e1 : (fs.map (·.1)).take (j + 1) = (fs.map (·.1)).take j ++ [xn] := by rw [List.take_add_one]; simp [HX.out]
                have e2 : ((fs.map (·.2)).map bareV).take (j + 1) = ((fs.map (·.2)).map bareV).take j ++ [V.mk yk yb yi yf yt yty yits yfs] := by rw [List.take_add_one]; simp [HX.out, HY.out]
                rw [e1, e2, flatF_snoc _ _ _ _ (by rw [hlen]; simp)]
                simpa using h
            case measure => simp [intOf]; omega
          · obtain rfl : j = fs.length := by omega
            go_wp2_with fail
            go_meet
            exact HFIN6.out _ _ _ _ hL hG hbel2
      have k6' : (k == 6) = false := beq_eq_false_iff_ne.2 k6
      go_wp2_with fail
      go_meet
      simpa [bareV, k1, k2, k3, k4, k5, k6] using BareR.plain HBEL.out H1.out H2.out
    case rest =>
      obtain ⟨hb, h1, cs, bs, hL, ho, hn⟩ := hcut
      obtain ⟨yk, yb, yi, yf, yt, yty, yits, yfs, hy⟩ : ∃ yk yb yi yf yt yty yits yfs, bareV (.mk k b i f t ty its fs) = V.mk yk yb yi yf yt yty yits yfs := ⟨_, _, _, _, _, _, _, _, by rw [bareV]⟩
      rw [hy] at ho
      obtain ⟨p', c', q', d', bI, bF, rfl, hbs, _⟩ := ho.out
      clear a0 a1 a2 a3 a4 a5 a6 a7
      obtain ⟨e0, e1, e2, e3, e4, e5, e6, e7⟩ := (show CellsAt wc (w.heap.size + 1 + 1) 0 (vcells yk yb yi yf yt yty p' yits.length c' q' yfs.length d') by intro m x hx; rw [Nat.zero_add]; simp only [World.cell?, hL.out]; exact hx).all0
      clear hbs
      go_upto_region 23 with (fail)
      go_step
      refine wpList_plain rfl (fun K hK => ?_)
      go_step
      refine hK _ _ ?_
      clear hK K
      refine wpList_plain rfl (fun K hK => ?_)
      refine wp_store_row (P := Tryz.prog) 34 (.tmp 2) (.tmp 83) rfl (w.heap.size + 1) (vcells yk yb yi yf yt yty p' yits.length c' q' yfs.length d') rfl rfl 34 _ h1.out (by kernel_rfl) rfl (vcells_one ..) ?_
      refine hK _ _ ?_
      clear hK K
      have hnew : (wc.setRow (w.heap.size + 1) (vcells yk yb yi yf yt yty p' yits.length c' q' yfs.length d')).heap[w.heap.size + 1]? = some (.cells (vcells yk yb yi yf yt yty p' yits.length c' q' yfs.length d') 34 (0, 0)) := setRow_heap _ _ _ _ _ _ h1.out
      have hwfin : Below w.heap.size w (wc.setRow (w.heap.size + 1) (vcells yk yb yi yf yt yty p' yits.length c' q' yfs.length d')) := below_setRow hb.out (by omega) _
      have hk1 : Kept bs wc (wc.setRow (w.heap.size + 1) (vcells yk yb yi yf yt yty p' yits.length c' q' yfs.length d')) := Kept.setRow (fun _ _ => rfl) (fun h => by have := (hn.out.2 _ h).1; omega) _
      have hsz := setRow_size wc (w.heap.size + 1) (vcells yk yb yi yf yt yty p' yits.length c' q' yfs.length d')
      generalize wc.setRow (w.heap.size + 1) (vcells yk yb yi yf yt yty p' yits.length c' q' yfs.length d') = wz at *
      obtain ⟨r0, r1, r2, r3, r4, r5, r6, r7⟩ := (show CellsAt wz (w.heap.size + 1) 0 (vcells yk yb yi yf yt yty p' yits.length c' q' yfs.length d') by intro m x hx; rw [Nat.zero_add]; simp only [World.cell?, hnew]; exact hx).all0
      have hpost : CopyPost (bareV (.mk k b i f t ty its fs)) w (.returned (.agg (vcells yk yb yi yf yt yty p' yits.length c' q' yfs.length d'))) wz := by
        rw [hy]
        exact ⟨_, bs, rfl, ho.out.kept hk1, hn.out.1, fun x hx => by have := hn.out.2 x hx; omega, hwfin⟩
      have HP := Lib.hid hpost
      clear hpost hy e0 e1 e2 e3 e4 e5 e6 e7 hwfin hk1 hnew
      go_wp2
      exact bodyPost_ret (v := .agg (vcells yk yb yi yf yt yty p' yits.length c' q' yfs.length d')) (by simp [results, Tryz.results15, go_sem, r0, r1, r2, r3, r4, r5, r6, r7]) rfl HP.out
end Go.Proofs.YtldjbgklmeigmaaGreatDoor
