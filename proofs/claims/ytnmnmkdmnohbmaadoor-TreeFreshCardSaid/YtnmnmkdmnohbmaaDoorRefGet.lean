/- Helper text: Get of the reference. Conditions: none. -/
import Derived.Test.YtnmnmkdmnohbmaaDoorGet
import Derived.Test.YtnmnmkdmnohbmaaDoorRefCopy
namespace Go.Proofs.YtnmnmkdmnohbmaaDoor
open Go.RowKit
attribute [local go_sem] run_store_float St.cells

theorem find_none {v : V} {s : St} (h : child v s = none) : findI v s = -1 := by
  unfold child at h
  unfold findI
  cases hc : childIx v s with
  | none => rfl
  | some n =>
    exfalso
    have := childIx_lt hc
    rw [hc] at h
    by_cases hi : s.it = true
    · rw [if_pos hi] at this
      simp [hi, this] at h
    · rw [if_neg hi] at this
      simp [hi, this] at h

theorem find_some {v : V} {s : St} {u : V} (h : child v s = some u) : ∃ n : Nat, childIx v s = some n ∧ findI v s = n ∧ (s.it = true → v.its[n]? = some u) ∧ (s.it = false → ∃ nm, v.fs[n]? = some (nm, u)) := by
  unfold child at h
  unfold findI
  cases hc : childIx v s with
  | none => rw [hc] at h; cases h
  | some n =>
    rw [hc] at h
    refine ⟨n, rfl, rfl, fun hi => ?_, fun hi => ?_⟩
    · simpa [hi] using h
    · obtain ⟨x, hx, rfl⟩ : ∃ x, v.fs[n]? = some x ∧ x.2 = u := by simpa [hi] using h
      exact ⟨x.1, hx⟩

theorem cellsAt_block {w : World} {g : Nat} {cs : Array Value} {e : TypeId} (h : w.heap[g]? = some (.cells cs e (0, 0))) : CellsAt w g 0 cs := by
  intro m x hx
  rw [Nat.zero_add]
  simp only [World.cell?, h]
  exact hx

set_option maxRecDepth 100000 in
set_option maxHeartbeats 1000000 in
theorem refGet_any (v : V) (path : List St) (cs : Array Value) (pp : Option Addr) (cap : Nat) (w : World) (hv : IsV w.heap.size w v cs) (hp : StepsAt w.heap.size w pp path) (hl : path.length ≤ maxLen) (hm : szV v ≤ 1000000) :
    Calls Tryd.prog 23 #[.agg cs, .slice pp path.length cap] w (GetPost (getV v path) w) := by
  unfold maxLen at hl
  have HV0 := Lib.hid hv
  have HGET := Lib.hid (rfl : getV v path = getV v path)
  obtain ⟨k, b, i, f, t, ty, its, fs⟩ := v
  obtain ⟨p, c, q, d, rfl, _, _, l1, l2⟩ := hv
  unfold lenMax at l1 l2
  have HP := Lib.hid hp
  clear hp
  go_enter Tryd.func23, Tryd.ntmps23
  go_wp2_with fail
  obtain ⟨wa, hW⟩ : ∃ wa, (w.alloc (.cells (vcells k b i f t ty p its.length c q fs.length d) 27)).alloc (.cells cells0 27) = wa := ⟨_, rfl⟩
  have hwa : Below w.heap.size w wa := by rw [← hW]; exact ((Below.refl _ _).alloc (Nat.le_refl _) _).alloc (by simp) _
  have h0 : wa.heap[w.heap.size]? = some (.cells (vcells k b i f t ty p its.length c q fs.length d) 27 (0, 0)) := by
    rw [← hW]; exact heap_old (heap_new _ _) _
  have h1 : wa.heap[w.heap.size + 1]? = some (.cells cells0 27 (0, 0)) := by
    rw [← hW]; have := heap_new (w.alloc (.cells (vcells k b i f t ty p its.length c q fs.length d) 27)) (.cells cells0 27); rwa [World.size_alloc] at this
  have e : (w.alloc (.cells (vcells k b i f t ty p its.length c q fs.length d) 27)).alloc (.cells cells0 27) = wa := hW
  clear hW
  rw [e]
  clear e
  have H0 := Lib.hid h0
  have H1 := Lib.hid h1
  have HWA := Lib.hid hwa
  clear h0 h1 hwa
  go_loopw [6] (fun ii wr => ∃ j : Nat, j ≤ path.length ∧ ii = .int .i64 j ∧ ∃ u ucs, Hid (wr.heap[w.heap.size]? = some (.cells ucs 27 (0, 0))) ∧ Hid (wr.heap[w.heap.size + 1]? = some (.cells cells0 27 (0, 0))) ∧ IsV w.heap.size wr u ucs ∧
      Hid (getV u (path.drop j) = getV (.mk k b i f t ty its fs) path) ∧ szV u ≤ 1000000 ∧ Below w.heap.size w wr) (fun ii _ => path.length - (intOf ii).toNat)
  case atStart => exact ⟨0, by omega, rfl, _, _, H0, H1, HV0.out.below HWA.out (Nat.le_refl _), rfl, hm, HWA.out⟩
  case round =>
    obtain ⟨j, hj, rfl, u, ucs, hL, hR, hvu, hget, hmu, hbw⟩ := hrel
    obtain ⟨uk, ub, ui, uf, ut, uty, uits, ufs⟩ := u
    have HVU := Lib.hid hvu
    obtain ⟨up, uc, uq, ud, rfl, hui, huf, _, _⟩ := hvu
    obtain ⟨c0, c1, c2, c3, c4, c5, c6, c7⟩ := (cellsAt_block hL.out).all0
    have hs0 : w.heap.size < wr.heap.size := (Array.getElem?_eq_some_iff.1 hL.out).1
    have hs1 : w.heap.size + 1 < wr.heap.size := (Array.getElem?_eq_some_iff.1 hR.out).1
    have HUI := Lib.hid hui
    have HUF := Lib.hid huf
    clear hui huf
    by_cases h3 : j < path.length
    · obtain ⟨⟨snm, six, sit⟩, hs⟩ : ∃ s, path[j]? = some s := ⟨path[j], by simp [h3]⟩
      have hp := HP.out
      rcases hp with hp | ⟨gp, op, rfl, hgp, hcp⟩
      · subst hp; simp at h3
      obtain ⟨a1, a2, a3⟩ := hcp j _ hs
      have a1 := (hbw.cell (p := ⟨gp, _, none⟩) hgp).trans a1
      have a2 := (hbw.cell (p := ⟨gp, _, none⟩) hgp).trans a2
      have a3 := (hbw.cell (p := ⟨gp, _, none⟩) hgp).trans a3
      have hgr : gp < wr.heap.size := Nat.lt_of_lt_of_le hgp hbw.size
      have hdrop : getV (.mk uk ub ui uf ut uty uits ufs) (path.drop j) = (child (.mk uk ub ui uf ut uty uits ufs) ⟨snm, six, sit⟩).bind (getV · (path.drop (j + 1))) := by
        rw [drop_some hs, getV]
      have HD := Lib.hid hdrop
      have hb0 := (Below.drew (Below.refl wr.heap.size wr))
      have HCALL := Lib.hid (refFind_any (.mk uk ub ui uf ut uty uits ufs) ⟨snm, six, sit⟩ _ _ ((HVU.out.below (Below.refl _ _) (Nat.le_of_lt hs0)).on hb0))
      clear hcp hs hdrop hb0
      go_wp2
      refine wp_region_plan_below 5 [(0, [0, 1, 2, 3, 4]), (2, [5, 6])] (by kernel_rfl) (by kernel_rfl) (fun _ _ _ _ h => h) ?_
      simp only [wpSegs, pickOps, List.getElem?_toArray, List.getElem?_cons_zero, List.getElem?_cons_succ]
      have kc := cell_cls wr
      repeat (go_big_quiet_step (fail))
      refine wpQuiet_nil ?_
      clear kc
      cases hch : child (.mk uk ub ui uf ut uty uits ufs) ⟨snm, six, sit⟩ with
      | none =>
        rw [find_none hch] at HCALL
        have hfin : getV (.mk k b i f t ty its fs) path = none := by rw [← hget.out, HD.out, hch]; rfl
        have HFIN := Lib.hid hfin
        clear hfin hch
        go_upto_region 6 with (go_at_call 56; refine HCALL.out.mono ?_; rintro e w2 ⟨rfl, hb2⟩)
        have hw2 := (Below.drew (Below.refl wr.heap.size wr)).trans hb2
        have h1' : w2.heap[w.heap.size + 1]? = some (.cells cells0 27 (0, 0)) := by
          rw [hw2.block _ hs1]; exact hR.out
        have H1' := Lib.hid h1'
        clear h1'
        go_step
        refine wpList_plain rfl (fun K hK => ?_)
        go_step
        refine hK _ _ ?_
        clear hK K
        refine wpList_plain rfl (fun K hK => ?_)
        refine wp_store_row (P := Tryd.prog) 27 (.tmp 4) (.tmp 22) rfl (w.heap.size + 1) cells0 rfl rfl 27 _ H1'.out (by kernel_rfl) rfl (vcells_one ..) ?_
        refine hK _ _ ?_
        clear hK K
        have hnew : (w2.setRow (w.heap.size + 1) cells0).heap[w.heap.size + 1]? = some (.cells cells0 27 (0, 0)) := setRow_heap _ _ _ _ _ _ H1'.out
        have hwfin : Below w.heap.size w (w2.setRow (w.heap.size + 1) cells0) := below_setRow (hbw.trans (hw2.mono hbw.size)) (by omega) _
        generalize w2.setRow (w.heap.size + 1) cells0 = wz at *
        obtain ⟨r0, r1, r2, r3, r4, r5, r6, r7⟩ := (cellsAt_block hnew).all0
        have hpost : GetPost (getV (.mk k b i f t ty its fs) path) w (.returned (.tuple #[.agg cells0, .bool false])) wz := by
          rw [HFIN.out]
          exact ⟨_, [], rfl, own0 _, List.nodup_nil, by simp, hwfin⟩
        have HPOST := Lib.hid hpost
        clear hpost hwfin hnew
        go_wp2
        exact bodyPost_ret (v := .tuple #[.agg cells0, .bool false]) (by simp [results, Tryd.results23, go_sem, r0, r1, r2, r3, r4, r5, r6, r7]) rfl HPOST.out
      | some x =>
        obtain ⟨n, hix, hfi, hxi, hxf⟩ := find_some hch
        rw [hfi] at HCALL
        have hx := child_size hch
        have hd : getV x (path.drop (j + 1)) = getV (.mk k b i f t ty its fs) path := by rw [← hget.out, HD.out, hch]; rfl
        have HX := Lib.hid hd
        have hxm : szV x ≤ 1000000 := by omega
        clear hd hch hix hfi hx
        cases sit with
        | true =>
          have hxi := hxi rfl
          have hui := HUI.out
          rcases hui with hi | ⟨gi, oi, rfl, hgi, hvs⟩
          · have : uits[n]? = some x := hxi
            rw [hi] at this; simp at this
          obtain ⟨csx, hcx, hvx⟩ := hvs.get (show uits[n]? = some x from hxi)
          have hnl : n < uits.length := (List.getElem?_eq_some_iff.1 (show uits[n]? = some x from hxi)).1
          have HVX := Lib.hid hvx
          obtain ⟨xk, xb, xi, xf, xt, xty, xits, xfs⟩ := x
          obtain ⟨xp, xc, xq, xd, rfl, _, _, _, _⟩ := hvx
          have HCX := Lib.hid hcx
          clear hcx hvs hxi hxf
          go_upto_region 8 with (go_at_call 56; refine HCALL.out.mono ?_; rintro e w2 ⟨rfl, hb2⟩; have a3 := (((Below.drew (Below.refl wr.heap.size wr)).trans hb2).cell (p := ⟨gp, _, none⟩) hgr).trans a3)
          have hw2 := (Below.drew (Below.refl wr.heap.size wr)).trans hb2
          have hw2' : Below w.heap.size wr w2 := hw2.mono (Nat.le_of_lt hs0)
          have hL2 : w2.heap[w.heap.size]? = some (.cells (vcells uk ub ui uf ut uty (some ⟨gi, oi, none⟩) uits.length uc uq ufs.length ud) 27 (0, 0)) := by rw [hw2.block _ hs0]; exact hL.out
          have hR2 : w2.heap[w.heap.size + 1]? = some (.cells cells0 27 (0, 0)) := by rw [hw2.block _ hs1]; exact hR.out
          obtain ⟨c0, c1, c2, c3, c4, c5, c6, c7⟩ := (cellsAt_block hL2).all0
          obtain ⟨d0, d1, d2, d3, d4, d5, d6, d7⟩ := (HCX.out.below hw2' hgi).all
          have HL2 := Lib.hid hL2
          have HR2 := Lib.hid hR2
          clear hL2 hR2
          go_step
          iterate 5
            refine wpList_plain rfl (fun K hK => ?_)
            go_step
            refine hK _ _ ?_
            clear hK K
          refine wpList_plain rfl (fun K hK => ?_)
          refine wp_store_row (P := Tryd.prog) 27 (.tmp 2) (.tmp 32) rfl w.heap.size (vcells xk xb xi xf xt xty xp xits.length xc xq xfs.length xd) rfl rfl 27 _ HL2.out (by kernel_rfl) rfl (vcells_one ..) ?_
          refine hK _ _ ?_
          clear hK K
          have hnew : (w2.setRow w.heap.size (vcells xk xb xi xf xt xty xp xits.length xc xq xfs.length xd)).heap[w.heap.size]? = some (.cells (vcells xk xb xi xf xt xty xp xits.length xc xq xfs.length xd) 27 (0, 0)) := setRow_heap _ _ _ _ _ _ HL2.out
          have hnewR : (w2.setRow w.heap.size (vcells xk xb xi xf xt xty xp xits.length xc xq xfs.length xd)).heap[w.heap.size + 1]? = some (.cells cells0 27 (0, 0)) := (setRow_other _ _ _ _ (by omega)).trans HR2.out
          have hwz : Below w.heap.size wr (w2.setRow w.heap.size (vcells xk xb xi xf xt xty xp xits.length xc xq xfs.length xd)) := below_setRow hw2' (Nat.le_refl _) _
          generalize w2.setRow w.heap.size (vcells xk xb xi xf xt xty xp xits.length xc xq xfs.length xd) = wz at *
          have HN := Lib.hid hnew
          have HNR := Lib.hid hnewR
          clear hnew hnewR d0 d1 d2 d3 d4 d5 d6 d7 c0 c1 c2 c3 c4 c5 c6 c7
          go_wp2_with fail
          go_roundw
          case rel => exact ⟨j + 1, by omega, by go_num, _, _, HN, HNR, HVX.out.below hwz (Nat.le_refl _), HX, hxm, hbw.trans hwz⟩
          case measure => simp [intOf]; omega
        | false =>
          obtain ⟨xn, hxf⟩ := hxf rfl
          have huf := HUF.out
          rcases huf with hi | ⟨gf, of', rfl, hgf, hvs⟩
          · have : ufs[n]? = some (xn, x) := hxf
            rw [hi] at this; simp at this
          obtain ⟨_, csx, hcx, hvx⟩ := hvs.get (show ufs[n]? = some (xn, x) from hxf)
          have hnl : n < ufs.length := (List.getElem?_eq_some_iff.1 (show ufs[n]? = some (xn, x) from hxf)).1
          have HVX := Lib.hid hvx
          obtain ⟨xk, xb, xi, xf, xt, xty, xits, xfs⟩ := x
          obtain ⟨xp, xc, xq, xd, rfl, _, _, _, _⟩ := hvx
          have HCX := Lib.hid hcx
          clear hcx hvs hxi hxf
          go_upto_region 9 with (go_at_call 56; refine HCALL.out.mono ?_; rintro e w2 ⟨rfl, hb2⟩; have a3 := (((Below.drew (Below.refl wr.heap.size wr)).trans hb2).cell (p := ⟨gp, _, none⟩) hgr).trans a3)
          have hw2 := (Below.drew (Below.refl wr.heap.size wr)).trans hb2
          have hw2' : Below w.heap.size wr w2 := hw2.mono (Nat.le_of_lt hs0)
          have hL2 : w2.heap[w.heap.size]? = some (.cells (vcells uk ub ui uf ut uty up uits.length uc (some ⟨gf, of', none⟩) ufs.length ud) 27 (0, 0)) := by rw [hw2.block _ hs0]; exact hL.out
          have hR2 : w2.heap[w.heap.size + 1]? = some (.cells cells0 27 (0, 0)) := by rw [hw2.block _ hs1]; exact hR.out
          obtain ⟨c0, c1, c2, c3, c4, c5, c6, c7⟩ := (cellsAt_block hL2).all0
          obtain ⟨d0, d1, d2, d3, d4, d5, d6, d7⟩ := (HCX.out.below hw2' hgf).all
          have HL2 := Lib.hid hL2
          have HR2 := Lib.hid hR2
          clear hL2 hR2
          go_step
          iterate 6
            refine wpList_plain rfl (fun K hK => ?_)
            go_step
            refine hK _ _ ?_
            clear hK K
          refine wpList_plain rfl (fun K hK => ?_)
          refine wp_store_row (P := Tryd.prog) 27 (.tmp 2) (.tmp 38) rfl w.heap.size (vcells xk xb xi xf xt xty xp xits.length xc xq xfs.length xd) rfl rfl 27 _ HL2.out (by kernel_rfl) rfl (vcells_one ..) ?_
          refine hK _ _ ?_
          clear hK K
          have hnew : (w2.setRow w.heap.size (vcells xk xb xi xf xt xty xp xits.length xc xq xfs.length xd)).heap[w.heap.size]? = some (.cells (vcells xk xb xi xf xt xty xp xits.length xc xq xfs.length xd) 27 (0, 0)) := setRow_heap _ _ _ _ _ _ HL2.out
          have hnewR : (w2.setRow w.heap.size (vcells xk xb xi xf xt xty xp xits.length xc xq xfs.length xd)).heap[w.heap.size + 1]? = some (.cells cells0 27 (0, 0)) := (setRow_other _ _ _ _ (by omega)).trans HR2.out
          have hwz : Below w.heap.size wr (w2.setRow w.heap.size (vcells xk xb xi xf xt xty xp xits.length xc xq xfs.length xd)) := below_setRow hw2' (Nat.le_refl _) _
          generalize w2.setRow w.heap.size (vcells xk xb xi xf xt xty xp xits.length xc xq xfs.length xd) = wz at *
          have HN := Lib.hid hnew
          have HNR := Lib.hid hnewR
          clear hnew hnewR d0 d1 d2 d3 d4 d5 d6 d7 c0 c1 c2 c3 c4 c5 c6 c7
          go_wp2_with fail
          go_roundw
          case rel => exact ⟨j + 1, by omega, by go_num, _, _, HN, HNR, HVX.out.below hwz (Nat.le_refl _), HX, hxm, hbw.trans hwz⟩
          case measure => simp [intOf]; omega
    · have hfin : getV (.mk k b i f t ty its fs) path = some (.mk uk ub ui uf ut uty uits ufs) := by
        rw [← hget.out, List.drop_of_length_le (by omega)]; rfl
      have HFIN := Lib.hid hfin
      have hvr := HVU.out.below (Below.refl _ _) (Nat.le_of_lt hs0)
      have HVR := Lib.hid hvr
      clear hfin hvr
      go_upto_region 10 with (fail)
      go_step
      refine wpList_plain rfl (fun K hK => ?_)
      go_step
      refine hK _ _ ?_
      clear hK K
      refine wpList_plain rfl (fun K hK => ?_)
      go_step
      refine (refCopy_any _ _ (Nat.le_refl _) _ _ HVR.out hmu).mono ?_
      rintro e w1 ⟨cs', b', rfl, hown, hnod, hlow, hbc⟩
      refine hK _ _ ?_
      clear hK K
      have HOWN := Lib.hid hown
      obtain ⟨p', c', q', d', bI, bF, rfl, _⟩ := hown
      have h1' : w1.heap[w.heap.size + 1]? = some (.cells cells0 27 (0, 0)) := by
        rw [hbc.block _ hs1]; exact hR.out
      have H1'' := Lib.hid h1'
      clear h1'
      refine wpList_plain rfl (fun K hK => ?_)
      refine wp_store_row (P := Tryd.prog) 27 (.tmp 4) (.tmp 40) rfl (w.heap.size + 1) (vcells uk ub ui uf ut uty p' uits.length c' q' ufs.length d') rfl rfl 27 _ H1''.out (by kernel_rfl) rfl (vcells_one ..) ?_
      refine hK _ _ ?_
      clear hK K
      have hnew : (w1.setRow (w.heap.size + 1) (vcells uk ub ui uf ut uty p' uits.length c' q' ufs.length d')).heap[w.heap.size + 1]? = some (.cells (vcells uk ub ui uf ut uty p' uits.length c' q' ufs.length d') 27 (0, 0)) := setRow_heap _ _ _ _ _ _ H1''.out
      have hwfin : Below w.heap.size w (w1.setRow (w.heap.size + 1) (vcells uk ub ui uf ut uty p' uits.length c' q' ufs.length d')) := below_setRow (hbw.trans (hbc.mono hbw.size)) (by omega) _
      have hk1 : Kept b' w1 (w1.setRow (w.heap.size + 1) (vcells uk ub ui uf ut uty p' uits.length c' q' ufs.length d')) := Kept.setRow (fun _ _ => rfl) (fun h => by have := (hlow _ h).1; omega) _
      have hszz := setRow_size w1 (w.heap.size + 1) (vcells uk ub ui uf ut uty p' uits.length c' q' ufs.length d')
      generalize w1.setRow (w.heap.size + 1) (vcells uk ub ui uf ut uty p' uits.length c' q' ufs.length d') = wz at *
      obtain ⟨r0, r1, r2, r3, r4, r5, r6, r7⟩ := (cellsAt_block hnew).all0
      have hpost : GetPost (getV (.mk k b i f t ty its fs) path) w (.returned (.tuple #[.agg (vcells uk ub ui uf ut uty p' uits.length c' q' ufs.length d'), .bool true])) wz := by
        rw [HFIN.out]
        exact ⟨_, b', rfl, HOWN.out.kept hk1, hnod, fun y hy => by have := hlow y hy; have := hbw.size; omega, hwfin⟩
      have HPOST := Lib.hid hpost
      clear hpost hwfin hnew hk1
      go_wp2
      exact bodyPost_ret (v := .tuple #[.agg (vcells uk ub ui uf ut uty p' uits.length c' q' ufs.length d'), .bool true]) (by simp [results, Tryd.results23, go_sem, r0, r1, r2, r3, r4, r5, r6, r7]) rfl HPOST.out
end Go.Proofs.YtnmnmkdmnohbmaaDoor
