/- Helper text: Set of the program. Conditions: none. -/
import Derived.Test.YtnmnmkdmnohbmaaDoorPut
namespace Go.Proofs.YtnmnmkdmnohbmaaDoor
open Go.RowKit
attribute [local go_sem] run_store_float St.cells

theorem block_of_cells {w : World} {g : Nat} {cs : Array Value} {e : TypeId} (h : w.heap[g]? = some (.cells cs e (0, 0))) : CellsAt w g 0 cs := by
  intro m x hx
  rw [Nat.zero_add]
  simp only [World.cell?, h]
  exact hx

theorem Here.facts {w : World} {G : Nat} {obs : List Nat} {v : V} {path : List St} {j g o : Nat} {u : V} {ucs : Array Value} (h : Here w G obs v path j g o u ucs) (hG : G < w.heap.size) (ho : ∀ y ∈ obs, y < w.heap.size) :
    CellsAt w g o ucs ∧ g < w.heap.size ∧ IsV w.heap.size w u ucs := by
  obtain ⟨ub, own, F, h1, h2, h3, h4, h5, h6, h7, _, _, _⟩ := h
  have hlt : ∀ y, y ∈ own ∨ y ∈ ub → y < w.heap.size := fun y hy => by rcases h7 y hy with rfl | hy; exact hG; exact ho _ hy
  exact ⟨h1, hlt g (.inl h5), h2.isV (fun y hy => hlt y (.inr hy))⟩

set_option maxRecDepth 100000 in
set_option maxHeartbeats 1000000 in
theorem Set_any (v : V) (path : List St) (x : V) (cs xs : Array Value) (pp : Option Addr) (cap : Nat) (w : World) (hv : IsV w.heap.size w v cs) (hx : IsV w.heap.size w x xs) (hp : StepsAt w.heap.size w pp path) (hl : path.length ≤ maxLen) (hm : szV v ≤ 1000000) (hmx : szV x ≤ 1000000) :
    Calls Tryd.prog 21 #[.agg cs, .slice pp path.length cap, .agg xs] w (GetPost (setV v path x) w) := by
  unfold maxLen at hl
  have HV0 := Lib.hid hv
  have HX0 := Lib.hid hx
  obtain ⟨k, b, i, f, t, ty, its, fs⟩ := v
  obtain ⟨p, c, q, d, rfl, _, _, l1, l2⟩ := hv
  obtain ⟨xk, xb, xi, xf, xt, xty, xits, xfs⟩ := x
  obtain ⟨xp, xc, xq, xd, rfl, _, _, l3, l4⟩ := hx
  unfold lenMax at l1 l2 l3 l4
  have HP := Lib.hid hp
  clear hp
  go_enter Tryd.func21, Tryd.ntmps21
  go_upto_region 1 with (fail)
  obtain ⟨wa, hW⟩ : ∃ wa, ((w.alloc (.cells (vcells k b i f t ty p its.length c q fs.length d) 27)).alloc (.cells (vcells xk xb xi xf xt xty xp xits.length xc xq xfs.length xd) 27)).alloc (.cells cells0 27) = wa := ⟨_, rfl⟩
  have hwa : Below w.heap.size w wa := by rw [← hW]; exact (((Below.refl _ _).alloc (Nat.le_refl _) _).alloc (by simp) _).alloc (by simp; omega) _
  have hsz : wa.heap.size = w.heap.size + 1 + 1 + 1 := by rw [← hW]; simp
  have h0 : wa.heap[w.heap.size]? = some (.cells (vcells k b i f t ty p its.length c q fs.length d) 27 (0, 0)) := by
    rw [← hW]; exact heap_old (heap_old (heap_new _ _) _) _
  have h1 : wa.heap[w.heap.size + 1]? = some (.cells (vcells xk xb xi xf xt xty xp xits.length xc xq xfs.length xd) 27 (0, 0)) := by
    rw [← hW]; exact heap_old (by have := heap_new (w.alloc (.cells (vcells k b i f t ty p its.length c q fs.length d) 27)) (.cells (vcells xk xb xi xf xt xty xp xits.length xc xq xfs.length xd) 27); rwa [World.size_alloc] at this) _
  have h2 : wa.heap[w.heap.size + 1 + 1]? = some (.cells cells0 27 (0, 0)) := by
    rw [← hW]; have := heap_new ((w.alloc (.cells (vcells k b i f t ty p its.length c q fs.length d) 27)).alloc (.cells (vcells xk xb xi xf xt xty xp xits.length xc xq xfs.length xd) 27)) (.cells cells0 27); rwa [World.size_alloc, World.size_alloc] at this
  have e : ((w.alloc (.cells (vcells k b i f t ty p its.length c q fs.length d) 27)).alloc (.cells (vcells xk xb xi xf xt xty xp xits.length xc xq xfs.length xd) 27)).alloc (.cells cells0 27) = wa := hW
  clear hW
  rw [e]
  clear e
  obtain ⟨c0, c1, c2, c3, c4, c5, c6, c7⟩ := (block_of_cells h0).all0
  have H1 := Lib.hid h1
  have H2 := Lib.hid h2
  have HSZ := Lib.hid hsz
  clear h0 h1 h2
  have hs0 : w.heap.size < wa.heap.size := by omega
  go_step
  refine wpList_plain rfl (fun K hK => ?_)
  go_step
  refine hK _ _ ?_
  clear hK K
  refine wpList_plain rfl (fun K hK => ?_)
  go_step
  refine (Copy_any _ _ (Nat.le_refl _) _ _ (HV0.out.on hwa) hm).mono ?_
  rintro e w1 ⟨cs', obs, rfl, hown, hnod, hlow, hbc⟩
  refine hK _ _ ?_
  clear hK K
  have HOWN := Lib.hid hown
  obtain ⟨p', c', q', d', bI, bF, rfl, _⟩ := hown
  go_upto_region 2 with (fail)
  obtain ⟨w0, hW⟩ : ∃ w0, w1.alloc (.cells (vcells k b i f t ty p' its.length c' q' fs.length d') 27) = w0 := ⟨_, rfl⟩
  have hb01 : Below w1.heap.size w1 w0 := by rw [← hW]; exact (Below.refl _ _).alloc (Nat.le_refl _) _
  have hsz0 : w0.heap.size = w1.heap.size + 1 := by rw [← hW]; simp
  have hG : w0.heap[w1.heap.size]? = some (.cells (vcells k b i f t ty p' its.length c' q' fs.length d') 27 (0, 0)) := by rw [← hW]; exact heap_new _ _
  have e : w1.alloc (.cells (vcells k b i f t ty p' its.length c' q' fs.length d') 27) = w0 := hW
  clear hW
  rw [e]
  clear e
  have hhere : Here w0 w1.heap.size obs (.mk k b i f t ty its fs) path 0 w1.heap.size 0 (.mk k b i f t ty its fs) (vcells k b i f t ty p' its.length c' q' fs.length d') :=
    Here.start path hG (HOWN.out.kept (fun y hy => hb01.block y (hlow y hy).2)) hnod (fun h => by have := (hlow _ h).2; omega)
  have hba0 : Below wa.heap.size wa w0 := hbc.trans (hb01.mono hbc.size)
  have hobs : ∀ y ∈ obs, wa.heap.size ≤ y ∧ y < w0.heap.size := fun y hy => by have := hlow y hy; omega
  have hGa : wa.heap.size ≤ w1.heap.size := hbc.size
  have HH := Lib.hid hhere
  have HOB := Lib.hid hobs
  have hG0 : w1.heap.size < w0.heap.size := by omega
  clear hhere hobs hlow hnod hb01 hbc HOWN hG c0 c1 c2 c3 c4 c5 c6 c7
  generalize w1.heap.size = G at *
  go_wp2_with fail
  go_loopw [9, 16] (fun pv ii wr => ∃ j : Nat, j ≤ path.length ∧ ii = .int .i64 j ∧ ∃ g o u ucs, pv = .pointer (some ⟨g, o, none⟩) ∧ Hid (Here w0 G obs (.mk k b i f t ty its fs) path j g o u ucs) ∧ Below w0.heap.size w0 wr) (fun _ ii _ => path.length - (intOf ii).toNat)
  case atStart => exact ⟨0, by omega, rfl, _, _, _, _, rfl, HH, Below.refl _ _⟩
  case round =>
    obtain ⟨j, hj, rfl, g, o, u, ucs, rfl, hhere, hbel⟩ := hrel
    have hbw := hwa.trans ((hba0.trans (hbel.mono hba0.size)).mono hwa.size)
    have har := hba0.trans (hbel.mono hba0.size)
    by_cases h3 : j < path.length
    · obtain ⟨hcu, hgu, hvu⟩ := hhere.out.facts hG0 (fun y hy => (HOB.out y hy).2)
      have hcu := hcu.below hbel hgu
      have hvu := hvu.on hbel
      have hgu : g < wr.heap.size := Nat.lt_of_lt_of_le hgu hbel.size
      obtain ⟨uk, ub, ui, uf, ut, uty, uits, ufs⟩ := u
      have HVU := Lib.hid hvu
      obtain ⟨up, uc, uq, ud, rfl, _, _, _, _⟩ := hvu
      obtain ⟨s, hs⟩ : ∃ s, path[j]? = some s := ⟨path[j], by simp [h3]⟩
      have hp := HP.out
      rcases hp with hp | ⟨gp, op, rfl, hgp, hcp⟩
      · subst hp; simp at h3
      obtain ⟨a1, a2, a3⟩ := hcp j s hs
      have a1 := (hbw.cell (p := ⟨gp, _, none⟩) hgp).trans a1
      have a2 := (hbw.cell (p := ⟨gp, _, none⟩) hgp).trans a2
      have a3 := (hbw.cell (p := ⟨gp, _, none⟩) hgp).trans a3
      have hgr : gp < wr.heap.size := Nat.lt_of_lt_of_le hgp hbw.size
      have HS := Lib.hid hs
      clear hcp hs
      go_upto_region 6 with (fail)
      have hb1 : Below wr.heap.size wr (wr.alloc (.cells #[.string s.nm, .int .i64 s.ix, .bool s.it] 34)) := (Below.refl _ _).alloc (Nat.le_refl _) _
      have hst := cellsAt_alloc wr #[.string s.nm, .int .i64 s.ix, .bool s.it] 34 (0, 0)
      have hsz1 : wr.heap.size < (wr.alloc (.cells #[.string s.nm, .int .i64 s.ix, .bool s.it] 34)).heap.size := by simp
      generalize wr.alloc (.cells #[.string s.nm, .int .i64 s.ix, .bool s.it] 34) = W1 at *
      have s0 : W1.cell? ⟨wr.heap.size, 0, none⟩ = some (.string s.nm) := hst 0 _ rfl
      have s1 : W1.cell? ⟨wr.heap.size, 1, none⟩ = some (.int .i64 s.ix) := hst 1 _ rfl
      have s2 : W1.cell? ⟨wr.heap.size, 2, none⟩ = some (.bool s.it) := hst 2 _ rfl
      have hg1 : g < W1.heap.size := by omega
      have hcall := spot_any uk ub ui uf ut uty uits ufs up uq uc ud s g o W1 (hcu.below hb1 hgu) hg1 (HVU.out.on hb1)
      have hwf : ∀ w2, Below W1.heap.size W1 w2 → Below w0.heap.size w0 w2 := fun w2 h => hbel.trans ((hb1.trans (h.mono hb1.size)).mono hbel.size)
      cases hch : child (.mk uk ub ui uf ut uty uits ufs) s with
      | none =>
        rw [spot_none hch] at hcall
        have HFIN := Lib.hid (hhere.out.no HS.out hch (.mk xk xb xi xf xt xty xits xfs))
        have HCALL := Lib.hid hcall
        clear hcall hch hst hcu a1 a2 a3
        go_upto_region 8 with (go_at_call 57; refine HCALL.out.mono ?_; rintro e w2 ⟨rfl, hb2⟩)
        have hw2 := hwf _ hb2
        have hw2a := hba0.trans (hw2.mono hba0.size)
        have h1' : w2.heap[w.heap.size + 1 + 1]? = some (.cells cells0 27 (0, 0)) := by
          rw [hw2a.block _ (by have := HSZ.out; omega)]; exact H2.out
        have H1' := Lib.hid h1'
        clear h1'
        go_step
        refine wpList_plain rfl (fun K hK => ?_)
        go_step
        refine hK _ _ ?_
        clear hK K
        refine wpList_plain rfl (fun K hK => ?_)
        refine wp_store_row (P := Tryd.prog) 27 (.tmp 6) (.tmp 25) rfl (w.heap.size + 1 + 1) cells0 rfl rfl 27 _ H1'.out (by kernel_rfl) rfl (vcells_one ..) ?_
        refine hK _ _ ?_
        clear hK K
        have hnew : (w2.setRow (w.heap.size + 1 + 1) cells0).heap[w.heap.size + 1 + 1]? = some (.cells cells0 27 (0, 0)) := setRow_heap _ _ _ _ _ _ H1'.out
        have hwfin : Below w.heap.size w (w2.setRow (w.heap.size + 1 + 1) cells0) := below_setRow (hwa.trans (hw2a.mono hwa.size)) (by omega) _
        generalize w2.setRow (w.heap.size + 1 + 1) cells0 = wz at *
        obtain ⟨r0, r1, r2, r3, r4, r5, r6, r7⟩ := (block_of_cells hnew).all0
        have hpost : GetPost (setV (.mk k b i f t ty its fs) path (.mk xk xb xi xf xt xty xits xfs)) w (.returned (.tuple #[.agg cells0, .bool false])) wz := by
          rw [HFIN.out]
          exact ⟨_, [], rfl, own0 _, List.nodup_nil, by simp, hwfin⟩
        have HPOST := Lib.hid hpost
        clear hpost hwfin hnew
        go_wp2
        exact bodyPost_ret (v := .tuple #[.agg cells0, .bool false]) (by simp [results, Tryd.results21, go_sem, r0, r1, r2, r3, r4, r5, r6, r7]) rfl HPOST.out
      | some y =>
        obtain ⟨g', o', ccs, ha, hn⟩ := hhere.out.next HS.out hch
        rw [ha] at hcall
        have HCALL := Lib.hid hcall
        have HN := Lib.hid hn
        clear hcall hch hst hcu a1 a2 a3 ha hn
        go_wp2_with (go_at_call 57; refine HCALL.out.mono ?_; rintro e w2 ⟨rfl, hb2⟩)
        go_roundw
        case rel => exact ⟨j + 1, by omega, by go_num, _, _, _, _, rfl, HN, hwf _ hb2⟩
        case measure => simp [intOf]; omega
    · obtain rfl : j = path.length := by omega
      have h1' : wr.heap[w.heap.size + 1]? = some (.cells (vcells xk xb xi xf xt xty xp xits.length xc xq xfs.length xd) 27 (0, 0)) := by
        rw [har.block _ (by have := HSZ.out; omega)]; exact H1.out
      have h2' : wr.heap[w.heap.size + 1 + 1]? = some (.cells cells0 27 (0, 0)) := by
        rw [har.block _ (by have := HSZ.out; omega)]; exact H2.out
      have H2' := Lib.hid h2'
      obtain ⟨e0, e1, e2, e3, e4, e5, e6, e7⟩ := (block_of_cells h1').all0
      have hs1 : w.heap.size + 1 < wr.heap.size := (Array.getElem?_eq_some_iff.1 h1').1
      have HXR := Lib.hid (HX0.out.on hbw)
      clear h1' h2'
      go_upto_region 10 with (fail)
      go_step
      iterate 2
        refine wpList_plain rfl (fun K hK => ?_)
        go_step
        refine hK _ _ ?_
        clear hK K
      refine wpList_plain rfl (fun K hK => ?_)
      go_step
      refine (Copy_any _ _ (Nat.le_refl _) _ _ HXR.out hmx).mono ?_
      rintro e w2 ⟨cs', xb', rfl, hown, hnod, hlow, hbc⟩
      refine hK _ _ ?_
      clear hK K
      obtain ⟨ht, hgG, y, ycs, ybs, hset, hcy, hoy, hny, hGy, hby⟩ := hhere.out.done (hbel.trans (hbc.mono hbel.size)) hown hnod (fun y hy => by have := hlow y hy; have := hbel.size; omega) hG0 (fun y hy => (HOB.out y hy).2)
      have hgw : wa.heap.size ≤ g := by rcases hgG with rfl | h; exact hGa; exact (HOB.out _ h).1
      obtain ⟨p1, c1', q1, d1, bI, bF, rfl, _⟩ := hown
      have HT := Lib.hid ht
      have HOY := Lib.hid hoy
      have HCY := Lib.hid hcy
      have HBY := Lib.hid hby
      have HLOW := Lib.hid hlow
      have HSET := Lib.hid hset
      clear ht hoy hcy hby hlow hset
      refine wpList_plain rfl (fun K hK => ?_)
      go_step
      refine hK _ _ ?_
      clear hK K
      refine wpList_plain rfl (fun K hK => ?_)
      refine wp_store_mid (P := Tryd.prog) 27 (.tmp 30) (.tmp 29) rfl g o (vcells xk xb xi xf xt xty p1 xits.length c1' q1 xfs.length d1) rfl rfl HT.out (by kernel_rfl) (vcells_one ..) ?_
      refine hK _ _ ?_
      clear hK K
      have h2' : (w2.setCells g o (vcells xk xb xi xf xt xty p1 xits.length c1' q1 xfs.length d1).toList).heap[w.heap.size + 1 + 1]? = some (.cells cells0 27 (0, 0)) := by
        rw [heap_setCells_other g (by have := HSZ.out; omega), hbc.block _ (Array.getElem?_eq_some_iff.1 H2'.out).1]; exact H2'.out
      have hbz : Below wa.heap.size wa (w2.setCells g o (vcells xk xb xi xf xt xty p1 xits.length c1' q1 xfs.length d1).toList) := below_setCells (har.trans (hbc.mono har.size)) hgw _ _
      have hszz := size_setCells g (vcells xk xb xi xf xt xty p1 xits.length c1' q1 xfs.length d1).toList o w2
      have HCY := Lib.hid HCY.out
      have HOY := Lib.hid HOY.out
      generalize w2.setCells g o (vcells xk xb xi xf xt xty p1 xits.length c1' q1 xfs.length d1).toList = w3 at *
      obtain ⟨yk, yb, yi, yf, yt, yty, yits, yfs⟩ := y
      have hoy := HOY.out
      obtain ⟨yp, yc, yq, yd, b3, b4, rfl, _⟩ := hoy
      obtain ⟨y0, y1, y2, y3, y4, y5, y6, y7⟩ := HCY.out.all0
      have H3 := Lib.hid h2'
      clear h2'
      go_upto_region 11 with (fail)
      go_step
      refine wpList_plain rfl (fun K hK => ?_)
      go_step
      refine hK _ _ ?_
      clear hK K
      refine wpList_plain rfl (fun K hK => ?_)
      refine wp_store_row (P := Tryd.prog) 27 (.tmp 6) (.tmp 31) rfl (w.heap.size + 1 + 1) (vcells yk yb yi yf yt yty yp yits.length yc yq yfs.length yd) rfl rfl 27 _ H3.out (by kernel_rfl) rfl (vcells_one ..) ?_
      refine hK _ _ ?_
      clear hK K
      have hnew : (w3.setRow (w.heap.size + 1 + 1) (vcells yk yb yi yf yt yty yp yits.length yc yq yfs.length yd)).heap[w.heap.size + 1 + 1]? = some (.cells (vcells yk yb yi yf yt yty yp yits.length yc yq yfs.length yd) 27 (0, 0)) := setRow_heap _ _ _ _ _ _ H3.out
      have hwfin : Below w.heap.size w (w3.setRow (w.heap.size + 1 + 1) (vcells yk yb yi yf yt yty yp yits.length yc yq yfs.length yd)) := below_setRow (hwa.trans (hbz.mono hwa.size)) (by omega) _
      have hlowy : ∀ z ∈ ybs, wa.heap.size ≤ z ∧ z < w3.heap.size := fun z hz => by
        have h1 := hbz.size
        have h2 := hbc.size
        have h4 := hbel.size
        have h6 := har.size
        rcases HBY.out z hz with (rfl | h) | h
        · omega
        · have := HOB.out z h; omega
        · have := HLOW.out z h; omega
      have hk : Kept ybs w3 (w3.setRow (w.heap.size + 1 + 1) (vcells yk yb yi yf yt yty yp yits.length yc yq yfs.length yd)) := Kept.setRow (fun _ _ => rfl) (fun h => by have := hlowy _ h; have := HSZ.out; omega) _
      have hszy := setRow_size w3 (w.heap.size + 1 + 1) (vcells yk yb yi yf yt yty yp yits.length yc yq yfs.length yd)
      generalize w3.setRow (w.heap.size + 1 + 1) (vcells yk yb yi yf yt yty yp yits.length yc yq yfs.length yd) = wz at *
      obtain ⟨r0, r1, r2, r3, r4, r5, r6, r7⟩ := (block_of_cells hnew).all0
      have hpost : GetPost (setV (.mk k b i f t ty its fs) path (.mk xk xb xi xf xt xty xits xfs)) w (.returned (.tuple #[.agg (vcells yk yb yi yf yt yty yp yits.length yc yq yfs.length yd), .bool true])) wz := by
        rw [HSET.out]
        exact ⟨_, ybs, rfl, HOY.out.kept hk, hny, fun z hz => by have := hlowy z hz; have := HSZ.out; omega, hwfin⟩
      have HPOST := Lib.hid hpost
      clear hpost hwfin hnew hk
      go_wp2
      exact bodyPost_ret (v := .tuple #[.agg (vcells yk yb yi yf yt yty yp yits.length yc yq yfs.length yd), .bool true]) (by simp [results, Tryd.results21, go_sem, r0, r1, r2, r3, r4, r5, r6, r7]) rfl HPOST.out
end Go.Proofs.YtnmnmkdmnohbmaaDoor
