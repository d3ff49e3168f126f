/- Helper text: Set of the reference. Conditions: none. -/
import Derived.Test.YtnmnmkdmnohbmaaDoorSet
import Derived.Test.YtnmnmkdmnohbmaaDoorRefGet
import Derived.Test.YtnmnmkdmnohbmaaDoorFork
namespace Go.Proofs.YtnmnmkdmnohbmaaDoor
open Go.RowKit
attribute [local go_sem] run_store_float St.cells

theorem StepsAt.tail {B : Nat} {w : World} {g o : Nat} {s : St} {r : List St} (h : StepsAt B w (some ⟨g, o, none⟩) (s :: r)) : StepsAt B w (some ⟨g, o + 3, none⟩) r := by
  rcases h with h | ⟨b, o', he, hB, hc⟩
  · cases h
  · obtain ⟨rfl, rfl⟩ : g = b ∧ o = o' := by simpa using he
    refine .inr ⟨g, o + 3, rfl, hB, fun i s hs => ?_⟩
    have := hc (i + 1) s (by simpa using hs)
    rw [show o + (i + 1) * 3 = o + 3 + i * 3 by omega] at this
    exact this

set_option maxRecDepth 100000 in
set_option maxHeartbeats 1000000 in
theorem refSet_any : ∀ (path : List St) (v : V) (x : V) (cs xs : Array Value) (pp : Option Addr) (cap : Nat) (w : World), IsV w.heap.size w v cs → IsV w.heap.size w x xs → StepsAt w.heap.size w pp path → path.length ≤ cap → cap ≤ maxLen → szV v ≤ 1000000 → szV x ≤ 1000000 →
    Calls Tryd.prog 18 #[.agg cs, .slice pp path.length cap, .agg xs] w (GetPost (setV v path x) w) := by
  intro path
  induction path with
  | nil =>
    intro v x cs xs pp cap w hv hx hp hl hcap hm hmx
    have HX0 := Lib.hid hx
    obtain ⟨k, b, i, f, t, ty, its, fs⟩ := v
    obtain ⟨p, c, q, d, rfl, _, _, l1, l2⟩ := hv
    obtain ⟨xk, xb, xi, xf, xt, xty, xits, xfs⟩ := x
    obtain ⟨xp, xc, xq, xd, rfl, _, _, l3, l4⟩ := hx
    unfold lenMax at l1 l2 l3 l4
    clear hp
    have hlen : ([] : List St).length = 0 := rfl
    rw [hlen]
    clear hlen
    go_enter Tryd.func18, Tryd.ntmps18
    go_upto_region 2 with (fail)
    obtain ⟨wa, hW⟩ : ∃ wa, ((w.alloc (.cells (vcells k b i f t ty p its.length c q fs.length d) 27)).alloc (.cells (vcells xk xb xi xf xt xty xp xits.length xc xq xfs.length xd) 27)).alloc (.cells cells0 27) = wa := ⟨_, rfl⟩
    have hwa : Below w.heap.size w wa := by rw [← hW]; exact (((Below.refl _ _).alloc (Nat.le_refl _) _).alloc (by simp) _).alloc (by simp; omega) _
    have hsz : wa.heap.size = w.heap.size + 1 + 1 + 1 := by rw [← hW]; simp
    have h1 : wa.heap[w.heap.size + 1]? = some (.cells (vcells xk xb xi xf xt xty xp xits.length xc xq xfs.length xd) 27 (0, 0)) := by
      rw [← hW]; exact heap_old (by have := heap_new (w.alloc (.cells (vcells k b i f t ty p its.length c q fs.length d) 27)) (.cells (vcells xk xb xi xf xt xty xp xits.length xc xq xfs.length xd) 27); rwa [World.size_alloc] at this) _
    have h2 : wa.heap[w.heap.size + 1 + 1]? = some (.cells cells0 27 (0, 0)) := by
      rw [← hW]; have := heap_new ((w.alloc (.cells (vcells k b i f t ty p its.length c q fs.length d) 27)).alloc (.cells (vcells xk xb xi xf xt xty xp xits.length xc xq xfs.length xd) 27)) (.cells cells0 27); rwa [World.size_alloc, World.size_alloc] at this
    have e : ((w.alloc (.cells (vcells k b i f t ty p its.length c q fs.length d) 27)).alloc (.cells (vcells xk xb xi xf xt xty xp xits.length xc xq xfs.length xd) 27)).alloc (.cells cells0 27) = wa := hW
    clear hW
    rw [e]
    clear e
    obtain ⟨c0, c1, c2, c3, c4, c5, c6, c7⟩ := (block_of_cells h1).all0
    have H2 := Lib.hid h2
    have hs1 : w.heap.size + 1 < wa.heap.size := by omega
    have HSZ := Lib.hid hsz
    clear h1 h2 hsz
    go_step
    refine wpList_plain rfl (fun K hK => ?_)
    go_step
    refine hK _ _ ?_
    clear hK K
    refine wpList_plain rfl (fun K hK => ?_)
    go_step
    refine (refCopy_any _ _ (Nat.le_refl _) _ _ (HX0.out.on hwa) hmx).mono ?_
    rintro e w1 ⟨cs', b', rfl, hown, hnod, hlow, hbc⟩
    refine hK _ _ ?_
    clear hK K
    have HOWN := Lib.hid hown
    obtain ⟨p1, c1', q1, d1, bI, bF, rfl, _⟩ := hown
    have h1' : w1.heap[w.heap.size + 1 + 1]? = some (.cells cells0 27 (0, 0)) := by
      rw [hbc.block _ (Array.getElem?_eq_some_iff.1 H2.out).1]; exact H2.out
    have H1'' := Lib.hid h1'
    clear h1'
    refine wpList_plain rfl (fun K hK => ?_)
    refine wp_store_row (P := Tryd.prog) 27 (.tmp 6) (.tmp 18) rfl (w.heap.size + 1 + 1) (vcells xk xb xi xf xt xty p1 xits.length c1' q1 xfs.length d1) rfl rfl 27 _ H1''.out (by kernel_rfl) rfl (vcells_one ..) ?_
    refine hK _ _ ?_
    clear hK K
    have hnew : (w1.setRow (w.heap.size + 1 + 1) (vcells xk xb xi xf xt xty p1 xits.length c1' q1 xfs.length d1)).heap[w.heap.size + 1 + 1]? = some (.cells (vcells xk xb xi xf xt xty p1 xits.length c1' q1 xfs.length d1) 27 (0, 0)) := setRow_heap _ _ _ _ _ _ H1''.out
    have hwfin : Below w.heap.size w (w1.setRow (w.heap.size + 1 + 1) (vcells xk xb xi xf xt xty p1 xits.length c1' q1 xfs.length d1)) := below_setRow (hwa.trans (hbc.mono hwa.size)) (by omega) _
    have hk1 : Kept b' w1 (w1.setRow (w.heap.size + 1 + 1) (vcells xk xb xi xf xt xty p1 xits.length c1' q1 xfs.length d1)) := Kept.setRow (fun _ _ => rfl) (fun h => by have := (hlow _ h).1; have := HSZ.out; omega) _
    have hszz := setRow_size w1 (w.heap.size + 1 + 1) (vcells xk xb xi xf xt xty p1 xits.length c1' q1 xfs.length d1)
    generalize w1.setRow (w.heap.size + 1 + 1) (vcells xk xb xi xf xt xty p1 xits.length c1' q1 xfs.length d1) = wz at *
    obtain ⟨r0, r1, r2, r3, r4, r5, r6, r7⟩ := (block_of_cells hnew).all0
    have hpost : GetPost (setV (.mk k b i f t ty its fs) [] (.mk xk xb xi xf xt xty xits xfs)) w (.returned (.tuple #[.agg (vcells xk xb xi xf xt xty p1 xits.length c1' q1 xfs.length d1), .bool true])) wz := by
      rw [setV]
      exact ⟨_, b', rfl, HOWN.out.kept hk1, hnod, fun y hy => by have := hlow y hy; have := hwa.size; omega, hwfin⟩
    have HPOST := Lib.hid hpost
    clear hpost hwfin hnew hk1
    go_wp2
    exact bodyPost_ret (v := .tuple #[.agg (vcells xk xb xi xf xt xty p1 xits.length c1' q1 xfs.length d1), .bool true]) (by simp [results, Tryd.results18, go_sem, r0, r1, r2, r3, r4, r5, r6, r7]) rfl HPOST.out
  | cons s r ih =>
    intro v x cs xs pp cap w hv hx hp hl hcap hm hmx
    unfold maxLen at hcap
    have HV0 := Lib.hid hv
    have HX0 := Lib.hid hx
    have IH := Lib.hid ih
    clear ih
    obtain ⟨k, b, i, f, t, ty, its, fs⟩ := v
    obtain ⟨p, c, q, d, rfl, _, _, l1, l2⟩ := hv
    obtain ⟨xk, xb, xi, xf, xt, xty, xits, xfs⟩ := x
    obtain ⟨xp, xc, xq, xd, rfl, _, _, l3, l4⟩ := hx
    unfold lenMax at l1 l2 l3 l4
    obtain ⟨gp, op, rfl, hgp, hcp⟩ : ∃ g o, pp = some ⟨g, o, none⟩ ∧ g < w.heap.size ∧ ∀ i s', (s :: r)[i]? = some s' →
        w.cell? ⟨g, o + i * 3, none⟩ = some (.string s'.nm) ∧ w.cell? ⟨g, o + i * 3 + 1, none⟩ = some (.int .i64 s'.ix) ∧ w.cell? ⟨g, o + i * 3 + 2, none⟩ = some (.bool s'.it) := by
      rcases hp with hp | hp
      · cases hp
      · exact hp
    have HP := Lib.hid hp.tail
    obtain ⟨snm, six, sit⟩ := s
    obtain ⟨a1, a2, a3⟩ := hcp 0 _ rfl
    simp only [Nat.zero_mul, Nat.add_zero] at a1 a2 a3
    clear hcp hp
    have hlen : ((⟨snm, six, sit⟩ : St) :: r).length = r.length + 1 := rfl
    rw [hlen] at hl ⊢
    clear hlen
    go_enter Tryd.func18, Tryd.ntmps18
    go_upto_region 3 with (fail)
    obtain ⟨wa, hW⟩ : ∃ wa, ((w.alloc (.cells (vcells k b i f t ty p its.length c q fs.length d) 27)).alloc (.cells (vcells xk xb xi xf xt xty xp xits.length xc xq xfs.length xd) 27)).alloc (.cells cells0 27) = wa := ⟨_, rfl⟩
    have hwa : Below w.heap.size w wa := by rw [← hW]; exact (((Below.refl _ _).alloc (Nat.le_refl _) _).alloc (by simp) _).alloc (by simp; omega) _
    have hsz : wa.heap.size = w.heap.size + 1 + 1 + 1 := by rw [← hW]; simp
    have h0 : wa.heap[w.heap.size]? = some (.cells (vcells k b i f t ty p its.length c q fs.length d) 27 (0, 0)) := by
      rw [← hW]; exact heap_old (heap_old (heap_new _ _) _) _
    have h1 : wa.heap[w.heap.size + 1]? = some (.cells (vcells xk xb xi xf xt xty xp xits.length xc xq xfs.length xd) 27 (0, 0)) := by
      rw [← hW]; exact heap_old (by have := heap_new (w.alloc (.cells (vcells k b i f t ty p its.length c q fs.length d) 27)) (.cells (vcells xk xb xi xf xt xty xp xits.length xc xq xfs.length xd) 27); rwa [World.size_alloc] at this) _
    have h2 : wa.heap[w.heap.size + 1 + 1]? = some (.cells cells0 27 (0, 0)) := by
      rw [← hW]; have := heap_new ((w.alloc (.cells (vcells k b i f t ty p its.length c q fs.length d) 27)).alloc (.cells (vcells xk xb xi xf xt xty xp xits.length xc xq xfs.length xd) 27)) (.cells cells0 27); rwa [World.size_alloc, World.size_alloc] at this
    have e : ((w.alloc (.cells (vcells k b i f t ty p its.length c q fs.length d) 27)).alloc (.cells (vcells xk xb xi xf xt xty xp xits.length xc xq xfs.length xd) 27)).alloc (.cells cells0 27) = wa := hW
    clear hW
    rw [e]
    clear e
    obtain ⟨c0, c1, c2, c3, c4, c5, c6, c7⟩ := (block_of_cells h0).all0
    have H0 := Lib.hid h0
    have H1 := Lib.hid h1
    have H2 := Lib.hid h2
    have HSZ := Lib.hid hsz
    clear h0 h1 h2
    have hs0 : w.heap.size < wa.heap.size := by omega
    have hgr : gp < wa.heap.size := by omega
    have a1 := (hwa.cell (p := ⟨gp, _, none⟩) hgp).trans a1
    have a2 := (hwa.cell (p := ⟨gp, _, none⟩) hgp).trans a2
    have a3 := (hwa.cell (p := ⟨gp, _, none⟩) hgp).trans a3
    clear hsz
    refine wp_region_plan_below 4 [(0, [0, 1, 2, 3]), (2, [4, 5])] (by kernel_rfl) (by kernel_rfl) (fun _ _ _ _ h => h) ?_
    simp only [wpSegs, pickOps, List.getElem?_toArray, List.getElem?_cons_zero, List.getElem?_cons_succ]
    have kc := cell_cls wa
    have hb0 := (Below.drew (Below.refl wa.heap.size wa))
    have HCALL := Lib.hid (refFind_any (.mk k b i f t ty its fs) ⟨snm, six, sit⟩ _ _ ((HV0.out.on hwa).on hb0))
    clear hb0
    repeat (go_big_quiet_step (fail))
    refine wpQuiet_nil ?_
    clear kc
    cases hch : child (.mk k b i f t ty its fs) ⟨snm, six, sit⟩ with
    | none =>
      rw [find_none hch] at HCALL
      have HFIN : Hid (setV (.mk k b i f t ty its fs) (⟨snm, six, sit⟩ :: r) (.mk xk xb xi xf xt xty xits xfs) = none) := by
        rw [setV, hch]; exact rfl
      clear hch
      go_upto_region 5 with (go_at_call 56; refine HCALL.out.mono ?_; rintro e w2 ⟨rfl, hb2⟩)
      have hw2a := (Below.drew (Below.refl wa.heap.size wa)).trans hb2
      have h1' : w2.heap[w.heap.size + 1 + 1]? = some (.cells cells0 27 (0, 0)) := by
        rw [hw2a.block _ (by have := HSZ.out; omega)]; exact H2.out
      have H1' := Lib.hid h1'
      clear h1'
      go_step
      refine wpList_plain rfl (fun K hK => ?_)
      go_step
      refine hK _ _ ?_
      clear hK K
      refine wpList_plain rfl (fun K hK => ?_)
      refine wp_store_row (P := Tryd.prog) 27 (.tmp 6) (.tmp 26) rfl (w.heap.size + 1 + 1) cells0 rfl rfl 27 _ H1'.out (by kernel_rfl) rfl (vcells_one ..) ?_
      refine hK _ _ ?_
      clear hK K
      have hnew : (w2.setRow (w.heap.size + 1 + 1) cells0).heap[w.heap.size + 1 + 1]? = some (.cells cells0 27 (0, 0)) := setRow_heap _ _ _ _ _ _ H1'.out
      have hwfin : Below w.heap.size w (w2.setRow (w.heap.size + 1 + 1) cells0) := below_setRow (hwa.trans (hw2a.mono hwa.size)) (by omega) _
      generalize w2.setRow (w.heap.size + 1 + 1) cells0 = wz at *
      obtain ⟨r0, r1, r2, r3, r4, r5, r6, r7⟩ := (block_of_cells hnew).all0
      have hpost : GetPost (setV (.mk k b i f t ty its fs) (⟨snm, six, sit⟩ :: r) (.mk xk xb xi xf xt xty xits xfs)) w (.returned (.tuple #[.agg cells0, .bool false])) wz := by
        rw [HFIN.out]
        exact ⟨_, [], rfl, own0 _, List.nodup_nil, by simp, hwfin⟩
      have HPOST := Lib.hid hpost
      clear hpost hwfin hnew
      go_wp2
      exact bodyPost_ret (v := .tuple #[.agg cells0, .bool false]) (by simp [results, Tryd.results18, go_sem, r0, r1, r2, r3, r4, r5, r6, r7]) rfl HPOST.out
    | some u =>
      obtain ⟨n, hix, hfi, hxi, hxf⟩ := find_some hch
      rw [hfi] at HCALL
      go_upto_region 6 with (go_at_call 56; refine HCALL.out.mono ?_; rintro e w2 ⟨rfl, hb2⟩)
      have hw2a := (Below.drew (Below.refl wa.heap.size wa)).trans hb2
      have h0' : w2.heap[w.heap.size]? = some (.cells (vcells k b i f t ty p its.length c q fs.length d) 27 (0, 0)) := by
        rw [hw2a.block _ hs0]; exact H0.out
      obtain ⟨c0, c1, c2, c3, c4, c5, c6, c7⟩ := (block_of_cells h0').all0
      have hs2 : w.heap.size < w2.heap.size := Nat.lt_of_lt_of_le hs0 hw2a.size
      have HV2 := Lib.hid (HV0.out.on (hwa.trans (hw2a.mono hwa.size)))
      clear h0'
      go_step
      refine wpList_plain rfl (fun K hK => ?_)
      go_step
      refine hK _ _ ?_
      clear hK K
      refine wpList_plain rfl (fun K hK => ?_)
      go_step
      refine (refCopy_any _ _ (Nat.le_refl _) _ _ HV2.out hm).mono ?_
      rintro e w1 ⟨cs', obs, rfl, hown, hnod, hlow, hbc⟩
      refine hK _ _ ?_
      clear hK K
      have HOWN := Lib.hid hown
      obtain ⟨p', c', q', d', bI, bF, rfl, _, _, _, hIO, hFO⟩ := hown
      have HIO := Lib.hid hIO
      have HFO := Lib.hid hFO
      clear hIO hFO c0 c1 c2 c3 c4 c5 c6 c7
      go_upto_region 7 with (fail)
      obtain ⟨w0, hW⟩ : ∃ w0, w1.alloc (.cells (vcells k b i f t ty p' its.length c' q' fs.length d') 27) = w0 := ⟨_, rfl⟩
      have hb01 : Below w1.heap.size w1 w0 := by rw [← hW]; exact (Below.refl _ _).alloc (Nat.le_refl _) _
      have hsz0 : w0.heap.size = w1.heap.size + 1 := by rw [← hW]; simp
      have hG : w0.heap[w1.heap.size]? = some (.cells (vcells k b i f t ty p' its.length c' q' fs.length d') 27 (0, 0)) := by rw [← hW]; exact heap_new _ _
      have e : w1.alloc (.cells (vcells k b i f t ty p' its.length c' q' fs.length d') 27) = w0 := hW
      clear hW
      rw [e]
      clear e
      have hhere : Here w0 w1.heap.size obs (.mk k b i f t ty its fs) [⟨snm, six, sit⟩] 0 w1.heap.size 0 (.mk k b i f t ty its fs) (vcells k b i f t ty p' its.length c' q' fs.length d') :=
        Here.start _ hG (HOWN.out.kept (fun y hy => hb01.block y (hlow y hy).2)) hnod (fun h => by have := (hlow _ h).2; omega)
      have hba0 : Below wa.heap.size wa w0 := hw2a.trans ((hbc.trans (hb01.mono hbc.size)).mono hw2a.size)
      have hobs : ∀ y ∈ obs, wa.heap.size ≤ y ∧ y < w0.heap.size := fun y hy => by have := hlow y hy; have := hw2a.size; omega
      have hGa : wa.heap.size ≤ w1.heap.size := Nat.le_trans hw2a.size hbc.size
      obtain ⟨g1, o1, ccs, ha, hn⟩ := hhere.next rfl hch
      have hG0 : w1.heap.size < w0.heap.size := by omega
      obtain ⟨hcu, hgu, hvu⟩ := hn.facts hG0 (fun y hy => (hobs y hy).2)
      have HH := Lib.hid hn
      have HOB := Lib.hid hobs
      have HG := Lib.hid hG
      have hmu : szV u ≤ 1000000 := by have := (child_size hch).1; omega
      have hset : setV (.mk k b i f t ty its fs) (⟨snm, six, sit⟩ :: r) (.mk xk xb xi xf xt xty xits xfs) = (setV u r (.mk xk xb xi xf xt xty xits xfs)).map (putC (.mk k b i f t ty its fs) ⟨snm, six, sit⟩) := by
        rw [setV, hch]; rfl
      have hset1 : ∀ y, setV (.mk k b i f t ty its fs) [⟨snm, six, sit⟩] y = some (putC (.mk k b i f t ty its fs) ⟨snm, six, sit⟩ y) := by
        intro y; rw [setV, hch]; rfl
      have HSET := Lib.hid hset
      have HSET1 := Lib.hid hset1
      have a1 := (hba0.cell (p := ⟨gp, _, none⟩) hgr).trans a1
      have a2 := (hba0.cell (p := ⟨gp, _, none⟩) hgr).trans a2
      have a3 := (hba0.cell (p := ⟨gp, _, none⟩) hgr).trans a3
      have hgr0 : gp < w0.heap.size := by omega
      obtain ⟨e0, e1, e2, e3, e4, e5, e6, e7⟩ := (block_of_cells hG).all0
      have hb1 : w0.heap[w.heap.size + 1]? = some (.cells (vcells xk xb xi xf xt xty xp xits.length xc xq xfs.length xd) 27 (0, 0)) := by
        rw [hba0.block _ (by have := HSZ.out; omega)]; exact H1.out
      have hb2' : w0.heap[w.heap.size + 1 + 1]? = some (.cells cells0 27 (0, 0)) := by
        rw [hba0.block _ (by have := HSZ.out; omega)]; exact H2.out
      obtain ⟨f0, f1, f2, f3, f4, f5, f6, f7⟩ := (block_of_cells hb1).all0
      have hs1 : w.heap.size + 1 < w0.heap.size := (Array.getElem?_eq_some_iff.1 hb1).1
      have HB2 := Lib.hid hb2'
      have hbw := hwa.trans (hba0.mono hwa.size)
      have HX := Lib.hid (HX0.out.on hbw)
      have HPR : Hid (StepsAt w0.heap.size w0 (if cap = 1 then some ⟨gp, op, none⟩ else some ⟨gp, op + 3, none⟩) r) := by
        by_cases hcap1 : cap = 1
        · exact .inl (List.eq_nil_of_length_eq_zero (by omega))
        · rw [if_neg hcap1]; exact StepsAt.on HP.out hbw
      clear hhere hobs hlow hnod hb01 hbc HOWN hG hw2a hb1 hb2' hn hset hset1 hs2
      have HSZ0 := Lib.hid hsz0
      clear hsz0
      generalize w1.heap.size = G at *
      have hl1 : r.length ≤ cap - 1 := by omega
      have hc1 : cap - 1 ≤ maxLen := by unfold maxLen; omega
      cases sit with
      | true =>
        have hxi := hxi rfl
        have hnl : n < its.length := (List.getElem?_eq_some_iff.1 (show its[n]? = some u from hxi)).1
        obtain ⟨gi, rfl⟩ : ∃ gi, p' = some ⟨gi, 0, none⟩ := by
          rcases HIO.out with ⟨h, _⟩ | ⟨gi, _, _, h, _⟩
          · subst h; simp at hnl
          · exact ⟨gi, h⟩
        obtain ⟨rfl, rfl⟩ : gi = g1 ∧ n * 8 = o1 := by simpa [spotA, hix, shift] using ha
        obtain ⟨u0, hu0⟩ : ∃ u0, u0 = u := ⟨u, rfl⟩
        obtain ⟨s0, hs0'⟩ : ∃ s0, s0 = (⟨snm, six, true⟩ : St) := ⟨_, rfl⟩
        rw [← hu0] at HSET
        rw [← hs0'] at HSET HSET1 HH
        have HVU := Lib.hid hvu
        rw [← hu0] at HVU
        obtain ⟨uk, ub, ui, uf, ut, uty, uits, ufs⟩ := u
        obtain ⟨up, uc, uq, ud, rfl, _, _, _, _⟩ := hvu
        obtain ⟨d0, d1, d2, d3, d4, d5, d6, d7⟩ := hcu.all
        rw [← hu0] at hmu
        clear hix hch hxi hxf hfi hcu ha
        go_wp2
        refine wp_region_fork_below 14 [0, 1, 2, 3, 4, 5, 6, 7] 8 12 [(0, [9, 10, 11]), (1, [12, 13]), (2, [14])] [(1, [8]), (0, [9, 10, 11]), (1, [13]), (2, [14])] (by kernel_rfl) (by kernel_rfl) (fun _ _ _ _ h => h) ?_
        simp only [wpSegs, pickOps, List.getElem?_toArray, List.getElem?_cons_zero, List.getElem?_cons_succ]
        have kc := cell_cls w0
        repeat (go_big_quiet_step (fail))
        refine wpQuiet_nil ?_
        clear kc d0 d1 d2 d3 d4 d5 d6 d7
        generalize (if cap = 1 then some (⟨gp, op, none⟩ : Addr) else some ⟨gp, op + 3, none⟩) = tp at *
        constructor
        · have hbB := (Below.drew (Below.refl w0.heap.size w0))
          refine wpListC_plain rfl (fun K hK => ?_)
          go_step
          refine (IH.out _ _ _ _ _ _ _ (HVU.out.on hbB) (HX.out.on hbB) (StepsAt.on HPR.out hbB) hl1 hc1 hmu hmx).mono ?_
          rintro e w2 ⟨cs2, xb', rfl, hown, hnod, hlow, hbc⟩
          have hb2w := hbB.trans (hbc.mono hbB.size)
          refine hK _ _ (cls_of_below hb2w) ?_
          clear hK K
          refine wpListC_nil ?_
          generalize hy : (setV u0 r (.mk xk xb xi xf xt xty xits xfs)).getD V0 = y at hown
          generalize hok : (setV u0 r (.mk xk xb xi xf xt xty xits xfs)).isSome = ok
          have HOK := hok
          clear hok
          obtain ⟨yk, yb, yi, yf, yt, yty, yits, yfs⟩ := y
          have HOWY := Lib.hid hown
          obtain ⟨yp, yc, yq, yd, _, _, rfl, _⟩ := hown
          iterate 3 (go_big_quiet_step (fail))
          refine wpQuiet_nil ?_
          refine wpListC_plain rfl (fun K hK => ?_)
          go_step
          have hb3 : Below w2.heap.size w2 (w2.alloc (.cells cells0 27)) := (Below.refl _ _).alloc (Nat.le_refl _) _
          have hz := heap_new w2 (.cells cells0 27)
          have hs3 : (w2.alloc (.cells cells0 27)).heap.size = w2.heap.size + 1 := by simp
          obtain ⟨w3, hW⟩ : ∃ w3, w2.alloc (.cells cells0 27) = w3 := ⟨_, rfl⟩
          rw [hW] at hb3 hz hs3
          have e : w2.alloc (.cells cells0 27) = w3 := hW
          clear hW
          rw [e]
          clear e
          have hb3w := hb2w.trans (hb3.mono hb2w.size)
          refine hK _ _ (cls_of_below hb3w) ?_
          clear hK K
          have HZ := Lib.hid hz
          have hHw : w0.heap.size ≤ w2.heap.size := hb2w.size
          have hHx : w2.heap.size ∉ xb' := fun h => by have := (hlow _ h).2; omega
          have HOW3 := HOWY.out.kept (fun y hy => hb3.block y (hlow y hy).2)
          have hlow3 : ∀ z ∈ xb', w0.heap.size ≤ z ∧ z < w3.heap.size := fun z hz => by have := hlow z hz; have := hbB.size; omega
          clear hz
          refine wpListC_plain rfl (fun K hK => ?_)
          refine wp_store_row (P := Tryd.prog) 27 (.tmp 10) (.tmp 43) rfl w2.heap.size (vcells yk yb yi yf yt yty yp yits.length yc yq yfs.length yd) rfl rfl 27 _ HZ.out (by kernel_rfl) rfl (vcells_one ..) ?_
          have hH4 : (w3.setRow w2.heap.size (vcells yk yb yi yf yt yty yp yits.length yc yq yfs.length yd)).heap[w2.heap.size]? = some (.cells (vcells yk yb yi yf yt yty yp yits.length yc yq yfs.length yd) 27 (0, 0)) := setRow_heap _ _ _ _ _ _ HZ.out
          have hb4 : Below w0.heap.size w0 (w3.setRow w2.heap.size (vcells yk yb yi yf yt yty yp yits.length yc yq yfs.length yd)) := below_setRow hb3w hHw _
          refine hK _ _ (cls_of_below hb4) ?_
          clear hK K
          refine wpListC_nil ?_
          have howy : OwnV (w3.setRow w2.heap.size (vcells yk yb yi yf yt yty yp yits.length yc yq yfs.length yd)) (.mk yk yb yi yf yt yty yits yfs) (vcells yk yb yi yf yt yty yp yits.length yc yq yfs.length yd) xb' := HOW3.kept (Kept.setRow (fun _ _ => rfl) hHx _)
          have hsz4 := setRow_size w3 w2.heap.size (vcells yk yb yi yf yt yty yp yits.length yc yq yfs.length yd)
          have hlow4 : ∀ z ∈ xb', w0.heap.size ≤ z ∧ z < (w3.setRow w2.heap.size (vcells yk yb yi yf yt yty yp yits.length yc yq yfs.length yd)).heap.size := fun z hz => by have := hlow3 z hz; omega
          have HH4 := Lib.hid hH4
          clear hH4
          generalize w3.setRow w2.heap.size (vcells yk yb yi yf yt yty yp yits.length yc yq yfs.length yd) = w4 at *
          refine wpList_plain rfl (fun K hK => ?_)
          go_step
          refine hK _ _ ?_
          clear hK K
          have h6 : w4.heap[w.heap.size + 1 + 1]? = some (.cells cells0 27 (0, 0)) := by
            rw [hb4.block _ (Array.getElem?_eq_some_iff.1 HB2.out).1]; exact HB2.out
          have H6 := Lib.hid h6
          clear h6
          cases hsv : setV u0 r (.mk xk xb xi xf xt xty xits xfs) with
          | none =>
            have HFIN : Hid (setV (.mk k b i f t ty its fs) (s0 :: r) (.mk xk xb xi xf xt xty xits xfs) = none) := by
              have := HSET.out; rw [hsv] at this; exact this
            rw [hsv] at HOK
            obtain rfl : ok = false := HOK.symm
            clear hsv howy HOK
            go_upto_region 10 with (fail)
            go_step
            refine wpList_plain rfl (fun K hK => ?_)
            go_step
            refine hK _ _ ?_
            clear hK K
            refine wpList_plain rfl (fun K hK => ?_)
            refine wp_store_row (P := Tryd.prog) 27 (.tmp 6) (.tmp 47) rfl (w.heap.size + 1 + 1) cells0 rfl rfl 27 _ H6.out (by kernel_rfl) rfl (vcells_one ..) ?_
            refine hK _ _ ?_
            clear hK K
            have hnew : (w4.setRow (w.heap.size + 1 + 1) cells0).heap[w.heap.size + 1 + 1]? = some (.cells cells0 27 (0, 0)) := setRow_heap _ _ _ _ _ _ H6.out
            have hwfin : Below w.heap.size w (w4.setRow (w.heap.size + 1 + 1) cells0) := below_setRow (hbw.trans (hb4.mono hbw.size)) (by omega) _
            generalize w4.setRow (w.heap.size + 1 + 1) cells0 = wz at *
            obtain ⟨r0, r1, r2, r3, r4, r5, r6, r7⟩ := (block_of_cells hnew).all0
            have hpost : GetPost (setV (.mk k b i f t ty its fs) (⟨snm, six, true⟩ :: r) (.mk xk xb xi xf xt xty xits xfs)) w (.returned (.tuple #[.agg cells0, .bool false])) wz := by
              rw [← hs0', HFIN.out]
              exact ⟨_, [], rfl, own0 _, List.nodup_nil, by simp, hwfin⟩
            have HPOST := Lib.hid hpost
            clear hpost hwfin hnew
            go_wp2
            exact bodyPost_ret (v := .tuple #[.agg cells0, .bool false]) (by simp [results, Tryd.results18, go_sem, r0, r1, r2, r3, r4, r5, r6, r7]) rfl HPOST.out
          | some y0 =>
            rw [hsv] at hy HOK
            obtain rfl : ok = true := HOK.symm
            obtain rfl : y0 = .mk yk yb yi yf yt yty yits yfs := hy
            have HFIN : Hid (setV (.mk k b i f t ty its fs) (s0 :: r) (.mk xk xb xi xf xt xty xits xfs) = some (putC (.mk k b i f t ty its fs) s0 (.mk yk yb yi yf yt yty yits yfs))) := by
              have := HSET.out; rw [hsv] at this; exact this
            clear hsv
            obtain ⟨ht, hgG, z, zcs, zbs, hset, hcz, hoz, hnz, hGz, hbz⟩ := Here.done (path := [s0]) HH.out hb4 howy hnod hlow4 hG0 (fun y hy => (HOB.out y hy).2)
            have hzz := HSET1.out (.mk yk yb yi yf yt yty yits yfs)
            rw [hset] at hzz
            obtain rfl : z = putC (.mk k b i f t ty its fs) s0 (.mk yk yb yi yf yt yty yits yfs) := by simpa using hzz
            have hgw : wa.heap.size ≤ gi := by rcases hgG with h | h; omega; exact (HOB.out _ h).1
            obtain ⟨e0, e1, e2, e3, e4, e5, e6, e7⟩ := ((block_of_cells HG.out).below hb4 hG0).all0
            obtain ⟨y0, y1, y2, y3, y4, y5, y6, y7⟩ := (block_of_cells HH4.out).all0
            have HT := Lib.hid ht
            have HOZ := Lib.hid hoz
            have HCZ := Lib.hid hcz
            have HBZ := Lib.hid hbz
            have HLOW := Lib.hid hlow4
            have hgl : gi < w4.heap.size := Nat.lt_of_lt_of_le hgu hb4.size
            have hGl : G < w4.heap.size := Nat.lt_of_lt_of_le hG0 hb4.size
            clear ht hoz hcz hbz hlow4 hset hzz howy hgG
            go_upto_region 11 with (fail)
            go_step
            iterate 5
              refine wpList_plain rfl (fun K hK => ?_)
              go_step
              refine hK _ _ ?_
              clear hK K
            refine wpList_plain rfl (fun K hK => ?_)
            refine wp_store_mid (P := Tryd.prog) 27 (.tmp 52) (.tmp 51) rfl gi (n * 8) (vcells yk yb yi yf yt yty yp yits.length yc yq yfs.length yd) rfl rfl HT.out (by kernel_rfl) (vcells_one ..) ?_
            refine hK _ _ ?_
            clear hK K
            have h2' : (w4.setCells gi (n * 8) (vcells yk yb yi yf yt yty yp yits.length yc yq yfs.length yd).toList).heap[w.heap.size + 1 + 1]? = some (.cells cells0 27 (0, 0)) := by
              rw [heap_setCells_other gi (by have := HSZ.out; omega)]; exact H6.out
            have hbz : Below wa.heap.size wa (w4.setCells gi (n * 8) (vcells yk yb yi yf yt yty yp yits.length yc yq yfs.length yd).toList) := below_setCells (hba0.trans (hb4.mono hba0.size)) hgw _ _
            have hszz := size_setCells gi (vcells yk yb yi yf yt yty yp yits.length yc yq yfs.length yd).toList (n * 8) w4
            have HCZ := Lib.hid HCZ.out
            have HOZ := Lib.hid HOZ.out
            clear y0 y1 y2 y3 y4 y5 y6 y7 e0 e1 e2 e3 e4 e5 e6 e7
            generalize w4.setCells gi (n * 8) (vcells yk yb yi yf yt yty yp yits.length yc yq yfs.length yd).toList = w5 at *
            generalize putC (.mk k b i f t ty its fs) s0 (.mk yk yb yi yf yt yty yits yfs) = z at *
            obtain ⟨zk, zb, zi, zf, zt, zty, zits, zfs⟩ := z
            have hoz := HOZ.out
            obtain ⟨zp, zc, zq, zd, b3, b4, rfl, _⟩ := hoz
            obtain ⟨y0, y1, y2, y3, y4, y5, y6, y7⟩ := HCZ.out.all0
            have H7 := Lib.hid h2'
            have hG5 : G < w5.heap.size := by omega
            clear h2'
            go_upto_region 12 with (fail)
            go_step
            refine wpList_plain rfl (fun K hK => ?_)
            go_step
            refine hK _ _ ?_
            clear hK K
            refine wpList_plain rfl (fun K hK => ?_)
            refine wp_store_row (P := Tryd.prog) 27 (.tmp 6) (.tmp 53) rfl (w.heap.size + 1 + 1) (vcells zk zb zi zf zt zty zp zits.length zc zq zfs.length zd) rfl rfl 27 _ H7.out (by kernel_rfl) rfl (vcells_one ..) ?_
            refine hK _ _ ?_
            clear hK K
            have hnew : (w5.setRow (w.heap.size + 1 + 1) (vcells zk zb zi zf zt zty zp zits.length zc zq zfs.length zd)).heap[w.heap.size + 1 + 1]? = some (.cells (vcells zk zb zi zf zt zty zp zits.length zc zq zfs.length zd) 27 (0, 0)) := setRow_heap _ _ _ _ _ _ H7.out
            have hwfin : Below w.heap.size w (w5.setRow (w.heap.size + 1 + 1) (vcells zk zb zi zf zt zty zp zits.length zc zq zfs.length zd)) := below_setRow (hwa.trans (hbz.mono hwa.size)) (by omega) _
            have hlowz : ∀ z ∈ zbs, wa.heap.size ≤ z ∧ z < w5.heap.size := fun z hz => by
              have h1 := hba0.size
              have h2 := hb4.size
              rcases HBZ.out z hz with (rfl | h) | h
              · omega
              · have := HOB.out z h; omega
              · have := HLOW.out z h; omega
            have hk : Kept zbs w5 (w5.setRow (w.heap.size + 1 + 1) (vcells zk zb zi zf zt zty zp zits.length zc zq zfs.length zd)) := Kept.setRow (fun _ _ => rfl) (fun h => by have := hlowz _ h; have := HSZ.out; omega) _
            have hszy := setRow_size w5 (w.heap.size + 1 + 1) (vcells zk zb zi zf zt zty zp zits.length zc zq zfs.length zd)
            generalize w5.setRow (w.heap.size + 1 + 1) (vcells zk zb zi zf zt zty zp zits.length zc zq zfs.length zd) = wz at *
            obtain ⟨r0, r1, r2, r3, r4, r5, r6, r7⟩ := (block_of_cells hnew).all0
            have hpost : GetPost (setV (.mk k b i f t ty its fs) (⟨snm, six, true⟩ :: r) (.mk xk xb xi xf xt xty xits xfs)) w (.returned (.tuple #[.agg (vcells zk zb zi zf zt zty zp zits.length zc zq zfs.length zd), .bool true])) wz := by
              rw [← hs0', HFIN.out]
              exact ⟨_, zbs, rfl, HOZ.out.kept hk, hnz, fun z hz => by have := hlowz z hz; have := HSZ.out; omega, hwfin⟩
            have HPOST := Lib.hid hpost
            clear hpost hwfin hnew hk
            go_wp2
            exact bodyPost_ret (v := .tuple #[.agg (vcells zk zb zi zf zt zty zp zits.length zc zq zfs.length zd), .bool true]) (by simp [results, Tryd.results18, go_sem, r0, r1, r2, r3, r4, r5, r6, r7]) rfl HPOST.out
        · refine wpListC_plain rfl (fun K hK => ?_)
          go_step
          have hb3 : Below w0.heap.size w0 (w0.alloc (.cells cells0 27)).drew := ((Below.refl w0.heap.size w0).alloc (Nat.le_refl _) _).drew
          have hz : (w0.alloc (.cells cells0 27)).drew.heap[w0.heap.size]? = some (.cells cells0 27 (0, 0)) := heap_new w0 (.cells cells0 27)
          obtain ⟨w3, hW⟩ : ∃ w3, (w0.alloc (.cells cells0 27)).drew = w3 := ⟨_, rfl⟩
          rw [hW] at hb3 hz
          have e : (w0.alloc (.cells cells0 27)).drew = w3 := hW
          clear hW
          rw [e]
          clear e
          refine hK _ _ (cls_of_below hb3) ?_
          clear hK K
          refine wpListC_nil ?_
          have hbB := hb3
          refine wpListC_plain rfl (fun K hK => ?_)
          go_step
          refine (IH.out _ _ _ _ _ _ _ (HVU.out.on hbB) (HX.out.on hbB) (StepsAt.on HPR.out hbB) hl1 hc1 hmu hmx).mono ?_
          rintro e w2 ⟨cs2, xb', rfl, hown, hnod, hlow, hbc⟩
          have hb2w := hbB.trans (hbc.mono hbB.size)
          refine hK _ _ (cls_of_below hb2w) ?_
          clear hK K
          refine wpListC_nil ?_
          generalize hy : (setV u0 r (.mk xk xb xi xf xt xty xits xfs)).getD V0 = y at hown
          generalize hok : (setV u0 r (.mk xk xb xi xf xt xty xits xfs)).isSome = ok
          have HOK := hok
          clear hok
          obtain ⟨yk, yb, yi, yf, yt, yty, yits, yfs⟩ := y
          have HOWY := Lib.hid hown
          obtain ⟨yp, yc, yq, yd, _, _, rfl, _⟩ := hown
          iterate 3 (go_big_quiet_step (fail))
          refine wpQuiet_nil ?_
          have hs3 : w0.heap.size < w3.heap.size := (Array.getElem?_eq_some_iff.1 hz).1
          have hz2 : w2.heap[w0.heap.size]? = some (.cells cells0 27 (0, 0)) := by rw [hbc.block _ hs3]; exact hz
          have HZ := Lib.hid hz2
          have hb3w := hb2w
          have hHw : w0.heap.size ≤ w0.heap.size := Nat.le_refl _
          have hHx : w0.heap.size ∉ xb' := fun h => by have := (hlow _ h).1; omega
          have HOW3 := HOWY.out
          have hlow3 : ∀ z ∈ xb', w0.heap.size ≤ z ∧ z < w2.heap.size := fun z hz => by have := hlow z hz; omega
          clear hz hz2
          refine wpListC_plain rfl (fun K hK => ?_)
          refine wp_store_row (P := Tryd.prog) 27 (.tmp 10) (.tmp 43) rfl w0.heap.size (vcells yk yb yi yf yt yty yp yits.length yc yq yfs.length yd) rfl rfl 27 _ HZ.out (by kernel_rfl) rfl (vcells_one ..) ?_
          have hH4 : (w2.setRow w0.heap.size (vcells yk yb yi yf yt yty yp yits.length yc yq yfs.length yd)).heap[w0.heap.size]? = some (.cells (vcells yk yb yi yf yt yty yp yits.length yc yq yfs.length yd) 27 (0, 0)) := setRow_heap _ _ _ _ _ _ HZ.out
          have hb4 : Below w0.heap.size w0 (w2.setRow w0.heap.size (vcells yk yb yi yf yt yty yp yits.length yc yq yfs.length yd)) := below_setRow hb3w hHw _
          refine hK _ _ (cls_of_below hb4) ?_
          clear hK K
          refine wpListC_nil ?_
          have howy : OwnV (w2.setRow w0.heap.size (vcells yk yb yi yf yt yty yp yits.length yc yq yfs.length yd)) (.mk yk yb yi yf yt yty yits yfs) (vcells yk yb yi yf yt yty yp yits.length yc yq yfs.length yd) xb' := HOW3.kept (Kept.setRow (fun _ _ => rfl) hHx _)
          have hsz4 := setRow_size w2 w0.heap.size (vcells yk yb yi yf yt yty yp yits.length yc yq yfs.length yd)
          have hlow4 : ∀ z ∈ xb', w0.heap.size ≤ z ∧ z < (w2.setRow w0.heap.size (vcells yk yb yi yf yt yty yp yits.length yc yq yfs.length yd)).heap.size := fun z hz => by have := hlow3 z hz; omega
          have HH4 := Lib.hid hH4
          clear hH4
          generalize w2.setRow w0.heap.size (vcells yk yb yi yf yt yty yp yits.length yc yq yfs.length yd) = w4 at *
          refine wpList_plain rfl (fun K hK => ?_)
          go_step
          refine hK _ _ ?_
          clear hK K
          have h6 : w4.heap[w.heap.size + 1 + 1]? = some (.cells cells0 27 (0, 0)) := by
            rw [hb4.block _ (Array.getElem?_eq_some_iff.1 HB2.out).1]; exact HB2.out
          have H6 := Lib.hid h6
          clear h6
          cases hsv : setV u0 r (.mk xk xb xi xf xt xty xits xfs) with
          | none =>
            have HFIN : Hid (setV (.mk k b i f t ty its fs) (s0 :: r) (.mk xk xb xi xf xt xty xits xfs) = none) := by
              have := HSET.out; rw [hsv] at this; exact this
            rw [hsv] at HOK
            obtain rfl : ok = false := HOK.symm
            clear hsv howy HOK
            go_upto_region 10 with (fail)
            go_step
            refine wpList_plain rfl (fun K hK => ?_)
            go_step
            refine hK _ _ ?_
            clear hK K
            refine wpList_plain rfl (fun K hK => ?_)
            refine wp_store_row (P := Tryd.prog) 27 (.tmp 6) (.tmp 47) rfl (w.heap.size + 1 + 1) cells0 rfl rfl 27 _ H6.out (by kernel_rfl) rfl (vcells_one ..) ?_
            refine hK _ _ ?_
            clear hK K
            have hnew : (w4.setRow (w.heap.size + 1 + 1) cells0).heap[w.heap.size + 1 + 1]? = some (.cells cells0 27 (0, 0)) := setRow_heap _ _ _ _ _ _ H6.out
            have hwfin : Below w.heap.size w (w4.setRow (w.heap.size + 1 + 1) cells0) := below_setRow (hbw.trans (hb4.mono hbw.size)) (by omega) _
            generalize w4.setRow (w.heap.size + 1 + 1) cells0 = wz at *
            obtain ⟨r0, r1, r2, r3, r4, r5, r6, r7⟩ := (block_of_cells hnew).all0
            have hpost : GetPost (setV (.mk k b i f t ty its fs) (⟨snm, six, true⟩ :: r) (.mk xk xb xi xf xt xty xits xfs)) w (.returned (.tuple #[.agg cells0, .bool false])) wz := by
              rw [← hs0', HFIN.out]
              exact ⟨_, [], rfl, own0 _, List.nodup_nil, by simp, hwfin⟩
            have HPOST := Lib.hid hpost
            clear hpost hwfin hnew
            go_wp2
            exact bodyPost_ret (v := .tuple #[.agg cells0, .bool false]) (by simp [results, Tryd.results18, go_sem, r0, r1, r2, r3, r4, r5, r6, r7]) rfl HPOST.out
          | some y0 =>
            rw [hsv] at hy HOK
            obtain rfl : ok = true := HOK.symm
            obtain rfl : y0 = .mk yk yb yi yf yt yty yits yfs := hy
            have HFIN : Hid (setV (.mk k b i f t ty its fs) (s0 :: r) (.mk xk xb xi xf xt xty xits xfs) = some (putC (.mk k b i f t ty its fs) s0 (.mk yk yb yi yf yt yty yits yfs))) := by
              have := HSET.out; rw [hsv] at this; exact this
            clear hsv
            obtain ⟨ht, hgG, z, zcs, zbs, hset, hcz, hoz, hnz, hGz, hbz⟩ := Here.done (path := [s0]) HH.out hb4 howy hnod hlow4 hG0 (fun y hy => (HOB.out y hy).2)
            have hzz := HSET1.out (.mk yk yb yi yf yt yty yits yfs)
            rw [hset] at hzz
            obtain rfl : z = putC (.mk k b i f t ty its fs) s0 (.mk yk yb yi yf yt yty yits yfs) := by simpa using hzz
            have hgw : wa.heap.size ≤ gi := by rcases hgG with h | h; omega; exact (HOB.out _ h).1
            obtain ⟨e0, e1, e2, e3, e4, e5, e6, e7⟩ := ((block_of_cells HG.out).below hb4 hG0).all0
            obtain ⟨y0, y1, y2, y3, y4, y5, y6, y7⟩ := (block_of_cells HH4.out).all0
            have HT := Lib.hid ht
            have HOZ := Lib.hid hoz
            have HCZ := Lib.hid hcz
            have HBZ := Lib.hid hbz
            have HLOW := Lib.hid hlow4
            have hgl : gi < w4.heap.size := Nat.lt_of_lt_of_le hgu hb4.size
            have hGl : G < w4.heap.size := Nat.lt_of_lt_of_le hG0 hb4.size
            clear ht hoz hcz hbz hlow4 hset hzz howy hgG
            go_upto_region 11 with (fail)
            go_step
            iterate 5
              refine wpList_plain rfl (fun K hK => ?_)
              go_step
              refine hK _ _ ?_
              clear hK K
            refine wpList_plain rfl (fun K hK => ?_)
            refine wp_store_mid (P := Tryd.prog) 27 (.tmp 52) (.tmp 51) rfl gi (n * 8) (vcells yk yb yi yf yt yty yp yits.length yc yq yfs.length yd) rfl rfl HT.out (by kernel_rfl) (vcells_one ..) ?_
            refine hK _ _ ?_
            clear hK K
            have h2' : (w4.setCells gi (n * 8) (vcells yk yb yi yf yt yty yp yits.length yc yq yfs.length yd).toList).heap[w.heap.size + 1 + 1]? = some (.cells cells0 27 (0, 0)) := by
              rw [heap_setCells_other gi (by have := HSZ.out; omega)]; exact H6.out
            have hbz : Below wa.heap.size wa (w4.setCells gi (n * 8) (vcells yk yb yi yf yt yty yp yits.length yc yq yfs.length yd).toList) := below_setCells (hba0.trans (hb4.mono hba0.size)) hgw _ _
            have hszz := size_setCells gi (vcells yk yb yi yf yt yty yp yits.length yc yq yfs.length yd).toList (n * 8) w4
            have HCZ := Lib.hid HCZ.out
            have HOZ := Lib.hid HOZ.out
            clear y0 y1 y2 y3 y4 y5 y6 y7 e0 e1 e2 e3 e4 e5 e6 e7
            generalize w4.setCells gi (n * 8) (vcells yk yb yi yf yt yty yp yits.length yc yq yfs.length yd).toList = w5 at *
            generalize putC (.mk k b i f t ty its fs) s0 (.mk yk yb yi yf yt yty yits yfs) = z at *
            obtain ⟨zk, zb, zi, zf, zt, zty, zits, zfs⟩ := z
            have hoz := HOZ.out
            obtain ⟨zp, zc, zq, zd, b3, b4, rfl, _⟩ := hoz
            obtain ⟨y0, y1, y2, y3, y4, y5, y6, y7⟩ := HCZ.out.all0
            have H7 := Lib.hid h2'
            have hG5 : G < w5.heap.size := by omega
            clear h2'
            go_upto_region 12 with (fail)
            go_step
            refine wpList_plain rfl (fun K hK => ?_)
            go_step
            refine hK _ _ ?_
            clear hK K
            refine wpList_plain rfl (fun K hK => ?_)
            refine wp_store_row (P := Tryd.prog) 27 (.tmp 6) (.tmp 53) rfl (w.heap.size + 1 + 1) (vcells zk zb zi zf zt zty zp zits.length zc zq zfs.length zd) rfl rfl 27 _ H7.out (by kernel_rfl) rfl (vcells_one ..) ?_
            refine hK _ _ ?_
            clear hK K
            have hnew : (w5.setRow (w.heap.size + 1 + 1) (vcells zk zb zi zf zt zty zp zits.length zc zq zfs.length zd)).heap[w.heap.size + 1 + 1]? = some (.cells (vcells zk zb zi zf zt zty zp zits.length zc zq zfs.length zd) 27 (0, 0)) := setRow_heap _ _ _ _ _ _ H7.out
            have hwfin : Below w.heap.size w (w5.setRow (w.heap.size + 1 + 1) (vcells zk zb zi zf zt zty zp zits.length zc zq zfs.length zd)) := below_setRow (hwa.trans (hbz.mono hwa.size)) (by omega) _
            have hlowz : ∀ z ∈ zbs, wa.heap.size ≤ z ∧ z < w5.heap.size := fun z hz => by
              have h1 := hba0.size
              have h2 := hb4.size
              rcases HBZ.out z hz with (rfl | h) | h
              · omega
              · have := HOB.out z h; omega
              · have := HLOW.out z h; omega
            have hk : Kept zbs w5 (w5.setRow (w.heap.size + 1 + 1) (vcells zk zb zi zf zt zty zp zits.length zc zq zfs.length zd)) := Kept.setRow (fun _ _ => rfl) (fun h => by have := hlowz _ h; have := HSZ.out; omega) _
            have hszy := setRow_size w5 (w.heap.size + 1 + 1) (vcells zk zb zi zf zt zty zp zits.length zc zq zfs.length zd)
            generalize w5.setRow (w.heap.size + 1 + 1) (vcells zk zb zi zf zt zty zp zits.length zc zq zfs.length zd) = wz at *
            obtain ⟨r0, r1, r2, r3, r4, r5, r6, r7⟩ := (block_of_cells hnew).all0
            have hpost : GetPost (setV (.mk k b i f t ty its fs) (⟨snm, six, true⟩ :: r) (.mk xk xb xi xf xt xty xits xfs)) w (.returned (.tuple #[.agg (vcells zk zb zi zf zt zty zp zits.length zc zq zfs.length zd), .bool true])) wz := by
              rw [← hs0', HFIN.out]
              exact ⟨_, zbs, rfl, HOZ.out.kept hk, hnz, fun z hz => by have := hlowz z hz; have := HSZ.out; omega, hwfin⟩
            have HPOST := Lib.hid hpost
            clear hpost hwfin hnew hk
            go_wp2
            exact bodyPost_ret (v := .tuple #[.agg (vcells zk zb zi zf zt zty zp zits.length zc zq zfs.length zd), .bool true]) (by simp [results, Tryd.results18, go_sem, r0, r1, r2, r3, r4, r5, r6, r7]) rfl HPOST.out
      | false =>
        obtain ⟨xn, hxf⟩ := hxf rfl
        have hnl : n < fs.length := (List.getElem?_eq_some_iff.1 (show fs[n]? = some (xn, u) from hxf)).1
        obtain ⟨gf, rfl⟩ : ∃ gf, q' = some ⟨gf, 0, none⟩ := by
          rcases HFO.out with ⟨h, _⟩ | ⟨gf, _, _, h, _⟩
          · subst h; simp at hnl
          · exact ⟨gf, h⟩
        obtain ⟨rfl, rfl⟩ : gf = g1 ∧ n * 9 + 1 = o1 := by simpa [spotA, hix, shift] using ha
        obtain ⟨u0, hu0⟩ : ∃ u0, u0 = u := ⟨u, rfl⟩
        obtain ⟨s0, hs0'⟩ : ∃ s0, s0 = (⟨snm, six, false⟩ : St) := ⟨_, rfl⟩
        rw [← hu0] at HSET
        rw [← hs0'] at HSET HSET1 HH
        have HVU := Lib.hid hvu
        rw [← hu0] at HVU
        obtain ⟨uk, ub, ui, uf, ut, uty, uits, ufs⟩ := u
        obtain ⟨up, uc, uq, ud, rfl, _, _, _, _⟩ := hvu
        obtain ⟨d0, d1, d2, d3, d4, d5, d6, d7⟩ := hcu.all
        rw [← hu0] at hmu
        clear hix hch hxi hxf hfi hcu ha
        go_wp2
        refine wp_region_fork_below 15 [0, 1, 2, 3, 4, 5, 6, 7, 8] 9 13 [(0, [10, 11, 12]), (1, [13, 14]), (2, [15])] [(1, [9]), (0, [10, 11, 12]), (1, [14]), (2, [15])] (by kernel_rfl) (by kernel_rfl) (fun _ _ _ _ h => h) ?_
        simp only [wpSegs, pickOps, List.getElem?_toArray, List.getElem?_cons_zero, List.getElem?_cons_succ]
        have kc := cell_cls w0
        repeat (go_big_quiet_step (fail))
        refine wpQuiet_nil ?_
        clear kc d0 d1 d2 d3 d4 d5 d6 d7
        generalize (if cap = 1 then some (⟨gp, op, none⟩ : Addr) else some ⟨gp, op + 3, none⟩) = tp at *
        constructor
        · have hbB := (Below.drew (Below.refl w0.heap.size w0))
          refine wpListC_plain rfl (fun K hK => ?_)
          go_step
          refine (IH.out _ _ _ _ _ _ _ (HVU.out.on hbB) (HX.out.on hbB) (StepsAt.on HPR.out hbB) hl1 hc1 hmu hmx).mono ?_
          rintro e w2 ⟨cs2, xb', rfl, hown, hnod, hlow, hbc⟩
          have hb2w := hbB.trans (hbc.mono hbB.size)
          refine hK _ _ (cls_of_below hb2w) ?_
          clear hK K
          refine wpListC_nil ?_
          generalize hy : (setV u0 r (.mk xk xb xi xf xt xty xits xfs)).getD V0 = y at hown
          generalize hok : (setV u0 r (.mk xk xb xi xf xt xty xits xfs)).isSome = ok
          have HOK := hok
          clear hok
          obtain ⟨yk, yb, yi, yf, yt, yty, yits, yfs⟩ := y
          have HOWY := Lib.hid hown
          obtain ⟨yp, yc, yq, yd, _, _, rfl, _⟩ := hown
          iterate 3 (go_big_quiet_step (fail))
          refine wpQuiet_nil ?_
          refine wpListC_plain rfl (fun K hK => ?_)
          go_step
          have hb3 : Below w2.heap.size w2 (w2.alloc (.cells cells0 27)) := (Below.refl _ _).alloc (Nat.le_refl _) _
          have hz := heap_new w2 (.cells cells0 27)
          have hs3 : (w2.alloc (.cells cells0 27)).heap.size = w2.heap.size + 1 := by simp
          obtain ⟨w3, hW⟩ : ∃ w3, w2.alloc (.cells cells0 27) = w3 := ⟨_, rfl⟩
          rw [hW] at hb3 hz hs3
          have e : w2.alloc (.cells cells0 27) = w3 := hW
          clear hW
          rw [e]
          clear e
          have hb3w := hb2w.trans (hb3.mono hb2w.size)
          refine hK _ _ (cls_of_below hb3w) ?_
          clear hK K
          have HZ := Lib.hid hz
          have hHw : w0.heap.size ≤ w2.heap.size := hb2w.size
          have hHx : w2.heap.size ∉ xb' := fun h => by have := (hlow _ h).2; omega
          have HOW3 := HOWY.out.kept (fun y hy => hb3.block y (hlow y hy).2)
          have hlow3 : ∀ z ∈ xb', w0.heap.size ≤ z ∧ z < w3.heap.size := fun z hz => by have := hlow z hz; have := hbB.size; omega
          clear hz
          refine wpListC_plain rfl (fun K hK => ?_)
          refine wp_store_row (P := Tryd.prog) 27 (.tmp 12) (.tmp 65) rfl w2.heap.size (vcells yk yb yi yf yt yty yp yits.length yc yq yfs.length yd) rfl rfl 27 _ HZ.out (by kernel_rfl) rfl (vcells_one ..) ?_
          have hH4 : (w3.setRow w2.heap.size (vcells yk yb yi yf yt yty yp yits.length yc yq yfs.length yd)).heap[w2.heap.size]? = some (.cells (vcells yk yb yi yf yt yty yp yits.length yc yq yfs.length yd) 27 (0, 0)) := setRow_heap _ _ _ _ _ _ HZ.out
          have hb4 : Below w0.heap.size w0 (w3.setRow w2.heap.size (vcells yk yb yi yf yt yty yp yits.length yc yq yfs.length yd)) := below_setRow hb3w hHw _
          refine hK _ _ (cls_of_below hb4) ?_
          clear hK K
          refine wpListC_nil ?_
          have howy : OwnV (w3.setRow w2.heap.size (vcells yk yb yi yf yt yty yp yits.length yc yq yfs.length yd)) (.mk yk yb yi yf yt yty yits yfs) (vcells yk yb yi yf yt yty yp yits.length yc yq yfs.length yd) xb' := HOW3.kept (Kept.setRow (fun _ _ => rfl) hHx _)
          have hsz4 := setRow_size w3 w2.heap.size (vcells yk yb yi yf yt yty yp yits.length yc yq yfs.length yd)
          have hlow4 : ∀ z ∈ xb', w0.heap.size ≤ z ∧ z < (w3.setRow w2.heap.size (vcells yk yb yi yf yt yty yp yits.length yc yq yfs.length yd)).heap.size := fun z hz => by have := hlow3 z hz; omega
          have HH4 := Lib.hid hH4
          clear hH4
          generalize w3.setRow w2.heap.size (vcells yk yb yi yf yt yty yp yits.length yc yq yfs.length yd) = w4 at *
          refine wpList_plain rfl (fun K hK => ?_)
          go_step
          refine hK _ _ ?_
          clear hK K
          have h6 : w4.heap[w.heap.size + 1 + 1]? = some (.cells cells0 27 (0, 0)) := by
            rw [hb4.block _ (Array.getElem?_eq_some_iff.1 HB2.out).1]; exact HB2.out
          have H6 := Lib.hid h6
          clear h6
          cases hsv : setV u0 r (.mk xk xb xi xf xt xty xits xfs) with
          | none =>
            have HFIN : Hid (setV (.mk k b i f t ty its fs) (s0 :: r) (.mk xk xb xi xf xt xty xits xfs) = none) := by
              have := HSET.out; rw [hsv] at this; exact this
            rw [hsv] at HOK
            obtain rfl : ok = false := HOK.symm
            clear hsv howy HOK
            go_upto_region 15 with (fail)
            go_step
            refine wpList_plain rfl (fun K hK => ?_)
            go_step
            refine hK _ _ ?_
            clear hK K
            refine wpList_plain rfl (fun K hK => ?_)
            refine wp_store_row (P := Tryd.prog) 27 (.tmp 6) (.tmp 69) rfl (w.heap.size + 1 + 1) cells0 rfl rfl 27 _ H6.out (by kernel_rfl) rfl (vcells_one ..) ?_
            refine hK _ _ ?_
            clear hK K
            have hnew : (w4.setRow (w.heap.size + 1 + 1) cells0).heap[w.heap.size + 1 + 1]? = some (.cells cells0 27 (0, 0)) := setRow_heap _ _ _ _ _ _ H6.out
            have hwfin : Below w.heap.size w (w4.setRow (w.heap.size + 1 + 1) cells0) := below_setRow (hbw.trans (hb4.mono hbw.size)) (by omega) _
            generalize w4.setRow (w.heap.size + 1 + 1) cells0 = wz at *
            obtain ⟨r0, r1, r2, r3, r4, r5, r6, r7⟩ := (block_of_cells hnew).all0
            have hpost : GetPost (setV (.mk k b i f t ty its fs) (⟨snm, six, false⟩ :: r) (.mk xk xb xi xf xt xty xits xfs)) w (.returned (.tuple #[.agg cells0, .bool false])) wz := by
              rw [← hs0', HFIN.out]
              exact ⟨_, [], rfl, own0 _, List.nodup_nil, by simp, hwfin⟩
            have HPOST := Lib.hid hpost
            clear hpost hwfin hnew
            go_wp2
            exact bodyPost_ret (v := .tuple #[.agg cells0, .bool false]) (by simp [results, Tryd.results18, go_sem, r0, r1, r2, r3, r4, r5, r6, r7]) rfl HPOST.out
          | some y0 =>
            rw [hsv] at hy HOK
            obtain rfl : ok = true := HOK.symm
            obtain rfl : y0 = .mk yk yb yi yf yt yty yits yfs := hy
            have HFIN : Hid (setV (.mk k b i f t ty its fs) (s0 :: r) (.mk xk xb xi xf xt xty xits xfs) = some (putC (.mk k b i f t ty its fs) s0 (.mk yk yb yi yf yt yty yits yfs))) := by
              have := HSET.out; rw [hsv] at this; exact this
            clear hsv
            obtain ⟨ht, hgG, z, zcs, zbs, hset, hcz, hoz, hnz, hGz, hbz⟩ := Here.done (path := [s0]) HH.out hb4 howy hnod hlow4 hG0 (fun y hy => (HOB.out y hy).2)
            have hzz := HSET1.out (.mk yk yb yi yf yt yty yits yfs)
            rw [hset] at hzz
            obtain rfl : z = putC (.mk k b i f t ty its fs) s0 (.mk yk yb yi yf yt yty yits yfs) := by simpa using hzz
            have hgw : wa.heap.size ≤ gf := by rcases hgG with h | h; omega; exact (HOB.out _ h).1
            obtain ⟨e0, e1, e2, e3, e4, e5, e6, e7⟩ := ((block_of_cells HG.out).below hb4 hG0).all0
            obtain ⟨y0, y1, y2, y3, y4, y5, y6, y7⟩ := (block_of_cells HH4.out).all0
            have HT := Lib.hid ht
            have HOZ := Lib.hid hoz
            have HCZ := Lib.hid hcz
            have HBZ := Lib.hid hbz
            have HLOW := Lib.hid hlow4
            have hgl : gf < w4.heap.size := Nat.lt_of_lt_of_le hgu hb4.size
            have hGl : G < w4.heap.size := Nat.lt_of_lt_of_le hG0 hb4.size
            clear ht hoz hcz hbz hlow4 hset hzz howy hgG
            go_upto_region 16 with (fail)
            go_step
            iterate 6
              refine wpList_plain rfl (fun K hK => ?_)
              go_step
              refine hK _ _ ?_
              clear hK K
            refine wpList_plain rfl (fun K hK => ?_)
            refine wp_store_mid (P := Tryd.prog) 27 (.tmp 75) (.tmp 73) rfl gf (n * 9 + 1) (vcells yk yb yi yf yt yty yp yits.length yc yq yfs.length yd) rfl rfl HT.out (by kernel_rfl) (vcells_one ..) ?_
            refine hK _ _ ?_
            clear hK K
            have h2' : (w4.setCells gf (n * 9 + 1) (vcells yk yb yi yf yt yty yp yits.length yc yq yfs.length yd).toList).heap[w.heap.size + 1 + 1]? = some (.cells cells0 27 (0, 0)) := by
              rw [heap_setCells_other gf (by have := HSZ.out; omega)]; exact H6.out
            have hbz : Below wa.heap.size wa (w4.setCells gf (n * 9 + 1) (vcells yk yb yi yf yt yty yp yits.length yc yq yfs.length yd).toList) := below_setCells (hba0.trans (hb4.mono hba0.size)) hgw _ _
            have hszz := size_setCells gf (vcells yk yb yi yf yt yty yp yits.length yc yq yfs.length yd).toList (n * 9 + 1) w4
            have HCZ := Lib.hid HCZ.out
            have HOZ := Lib.hid HOZ.out
            clear y0 y1 y2 y3 y4 y5 y6 y7 e0 e1 e2 e3 e4 e5 e6 e7
            generalize w4.setCells gf (n * 9 + 1) (vcells yk yb yi yf yt yty yp yits.length yc yq yfs.length yd).toList = w5 at *
            generalize putC (.mk k b i f t ty its fs) s0 (.mk yk yb yi yf yt yty yits yfs) = z at *
            obtain ⟨zk, zb, zi, zf, zt, zty, zits, zfs⟩ := z
            have hoz := HOZ.out
            obtain ⟨zp, zc, zq, zd, b3, b4, rfl, _⟩ := hoz
            obtain ⟨y0, y1, y2, y3, y4, y5, y6, y7⟩ := HCZ.out.all0
            have H7 := Lib.hid h2'
            have hG5 : G < w5.heap.size := by omega
            clear h2'
            go_upto_region 17 with (fail)
            go_step
            refine wpList_plain rfl (fun K hK => ?_)
            go_step
            refine hK _ _ ?_
            clear hK K
            refine wpList_plain rfl (fun K hK => ?_)
            refine wp_store_row (P := Tryd.prog) 27 (.tmp 6) (.tmp 76) rfl (w.heap.size + 1 + 1) (vcells zk zb zi zf zt zty zp zits.length zc zq zfs.length zd) rfl rfl 27 _ H7.out (by kernel_rfl) rfl (vcells_one ..) ?_
            refine hK _ _ ?_
            clear hK K
            have hnew : (w5.setRow (w.heap.size + 1 + 1) (vcells zk zb zi zf zt zty zp zits.length zc zq zfs.length zd)).heap[w.heap.size + 1 + 1]? = some (.cells (vcells zk zb zi zf zt zty zp zits.length zc zq zfs.length zd) 27 (0, 0)) := setRow_heap _ _ _ _ _ _ H7.out
            have hwfin : Below w.heap.size w (w5.setRow (w.heap.size + 1 + 1) (vcells zk zb zi zf zt zty zp zits.length zc zq zfs.length zd)) := below_setRow (hwa.trans (hbz.mono hwa.size)) (by omega) _
            have hlowz : ∀ z ∈ zbs, wa.heap.size ≤ z ∧ z < w5.heap.size := fun z hz => by
              have h1 := hba0.size
              have h2 := hb4.size
              rcases HBZ.out z hz with (rfl | h) | h
              · omega
              · have := HOB.out z h; omega
              · have := HLOW.out z h; omega
            have hk : Kept zbs w5 (w5.setRow (w.heap.size + 1 + 1) (vcells zk zb zi zf zt zty zp zits.length zc zq zfs.length zd)) := Kept.setRow (fun _ _ => rfl) (fun h => by have := hlowz _ h; have := HSZ.out; omega) _
            have hszy := setRow_size w5 (w.heap.size + 1 + 1) (vcells zk zb zi zf zt zty zp zits.length zc zq zfs.length zd)
            generalize w5.setRow (w.heap.size + 1 + 1) (vcells zk zb zi zf zt zty zp zits.length zc zq zfs.length zd) = wz at *
            obtain ⟨r0, r1, r2, r3, r4, r5, r6, r7⟩ := (block_of_cells hnew).all0
            have hpost : GetPost (setV (.mk k b i f t ty its fs) (⟨snm, six, false⟩ :: r) (.mk xk xb xi xf xt xty xits xfs)) w (.returned (.tuple #[.agg (vcells zk zb zi zf zt zty zp zits.length zc zq zfs.length zd), .bool true])) wz := by
              rw [← hs0', HFIN.out]
              exact ⟨_, zbs, rfl, HOZ.out.kept hk, hnz, fun z hz => by have := hlowz z hz; have := HSZ.out; omega, hwfin⟩
            have HPOST := Lib.hid hpost
            clear hpost hwfin hnew hk
            go_wp2
            exact bodyPost_ret (v := .tuple #[.agg (vcells zk zb zi zf zt zty zp zits.length zc zq zfs.length zd), .bool true]) (by simp [results, Tryd.results18, go_sem, r0, r1, r2, r3, r4, r5, r6, r7]) rfl HPOST.out
        · refine wpListC_plain rfl (fun K hK => ?_)
          go_step
          have hb3 : Below w0.heap.size w0 (w0.alloc (.cells cells0 27)).drew := ((Below.refl w0.heap.size w0).alloc (Nat.le_refl _) _).drew
          have hz : (w0.alloc (.cells cells0 27)).drew.heap[w0.heap.size]? = some (.cells cells0 27 (0, 0)) := heap_new w0 (.cells cells0 27)
          obtain ⟨w3, hW⟩ : ∃ w3, (w0.alloc (.cells cells0 27)).drew = w3 := ⟨_, rfl⟩
          rw [hW] at hb3 hz
          have e : (w0.alloc (.cells cells0 27)).drew = w3 := hW
          clear hW
          rw [e]
          clear e
          refine hK _ _ (cls_of_below hb3) ?_
          clear hK K
          refine wpListC_nil ?_
          have hbB := hb3
          refine wpListC_plain rfl (fun K hK => ?_)
          go_step
          refine (IH.out _ _ _ _ _ _ _ (HVU.out.on hbB) (HX.out.on hbB) (StepsAt.on HPR.out hbB) hl1 hc1 hmu hmx).mono ?_
          rintro e w2 ⟨cs2, xb', rfl, hown, hnod, hlow, hbc⟩
          have hb2w := hbB.trans (hbc.mono hbB.size)
          refine hK _ _ (cls_of_below hb2w) ?_
          clear hK K
          refine wpListC_nil ?_
          generalize hy : (setV u0 r (.mk xk xb xi xf xt xty xits xfs)).getD V0 = y at hown
          generalize hok : (setV u0 r (.mk xk xb xi xf xt xty xits xfs)).isSome = ok
          have HOK := hok
          clear hok
          obtain ⟨yk, yb, yi, yf, yt, yty, yits, yfs⟩ := y
          have HOWY := Lib.hid hown
          obtain ⟨yp, yc, yq, yd, _, _, rfl, _⟩ := hown
          iterate 3 (go_big_quiet_step (fail))
          refine wpQuiet_nil ?_
          have hs3 : w0.heap.size < w3.heap.size := (Array.getElem?_eq_some_iff.1 hz).1
          have hz2 : w2.heap[w0.heap.size]? = some (.cells cells0 27 (0, 0)) := by rw [hbc.block _ hs3]; exact hz
          have HZ := Lib.hid hz2
          have hb3w := hb2w
          have hHw : w0.heap.size ≤ w0.heap.size := Nat.le_refl _
          have hHx : w0.heap.size ∉ xb' := fun h => by have := (hlow _ h).1; omega
          have HOW3 := HOWY.out
          have hlow3 : ∀ z ∈ xb', w0.heap.size ≤ z ∧ z < w2.heap.size := fun z hz => by have := hlow z hz; omega
          clear hz hz2
          refine wpListC_plain rfl (fun K hK => ?_)
          refine wp_store_row (P := Tryd.prog) 27 (.tmp 12) (.tmp 65) rfl w0.heap.size (vcells yk yb yi yf yt yty yp yits.length yc yq yfs.length yd) rfl rfl 27 _ HZ.out (by kernel_rfl) rfl (vcells_one ..) ?_
          have hH4 : (w2.setRow w0.heap.size (vcells yk yb yi yf yt yty yp yits.length yc yq yfs.length yd)).heap[w0.heap.size]? = some (.cells (vcells yk yb yi yf yt yty yp yits.length yc yq yfs.length yd) 27 (0, 0)) := setRow_heap _ _ _ _ _ _ HZ.out
          have hb4 : Below w0.heap.size w0 (w2.setRow w0.heap.size (vcells yk yb yi yf yt yty yp yits.length yc yq yfs.length yd)) := below_setRow hb3w hHw _
          refine hK _ _ (cls_of_below hb4) ?_
          clear hK K
          refine wpListC_nil ?_
          have howy : OwnV (w2.setRow w0.heap.size (vcells yk yb yi yf yt yty yp yits.length yc yq yfs.length yd)) (.mk yk yb yi yf yt yty yits yfs) (vcells yk yb yi yf yt yty yp yits.length yc yq yfs.length yd) xb' := HOW3.kept (Kept.setRow (fun _ _ => rfl) hHx _)
          have hsz4 := setRow_size w2 w0.heap.size (vcells yk yb yi yf yt yty yp yits.length yc yq yfs.length yd)
          have hlow4 : ∀ z ∈ xb', w0.heap.size ≤ z ∧ z < (w2.setRow w0.heap.size (vcells yk yb yi yf yt yty yp yits.length yc yq yfs.length yd)).heap.size := fun z hz => by have := hlow3 z hz; omega
          have HH4 := Lib.hid hH4
          clear hH4
          generalize w2.setRow w0.heap.size (vcells yk yb yi yf yt yty yp yits.length yc yq yfs.length yd) = w4 at *
          refine wpList_plain rfl (fun K hK => ?_)
          go_step
          refine hK _ _ ?_
          clear hK K
          have h6 : w4.heap[w.heap.size + 1 + 1]? = some (.cells cells0 27 (0, 0)) := by
            rw [hb4.block _ (Array.getElem?_eq_some_iff.1 HB2.out).1]; exact HB2.out
          have H6 := Lib.hid h6
          clear h6
          cases hsv : setV u0 r (.mk xk xb xi xf xt xty xits xfs) with
          | none =>
            have HFIN : Hid (setV (.mk k b i f t ty its fs) (s0 :: r) (.mk xk xb xi xf xt xty xits xfs) = none) := by
              have := HSET.out; rw [hsv] at this; exact this
            rw [hsv] at HOK
            obtain rfl : ok = false := HOK.symm
            clear hsv howy HOK
            go_upto_region 15 with (fail)
            go_step
            refine wpList_plain rfl (fun K hK => ?_)
            go_step
            refine hK _ _ ?_
            clear hK K
            refine wpList_plain rfl (fun K hK => ?_)
            refine wp_store_row (P := Tryd.prog) 27 (.tmp 6) (.tmp 69) rfl (w.heap.size + 1 + 1) cells0 rfl rfl 27 _ H6.out (by kernel_rfl) rfl (vcells_one ..) ?_
            refine hK _ _ ?_
            clear hK K
            have hnew : (w4.setRow (w.heap.size + 1 + 1) cells0).heap[w.heap.size + 1 + 1]? = some (.cells cells0 27 (0, 0)) := setRow_heap _ _ _ _ _ _ H6.out
            have hwfin : Below w.heap.size w (w4.setRow (w.heap.size + 1 + 1) cells0) := below_setRow (hbw.trans (hb4.mono hbw.size)) (by omega) _
            generalize w4.setRow (w.heap.size + 1 + 1) cells0 = wz at *
            obtain ⟨r0, r1, r2, r3, r4, r5, r6, r7⟩ := (block_of_cells hnew).all0
            have hpost : GetPost (setV (.mk k b i f t ty its fs) (⟨snm, six, false⟩ :: r) (.mk xk xb xi xf xt xty xits xfs)) w (.returned (.tuple #[.agg cells0, .bool false])) wz := by
              rw [← hs0', HFIN.out]
              exact ⟨_, [], rfl, own0 _, List.nodup_nil, by simp, hwfin⟩
            have HPOST := Lib.hid hpost
            clear hpost hwfin hnew
            go_wp2
            exact bodyPost_ret (v := .tuple #[.agg cells0, .bool false]) (by simp [results, Tryd.results18, go_sem, r0, r1, r2, r3, r4, r5, r6, r7]) rfl HPOST.out
          | some y0 =>
            rw [hsv] at hy HOK
            obtain rfl : ok = true := HOK.symm
            obtain rfl : y0 = .mk yk yb yi yf yt yty yits yfs := hy
            have HFIN : Hid (setV (.mk k b i f t ty its fs) (s0 :: r) (.mk xk xb xi xf xt xty xits xfs) = some (putC (.mk k b i f t ty its fs) s0 (.mk yk yb yi yf yt yty yits yfs))) := by
              have := HSET.out; rw [hsv] at this; exact this
            clear hsv
            obtain ⟨ht, hgG, z, zcs, zbs, hset, hcz, hoz, hnz, hGz, hbz⟩ := Here.done (path := [s0]) HH.out hb4 howy hnod hlow4 hG0 (fun y hy => (HOB.out y hy).2)
            have hzz := HSET1.out (.mk yk yb yi yf yt yty yits yfs)
            rw [hset] at hzz
            obtain rfl : z = putC (.mk k b i f t ty its fs) s0 (.mk yk yb yi yf yt yty yits yfs) := by simpa using hzz
            have hgw : wa.heap.size ≤ gf := by rcases hgG with h | h; omega; exact (HOB.out _ h).1
            obtain ⟨e0, e1, e2, e3, e4, e5, e6, e7⟩ := ((block_of_cells HG.out).below hb4 hG0).all0
            obtain ⟨y0, y1, y2, y3, y4, y5, y6, y7⟩ := (block_of_cells HH4.out).all0
            have HT := Lib.hid ht
            have HOZ := Lib.hid hoz
            have HCZ := Lib.hid hcz
            have HBZ := Lib.hid hbz
            have HLOW := Lib.hid hlow4
            have hgl : gf < w4.heap.size := Nat.lt_of_lt_of_le hgu hb4.size
            have hGl : G < w4.heap.size := Nat.lt_of_lt_of_le hG0 hb4.size
            clear ht hoz hcz hbz hlow4 hset hzz howy hgG
            go_upto_region 16 with (fail)
            go_step
            iterate 6
              refine wpList_plain rfl (fun K hK => ?_)
              go_step
              refine hK _ _ ?_
              clear hK K
            refine wpList_plain rfl (fun K hK => ?_)
            refine wp_store_mid (P := Tryd.prog) 27 (.tmp 75) (.tmp 73) rfl gf (n * 9 + 1) (vcells yk yb yi yf yt yty yp yits.length yc yq yfs.length yd) rfl rfl HT.out (by kernel_rfl) (vcells_one ..) ?_
            refine hK _ _ ?_
            clear hK K
            have h2' : (w4.setCells gf (n * 9 + 1) (vcells yk yb yi yf yt yty yp yits.length yc yq yfs.length yd).toList).heap[w.heap.size + 1 + 1]? = some (.cells cells0 27 (0, 0)) := by
              rw [heap_setCells_other gf (by have := HSZ.out; omega)]; exact H6.out
            have hbz : Below wa.heap.size wa (w4.setCells gf (n * 9 + 1) (vcells yk yb yi yf yt yty yp yits.length yc yq yfs.length yd).toList) := below_setCells (hba0.trans (hb4.mono hba0.size)) hgw _ _
            have hszz := size_setCells gf (vcells yk yb yi yf yt yty yp yits.length yc yq yfs.length yd).toList (n * 9 + 1) w4
            have HCZ := Lib.hid HCZ.out
            have HOZ := Lib.hid HOZ.out
            clear y0 y1 y2 y3 y4 y5 y6 y7 e0 e1 e2 e3 e4 e5 e6 e7
            generalize w4.setCells gf (n * 9 + 1) (vcells yk yb yi yf yt yty yp yits.length yc yq yfs.length yd).toList = w5 at *
            generalize putC (.mk k b i f t ty its fs) s0 (.mk yk yb yi yf yt yty yits yfs) = z at *
            obtain ⟨zk, zb, zi, zf, zt, zty, zits, zfs⟩ := z
            have hoz := HOZ.out
            obtain ⟨zp, zc, zq, zd, b3, b4, rfl, _⟩ := hoz
            obtain ⟨y0, y1, y2, y3, y4, y5, y6, y7⟩ := HCZ.out.all0
            have H7 := Lib.hid h2'
            have hG5 : G < w5.heap.size := by omega
            clear h2'
            go_upto_region 17 with (fail)
            go_step
            refine wpList_plain rfl (fun K hK => ?_)
            go_step
            refine hK _ _ ?_
            clear hK K
            refine wpList_plain rfl (fun K hK => ?_)
            refine wp_store_row (P := Tryd.prog) 27 (.tmp 6) (.tmp 76) rfl (w.heap.size + 1 + 1) (vcells zk zb zi zf zt zty zp zits.length zc zq zfs.length zd) rfl rfl 27 _ H7.out (by kernel_rfl) rfl (vcells_one ..) ?_
            refine hK _ _ ?_
            clear hK K
            have hnew : (w5.setRow (w.heap.size + 1 + 1) (vcells zk zb zi zf zt zty zp zits.length zc zq zfs.length zd)).heap[w.heap.size + 1 + 1]? = some (.cells (vcells zk zb zi zf zt zty zp zits.length zc zq zfs.length zd) 27 (0, 0)) := setRow_heap _ _ _ _ _ _ H7.out
            have hwfin : Below w.heap.size w (w5.setRow (w.heap.size + 1 + 1) (vcells zk zb zi zf zt zty zp zits.length zc zq zfs.length zd)) := below_setRow (hwa.trans (hbz.mono hwa.size)) (by omega) _
            have hlowz : ∀ z ∈ zbs, wa.heap.size ≤ z ∧ z < w5.heap.size := fun z hz => by
              have h1 := hba0.size
              have h2 := hb4.size
              rcases HBZ.out z hz with (rfl | h) | h
              · omega
              · have := HOB.out z h; omega
              · have := HLOW.out z h; omega
            have hk : Kept zbs w5 (w5.setRow (w.heap.size + 1 + 1) (vcells zk zb zi zf zt zty zp zits.length zc zq zfs.length zd)) := Kept.setRow (fun _ _ => rfl) (fun h => by have := hlowz _ h; have := HSZ.out; omega) _
            have hszy := setRow_size w5 (w.heap.size + 1 + 1) (vcells zk zb zi zf zt zty zp zits.length zc zq zfs.length zd)
            generalize w5.setRow (w.heap.size + 1 + 1) (vcells zk zb zi zf zt zty zp zits.length zc zq zfs.length zd) = wz at *
            obtain ⟨r0, r1, r2, r3, r4, r5, r6, r7⟩ := (block_of_cells hnew).all0
            have hpost : GetPost (setV (.mk k b i f t ty its fs) (⟨snm, six, false⟩ :: r) (.mk xk xb xi xf xt xty xits xfs)) w (.returned (.tuple #[.agg (vcells zk zb zi zf zt zty zp zits.length zc zq zfs.length zd), .bool true])) wz := by
              rw [← hs0', HFIN.out]
              exact ⟨_, zbs, rfl, HOZ.out.kept hk, hnz, fun z hz => by have := hlowz z hz; have := HSZ.out; omega, hwfin⟩
            have HPOST := Lib.hid hpost
            clear hpost hwfin hnew hk
            go_wp2
            exact bodyPost_ret (v := .tuple #[.agg (vcells zk zb zi zf zt zty zp zits.length zc zq zfs.length zd), .bool true]) (by simp [results, Tryd.results18, go_sem, r0, r1, r2, r3, r4, r5, r6, r7]) rfl HPOST.out
end Go.Proofs.YtnmnmkdmnohbmaaDoor
