/- Helper text: what stands at a path: the value, and Get of the program. Conditions: none. -/
import Derived.Test.YtnmnmkdmnohbmaaDoorSpot
import Derived.Test.YtnmnmkdmnohbmaaDoorWhole
import Derived.Test.YtnmnmkdmnohbmaaDoorCopy
namespace Go.Proofs.YtnmnmkdmnohbmaaDoor
open Go.RowKit
attribute [local go_sem] run_store_float St.cells

/-- What stands at a path. -/
def getV : V → List St → Option V
  | v, [] => some v
  | v, s :: r => (child v s).bind (getV · r)

/-- The value of nothing. -/
def V0 : V := .mk 0 false 0 0 ⟨#[]⟩ ⟨#[]⟩ [] []
@[reducible] def cells0 : Array Value := vcells 0 false 0 0 ⟨#[]⟩ ⟨#[]⟩ none 0 0 none 0 0

theorem own0 (w : World) : OwnV w V0 cells0 [] := ⟨none, 0, none, 0, [], [], rfl, rfl, by simp [lenMax], by simp [lenMax], .inl ⟨rfl, rfl, rfl, rfl⟩, .inl ⟨rfl, rfl, rfl, rfl⟩⟩

/-- What Get and Set answer: a value in blocks of its own, and whether. -/
def GetPost (r : Option V) (w : World) (e : Ending) (w' : World) : Prop :=
  ∃ cs bs, e = .returned (.tuple #[.agg cs, .bool r.isSome]) ∧ OwnV w' (r.getD V0) cs bs ∧ bs.Nodup ∧ (∀ x ∈ bs, w.heap.size ≤ x ∧ x < w'.heap.size) ∧ Below w.heap.size w w'

theorem childIx_lt {v : V} {s : St} {n : Nat} (h : childIx v s = some n) : if s.it then n < v.its.length else n < v.fs.length := by
  unfold childIx at h
  by_cases hi : s.it = true
  · rw [if_pos hi] at h ⊢
    split at h
    · rename_i hc
      have : s.ix.toNat = n := by simpa using h
      omega
    · cases h
  · rw [if_neg hi] at h ⊢
    split at h
    · exact (List.findIdx?_eq_some_iff_getElem.1 h).1
    · cases h

theorem spot_none {p q : Option Addr} {v : V} {s : St} (h : child v s = none) : spotA p q v s = none := by
  unfold child at h
  unfold spotA
  cases hc : childIx v s with
  | none => rfl
  | some n =>
    exfalso
    have := childIx_lt hc
    rw [hc] at h
    by_cases hi : s.it = true
    · rw [if_pos hi] at this
      simp [hi, this] at h
    · rw [if_neg hi] at this
      simp [hi, this] at h

theorem spot_some {B : Nat} {w : World} {k : Int} {b : Bool} {i : Int} {f : Nat} {t ty : ByteArray} {its : List V} {fs : List (ByteArray × V)} {p q : Option Addr} {c d : Nat} {s : St} {u : V}
    (hv : IsV B w (.mk k b i f t ty its fs) (vcells k b i f t ty p its.length c q fs.length d)) (h : child (.mk k b i f t ty its fs) s = some u) :
    ∃ g o cs, spotA p q (.mk k b i f t ty its fs) s = some ⟨g, o, none⟩ ∧ g < B ∧ CellsAt w g o cs ∧ IsV B w u cs := by
  obtain ⟨p', c', q', d', he, hi, hf, l1, l2⟩ := hv
  obtain ⟨⟨rfl, rfl⟩, rfl, rfl⟩ : (p = p' ∧ c = c') ∧ q = q' ∧ d = d' := by simpa [vcells] using he
  unfold child at h
  unfold spotA
  cases hc : childIx (.mk k b i f t ty its fs) s with
  | none => rw [hc] at h; cases h
  | some n =>
    rw [hc] at h
    by_cases hit : s.it = true
    · simp only [Option.bind_some, hit, if_true, V.its] at h ⊢
      rcases hi with hi | ⟨g, o, rfl, hg, hvs⟩
      · subst hi; simp at h
      · obtain ⟨cs, h1, h2⟩ := hvs.get h
        exact ⟨g, o + n * 8, cs, rfl, hg, h1, h2⟩
    · simp only [Option.bind_some, hit, Bool.false_eq_true, if_false, V.fs] at h ⊢
      rcases hf with hf | ⟨g, o, rfl, hg, hvs⟩
      · subst hf; simp at h
      · obtain ⟨x, hx, rfl⟩ : ∃ x, fs[n]? = some x ∧ x.2 = u := by simpa using h
        obtain ⟨_, cs, h1, h2⟩ := hvs.get hx
        exact ⟨g, o + (n * 9 + 1), cs, rfl, hg, by rw [← Nat.add_assoc]; exact h1, h2⟩

theorem child_size {v : V} {s : St} {u : V} (h : child v s = some u) : szV u < szV v ∧ (okV v → okV u) := by
  obtain ⟨k, b, i, f, t, ty, its, fs⟩ := v
  unfold child at h
  cases hc : childIx (.mk k b i f t ty its fs) s with
  | none => rw [hc] at h; cases h
  | some n =>
    rw [hc] at h
    by_cases hit : s.it = true
    · simp only [Option.bind_some, hit, if_true, V.its] at h
      have := szVs_get h
      exact ⟨by simp only [szV]; omega, fun hk => hk.2.1.get h⟩
    · simp only [Option.bind_some, hit, Bool.false_eq_true, if_false, V.fs] at h
      obtain ⟨x, hx, rfl⟩ : ∃ x, fs[n]? = some x ∧ x.2 = u := by simpa using h
      have := szFs_get hx
      exact ⟨by simp only [szV]; omega, fun hk => hk.2.2.get hx⟩

theorem getV_size : ∀ {l : List St} {v u : V}, getV v l = some u → szV u ≤ szV v ∧ (okV v → okV u)
  | [], v, u, h => by obtain rfl : v = u := by simpa [getV] using h
                      exact ⟨Nat.le_refl _, id⟩
  | s :: r, v, u, h => by
    unfold getV at h
    cases hc : child v s with
    | none => rw [hc] at h; cases h
    | some x =>
      rw [hc] at h
      have h1 := child_size hc
      have h2 := getV_size (l := r) h
      exact ⟨by omega, fun hk => h2.2 (h1.2 hk)⟩

set_option maxRecDepth 100000 in
set_option maxHeartbeats 1000000 in
theorem Get_any (v : V) (path : List St) (cs : Array Value) (pp : Option Addr) (cap : Nat) (w : World) (hv : IsV w.heap.size w v cs) (hp : StepsAt w.heap.size w pp path) (hl : path.length ≤ maxLen) (hm : szV v ≤ 1000000) :
    Calls Tryd.prog 20 #[.agg cs, .slice pp path.length cap] w (GetPost (getV v path) w) := by
  unfold maxLen at hl
  have HV0 := Lib.hid hv
  obtain ⟨k, b, i, f, t, ty, its, fs⟩ := v
  obtain ⟨p, c, q, d, rfl, _, _, l1, l2⟩ := hv
  unfold lenMax at l1 l2
  have HP := Lib.hid hp
  clear hp
  go_enter Tryd.func20, Tryd.ntmps20
  go_wp2_with fail
  obtain ⟨wa, hW⟩ : ∃ wa, (w.alloc (.cells (vcells k b i f t ty p its.length c q fs.length d) 27)).alloc (.cells cells0 27) = wa := ⟨_, rfl⟩
  have hwa : Below w.heap.size w wa := by rw [← hW]; exact ((Below.refl _ _).alloc (Nat.le_refl _) _).alloc (by simp) _
  have hsz : wa.heap.size = w.heap.size + 1 + 1 := by rw [← hW]; simp
  have hal : CellsAt wa w.heap.size 0 (vcells k b i f t ty p its.length c q fs.length d) := by
    rw [← hW]; exact (cells_two w _ _ _ _).1 _ (Below.refl _ _)
  have h1 : wa.heap[w.heap.size + 1]? = some (.cells cells0 27 (0, 0)) := by
    rw [← hW]; have := heap_new (w.alloc (.cells (vcells k b i f t ty p its.length c q fs.length d) 27)) (.cells cells0 27); rwa [World.size_alloc] at this
  have e : (w.alloc (.cells (vcells k b i f t ty p its.length c q fs.length d) 27)).alloc (.cells cells0 27) = wa := hW
  clear hW
  rw [e]
  clear e
  have HSZ := Lib.hid hsz
  have H1 := Lib.hid h1
  have HVA := Lib.hid (HV0.out.on hwa)
  clear hsz h1
  go_loopw [6, 11] (fun pv ii wr => ∃ j : Nat, j ≤ path.length ∧ ii = .int .i64 j ∧ ∃ g o u ucs, pv = .pointer (some ⟨g, o, none⟩) ∧ CellsAt wr g o ucs ∧ g < wr.heap.size ∧ IsV wr.heap.size wr u ucs ∧
      Hid (getV u (path.drop j) = getV (.mk k b i f t ty its fs) path) ∧ szV u ≤ 1000000 ∧ Below wa.heap.size wa wr) (fun _ ii _ => path.length - (intOf ii).toNat)
  case atStart => exact ⟨0, by omega, rfl, _, _, _, _, rfl, hal, by have := HSZ.out; omega, HVA.out, rfl, hm, Below.refl _ _⟩
  case round =>
    obtain ⟨j, hj, rfl, g, o, u, ucs, rfl, hcu, hgu, hvu, hget, hmu, hbel⟩ := hrel
    have hbw := hwa.trans (hbel.mono hwa.size)
    obtain ⟨uk, ub, ui, uf, ut, uty, uits, ufs⟩ := u
    have HVU := Lib.hid hvu
    obtain ⟨up, uc, uq, ud, rfl, _, _, _, _⟩ := hvu
    by_cases h3 : j < path.length
    · obtain ⟨s, hs⟩ : ∃ s, path[j]? = some s := ⟨path[j], by simp [h3]⟩
      have hp := HP.out
      rcases hp with hp | ⟨gp, op, rfl, hgp, hcp⟩
      · subst hp; simp at h3
      obtain ⟨a1, a2, a3⟩ := hcp j s hs
      have a1 := (hbw.cell (p := ⟨gp, _, none⟩) hgp).trans a1
      have a2 := (hbw.cell (p := ⟨gp, _, none⟩) hgp).trans a2
      have a3 := (hbw.cell (p := ⟨gp, _, none⟩) hgp).trans a3
      have hgr : gp < wr.heap.size := Nat.lt_of_lt_of_le hgp hbw.size
      have hdrop : getV (.mk uk ub ui uf ut uty uits ufs) (path.drop j) = (child (.mk uk ub ui uf ut uty uits ufs) s).bind (getV · (path.drop (j + 1))) := by
        rw [drop_some hs, getV]
      have HD := Lib.hid hdrop
      clear hcp hs hdrop
      go_upto_region 5 with (fail)
      have hb1 : Below wr.heap.size wr (wr.alloc (.cells #[.string s.nm, .int .i64 s.ix, .bool s.it] 34)) := (Below.refl _ _).alloc (Nat.le_refl _) _
      have hst := cellsAt_alloc wr #[.string s.nm, .int .i64 s.ix, .bool s.it] 34 (0, 0)
      have hsz1 : wr.heap.size < (wr.alloc (.cells #[.string s.nm, .int .i64 s.ix, .bool s.it] 34)).heap.size := by simp
      generalize wr.alloc (.cells #[.string s.nm, .int .i64 s.ix, .bool s.it] 34) = W1 at *
      have s0 : W1.cell? ⟨wr.heap.size, 0, none⟩ = some (.string s.nm) := hst 0 _ rfl
      have s1 : W1.cell? ⟨wr.heap.size, 1, none⟩ = some (.int .i64 s.ix) := hst 1 _ rfl
      have s2 : W1.cell? ⟨wr.heap.size, 2, none⟩ = some (.bool s.it) := hst 2 _ rfl
      have hg1 : g < W1.heap.size := by omega
      have hcall := spot_any uk ub ui uf ut uty uits ufs up uq uc ud s g o W1 (hcu.below hb1 hgu) hg1 (HVU.out.on hb1)
      have hwf : ∀ w2, Below W1.heap.size W1 w2 → Below wa.heap.size wa w2 := fun w2 h => hbel.trans ((hb1.trans (h.mono hb1.size)).mono hbel.size)
      cases hch : child (.mk uk ub ui uf ut uty uits ufs) s with
      | none =>
        rw [spot_none hch] at hcall
        have hfin : getV (.mk k b i f t ty its fs) path = none := by rw [← hget.out, HD.out, hch]; rfl
        have HFIN := Lib.hid hfin
        have HCALL := Lib.hid hcall
        clear hcall hfin hch hst hcu a1 a2 a3
        go_upto_region 7 with (go_at_call 57; refine HCALL.out.mono ?_; rintro e w2 ⟨rfl, hb2⟩)
        have hw2 := hwf _ hb2
        have h1' : w2.heap[w.heap.size + 1]? = some (.cells cells0 27 (0, 0)) := by
          rw [hw2.block _ (by have := HSZ.out; omega)]; exact H1.out
        have H1' := Lib.hid h1'
        clear h1'
        go_step
        refine wpList_plain rfl (fun K hK => ?_)
        go_step
        refine hK _ _ ?_
        clear hK K
        refine wpList_plain rfl (fun K hK => ?_)
        refine wp_store_row (P := Tryd.prog) 27 (.tmp 4) (.tmp 20) rfl (w.heap.size + 1) cells0 rfl rfl 27 _ H1'.out (by kernel_rfl) rfl (vcells_one ..) ?_
        refine hK _ _ ?_
        clear hK K
        have hnew : (w2.setRow (w.heap.size + 1) cells0).heap[w.heap.size + 1]? = some (.cells cells0 27 (0, 0)) := setRow_heap _ _ _ _ _ _ H1'.out
        have hwfin : Below w.heap.size w (w2.setRow (w.heap.size + 1) cells0) := below_setRow (hwa.trans (hw2.mono hwa.size)) (by omega) _
        generalize w2.setRow (w.heap.size + 1) cells0 = wz at *
        obtain ⟨r0, r1, r2, r3, r4, r5, r6, r7⟩ := (show CellsAt wz (w.heap.size + 1) 0 cells0 by intro m x hx; rw [Nat.zero_add]; simp only [World.cell?, hnew]; exact hx).all0
        have hpost : GetPost (getV (.mk k b i f t ty its fs) path) w (.returned (.tuple #[.agg cells0, .bool false])) wz := by
          rw [HFIN.out]
          exact ⟨_, [], rfl, own0 _, List.nodup_nil, by simp, hwfin⟩
        have HPOST := Lib.hid hpost
        clear hpost hwfin hnew
        go_wp2
        exact bodyPost_ret (v := .tuple #[.agg cells0, .bool false]) (by simp [results, Tryd.results20, go_sem, r0, r1, r2, r3, r4, r5, r6, r7]) rfl HPOST.out
      | some x =>
        obtain ⟨g', o', ccs, ha, hg', hcc, hvc⟩ := spot_some (HVU.out.on hb1) hch
        rw [ha] at hcall
        have hx := child_size hch
        have hd : getV x (path.drop (j + 1)) = getV (.mk k b i f t ty its fs) path := by rw [← hget.out, HD.out, hch]; rfl
        have HCALL := Lib.hid hcall
        have HX := Lib.hid hd
        clear hcall hch hst hcu a1 a2 a3 ha hd
        go_wp2_with (go_at_call 57; refine HCALL.out.mono ?_; rintro e w2 ⟨rfl, hb2⟩)
        go_roundw
        case rel => exact ⟨j + 1, by omega, by go_num, _, _, _, _, rfl, hcc.below hb2 hg', Nat.lt_of_lt_of_le hg' hb2.size, hvc.on hb2, HX, by omega, hwf _ hb2⟩
        case measure => simp [intOf]; omega
    · have hfin : getV (.mk k b i f t ty its fs) path = some (.mk uk ub ui uf ut uty uits ufs) := by
        rw [← hget.out, List.drop_of_length_le (by omega)]; rfl
      have HFIN := Lib.hid hfin
      have h1' : wr.heap[w.heap.size + 1]? = some (.cells cells0 27 (0, 0)) := by
        rw [hbel.block _ (by have := HSZ.out; omega)]; exact H1.out
      have H1' := Lib.hid h1'
      obtain ⟨e0, e1, e2, e3, e4, e5, e6, e7⟩ := hcu.all
      clear h1' hfin hal
      go_upto_region 9 with (fail)
      go_step
      iterate 3
        refine wpList_plain rfl (fun K hK => ?_)
        go_step
        refine hK _ _ ?_
        clear hK K
      refine wpList_plain rfl (fun K hK => ?_)
      go_step
      refine (Copy_any _ _ (Nat.le_refl _) _ _ HVU.out hmu).mono ?_
      rintro e w1 ⟨cs', b', rfl, hown, hnod, hlow, hbc⟩
      refine hK _ _ ?_
      clear hK K
      have HOWN := Lib.hid hown
      obtain ⟨p', c', q', d', bI, bF, rfl, _⟩ := hown
      have h1' : w1.heap[w.heap.size + 1]? = some (.cells cells0 27 (0, 0)) := by
        rw [hbc.block _ (Array.getElem?_eq_some_iff.1 H1'.out).1]; exact H1'.out
      have hw1 : w.heap.size + 1 < wr.heap.size := (Array.getElem?_eq_some_iff.1 H1'.out).1
      have H1'' := Lib.hid h1'
      clear h1'
      refine wpList_plain rfl (fun K hK => ?_)
      refine wp_store_row (P := Tryd.prog) 27 (.tmp 4) (.tmp 25) rfl (w.heap.size + 1) (vcells uk ub ui uf ut uty p' uits.length c' q' ufs.length d') rfl rfl 27 _ H1''.out (by kernel_rfl) rfl (vcells_one ..) ?_
      refine hK _ _ ?_
      clear hK K
      have hnew : (w1.setRow (w.heap.size + 1) (vcells uk ub ui uf ut uty p' uits.length c' q' ufs.length d')).heap[w.heap.size + 1]? = some (.cells (vcells uk ub ui uf ut uty p' uits.length c' q' ufs.length d') 27 (0, 0)) := setRow_heap _ _ _ _ _ _ H1''.out
      have hwfin : Below w.heap.size w (w1.setRow (w.heap.size + 1) (vcells uk ub ui uf ut uty p' uits.length c' q' ufs.length d')) := below_setRow (hbw.trans (hbc.mono hbw.size)) (by omega) _
      have hk1 : Kept b' w1 (w1.setRow (w.heap.size + 1) (vcells uk ub ui uf ut uty p' uits.length c' q' ufs.length d')) := Kept.setRow (fun _ _ => rfl) (fun h => by have := (hlow _ h).1; omega) _
      have hszz := setRow_size w1 (w.heap.size + 1) (vcells uk ub ui uf ut uty p' uits.length c' q' ufs.length d')
      generalize w1.setRow (w.heap.size + 1) (vcells uk ub ui uf ut uty p' uits.length c' q' ufs.length d') = wz at *
      obtain ⟨r0, r1, r2, r3, r4, r5, r6, r7⟩ := (show CellsAt wz (w.heap.size + 1) 0 (vcells uk ub ui uf ut uty p' uits.length c' q' ufs.length d') by intro m x hx; rw [Nat.zero_add]; simp only [World.cell?, hnew]; exact hx).all0
      have hpost : GetPost (getV (.mk k b i f t ty its fs) path) w (.returned (.tuple #[.agg (vcells uk ub ui uf ut uty p' uits.length c' q' ufs.length d'), .bool true])) wz := by
        rw [HFIN.out]
        exact ⟨_, b', rfl, HOWN.out.kept hk1, hnod, fun y hy => by have := hlow y hy; have := hbw.size; omega, hwfin⟩
      have HPOST := Lib.hid hpost
      clear hpost hwfin hnew hk1
      go_wp2
      exact bodyPost_ret (v := .tuple #[.agg (vcells uk ub ui uf ut uty p' uits.length c' q' ufs.length d'), .bool true]) (by simp [results, Tryd.results20, go_sem, r0, r1, r2, r3, r4, r5, r6, r7]) rfl HPOST.out
end Go.Proofs.YtnmnmkdmnohbmaaDoor
