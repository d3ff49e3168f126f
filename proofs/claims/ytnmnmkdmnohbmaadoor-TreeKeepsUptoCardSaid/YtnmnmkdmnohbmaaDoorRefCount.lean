/- Helper text: the walks over Count and Depth of the reference. Conditions: none. -/
import Derived.Test.YtnmnmkdmnohbmaaDoorRefKids
import Derived.Test.YtnmnmkdmnohbmaaDoorDepth
namespace Go.Proofs.YtnmnmkdmnohbmaaDoor
open Go Go.RowKit
attribute [local go_sem] run_store_float

theorem rows_open {B n₀ : Nat} {w w0 : World} {sv vv : Value} {kids : List (St × V)} {css : List (Array Value)} (h : RowsAt B w sv vv kids css) (hf : Fit8 n₀ w0 kids css) :
    (∃ A cap, sv = .slice A kids.length cap) ∧ ∃ A cap, vv = .slice A kids.length cap ∧ (kids = [] ∨ ∃ g, A = some ⟨g, 0, none⟩ ∧ g < w.heap.size ∧ ∀ (j : Nat) cs, css[j]? = some cs → CellsAt w g (j * 8) cs) := by
  obtain ⟨h1, h2, _⟩ := h
  constructor
  · rcases h1.2 with ⟨rfl, h0⟩ | ⟨g, cap, cur, rfl, _⟩
    · exact ⟨none, 0, by rw [h0]⟩
    · exact ⟨_, cap, rfl⟩
  · rcases h2.2 with ⟨rfl, h0⟩ | ⟨g, cap, cur, rfl, _, hh, _, _, _, ht⟩
    · exact ⟨none, 0, by rw [h0], .inl (List.length_eq_zero_iff.1 h0)⟩
    · refine ⟨_, cap, rfl, .inr ⟨g, rfl, (Array.getElem?_eq_some_iff.1 hh).1, fun j cs hcs m x hx => ?_⟩⟩
      have := row_at ht (j * 8 + m) x (hf.at hcs m x hx)
      rw [Nat.zero_add] at this
      simp only [World.cell?, hh]
      exact this

set_option maxRecDepth 100000 in
set_option maxHeartbeats 2000000 in
theorem refCount_any : ∀ (N : Nat) (v : V), szV v ≤ N → ∀ (cs : Array Value) (w : World), IsV w.heap.size w v cs → szV v ≤ 1000000000 →
    Calls Tryd.prog 44 #[.agg cs] w (RetB (.int .i64 (cntV v)) w) := by
  intro N
  induction N with
  | zero => intro v hv; have := szV_pos v; omega
  | succ N ih =>
    intro v hN cs w hv hm
    have IH := Lib.hid ih
    have HN := Lib.hid hN
    have KC0 := fun wx (h : Below w.heap.size w wx) => refChildren_any v cs wx (hv.on h) hm
    unfold ChildPost at KC0
    have KC := Lib.hid KC0
    clear KC0
    have hcl := cntV_le v
    have hsum : 1 + ((kidsV v).map (fun x => cntV x.2)).sum = cntV v := by
      obtain ⟨k, b, i, f, t, ty, its, fs⟩ := v
      rw [cntV]
      simp only [kidsV]
      split
      · rw [itemKids_sum]
      · split
        · rw [fieldKids_sum]
        · rfl
    have hkid : ∀ (j : Nat) x, (kidsV v)[j]? = some x → szV x.2 + 1 ≤ szV v := fun j x hx => isKid_size (s := x.1) (List.mem_of_getElem? hx)
    have HKID := Lib.hid hkid
    generalize kidsV v = kids at *
    have hs8 := vcells8 hv
    have HV := Lib.hid hv
    clear ih hN hkid
    obtain ⟨k, b, i, f, t, ty, its, fs⟩ := v
    obtain ⟨p, c, q, d, rfl, _, _, _, _⟩ := hv
    generalize cntV (V.mk k b i f t ty its fs) = R at *
    clear HV
    have hwa : Below w.heap.size w (w.alloc (.cells (vcells k b i f t ty p its.length c q fs.length d) 27)) := (Below.refl _ _).alloc (Nat.le_refl _) _
    go_enter Tryd.func44, Tryd.ntmps44
    go_wp2_with (go_at_call 88; refine (KC.out _ hwa).mono ?_; rintro e w1 ⟨sv, vv, css, rfl, hrows, hfit, hb1⟩; obtain ⟨⟨As, caps, rfl⟩, A, cap, rfl, hA⟩ := rows_open hrows hfit)
    generalize (w.alloc (.cells (vcells k b i f t ty p its.length c q fs.length d) 27)) = wb at *
    have HB1 := Lib.hid hb1
    have HA := Lib.hid hA
    have HFIT := Lib.hid hfit
    have HWB := Lib.hid hwa
    clear hrows hA hfit hb1 hwa
    have HSUM := Lib.hid hsum
    clear hsum
    have hln : kids.length ≤ 1000000000 := by
      have h1 : ∀ l : List (St × V), l.length ≤ (l.map (fun x => cntV x.2)).sum := by
        intro l
        induction l with
        | nil => simp
        | cons x r ih =>
          have : 1 ≤ cntV x.2 := by obtain ⟨y1, y2⟩ := x; obtain ⟨k, b, i, f, t, ty, its, fs⟩ := y2; rw [cntV]; omega
          simp only [List.length_cons, List.map_cons, List.sum_cons]
          omega
      have := h1 kids
      have := HSUM.out
      omega
    go_loopw [3, 6] (fun n ii wr => ∃ j : Nat, j ≤ kids.length ∧ ii = .int .i64 j ∧ ∃ s : Nat, n = .int .i64 s ∧ s ≤ R ∧ Hid (s + ((kids.drop j).map (fun x => cntV x.2)).sum = R) ∧ Below w1.heap.size w1 wr) (fun _ ii _ => kids.length - (intOf ii).toNat)
    case atStart => exact ⟨0, by omega, rfl, 1, rfl, by have := HSUM.out; omega, HSUM, Below.refl _ _⟩
    case round =>
      obtain ⟨j, hj, rfl, s, rfl, hsR, hs, hbel⟩ := hrel
      by_cases h1 : j < kids.length
      · obtain ⟨x, hx⟩ : ∃ x, kids[j]? = some x := ⟨kids[j], by simp [h1]⟩
        obtain ⟨csx, hcs, hvx⟩ := HFIT.out.get hx
        rcases HA.out with h0 | ⟨g, rfl, hg, hcells⟩
        · subst h0; simp at h1
        have hcx := (hcells j csx hcs).below hbel hg
        have hbw := HB1.out.trans (hbel.mono HB1.out.size)
        have hvx := hvx.on hbw
        have hgr : g < wr.heap.size := Nat.lt_of_lt_of_le hg hbel.size
        have hxN := HKID.out j x hx
        have hxs : szV x.2 ≤ N ∧ szV x.2 ≤ 1000000000 := by have := HN.out; omega
        have hC := IH.out x.2 hxs.1 csx wr hvx hxs.2
        have hs1 := hs.out
        rw [drop_some hx, List.map_cons, List.sum_cons] at hs1
        obtain ⟨xs, xk, xb, xi, xf, xt, xty, xits, xfs⟩ := x
        obtain ⟨xp, xc, xq, xd, rfl, _, _, _, _⟩ := hvx
        obtain ⟨c0, c1, c2, c3, c4, c5, c6, c7⟩ := hcx.all
        try dsimp only at hs1
        generalize cntV (V.mk xk xb xi xf xt xty xits xfs) = cn at *
        have HC := Lib.hid hC
        have HS1 := Lib.hid hs1
        have hcn : s + cn ≤ R := by omega
        clear hC hs1 hcx hcells hx hs hxN hcs
        go_wp2_with (go_at_call 44; refine HC.out.mono ?_; rintro e w2 ⟨rfl, hb2⟩)
        go_roundw
        case rel => exact ⟨j + 1, by omega, by go_num, s + cn, by go_num, by omega, Lib.hid (by have := HS1.out; omega), hbel.trans (hb2.mono hbel.size)⟩
        case measure => simp [intOf]; omega
      · have hfin : s = R := by
          have := hs.out
          rw [List.drop_of_length_le (by omega)] at this
          simpa using this
        subst hfin
        go_wp2_with fail
        go_ret
        exact ⟨rfl, HWB.out.trans ((HB1.out.trans (hbel.mono HB1.out.size)).mono HWB.out.size)⟩

set_option maxRecDepth 100000 in
set_option maxHeartbeats 2000000 in
theorem refDepth_any : ∀ (N : Nat) (v : V), szV v ≤ N → ∀ (cs : Array Value) (w : World), IsV w.heap.size w v cs → szV v ≤ 1000000000 →
    Calls Tryd.prog 46 #[.agg cs] w (RetB (.int .i64 (depV v)) w) := by
  intro N
  induction N with
  | zero => intro v hv; have := szV_pos v; omega
  | succ N ih =>
    intro v hN cs w hv hm
    have IH := Lib.hid ih
    have HN := Lib.hid hN
    have KC0 := fun wx (h : Below w.heap.size w wx) => refChildren_any v cs wx (hv.on h) hm
    unfold ChildPost at KC0
    have KC := Lib.hid KC0
    clear KC0
    have hdl := depV_le v
    have hkid : ∀ (j : Nat) x, (kidsV v)[j]? = some x → szV x.2 + 1 ≤ szV v := fun j x hx => isKid_size (s := x.1) (List.mem_of_getElem? hx)
    have HKID := Lib.hid hkid
    have hcnt : (kidsV v).length ≤ szV v := by
      obtain ⟨k, b, i, f, t, ty, its, fs⟩ := v
      simp only [kidsV, szV]
      split
      · rw [itemKids_length]; omega
      · split
        · simp only [fieldKids, List.length_map]; omega
        · simp
    obtain ⟨k, b, i, f, t, ty, its, fs⟩ := v
    have hmax : (kd k = 5 ∨ kd k = 6) → ((kidsV (.mk k b i f t ty its fs)).foldl (fun s x => max s (depV x.2)) 0) + 1 = depV (.mk k b i f t ty its fs) := by
      rintro (h | h)
      · have e : kidsV (.mk k b i f t ty its fs) = itemKids its 0 := by simp only [kidsV, if_pos h]
        rw [e, itemKids_max, depV, if_pos h]; omega
      · have h5 : ¬ kd k = 5 := by omega
        have e : kidsV (.mk k b i f t ty its fs) = fieldKids fs := by simp only [kidsV, if_neg h5, if_pos h]
        rw [e, fieldKids_max, depV, if_neg h5, if_pos h]; omega
    have hz : ¬ (kd k = 5 ∨ kd k = 6) → depV (.mk k b i f t ty its fs) = 0 := by
      intro h
      rw [depV, if_neg (by omega), if_neg (by omega)]
    have hln : (kidsV (.mk k b i f t ty its fs)).length ≤ 1000000000 := by omega
    have HM := Lib.hid hmax
    have HZ := Lib.hid hz
    clear ih hN hkid hmax hz hcnt
    generalize kidsV (V.mk k b i f t ty its fs) = kids at *
    obtain ⟨p, c, q, d, rfl, _, _, _, _⟩ := hv
    have hR : depV (V.mk k b i f t ty its fs) ≤ 1000000000 := by omega
    generalize depV (V.mk k b i f t ty its fs) = R at *
    have K1 := refkind_any k b i f t ty p its.length c q fs.length d
    generalize kd k = κ at *
    have hal := cellsAt_alloc w (vcells k b i f t ty p its.length c q fs.length d) 27 (0, 0)
    have hwa : Below w.heap.size w (w.alloc (.cells (vcells k b i f t ty p its.length c q fs.length d) 27)) := (Below.refl _ _).alloc (Nat.le_refl _) _
    have hs0 : w.heap.size < (w.alloc (.cells (vcells k b i f t ty p its.length c q fs.length d) 27)).heap.size := by simp
    by_cases h56 : κ = 5 ∨ κ = 6
    · have hmx := HM.out h56
      have HMX := Lib.hid hmx
      have H56 : Hid (κ = 5 ∨ κ = 6) := Lib.hid h56
      clear HM HZ hmx
      rcases h56 with h5 | h6
      · subst h5
        clear H56
        go_enter Tryd.func46, Tryd.ntmps46
        go_wp2_with (first | (go_at_call 86; refine (K1 _).mono ?_; clear K1; rintro e w0 ⟨rfl, hb0⟩; obtain ⟨c0, c1, c2, c3, c4, c5, c6, c7⟩ := (hal.below hb0 hs0).all0; have hw0 := hwa.trans (hb0.mono hwa.size)) | (go_at_call 88; refine (KC.out _ hw0).mono ?_; clear KC; rintro e w1 ⟨sv, vv, css, rfl, hrows, hfit, hb1⟩; obtain ⟨⟨As, caps, rfl⟩, A, cap, rfl, hA⟩ := rows_open hrows hfit))
        have HB1 := Lib.hid hb1
        have HA := Lib.hid hA
        have HFIT := Lib.hid hfit
        have HWB := Lib.hid hw0
        clear hrows hA hfit hb1 hw0 hb0 hal hwa hs0 c0 c1 c2 c3 c4 c5 c6 c7
        go_loopw [4, 7] (fun n ii wr => ∃ j : Nat, j ≤ kids.length ∧ ii = .int .i64 j ∧ ∃ s : Nat, n = .int .i64 s ∧ Hid ((kids.drop j).foldl (fun s x => max s (depV x.2)) s + 1 = R) ∧ Below w1.heap.size w1 wr) (fun _ ii _ => kids.length - (intOf ii).toNat)
        case atStart => exact ⟨0, by omega, rfl, 0, rfl, HMX, Below.refl _ _⟩
        case round =>
          obtain ⟨j, hj, rfl, s, rfl, hs, hbel⟩ := hrel
          by_cases h1 : j < kids.length
          · obtain ⟨x, hx⟩ : ∃ x, kids[j]? = some x := ⟨kids[j], by simp [h1]⟩
            obtain ⟨csx, hcs, hvx⟩ := HFIT.out.get hx
            rcases HA.out with h0 | ⟨g, rfl, hg, hcells⟩
            · subst h0; simp at h1
            have hcx := (hcells j csx hcs).below hbel hg
            have hbw := HB1.out.trans (hbel.mono HB1.out.size)
            have hvx := hvx.on hbw
            have hgr : g < wr.heap.size := Nat.lt_of_lt_of_le hg hbel.size
            have hxN := HKID.out j x hx
            have hxs : szV x.2 ≤ N ∧ szV x.2 ≤ 1000000000 := by have := HN.out; omega
            have hC := IH.out x.2 hxs.1 csx wr hvx hxs.2
            have hs1 := hs.out
            rw [drop_some hx, List.foldl_cons] at hs1
            obtain ⟨xs, xk, xb, xi, xf, xt, xty, xits, xfs⟩ := x
            obtain ⟨xp, xc, xq, xd, rfl, _, _, _, _⟩ := hvx
            obtain ⟨c0, c1, c2, c3, c4, c5, c6, c7⟩ := hcx.all
            try dsimp only at hs1
            generalize depV (V.mk xk xb xi xf xt xty xits xfs) = cn at *
            have HC := Lib.hid hC
            have HS1 := Lib.hid hs1
            clear hC hs1 hcx hcells hx hs hxN hcs
            by_cases hlt : s < cn
            · have hm2 : max s cn = cn := by omega
              have HS2 : Hid ((kids.drop (j + 1)).foldl (fun s x => max s (depV x.2)) cn + 1 = R) := Lib.hid (by have := HS1.out; rwa [hm2] at this)
              clear hm2 HS1
              go_wp2_with (go_at_call 46; refine HC.out.mono ?_; rintro e w2 ⟨rfl, hb2⟩)
              go_roundw
              case rel => exact ⟨j + 1, by omega, by go_num, cn, rfl, HS2, hbel.trans (hb2.mono hbel.size)⟩
              case measure => simp [intOf]; omega
            · have hm2 : max s cn = s := by omega
              have HS2 : Hid ((kids.drop (j + 1)).foldl (fun s x => max s (depV x.2)) s + 1 = R) := Lib.hid (by have := HS1.out; rwa [hm2] at this)
              clear hm2 HS1
              go_wp2_with (go_at_call 46; refine HC.out.mono ?_; rintro e w2 ⟨rfl, hb2⟩)
              go_roundw
              case rel => exact ⟨j + 1, by omega, by go_num, s, rfl, HS2, hbel.trans (hb2.mono hbel.size)⟩
              case measure => simp [intOf]; omega
          · have hfin : s + 1 = R := by
              have := hs.out
              rw [List.drop_of_length_le (by omega)] at this
              simpa using this
            subst hfin
            go_wp2_with fail
            go_ret
            exact ⟨rfl, HWB.out.trans ((HB1.out.trans (hbel.mono HB1.out.size)).mono HWB.out.size)⟩
      · subst h6
        clear H56
        go_enter Tryd.func46, Tryd.ntmps46
        go_wp2_with (first | (go_at_call 86; refine (K1 _).mono ?_; clear K1; rintro e w0 ⟨rfl, hb0⟩; obtain ⟨c0, c1, c2, c3, c4, c5, c6, c7⟩ := (hal.below hb0 hs0).all0; have hw0 := hwa.trans (hb0.mono hwa.size)) | (go_at_call 88; refine (KC.out _ hw0).mono ?_; clear KC; rintro e w1 ⟨sv, vv, css, rfl, hrows, hfit, hb1⟩; obtain ⟨⟨As, caps, rfl⟩, A, cap, rfl, hA⟩ := rows_open hrows hfit))
        have HB1 := Lib.hid hb1
        have HA := Lib.hid hA
        have HFIT := Lib.hid hfit
        have HWB := Lib.hid hw0
        clear hrows hA hfit hb1 hw0 hb0 hal hwa hs0 c0 c1 c2 c3 c4 c5 c6 c7
        go_loopw [4, 7] (fun n ii wr => ∃ j : Nat, j ≤ kids.length ∧ ii = .int .i64 j ∧ ∃ s : Nat, n = .int .i64 s ∧ Hid ((kids.drop j).foldl (fun s x => max s (depV x.2)) s + 1 = R) ∧ Below w1.heap.size w1 wr) (fun _ ii _ => kids.length - (intOf ii).toNat)
        case atStart => exact ⟨0, by omega, rfl, 0, rfl, HMX, Below.refl _ _⟩
        case round =>
          obtain ⟨j, hj, rfl, s, rfl, hs, hbel⟩ := hrel
          by_cases h1 : j < kids.length
          · obtain ⟨x, hx⟩ : ∃ x, kids[j]? = some x := ⟨kids[j], by simp [h1]⟩
            obtain ⟨csx, hcs, hvx⟩ := HFIT.out.get hx
            rcases HA.out with h0 | ⟨g, rfl, hg, hcells⟩
            · subst h0; simp at h1
            have hcx := (hcells j csx hcs).below hbel hg
            have hbw := HB1.out.trans (hbel.mono HB1.out.size)
            have hvx := hvx.on hbw
            have hgr : g < wr.heap.size := Nat.lt_of_lt_of_le hg hbel.size
            have hxN := HKID.out j x hx
            have hxs : szV x.2 ≤ N ∧ szV x.2 ≤ 1000000000 := by have := HN.out; omega
            have hC := IH.out x.2 hxs.1 csx wr hvx hxs.2
            have hs1 := hs.out
            rw [drop_some hx, List.foldl_cons] at hs1
            obtain ⟨xs, xk, xb, xi, xf, xt, xty, xits, xfs⟩ := x
            obtain ⟨xp, xc, xq, xd, rfl, _, _, _, _⟩ := hvx
            obtain ⟨c0, c1, c2, c3, c4, c5, c6, c7⟩ := hcx.all
            try dsimp only at hs1
            generalize depV (V.mk xk xb xi xf xt xty xits xfs) = cn at *
            have HC := Lib.hid hC
            have HS1 := Lib.hid hs1
            clear hC hs1 hcx hcells hx hs hxN hcs
            by_cases hlt : s < cn
            · have hm2 : max s cn = cn := by omega
              have HS2 : Hid ((kids.drop (j + 1)).foldl (fun s x => max s (depV x.2)) cn + 1 = R) := Lib.hid (by have := HS1.out; rwa [hm2] at this)
              clear hm2 HS1
              go_wp2_with (go_at_call 46; refine HC.out.mono ?_; rintro e w2 ⟨rfl, hb2⟩)
              go_roundw
              case rel => exact ⟨j + 1, by omega, by go_num, cn, rfl, HS2, hbel.trans (hb2.mono hbel.size)⟩
              case measure => simp [intOf]; omega
            · have hm2 : max s cn = s := by omega
              have HS2 : Hid ((kids.drop (j + 1)).foldl (fun s x => max s (depV x.2)) s + 1 = R) := Lib.hid (by have := HS1.out; rwa [hm2] at this)
              clear hm2 HS1
              go_wp2_with (go_at_call 46; refine HC.out.mono ?_; rintro e w2 ⟨rfl, hb2⟩)
              go_roundw
              case rel => exact ⟨j + 1, by omega, by go_num, s, rfl, HS2, hbel.trans (hb2.mono hbel.size)⟩
              case measure => simp [intOf]; omega
          · have hfin : s + 1 = R := by
              have := hs.out
              rw [List.drop_of_length_le (by omega)] at this
              simpa using this
            subst hfin
            go_wp2_with fail
            go_ret
            exact ⟨rfl, HWB.out.trans ((HB1.out.trans (hbel.mono HB1.out.size)).mono HWB.out.size)⟩
    · have hz := HZ.out h56
      subst hz
      have q5 : (κ != 5) = true := by simp only [bne_iff_ne, ne_eq]; omega
      have q6 : (κ != 6) = true := by simp only [bne_iff_ne, ne_eq]; omega
      go_enter Tryd.func46, Tryd.ntmps46
      go_wp2_with (go_at_call 86; refine (K1 _).mono ?_; rintro e w1 ⟨rfl, hb1⟩)
      go_ret
      exact ⟨rfl, hwa.trans (hb1.mono hwa.size)⟩
end Go.Proofs.YtnmnmkdmnohbmaaDoor
