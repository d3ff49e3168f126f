/- Helper text: the walk over Size of the reference. Conditions: none. -/
import Derived.Test.YtnmnmkdmnohbmaaDoorPlainW
namespace Go.Proofs.YtnmnmkdmnohbmaaDoor
open Go.RowKit

theorem cellsAt_alloc (w : World) (cs : Array Value) (e : TypeId) (fz : Nat × Nat) : CellsAt (w.alloc (.cells cs e fz)) w.heap.size 0 cs := by
  intro j x hx
  have h : (w.alloc (.cells cs e fz)).heap[w.heap.size]? = some (.cells cs e fz) := by
    show (w.heap.push _)[w.heap.size]? = _
    simp
  rw [Nat.zero_add]
  simp only [World.cell?, h]
  exact hx

theorem CellsAt.all0 {w : World} {g : Nat} {k : Int} {b : Bool} {i : Int} {f : Nat} {t ty : ByteArray} {p : Option Addr} {n c : Nat} {q : Option Addr} {m d : Nat} (h : CellsAt w g 0 (vcells k b i f t ty p n c q m d)) :
    w.cell? ⟨g, 0, none⟩ = some (.int .i64 k) ∧ w.cell? ⟨g, 1, none⟩ = some (.bool b) ∧ w.cell? ⟨g, 2, none⟩ = some (.int .i64 i) ∧ w.cell? ⟨g, 3, none⟩ = some (.float .f64 f) ∧
    w.cell? ⟨g, 4, none⟩ = some (.string t) ∧ w.cell? ⟨g, 5, none⟩ = some (.string ty) ∧ w.cell? ⟨g, 6, none⟩ = some (.slice p n c) ∧ w.cell? ⟨g, 7, none⟩ = some (.slice q m d) := by
  simpa using h.all

mutual
/-- What Size answers: it goes on as long as the count is not above most. -/
def sizeR : V → Int → Int
  | .mk _ _ _ _ _ _ its fs, most => sizeFs fs most (sizeIs its most (1 + its.length + fs.length))
def sizeIs : List V → Int → Int → Int
  | [], _, n => n
  | v :: r, most, n => if n ≤ most then sizeIs r most (n + sizeR v (most - n)) else n
def sizeFs : List (ByteArray × V) → Int → Int → Int
  | [], _, n => n
  | x :: r, most, n => if n ≤ most then sizeFs r most (n + sizeR x.2 (most - n)) else n
end

mutual
theorem sizeR_pos : ∀ (v : V) (most : Int), 1 ≤ sizeR v most
  | .mk _ _ _ _ _ _ its fs, most => by
    unfold sizeR
    have h1 := sizeIs_ge its most (1 + its.length + fs.length)
    have h2 := sizeFs_ge fs most (sizeIs its most (1 + its.length + fs.length))
    omega
theorem sizeIs_ge : ∀ (l : List V) (most n : Int), n ≤ sizeIs l most n
  | [], _, _ => by unfold sizeIs; omega
  | v :: r, most, n => by
    unfold sizeIs
    split
    · have h1 := sizeR_pos v (most - n)
      have h2 := sizeIs_ge r most (n + sizeR v (most - n))
      omega
    · omega
theorem sizeFs_ge : ∀ (l : List (ByteArray × V)) (most n : Int), n ≤ sizeFs l most n
  | [], _, _ => by unfold sizeFs; omega
  | x :: r, most, n => by
    unfold sizeFs
    split
    · have h1 := sizeR_pos x.2 (most - n)
      have h2 := sizeFs_ge r most (n + sizeR x.2 (most - n))
      omega
    · omega
end

mutual
theorem sizeR_eq : ∀ (v : V) (most : Int), sizeR v most ≤ most → sizeR v most = szV v
  | .mk k b i f t ty its fs, most, h => by
    unfold sizeR at h ⊢
    have h1 := sizeFs_ge fs most (sizeIs its most (1 + its.length + fs.length))
    have h2 := sizeIs_eq its most (1 + its.length + fs.length) (by omega)
    have h3 := sizeFs_eq fs most _ h
    rw [h3, h2]
    simp only [szV]
    omega
theorem sizeIs_eq : ∀ (l : List V) (most n : Int), sizeIs l most n ≤ most → sizeIs l most n = n + szV.szVs l
  | [], _, _, _ => by unfold sizeIs szV.szVs; omega
  | v :: r, most, n, h => by
    unfold sizeIs at h ⊢
    by_cases hn : n ≤ most
    · rw [if_pos hn] at h ⊢
      have h1 := sizeIs_ge r most (n + sizeR v (most - n))
      have h2 := sizeR_eq v (most - n) (by omega)
      rw [sizeIs_eq r most _ h, h2]
      simp only [szV.szVs]
      omega
    · rw [if_neg hn] at h
      omega
theorem sizeFs_eq : ∀ (l : List (ByteArray × V)) (most n : Int), sizeFs l most n ≤ most → sizeFs l most n = n + szV.szFs l
  | [], _, _, _ => by unfold sizeFs szV.szFs; omega
  | x :: r, most, n, h => by
    unfold sizeFs at h ⊢
    by_cases hn : n ≤ most
    · rw [if_pos hn] at h ⊢
      have h1 := sizeFs_ge r most (n + sizeR x.2 (most - n))
      have h2 := sizeR_eq x.2 (most - n) (by omega)
      rw [sizeFs_eq r most _ h, h2]
      simp only [szV.szFs]
      omega
    · rw [if_neg hn] at h
      omega
end

mutual
theorem sizeR_le {B : Nat} {w : World} : ∀ {v : V} {cs : Array Value}, IsV B w v cs → ∀ most : Int, 0 ≤ most → sizeR v most ≤ most + 8796093022208
  | .mk k b i f t ty its fs, cs, h, most, hm => by
    obtain ⟨p, c, q, d, _, hi, hf, l1, l2⟩ := h
    unfold lenMax at l1 l2
    unfold sizeR
    have h1 : sizeIs its most (1 + its.length + fs.length) ≤ most + 8796093022208 := by
      rcases hi with h0 | ⟨g, o, _, _, hv⟩
      · rw [h0]; unfold sizeIs; simp; omega
      · exact sizeIs_le hv most hm _ (by omega)
    rcases hf with h0 | ⟨g, o, _, _, hv⟩
    · rw [h0] at h1 ⊢; unfold sizeFs; exact h1
    · exact sizeFs_le hv most hm _ h1
theorem sizeIs_le {B : Nat} {w : World} : ∀ {l : List V} {g o : Nat}, IsVs B w l g o → ∀ most : Int, 0 ≤ most → ∀ n, n ≤ most + 8796093022208 → sizeIs l most n ≤ most + 8796093022208
  | [], _, _, _, _, _, _, h => by unfold sizeIs; exact h
  | v :: r, g, o, hv, most, hm, n, h => by
    obtain ⟨⟨cs, _, h2⟩, h3⟩ := hv
    unfold sizeIs
    split
    · have h4 := sizeR_le h2 (most - n) (by omega)
      exact sizeIs_le h3 most hm _ (by omega)
    · exact h
theorem sizeFs_le {B : Nat} {w : World} : ∀ {l : List (ByteArray × V)} {g o : Nat}, IsFs B w l g o → ∀ most : Int, 0 ≤ most → ∀ n, n ≤ most + 8796093022208 → sizeFs l most n ≤ most + 8796093022208
  | [], _, _, _, _, _, _, h => by unfold sizeFs; exact h
  | x :: r, g, o, hv, most, hm, n, h => by
    obtain ⟨⟨_, cs, _, h2⟩, h3⟩ := hv
    unfold sizeFs
    split
    · have h4 := sizeR_le h2 (most - n) (by omega)
      exact sizeFs_le h3 most hm _ (by omega)
    · exact h
end

set_option maxRecDepth 100000 in
set_option maxHeartbeats 1000000 in
theorem Size_any : ∀ (N : Nat) (v : V), szV v ≤ N → ∀ (cs : Array Value) (w : World) (most : Int), IsV w.heap.size w v cs → 0 ≤ most → most ≤ 1000000 →
    Calls Tryd.prog 13 #[.agg cs, .int .i64 most] w (RetB (.int .i64 (sizeR v most)) w) := by
  intro N
  induction N with
  | zero => intro v hv; have := szV_pos v; omega
  | succ N ih =>
    intro v hN cs w most hv hm0 hm1
    obtain ⟨k, b, i, f, t, ty, its, fs⟩ := v
    have hv0 := hv
    obtain ⟨p, c, q, d, rfl, hi, hf, l1, l2⟩ := hv
    unfold lenMax at l1 l2
    have IH := Lib.hid ih
    have HV := Lib.hid hv0
    have HI := Lib.hid hi
    have HF := Lib.hid hf
    have HN := Lib.hid hN
    clear ih hv0 hi hf hN
    go_enter Tryd.func13, Tryd.ntmps13
    go_wp2_with fail
    have hal := cellsAt_alloc w (vcells k b i f t ty p its.length c q fs.length d) 27 (0, 0)
    have hwa : Below w.heap.size w (w.alloc (.cells (vcells k b i f t ty p its.length c q fs.length d) 27)) := (Below.refl _ _).alloc (Nat.le_refl _) _
    have hsz : w.heap.size < (w.alloc (.cells (vcells k b i f t ty p its.length c q fs.length d) 27)).heap.size := by simp
    obtain ⟨wa, hW⟩ : ∃ wa, w.alloc (.cells (vcells k b i f t ty p its.length c q fs.length d) 27) = wa := ⟨_, rfl⟩
    rw [hW] at hal hwa hsz ⊢
    clear hW
    go_loopw [5, 6] (fun n ii wr => ∃ j : Nat, j ≤ its.length ∧ ii = .int .i64 j ∧ ∃ nn : Int, n = .int .i64 nn ∧ 1 ≤ nn ∧ nn ≤ most + 8796093022208 ∧ Hid (sizeIs (its.drop j) most nn = sizeIs its most (1 + its.length + fs.length)) ∧ Below wa.heap.size wa wr) (fun _ ii _ => its.length - (intOf ii).toNat)
    case atStart => exact ⟨0, by omega, rfl, _, rfl, by omega, by omega, rfl, Below.refl _ _⟩
    case round =>
      obtain ⟨j, hj, rfl, nn, rfl, hn1, hn2, hrel, hbel⟩ := hrel
      obtain ⟨_, _, _, _, _, _, e6, e7⟩ := (hal.below hbel hsz).all0
      by_cases h1 : j < its.length
      · by_cases h2 : nn ≤ most
        · obtain ⟨x, hx⟩ : ∃ x, its[j]? = some x := ⟨its[j], by simp [h1]⟩
          obtain hi := HI.out
          rcases hi with hi | ⟨g, o, rfl, hg, hvs⟩
          · subst hi; simp at h1
          obtain ⟨csx, hcx, hvx⟩ := hvs.get hx
          have hbw := hwa.trans (hbel.mono hwa.size)
          have hcx' := hcx.below hbw hg
          have hvx' := hvx.on hbw
          have hle := sizeR_le hvx (most - nn) (by omega)
          have hpos := sizeR_pos x (most - nn)
          have hxN : szV x ≤ N := by
            have := szVs_get hx
            have := HN.out
            simp only [szV] at this
            omega
          have hstep : sizeIs (its.drop (j + 1)) most (nn + sizeR x (most - nn)) = sizeIs its most (1 + its.length + fs.length) := by
            rw [← hrel.out, drop_some hx, sizeIs, if_pos h2]
          have hc := IH.out x hxN csx wr (most - nn) hvx' (by omega) (by omega)
          have HC := Lib.hid hc
          have HSTEP := Lib.hid hstep
          obtain ⟨xk, xb, xi, xf, xt, xty, xits, xfs⟩ := x
          obtain ⟨xp, xc, xq, xd, rfl, _, _, _, _⟩ := hvx
          obtain ⟨c0, c1, c2, c3, c4, c5, c6, c7⟩ := hcx'.all
          clear hc hstep hvx' hx hvs hcx hcx' hal hwa
          generalize sizeR (V.mk xk xb xi xf xt xty xits xfs) (most - nn) = kk at *
          go_wp2_with (go_at_call 13; refine HC.out.mono ?_; rintro e w1 ⟨rfl, hb1⟩)
          go_roundw
          case rel => exact ⟨j + 1, by omega, by go_num, _, rfl, by omega, by omega, HSTEP, hbel.trans (hb1.mono hbel.size)⟩
          case measure => simp [intOf]; omega
        · have hend : sizeIs its most (1 + its.length + fs.length) = nn := by
            rw [← hrel.out]
            cases hd : its.drop j with
            | nil => rw [sizeIs]
            | cons x r => rw [sizeIs, if_neg h2]
          have HEND := Lib.hid hend
          clear hend hrel
          go_wp2_with fail
          go_loopw [5, 8] (fun n ii wr => ∃ j : Nat, j ≤ fs.length ∧ ii = .int .i64 j ∧ ∃ mm : Int, n = .int .i64 mm ∧ 1 ≤ mm ∧ mm ≤ most + 8796093022208 ∧ Hid (sizeFs (fs.drop j) most mm = sizeFs fs most nn) ∧ Below wa.heap.size wa wr) (fun _ ii _ => fs.length - (intOf ii).toNat)
          case atStart => exact ⟨0, by omega, rfl, _, rfl, by omega, by omega, rfl, hbel⟩
          case round =>
            clear hbel e6 e7
            obtain ⟨j2, hj2, rfl, mm, rfl, hm3, hm4, hrel, hbel⟩ := hrel
            obtain ⟨_, _, _, _, _, _, e6, e7⟩ := (hal.below hbel hsz).all0
            by_cases h3 : j2 < fs.length
            · by_cases h4 : mm ≤ most
              · obtain ⟨x, hx⟩ : ∃ x, fs[j2]? = some x := ⟨fs[j2], by simp [h3]⟩
                obtain hf := HF.out
                rcases hf with hf | ⟨g, o, rfl, hg, hvs⟩
                · subst hf; simp at h3
                obtain ⟨hnm, csx, hcx, hvx⟩ := hvs.get hx
                have hbw := hwa.trans (hbel.mono hwa.size)
                have hcx' := hcx.below hbw hg
                have hvx' := hvx.on hbw
                have hle := sizeR_le hvx (most - mm) (by omega)
                have hpos := sizeR_pos x.2 (most - mm)
                have hxN : szV x.2 ≤ N := by
                  have := szFs_get hx
                  have := HN.out
                  simp only [szV] at this
                  omega
                have hstep : sizeFs (fs.drop (j2 + 1)) most (mm + sizeR x.2 (most - mm)) = sizeFs fs most nn := by
                  rw [← hrel.out, drop_some hx, sizeFs, if_pos h4]
                have hc := IH.out x.2 hxN csx wr (most - mm) hvx' (by omega) (by omega)
                have HC := Lib.hid hc
                have HSTEP := Lib.hid hstep
                obtain ⟨xn, xk, xb, xi, xf, xt, xty, xits, xfs⟩ := x
                obtain ⟨xp, xc, xq, xd, rfl, _, _, _, _⟩ := hvx
                obtain ⟨c0, c1, c2, c3, c4, c5, c6, c7⟩ := hcx'.all
                clear hc hstep hvx' hx hvs hcx hcx' hal hwa hnm
                generalize sizeR (xn, V.mk xk xb xi xf xt xty xits xfs).2 (most - mm) = kk at *
                go_wp2_with (go_at_call 13; refine HC.out.mono ?_; rintro e w1 ⟨rfl, hb1⟩)
                go_roundw
                case rel => exact ⟨j2 + 1, by omega, by go_num, _, rfl, by omega, by omega, HSTEP, hbel.trans (hb1.mono hbel.size)⟩
                case measure => simp [intOf]; omega
              · have hfin : sizeFs fs most nn = mm := by
                  rw [← hrel.out]
                  cases hd : fs.drop j2 with
                  | nil => rw [sizeFs]
                  | cons x r => rw [sizeFs, if_neg h4]
                have HFIN := Lib.hid hfin
                clear hfin
                go_wp2_with fail
                go_ret
                exact ⟨ret_eq (by rw [sizeR, HEND.out, HFIN.out]; rfl), hwa.trans (hbel.mono hwa.size)⟩
            · have hfin : sizeFs fs most nn = mm := by
                rw [← hrel.out, List.drop_of_length_le (by omega), sizeFs]
              have HFIN := Lib.hid hfin
              clear hfin
              go_wp2_with fail
              go_ret
              exact ⟨ret_eq (by rw [sizeR, HEND.out, HFIN.out]; rfl), hwa.trans (hbel.mono hwa.size)⟩
      · have hend : sizeIs its most (1 + its.length + fs.length) = nn := by
          rw [← hrel.out, List.drop_of_length_le (by omega), sizeIs]
        have HEND := Lib.hid hend
        clear hend hrel
        go_wp2_with fail
        go_loopw [5, 8] (fun n ii wr => ∃ j : Nat, j ≤ fs.length ∧ ii = .int .i64 j ∧ ∃ mm : Int, n = .int .i64 mm ∧ 1 ≤ mm ∧ mm ≤ most + 8796093022208 ∧ Hid (sizeFs (fs.drop j) most mm = sizeFs fs most nn) ∧ Below wa.heap.size wa wr) (fun _ ii _ => fs.length - (intOf ii).toNat)
        case atStart => exact ⟨0, by omega, rfl, _, rfl, by omega, by omega, rfl, hbel⟩
        case round =>
          clear hbel e6 e7
          obtain ⟨j2, hj2, rfl, mm, rfl, hm3, hm4, hrel, hbel⟩ := hrel
          obtain ⟨_, _, _, _, _, _, e6, e7⟩ := (hal.below hbel hsz).all0
          by_cases h3 : j2 < fs.length
          · by_cases h4 : mm ≤ most
            · obtain ⟨x, hx⟩ : ∃ x, fs[j2]? = some x := ⟨fs[j2], by simp [h3]⟩
              obtain hf := HF.out
              rcases hf with hf | ⟨g, o, rfl, hg, hvs⟩
              · subst hf; simp at h3
              obtain ⟨hnm, csx, hcx, hvx⟩ := hvs.get hx
              have hbw := hwa.trans (hbel.mono hwa.size)
              have hcx' := hcx.below hbw hg
              have hvx' := hvx.on hbw
              have hle := sizeR_le hvx (most - mm) (by omega)
              have hpos := sizeR_pos x.2 (most - mm)
              have hxN : szV x.2 ≤ N := by
                have := szFs_get hx
                have := HN.out
                simp only [szV] at this
                omega
              have hstep : sizeFs (fs.drop (j2 + 1)) most (mm + sizeR x.2 (most - mm)) = sizeFs fs most nn := by
                rw [← hrel.out, drop_some hx, sizeFs, if_pos h4]
              have hc := IH.out x.2 hxN csx wr (most - mm) hvx' (by omega) (by omega)
              have HC := Lib.hid hc
              have HSTEP := Lib.hid hstep
              obtain ⟨xn, xk, xb, xi, xf, xt, xty, xits, xfs⟩ := x
              obtain ⟨xp, xc, xq, xd, rfl, _, _, _, _⟩ := hvx
              obtain ⟨c0, c1, c2, c3, c4, c5, c6, c7⟩ := hcx'.all
              clear hc hstep hvx' hx hvs hcx hcx' hal hwa hnm
              generalize sizeR (xn, V.mk xk xb xi xf xt xty xits xfs).2 (most - mm) = kk at *
              go_wp2_with (go_at_call 13; refine HC.out.mono ?_; rintro e w1 ⟨rfl, hb1⟩)
              go_roundw
              case rel => exact ⟨j2 + 1, by omega, by go_num, _, rfl, by omega, by omega, HSTEP, hbel.trans (hb1.mono hbel.size)⟩
              case measure => simp [intOf]; omega
            · have hfin : sizeFs fs most nn = mm := by
                rw [← hrel.out]
                cases hd : fs.drop j2 with
                | nil => rw [sizeFs]
                | cons x r => rw [sizeFs, if_neg h4]
              have HFIN := Lib.hid hfin
              clear hfin
              go_wp2_with fail
              go_ret
              exact ⟨ret_eq (by rw [sizeR, HEND.out, HFIN.out]; rfl), hwa.trans (hbel.mono hwa.size)⟩
          · have hfin : sizeFs fs most nn = mm := by
              rw [← hrel.out, List.drop_of_length_le (by omega), sizeFs]
            have HFIN := Lib.hid hfin
            clear hfin
            go_wp2_with fail
            go_ret
            exact ⟨ret_eq (by rw [sizeR, HEND.out, HFIN.out]; rfl), hwa.trans (hbel.mono hwa.size)⟩
end Go.Proofs.YtnmnmkdmnohbmaaDoor
