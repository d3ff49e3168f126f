/- Helper text: the walk over value of the statements' lists: the lists of a value are gathered in their order. Conditions: none. -/
import Derived.Test.YtnmnmkdmnohbmaaDoorPackC
namespace Go.Proofs.YtnmnmkdmnohbmaaDoor
open Go Go.RowKit
attribute [local go_sem] run_store_float

def GatherPost (B H : Nat) (s2 s3 : Value) (xI xF : List Value) (w : World) (e : Ending) (w' : World) : Prop :=
  e = .returned (.tuple #[]) ∧ (∃ s0' s1', Held2 w' B H s0' s1' s2 s3 xI xF) ∧ Below B w w'

set_option maxRecDepth 100000 in
set_option maxHeartbeats 4000000 in
theorem gather_any : ∀ (N : Nat) (v : V), szV v ≤ N → ∀ (g o B H : Nat) (s0 s1 s2 s3 : Value) (xI xF : List Value) (eI eF : List Ent) (w : World), Laid w v g o eI eF → g < B → (∀ b, b ∈ blks eI ∨ b ∈ blks eF → b < B) → B ≤ w.heap.size →
    Held2 w B H s0 s1 s2 s3 xI xF → xI.length + szV v ≤ 1000000000 → xF.length + szV v ≤ 1000000000 →
    Calls Tryd.prog 24 #[.pointer (some ⟨H, 0, none⟩), .pointer (some ⟨g, o, none⟩)] w (GatherPost B H s2 s3 (xI ++ eI.map Ent.ptr) (xF ++ eF.map Ent.ptr) w) := by
  intro N
  induction N with
  | zero => intro v hv; have := szV_pos v; omega
  | succ N ih =>
    intro v hN g o B H s0 s1 s2 s3 xI xF eI eF w hL hg hs hB hH lI lF
    obtain ⟨k, b, i, f, t, ty, its, fs⟩ := v
    have IH := Lib.hid ih
    have HN := Lib.hid hN
    have HS := Lib.hid hs
    have HLD := Lib.hid hL
    have HH := Lib.hid hH
    obtain ⟨p, c, q, d, i1, f1, i2, f2, hc, rfl, rfl, hE1, hE2, h3, h4⟩ := hL
    have hb := hH.block
    have hlt := hH.lt
    obtain ⟨r0p, r0c, rfl⟩ := row_slice hH.r0
    obtain ⟨r1p, r1c, rfl⟩ := row_slice hH.r1
    have c0 : w.cell? ⟨H, 0, none⟩ = some (.slice r0p xI.length r0c) := by simp [World.cell?, hb]
    have hsz : szV (V.mk k b i f t ty its fs) = 1 + its.length + fs.length + szV.szVs its + szV.szFs fs := rfl
    rw [hsz] at lI lF
    have H3 := Lib.hid h3
    have H4 := Lib.hid h4
    have HC := Lib.hid hc
    clear hN hs hb ih h3 h4 hE1 hE2 hsz hH hc
    go_enter Tryd.func24, Tryd.ntmps24
    go_upto_region 0 with (fail)
    refine wp_region_plan 10 [(0, [0, 1, 2, 3, 4, 5, 6, 7]), (1, [8, 9]), (2, [10, 11, 12])] (OneCls H 0 (.slice r0p xI.length r0c)) (by kernel_rfl) (by kernel_rfl) (one_of c0) (fun _ _ _ _ h => h) ?_
    simp only [wpSegs, pickOps, List.getElem?_toArray, List.getElem?_cons_zero, List.getElem?_cons_succ]
    have kc := fun z : OneW H 0 (.slice r0p xI.length r0c) => z.h
    have hne : Nonempty (OneW H 0 (.slice r0p xI.length r0c)) := ⟨⟨w, c0⟩⟩
    iterate 8 (go_big_quiet_step (fail))
    refine wpQuiet_nil ?_
    clear kc hne
    refine wpListC_plain rfl (fun K hK => ?_)
    go_step
    refine hK _ _ (one_of (show (w.alloc (.cells #[.pointer (some ⟨g, o + 6, none⟩)] 98)).cell? ⟨H, 0, none⟩ = _ from (World.cell?_of_block (Below.heap_alloc _ _ _ hlt)).trans c0)) ?_
    clear hK K
    obtain ⟨wA, hwA⟩ : ∃ wA, (w.alloc (.cells #[.pointer (some ⟨g, o + 6, none⟩)] 98)).drew = wA := ⟨_, rfl⟩
    have hbA : Below w.heap.size w wA := by rw [← hwA]; exact ((Below.refl w.heap.size w).alloc (Nat.le_refl _) _).trans (Below.drew (Below.refl _ _) |>.mono (Nat.le_refl _))
    have hsA : wA.heap.size = w.heap.size + 1 := by rw [← hwA]; show (w.alloc _).heap.size = _; simp
    have hcA : wA.cell? ⟨w.heap.size, 0, none⟩ = some (.pointer (some ⟨g, o + 6, none⟩)) := by
      rw [← hwA]
      have := cellsAt_alloc w #[.pointer (some ⟨g, o + 6, none⟩)] 98 (0, 0) 0 _ rfl
      exact this
    rw [hwA]
    clear hwA
    have hHA := HH.out.grow hbA
    refine wpListC_plain rfl (fun K hK => ?_)
    refine wp_append_x (P := Tryd.prog) wA (.tmp 10) (.tmp 14) 44 rfl B 98 (.pointer none) 1 8 Tryd.underlying44 (by kernel_rfl) rfl (by decide) (.slice r0p xI.length r0c) xI.length _ rfl hHA.r0 ⟨w.heap.size, 0, none⟩ 1 1 [.pointer (some ⟨g, o + 6, none⟩)] rfl (by decide) rfl ?c1 ?c2 ?c3 ?c4 ?c5 ?_
    case c1 =>
      intro m u hu
      match m, hu with
      | 0, hu => cases hu; rw [addr_add]; exact hcA
      | m + 1, hu => simp at hu
    case c2 => intro u hu; simp at hu; subst hu; rfl
    case c3 => unfold maxLen; omega
    case c4 => omega
    case c5 => omega
    intro v' w2 hrow hgr hloc
    have hcw2 : w2.cell? ⟨H, 0, none⟩ = some (.slice r0p xI.length r0c) := (World.cell?_of_block (hgr.block H hHA.lt (fun e => hHA.d0 e.symm))).trans (by simp [World.cell?, hHA.block])
    refine hK _ _ (one_of hcw2) ?_
    clear hK K
    refine wpListC_nil ?_
    obtain ⟨hH1, hb1⟩ := hHA.push0 (by omega) hrow hgr hloc
    obtain ⟨pv, cv, rfl⟩ := row_slice hrow
    have hfw2 : w2.frozen? ⟨H, 0, none⟩ = false := by simp [World.frozen?, (hgr.block H hHA.lt (fun e => hHA.d0 e.symm)).trans hHA.block]
    have HH1 := Lib.hid hH1
    have HB1 := Lib.hid (hbA.mono hB |>.trans hb1)
    clear hHA hgr hloc hrow hH1 hb1 hcA hbA hsA c0
    go_upto_region 1 with (fail)
    obtain ⟨w3, hw3⟩ : ∃ w3, w2.setCell ⟨H, 0, none⟩ (.slice pv (xI.length + 1) cv) = w3 := ⟨_, rfl⟩
    rw [hw3] at HH1 HB1 ⊢
    clear hw3 hcw2 hfw2
    have hlt3 := HH1.out.lt
    have c1 : w3.cell? ⟨H, 1, none⟩ = some (.slice r1p xF.length r1c) := by simp [World.cell?, HH1.out.block]
    refine wp_region_plan 10 [(0, [0, 1, 2, 3, 4, 5, 6, 7]), (1, [8, 9]), (2, [10, 11, 12])] (OneCls H 1 (.slice r1p xF.length r1c)) (by kernel_rfl) (by kernel_rfl) (one_of c1) (fun _ _ _ _ h => h) ?_
    simp only [wpSegs, pickOps, List.getElem?_toArray, List.getElem?_cons_zero, List.getElem?_cons_succ]
    have kc := fun z : OneW H 1 (.slice r1p xF.length r1c) => z.h
    have hne : Nonempty (OneW H 1 (.slice r1p xF.length r1c)) := ⟨⟨w3, c1⟩⟩
    iterate 8 (go_big_quiet_step (fail))
    refine wpQuiet_nil ?_
    clear kc hne
    refine wpListC_plain rfl (fun K hK => ?_)
    go_step
    refine hK _ _ (one_of (show (w3.alloc (.cells #[.pointer (some ⟨g, o + 7, none⟩)] 99)).cell? ⟨H, 1, none⟩ = _ from (World.cell?_of_block (Below.heap_alloc _ _ _ hlt3)).trans c1)) ?_
    clear hK K
    obtain ⟨wA, hwA⟩ : ∃ wA, (w3.alloc (.cells #[.pointer (some ⟨g, o + 7, none⟩)] 99)).drew = wA := ⟨_, rfl⟩
    have hbA : Below w3.heap.size w3 wA := by rw [← hwA]; exact ((Below.refl w3.heap.size w3).alloc (Nat.le_refl _) _).trans (Below.drew (Below.refl _ _) |>.mono (Nat.le_refl _))
    have hsA : wA.heap.size = w3.heap.size + 1 := by rw [← hwA]; show (w3.alloc _).heap.size = _; simp
    have hcA : wA.cell? ⟨w3.heap.size, 0, none⟩ = some (.pointer (some ⟨g, o + 7, none⟩)) := by
      rw [← hwA]
      have := cellsAt_alloc w3 #[.pointer (some ⟨g, o + 7, none⟩)] 99 (0, 0) 0 _ rfl
      exact this
    rw [hwA]
    clear hwA
    have hHA := HH1.out.grow hbA
    have hB3 : B ≤ w3.heap.size := Nat.le_trans hB HB1.out.size
    refine wpListC_plain rfl (fun K hK => ?_)
    refine wp_append_x (P := Tryd.prog) wA (.tmp 22) (.tmp 26) 45 rfl B 99 (.pointer none) 1 8 Tryd.underlying45 (by kernel_rfl) rfl (by decide) (.slice r1p xF.length r1c) xF.length _ rfl hHA.r1 ⟨w3.heap.size, 0, none⟩ 1 1 [.pointer (some ⟨g, o + 7, none⟩)] rfl (by decide) rfl ?c1 ?c2 ?c3 ?c4 ?c5 ?_
    case c1 =>
      intro m u hu
      match m, hu with
      | 0, hu => cases hu; rw [addr_add]; exact hcA
      | m + 1, hu => simp at hu
    case c2 => intro u hu; simp at hu; subst hu; rfl
    case c3 => unfold maxLen; omega
    case c4 => omega
    case c5 => omega
    intro v' w4 hrow hgr hloc
    have hcw4 : w4.cell? ⟨H, 1, none⟩ = some (.slice r1p xF.length r1c) := (World.cell?_of_block (hgr.block H hHA.lt (fun e => hHA.d1 e.symm))).trans (by simp [World.cell?, hHA.block])
    refine hK _ _ (one_of hcw4) ?_
    clear hK K
    refine wpListC_nil ?_
    obtain ⟨hH2, hb2⟩ := hHA.push1 (by omega) hrow hgr hloc
    obtain ⟨pw, cw, rfl⟩ := row_slice hrow
    have hfw4 : w4.frozen? ⟨H, 1, none⟩ = false := by simp [World.frozen?, (hgr.block H hHA.lt (fun e => hHA.d1 e.symm)).trans hHA.block]
    have HH2 := Lib.hid hH2
    have HB2 := Lib.hid (HB1.out.trans (hbA.mono hB3 |>.trans hb2))
    clear hHA hgr hloc hrow hH2 hb2 hcA hbA hsA c1
    go_upto_region 2 with (fail)
    obtain ⟨w5, hw5⟩ : ∃ w5, w4.setCell ⟨H, 1, none⟩ (.slice pw (xF.length + 1) cw) = w5 := ⟨_, rfl⟩
    rw [hw5] at HH2 HB2 ⊢
    clear hw5 hcw4 hfw4
    obtain ⟨gi, hgi, hLI⟩ : ∃ gi, (0 < its.length → p = some ⟨gi, 0, none⟩ ∧ gi < B) ∧ LaidIs w its gi 0 i1 f1 := by
      rcases H3.out with ⟨rfl, rfl, rfl⟩ | ⟨gi, rfl, h⟩
      · exact ⟨0, by simp, ⟨rfl, rfl⟩⟩
      · exact ⟨gi, fun _ => ⟨rfl, HS.out gi (.inl (by simp [blks]))⟩, h⟩
    obtain ⟨gf, hgf, hLF⟩ : ∃ gf, (0 < fs.length → q = some ⟨gf, 0, none⟩ ∧ gf < B) ∧ LaidFs w fs gf 0 i2 f2 := by
      rcases H4.out with ⟨rfl, rfl, rfl⟩ | ⟨gf, rfl, h⟩
      · exact ⟨0, by simp, ⟨rfl, rfl⟩⟩
      · exact ⟨gf, fun _ => ⟨rfl, HS.out gf (.inr (by simp [blks]))⟩, h⟩
    have HGI := Lib.hid hgi
    have HGF := Lib.hid hgf
    have HLI := Lib.hid hLI
    have HLF := Lib.hid hLF
    have hbk : Hid (∀ b, (b ∈ blks i1 ∨ b ∈ blks f1) ∨ (b ∈ blks i2 ∨ b ∈ blks f2) → b < B) := Lib.hid (fun b hb => HS.out b (by
      have e1 : blks (⟨g, o + 6, p, its.length, c⟩ :: (i1 ++ i2)) = (p.map (·.block)).toList ++ (blks i1 ++ blks i2) := by cases p <;> simp [blks]
      have e2 : blks (⟨g, o + 7, q, fs.length, d⟩ :: (f1 ++ f2)) = (q.map (·.block)).toList ++ (blks f1 ++ blks f2) := by cases q <;> simp [blks]
      rw [e1, e2]
      simp only [List.mem_append]
      rcases hb with (h | h) | (h | h)
      · exact .inl (.inr (.inl h))
      · exact .inr (.inr (.inl h))
      · exact .inl (.inr (.inr h))
      · exact .inr (.inr (.inr h))))
    have hli : its.length ≤ 1000000000 := by omega
    have hlf : fs.length ≤ 1000000000 := by omega
    have k6 : Hid (∀ w', Below B w w' → w'.cell? ⟨g, o + 6, none⟩ = some (.slice p its.length c) ∧ w'.cell? ⟨g, o + 7, none⟩ = some (.slice q fs.length d)) := Lib.hid (fun w' h => ⟨(h.cell (p := ⟨g, o + 6, none⟩) hg).trans (HC.out 6 _ rfl), (h.cell (p := ⟨g, o + 7, none⟩) hg).trans (HC.out 7 _ rfl)⟩)
    clear hgi hgf hLI hLF
    obtain ⟨q6, _⟩ := k6.out _ HB2.out
    go_wp2_with fail
    clear q6
    go_loopw [35] (fun ii wr => ∃ j : Nat, j ≤ its.length ∧ ii = .int .i64 j ∧ ∃ eI1 eF1 eI2 eF2 : List Ent, Hid (i1 = eI1 ++ eI2) ∧ Hid (f1 = eF1 ++ eF2) ∧ LaidIs w (its.drop j) gi (j * 8) eI2 eF2 ∧
      eI1.length + szV.szVs (its.drop j) ≤ szV.szVs its ∧ eF1.length + szV.szVs (its.drop j) ≤ szV.szVs its ∧ (∃ s0' s1', Held2 wr B H s0' s1' s2 s3 (xI ++ [.pointer (some ⟨g, o + 6, none⟩)] ++ eI1.map Ent.ptr) (xF ++ [.pointer (some ⟨g, o + 7, none⟩)] ++ eF1.map Ent.ptr)) ∧ Below B w wr) (fun ii _ => its.length - (intOf ii).toNat)
    case atStart => exact ⟨0, by omega, rfl, [], [], i1, f1, Lib.hid rfl, Lib.hid rfl, by simpa using HLI.out, by simp, by simp, ⟨_, _, by simpa using HH2.out⟩, HB2.out⟩
    case round =>
      obtain ⟨j, hj, rfl, eI1, eF1, eI2, eF2, he1, he2, hla, hz1, hz2, ⟨s0', s1', hheld⟩, hbel⟩ := hrel
      obtain ⟨q6, q7⟩ := k6.out _ hbel
      by_cases hlt2 : j < its.length
      · obtain ⟨rfl, hgiB⟩ := HGI.out (by omega)
        obtain ⟨u, hu⟩ : ∃ u, its[j]? = some u := ⟨_, List.getElem?_eq_getElem hlt2⟩
        obtain ⟨a1, b1, a2, b2, rfl, rfl, hlu, hlr⟩ := hla.step hu
        have hsz : szV.szVs (its.drop j) = szV u + szV.szVs (its.drop (j + 1)) := by rw [drop_some hu, szV.szVs]
        have hln := laid_len hlu
        have huN : szV u ≤ N := by
          have := szVs_get hu
          have := HN.out
          simp only [szV] at this
          omega
        have hbu : ∀ b, b ∈ blks a1 ∨ b ∈ blks b1 → b < B := fun b hb => hbk.out b (.inl (by rw [he1.out, he2.out]; simp only [blks_append, List.mem_append]; rcases hb with h | h; exact .inl (.inr (.inl h)); exact .inr (.inr (.inl h))))
        have HCT := Lib.hid (IH.out u huN gi (j * 8) B H s0' s1' s2 s3 _ _ a1 b1 wr (hlu.below hbel hgiB hbu) hgiB hbu (Nat.le_trans hB hbel.size) hheld (by simp; omega) (by simp; omega))
        have HLR := Lib.hid hlr
        unfold GatherPost at HCT
        have HSZ := Lib.hid hsz
        have HLN := Lib.hid hln
        clear hsz hln hbu hlu hlr hheld hla q7
        go_wp2_with (go_at_call 24; refine HCT.out.mono ?_; rintro e w6 ⟨rfl, hh6, hb6⟩)
        go_roundw
        case rel =>
          refine ⟨j + 1, by omega, by go_num, eI1 ++ a1, eF1 ++ b1, a2, b2, Lib.hid (by rw [he1.out, List.append_assoc]), Lib.hid (by rw [he2.out, List.append_assoc]), ?_, ?_, ?_, ?_, hbel.trans hb6⟩
          · rw [show (j + 1) * 8 = j * 8 + 8 by omega]; exact HLR.out
          · have := HSZ.out; have := HLN.out; simp; omega
          · have := HSZ.out; have := HLN.out; simp; omega
          · obtain ⟨s0', s1', hh⟩ := hh6
            exact ⟨s0', s1', by simpa [List.append_assoc] using hh⟩
        case measure => simp [intOf]; omega
      · obtain rfl : j = its.length := by omega
        obtain ⟨rfl, rfl⟩ : eI2 = [] ∧ eF2 = [] := by rw [List.drop_length] at hla; exact hla
        have hI : eI1 = i1 := by rw [he1.out, List.append_nil]
        have hF : eF1 = f1 := by rw [he2.out, List.append_nil]
        subst hI
        subst hF
        obtain ⟨wI, rfl⟩ : ∃ wI : World, wI = wr := ⟨_, rfl⟩
        have HHI := Lib.hid hheld
        have HBI := Lib.hid hbel
        have hz3 : eI1.length ≤ szV.szVs its ∧ eF1.length ≤ szV.szVs its := by omega
        clear hheld hla hlt2 hz1 hz2 he1 he2 hj q6
        go_wp2_with fail
        clear q7 hbel
        go_loopw [52] (fun ii wr => ∃ j : Nat, j ≤ fs.length ∧ ii = .int .i64 j ∧ ∃ eI3 eF3 eI2 eF2 : List Ent, Hid (i2 = eI3 ++ eI2) ∧ Hid (f2 = eF3 ++ eF2) ∧ LaidFs w (fs.drop j) gf (j * 9) eI2 eF2 ∧
          eI3.length + szV.szFs (fs.drop j) ≤ szV.szFs fs ∧ eF3.length + szV.szFs (fs.drop j) ≤ szV.szFs fs ∧ (∃ s0' s1', Held2 wr B H s0' s1' s2 s3 (xI ++ [.pointer (some ⟨g, o + 6, none⟩)] ++ eI1.map Ent.ptr ++ eI3.map Ent.ptr) (xF ++ [.pointer (some ⟨g, o + 7, none⟩)] ++ eF1.map Ent.ptr ++ eF3.map Ent.ptr)) ∧ Below B w wr) (fun ii _ => fs.length - (intOf ii).toNat)
        case atStart => exact ⟨0, by omega, rfl, [], [], i2, f2, Lib.hid rfl, Lib.hid rfl, by simpa using HLF.out, by simp, by simp, ⟨s0', s1', by simpa using HHI.out⟩, HBI.out⟩
        case round =>
          obtain ⟨j, hj, rfl, eI3, eF3, eI2, eF2, he1, he2, hla, hz1, hz2, ⟨s0', s1', hheld⟩, hbel⟩ := hrel
          obtain ⟨q6, q7⟩ := k6.out _ hbel
          by_cases hlt2 : j < fs.length
          · obtain ⟨rfl, hgfB⟩ := HGF.out (by omega)
            obtain ⟨u, hu⟩ : ∃ u, fs[j]? = some u := ⟨_, List.getElem?_eq_getElem hlt2⟩
            obtain ⟨a1, b1, a2, b2, rfl, rfl, hlu, hlr⟩ := hla.step hu
            have hsz : szV.szFs (fs.drop j) = szV u.2 + szV.szFs (fs.drop (j + 1)) := by rw [drop_some hu, szV.szFs]
            have hln := laid_len hlu
            have huN : szV u.2 ≤ N := by
              have := szFs_get hu
              have := HN.out
              simp only [szV] at this
              omega
            have hbu : ∀ b, b ∈ blks a1 ∨ b ∈ blks b1 → b < B := fun b hb => hbk.out b (.inr (by rw [he1.out, he2.out]; simp only [blks_append, List.mem_append]; rcases hb with h | h; exact .inl (.inr (.inl h)); exact .inr (.inr (.inl h))))
            have HCT := Lib.hid (IH.out u.2 huN gf (j * 9 + 1) B H s0' s1' s2 s3 _ _ a1 b1 wr (hlu.below hbel hgfB hbu) hgfB hbu (Nat.le_trans hB hbel.size) hheld (by simp; omega) (by simp; omega))
            have HLR := Lib.hid hlr
            unfold GatherPost at HCT
            have HSZ := Lib.hid hsz
            have HLN := Lib.hid hln
            clear hsz hln hbu hlu hlr hheld hla q6
            go_wp2_with (go_at_call 24; refine HCT.out.mono ?_; rintro e w6 ⟨rfl, hh6, hb6⟩)
            go_roundw
            case rel =>
              refine ⟨j + 1, by omega, by go_num, eI3 ++ a1, eF3 ++ b1, a2, b2, Lib.hid (by rw [he1.out, List.append_assoc]), Lib.hid (by rw [he2.out, List.append_assoc]), ?_, ?_, ?_, ?_, hbel.trans hb6⟩
              · rw [show (j + 1) * 9 = j * 9 + 9 by omega]; exact HLR.out
              · have := HSZ.out; have := HLN.out; simp; omega
              · have := HSZ.out; have := HLN.out; simp; omega
              · obtain ⟨s0', s1', hh⟩ := hh6
                exact ⟨s0', s1', by simpa [List.append_assoc] using hh⟩
            case measure => simp [intOf]; omega
          · obtain rfl : j = fs.length := by omega
            obtain ⟨rfl, rfl⟩ : eI2 = [] ∧ eF2 = [] := by rw [List.drop_length] at hla; exact hla
            have hI : eI3 = i2 := by rw [he1.out, List.append_nil]
            have hF : eF3 = f2 := by rw [he2.out, List.append_nil]
            subst hI
            subst hF
            have HP := Lib.hid (show GatherPost B H s2 s3 (xI ++ List.map Ent.ptr (⟨g, o + 6, p, its.length, c⟩ :: (eI1 ++ eI3))) (xF ++ List.map Ent.ptr (⟨g, o + 7, q, fs.length, d⟩ :: (eF1 ++ eF3))) w (.returned (.tuple #[])) wr from
              ⟨rfl, ⟨s0', s1', by simpa [List.append_assoc, Ent.ptr] using hheld⟩, hbel⟩)
            clear hheld hla hlt2 hz1 hz2 he1 he2 hj q6
            go_wp2_with fail
            refine bodyPost_ret (results_none rfl _ _ _) rfl ?_
            exact HP.out
end Go.Proofs.YtnmnmkdmnohbmaaDoor
