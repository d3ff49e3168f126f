/- The program's union of lists of faults. Conditions: none. -/
import Derived.Test.YtnmnmkdmnohbmaaSortF
import Derived.Test.YtnmnmkdmnohbmaaAppY
namespace Go.Proofs.Ytnmnmkdmnohbmaa
open Go.RowKit

theorem fC_len (l : List LF) : (fC l).length = l.length * 3 := flatMap_len3 (fun _ => rfl) l
theorem posC_len : ∀ l : List (Int × Int), (posC l).length = l.length * 2
  | [] => rfl
  | a :: t => by
    have := posC_len t
    simp only [posC, List.flatMap_cons, List.length_append, List.length_cons, List.length_nil] at this ⊢
    omega

theorem fsAt_cells {B : Nat} {w : World} {p : Option Addr} {l : List LF} (h : FsAt B w p l) : (p = none → l.length = 0) ∧ ∀ a, p = some a → ∀ (j : Nat) u, (fC l)[j]? = some u → w.cell? (a.add j) = some u := by
  rcases h.1 with h0 | ⟨b, o, e, hB, hc⟩
  · subst h0
    exact ⟨fun _ => rfl, fun a _ j u hu => by simp [fC] at hu⟩
  · refine ⟨fun hp => (by rw [hp] at e; cases e), fun a ha j u hu => ?_⟩
    rw [ha] at e
    cases e
    have hj : j < l.length * 3 := by rw [← fC_len]; exact (List.getElem?_eq_some_iff.1 hu).1
    obtain ⟨x, hx⟩ : ∃ x, l[j / 3]? = some x := ⟨_, List.getElem?_eq_getElem (by omega)⟩
    obtain ⟨c0, c1, c2⟩ := hc _ _ hx
    obtain ⟨d0, d1, d2⟩ := fC_at l _ x hx
    rw [addr_add]
    have hm : j % 3 = 0 ∨ j % 3 = 1 ∨ j % 3 = 2 := by omega
    rcases hm with hm | hm | hm
    · have e : j = j / 3 * 3 := by omega
      rw [e, d0] at hu
      rw [e, ← hu]
      exact c0
    · have e : j = j / 3 * 3 + 1 := by omega
      rw [e, d1] at hu
      rw [e, ← hu, ← Nat.add_assoc]
      exact c1
    · have e : j = j / 3 * 3 + 2 := by omega
      rw [e, d2] at hu
      rw [e, ← hu, ← Nat.add_assoc]
      exact c2

theorem posAt_cells {B : Nat} {w : World} {p : Option Addr} {l : List (Int × Int)} (h : PosAt B w p l) : (p = none → l.length = 0) ∧ ∀ a, p = some a → ∀ (j : Nat) u, (posC l)[j]? = some u → w.cell? (a.add j) = some u := by
  rcases h with h0 | ⟨b, o, e, hB, hc⟩
  · subst h0
    exact ⟨fun _ => rfl, fun a _ j u hu => by simp [posC] at hu⟩
  · refine ⟨fun hp => (by rw [hp] at e; cases e), fun a ha j u hu => ?_⟩
    rw [ha] at e
    cases e
    have hj : j < l.length * 2 := by rw [← posC_len]; exact (List.getElem?_eq_some_iff.1 hu).1
    obtain ⟨x, hx⟩ : ∃ x, l[j / 2]? = some x := ⟨_, List.getElem?_eq_getElem (by omega)⟩
    obtain ⟨c0, c1⟩ := hc _ _ hx
    obtain ⟨d0, d1⟩ := posC_at l _ x hx
    rw [addr_add]
    have hm : j % 2 = 0 ∨ j % 2 = 1 := by omega
    rcases hm with hm | hm
    · have e : j = j / 2 * 2 := by omega
      rw [e, d0] at hu
      rw [e, ← hu]
      exact c0
    · have e : j = j / 2 * 2 + 1 := by omega
      rw [e, d1] at hu
      rw [e, ← hu, ← Nat.add_assoc]
      exact c1

theorem fC_one {B : Nat} {w : World} {l : List LF} (h : ∀ x ∈ l, LOk B w x) : ∀ u ∈ fC l, u.oneCell' = true := fun u hu => by
  obtain ⟨x, hx, hu⟩ := List.mem_flatMap.1 hu
  simp only [List.mem_cons, List.not_mem_nil, or_false] at hu
  rcases hu with rfl | rfl | rfl
  · rfl
  · exact (h x hx).one.1
  · exact (h x hx).one.2
theorem posC_one (l : List (Int × Int)) : ∀ u ∈ posC l, u.oneCell' = true := fun u hu => by
  obtain ⟨x, hx, hu⟩ := List.mem_flatMap.1 hu
  simp only [List.mem_cons, List.not_mem_nil, or_false] at hu
  rcases hu with rfl | rfl <;> rfl

/-- What the program keeps of a sorted list's first i: each that is unlike the one ahead of it. -/
def dedAt (S : List LF) (j : Nat) : List LF := match S[j]? with
  | none => []
  | some x => match j with
    | 0 => [x]
    | j' + 1 => match S[j']? with
      | some y => if cmpF y.f x.f = 0 then [] else [x]
      | none => [x]
def dedP (S : List LF) (i : Nat) : List LF := (List.range i).flatMap (dedAt S)
theorem dedP_succ (S : List LF) (i : Nat) : dedP S (i + 1) = dedP S i ++ dedAt S i := by
  unfold dedP
  rw [List.range_succ, List.flatMap_append]
  simp
theorem dedP_first {S : List LF} {x : LF} (h : S[0]? = some x) : dedP S (0 + 1) = dedP S 0 ++ [x] := by
  rw [dedP_succ]
  simp [dedAt, h]
theorem dedP_skip {S : List LF} {i : Nat} {x y : LF} (hx : S[i + 1]? = some x) (hy : S[i]? = some y) (h : cmpF y.f x.f = 0) : dedP S (i + 1 + 1) = dedP S (i + 1) := by
  rw [dedP_succ]
  simp [dedAt, hx, hy, h]
theorem dedP_keep {S : List LF} {i : Nat} {x y : LF} (hx : S[i + 1]? = some x) (hy : S[i]? = some y) (h : ¬ cmpF y.f x.f = 0) : dedP S (i + 1 + 1) = dedP S (i + 1) ++ [x] := by
  rw [dedP_succ]
  simp [dedAt, hx, hy, h]
theorem dedAt_len (S : List LF) (j : Nat) : (dedAt S j).length ≤ 1 := by
  unfold dedAt
  repeat' split
  all_goals simp
theorem dedP_len (S : List LF) : ∀ i, (dedP S i).length ≤ i
  | 0 => by simp [dedP]
  | i + 1 => by
    have := dedP_len S i
    have := dedAt_len S i
    rw [dedP_succ, List.length_append]
    omega

set_option maxRecDepth 100000 in
set_option maxHeartbeats 16000000 in
theorem Faults_any (L : List (Value × List LF)) (p : Option Addr) (c : Nat) (w : World) (hL : LsAt w.heap.size w p L) (hlen : L.length ≤ big) (hcat : (cat L).length ≤ big) :
    Calls Try.prog 50 #[.slice p L.length c] w (fun e w' => ∃ p' c' r S, e = .returned (.slice p' (List.length r) c') ∧ S.Perm (cat L) ∧ S.Pairwise (fun x y => 0 ≤ cmpF y.f x.f) ∧ r.map LF.f = (dedP S (List.length S)).map (fun x => cleanF x.f) ∧ FsAt w'.heap.size w' p' r ∧ Below w.heap.size w w' ∧ List.length r ≤ c') := by
  unfold big at hlen hcat
  have HL := Lib.hid hL
  have HCAT := Lib.hid hcat
  have HSZ := Lib.hid (Nat.le_refl w.heap.size)
  have hcok : ∀ x ∈ cat L, LOk w.heap.size w x := fun x hx => by
    obtain ⟨y, hy, hx⟩ := List.mem_flatMap.1 hx
    obtain ⟨_, _, _, _, hF⟩ := hL.2 y hy
    exact hF.2 x hx
  have HCOK := Lib.hid hcok
  clear hL hcat hcok
  go_enter Try.func50, Try.ntmps50
  go_wp2
  go_loopw [3, 14] (fun s3 s14 wr => ∃ i : Nat, i ≤ L.length ∧ s14 = .int .i64 i ∧ ∃ r sp sc, s3 = .slice sp (List.length r) sc ∧ Hid (r = cat (L.take i)) ∧ Hid (wr.ownsRow w.heap.size 91 3 (.slice sp (List.length r) sc) (List.length r) (fC r)) ∧ Hid (Below w.heap.size w wr)) (fun _ s14 _ => L.length - (intOf s14).toNat)
  case atStart => exact ⟨0, by omega, rfl, [], none, 0, rfl, Lib.hid rfl, Lib.hid (World.ownsRow_nil _ _ _ _), Lib.hid (Below.refl _ _)⟩
  case round =>
    obtain ⟨i, hi, rfl, r, sp, sc, rfl, HR, HO, HB⟩ := hrel
    by_cases h1 : i < L.length
    · obtain ⟨⟨lv, l⟩, hx⟩ : ∃ x, L[i]? = some x := ⟨L[i], by simp [h1]⟩
      obtain ⟨q, cq, hlv, hlc, hFl⟩ := HL.out.2 _ (List.mem_of_getElem? hx)
      dsimp only at hlv hlc hFl
      subst hlv
      rcases HL.out.1 with h0 | ⟨b, o, rfl, hb, hc⟩
      · subst h0; simp at h1
      have hc0 := (HB.out.cell (p := ⟨b, o + i, none⟩) hb).trans (hc i _ hx)
      have h9 : (cat (L.take i)).length + l.length ≤ (cat L).length := cat_len L i _ hx
      have hrl : r.length + l.length ≤ 4194304 := by have := HCAT.out; rw [HR.out]; omega
      have HRL := Lib.hid hrl
      have HX := Lib.hid hx
      have HFL := Lib.hid (hFl.below HB.out)
      clear hx hc h9 hrl hFl
      go_upto_region 5 with (fail)
      go_step
      iterate 2
        refine wpList_plain rfl (fun K hK => ?_)
        go_step
        refine hK _ _ ?_
        clear hK K
      refine wpList_plain rfl (fun K hK => ?_)
      refine wp_append_y (P := Try.prog) (w := wr) (.tmp 18) (.tmp 19) 85 rfl w.heap.size 91 (.agg #[.int .i64 0, .slice none 0 0, .slice none 0 0]) 3 56 Try.underlying85 (by kernel_rfl) rfl (by decide) (.slice sp r.length sc) r.length _ rfl HO.out q l.length cq (fC l) rfl (fC_len l) (fsAt_cells HFL.out).1 (fsAt_cells HFL.out).2 (fC_one HFL.out.2) (by unfold maxLen; have := HRL.out; omega) (by have := HRL.out; omega) HB.out.size ?_
      intro v' w' hrow hgr
      refine hK _ _ ?_
      clear hK K
      have hbw' : Below w.heap.size w w' := HB.out.grown hgr HB.out.size (fun y hy => (HO.out.lt y hy).1)
      obtain ⟨g', cap', rfl⟩ := row_shape hrow
      have HRW := Lib.hid hrow
      have HBW := Lib.hid hbw'
      clear hrow hbw' hgr
      go_wp2
      go_roundw
      case rel =>
        refine ⟨i + 1, by omega, by go_num, r ++ l, g', cap', by rw [List.length_append], Lib.hid (by rw [HR.out, cat_take HX.out]), Lib.hid ?_, HBW⟩
        have h := HRW.out
        rw [List.length_append, fC_app]
        exact h
      case measure => simp [intOf]; omega
    · have hall := HR.out
      rw [List.take_of_length_le (by omega)] at hall
      have hrl : r.length ≤ 4194304 := by have := HCAT.out; rw [hall]; omega
      have C1 := Lib.hid (SortF_any r w.heap.size (.slice sp r.length sc) wr HO.out (fun x hx => (HCOK.out x (by rw [← hall]; exact hx)).below HB.out) hrl |>.mono (fun e w' h => (show e = .returned (.tuple #[]) ∧ ∃ l', l'.Perm r ∧ l'.Pairwise (fun x y => 0 ≤ cmpF y.f x.f) ∧ w'.ownsRow w.heap.size 91 3 (.slice sp r.length sc) r.length (fC l') ∧ wr.grownBy w' (Value.slice sp r.length sc).ownBlock from by obtain ⟨e1, l', h1, h2, h3, h4⟩ := h; exact ⟨e1, l', h1, h2.imp (fun h => by omega), h3, h4⟩)))
      have HALL := Lib.hid hall
      have HRL := Lib.hid hrl
      have HBR := HB
      clear hall hrl HR
      go_wp2_with (go_at_call 76; refine C1.out.mono ?_; rintro e w1 ⟨rfl, S, hperm, hpw, hrow, hgr⟩; have HPERM := Lib.hid hperm; have HPW := Lib.hid hpw; have HROW := Lib.hid hrow; have HB1 := Lib.hid (HBR.out.grown hgr HBR.out.size (fun y hy => (HO.out.lt y hy).1)); have HSL := Lib.hid hperm.length_eq; clear hperm hpw hrow hgr)
      clear C1 h1 hi
      generalize hn : List.length r = n at *
      have HNR := Lib.hid hn
      have hn4 : n ≤ 4194304 := by have := HRL.out; omega
      clear hn
      have HSOK : Hid (∀ x ∈ S, LOk w.heap.size w x) := Lib.hid (fun x hx => HCOK.out x (by rw [← HALL.out]; exact HPERM.out.mem_iff.1 hx))
      go_loopw [6, 26] (fun s6 s26 wr2 => ∃ i : Nat, i ≤ n ∧ s26 = .int .i64 i ∧ ∃ r sq sd, s6 = .slice sq (List.length r) sd ∧ Hid (wr2.ownsRow w.heap.size 91 3 (.slice sq (List.length r) sd) (List.length r) (fC r)) ∧ Hid (r.map LF.f = (dedP S i).map (fun x => cleanF x.f)) ∧ Hid (∀ x ∈ r, OwnLF w.heap.size wr2 x) ∧ Hid (Below w.heap.size w wr2) ∧ Hid (wr2.ownsRow w.heap.size 91 3 (.slice sp n sc) n (fC S)) ∧ Hid ((Value.slice sp n sc).ownBlock = none ∨ (Value.slice sp n sc).ownBlock ≠ (Value.slice sq (List.length r) sd).ownBlock)) (fun _ s26 _ => n - (intOf s26).toNat)
      case atStart => exact ⟨0, by omega, rfl, [], none, 0, rfl, Lib.hid (World.ownsRow_nil _ _ _ _), Lib.hid rfl, Lib.hid (fun _ h => by cases h), HB1, HROW, Lib.hid (by cases sp <;> simp [Value.ownBlock])⟩
      case round =>
        clear HB1 HROW HO HB HBR
        obtain ⟨i, hi, rfl, r, sq, sd, rfl, HO, HM, HW, HB, HS, HNE⟩ := hrel
        obtain ⟨wq, rfl⟩ : ∃ wq, wq = wr := ⟨_, rfl⟩
        have hlr : Hid (r.length ≤ 4194304) := Lib.hid (by
          have h := congrArg List.length HM.out
          simp only [List.length_map] at h
          have := dedP_len S i
          have := HRL.out
          have := HNR.out
          omega)
        by_cases h1 : i < n
        · obtain ⟨x, hx⟩ : ∃ x, S[i]? = some x := ⟨_, List.getElem?_eq_getElem (by have := HSL.out; have := HNR.out; omega)⟩
          have okx := HSOK.out x (List.mem_of_getElem? hx)
          obtain ⟨ga, capa, hsp, _, hga, hgc⟩ := rowAt1 HS.out (by omega)
          cases hsp
          obtain ⟨k0, k1, k2⟩ := fC_at S i x hx
          have a1 := hgc _ _ k0
          have a2 := hgc _ _ k1
          have a3 := hgc _ _ k2
          have HX := Lib.hid hx
          have HOKX := Lib.hid okx
          have HGC := Lib.hid hgc
          obtain ⟨⟨xk, xpos, xpath⟩, xp, xq⟩ := x
          obtain ⟨⟨pp, pc, e1, hpp, hpl⟩, qp, qc, e2, hqp, hql⟩ := okx
          dsimp only at e1 e2 a1 a2 a3 hpp hqp hpl hql
          subst e1 e2
          unfold big at hpl hql
          have HPP := Lib.hid hpp
          have HQP := Lib.hid hqp
          clear hx hgc k0 k1 k2 hpp hqp
          have hwa : ga < wq.heap.size := hga
          have HI1 := Lib.hid h1
          go_upto_region 12 with (fail)
          obtain ⟨W8, hW8⟩ : ∃ W8, wq.alloc (.cells #[.int .i64 xk, .slice pp xpos.length pc, .slice qp xpath.length qc] 91) = W8 := ⟨_, rfl⟩
          have hb8 : Below wq.heap.size wq W8 := by rw [← hW8]; exact (Below.refl _ _).alloc (Nat.le_refl _) _
          have hF8 : W8.heap[wq.heap.size]? = some (.cells #[.int .i64 xk, .slice pp xpos.length pc, .slice qp xpath.length qc] 91 (0, 0)) := by rw [← hW8]; exact heap_new wq _
          have hs8 : wq.heap.size < W8.heap.size := (Array.getElem?_eq_some_iff.1 hF8).1
          rw [hW8]
          clear hW8
          have hwr : w.heap.size ≤ wq.heap.size := HB.out.size
          have f0 : W8.cell? ⟨wq.heap.size, 0, none⟩ = some (.int .i64 xk) := by simp [World.cell?, hF8]
          have f1 : W8.cell? ⟨wq.heap.size, 1, none⟩ = some (.slice pp xpos.length pc) := by simp [World.cell?, hF8]
          have f2 : W8.cell? ⟨wq.heap.size, 2, none⟩ = some (.slice qp xpath.length qc) := by simp [World.cell?, hF8]
          have HF8 := Lib.hid hF8
          have HB8 := Lib.hid hb8
          clear hF8 a1 a2 a3
          have ga8 : ga < W8.heap.size := by omega
          cases i with
          | zero =>
            have kc := cell_cls W8
            refine wp_region_plan_below 12 [(0, [0, 1, 2, 3, 4, 5, 6, 7, 8]), (1, [9]), (0, [10, 11])] (by kernel_rfl) (by kernel_rfl) (fun _ _ _ _ h => h) ?_
            simp only [wpSegs, pickOps, List.getElem?_toArray, List.getElem?_cons_zero, List.getElem?_cons_succ]
            iterate 9 (go_big_quiet_step (fail))
            refine wpQuiet_nil ?_
            clear kc
            refine wpListC_skip (by rfl) ?_
            simp only [Act.put, List.setIfInBounds_toArray, List.set_cons_succ, List.set_cons_zero]
            refine wpListC_nil ?_
            iterate 2 (go_big_quiet_step (fail))
            refine wpQuiet_nil ?_
            obtain ⟨V, hV⟩ : ∃ V : World, { W8 with drawn := W8.drawn + 1 } = V := ⟨_, rfl⟩
            have hbV : Below wq.heap.size wq V := by rw [← hV]; exact hb8.trans ((Below.drew (Below.refl W8.heap.size W8)).mono hb8.size)
            have hFV : V.heap[wq.heap.size]? = some (.cells #[.int .i64 xk, .slice pp xpos.length pc, .slice qp xpath.length qc] 91 (0, 0)) := by rw [← hV]; exact HF8.out
            rw [hV]
            have HEQ : Hid (dedP S (0 + 1) = dedP S 0 ++ [⟨⟨xk, xpos, xpath⟩, .slice pp xpos.length pc, .slice qp xpath.length qc⟩]) := Lib.hid (dedP_first HX.out)
            clear hV f0 f1 f2 hb8 HB8 HF8 hs8 ga8
            go_upto_region 13 with (fail)
            have hFl0 : wq.heap.size < V.heap.size := (Array.getElem?_eq_some_iff.1 hFV).1
            have f0 : V.cell? ⟨wq.heap.size, 0, none⟩ = some (.int .i64 xk) := by simp [World.cell?, hFV]
            have f1 : V.cell? ⟨wq.heap.size, 1, none⟩ = some (.slice pp xpos.length pc) := by simp [World.cell?, hFV]
            have HFV := Lib.hid hFV
            have HBV := Lib.hid hbV
            have HPV : Hid (PosAt V.heap.size V pp xpos) := Lib.hid (by
              have hb : Below w.heap.size w V := HB.out.trans (hbV.mono HB.out.size)
              exact (HPP.out.below hb).up hb.size)
            clear hFV hbV
            have kc := cell_cls V
            refine wp_region_tree_below 7 (.heads [0, 1, 2, 3] (.fork 4 (.heads [5] (.chain [6] (.tail [7]))) 6 (.chain [4] (.heads [5] (.tail [7]))))) (by kernel_rfl) (by kernel_rfl) (fun _ _ _ _ h => h) ?_
            simp only [wpPlan, pickOps, List.getElem?_toArray, List.getElem?_cons_zero, List.getElem?_cons_succ]
            iterate 4 (go_big_quiet_step (fail))
            refine wpQuiet_nil ?_
            clear kc f0 f1
            refine ⟨?_, ?_⟩
            · refine wpListC_plain rfl (fun K hK => ?_)
              refine wp_append_y (P := Try.prog) (w := { V with drawn := V.drawn + 1 }) (.const (.slice none 0 0)) (.tmp 46) 89 rfl V.heap.size 88 (.agg #[.int .i64 0, .int .i64 0]) 2 16 Try.underlying89 (by kernel_rfl) rfl (by decide) (.slice none 0 0) 0 [] rfl (World.ownsRow_nil _ _ _ _) pp xpos.length pc (posC xpos) rfl (posC_len xpos) (posAt_cells HPV.out).1 (posAt_cells HPV.out).2 (posC_one xpos) (by unfold maxLen; omega) (by omega) (Nat.le_refl _) ?_
              intro v' w4 hrow hgr
              rw [Nat.zero_add, List.nil_append] at hrow
              have hb4 : Below V.heap.size V w4 := ⟨hgr.os, hgr.tape, hgr.output, hgr.size, fun k hk => hgr.block k hk (by simp [Value.ownBlock])⟩
              obtain ⟨gp, gc, rfl⟩ := row_shape hrow
              refine hK _ _ (cls_of_below hb4) ?_
              clear hK K
              refine wpListC_nil ?_
              simp only [Act.put, List.setIfInBounds_toArray, List.set_cons_succ, List.set_cons_zero]
              go_big_quiet_step (fail)
              refine wpQuiet_nil ?_
              refine wpListC_plain rfl (fun K hK => ?_)
              go_step
              refine hK _ _ (cls_of_below (hb4.alloc hb4.size _)) ?_
              clear hK K
              refine wpListC_nil ?_
              go_upto_region 14 with (fail)
              obtain ⟨W13, hW13⟩ : ∃ W13, w4.alloc (.cells #[.int .i64 xk, .slice gp xpos.length gc, .slice none 0 0] 91) = W13 := ⟨_, rfl⟩
              have hG : W13.heap[w4.heap.size]? = some (.cells #[.int .i64 xk, .slice gp xpos.length gc, .slice none 0 0] 91 (0, 0)) := by rw [← hW13]; exact heap_new w4 _
              have hb13 : Below V.heap.size V W13 := by rw [← hW13]; exact hb4.alloc hb4.size _
              have hrow13 : W13.ownsRow V.heap.size 88 2 (.slice gp xpos.length gc) xpos.length (posC xpos) := by rw [← hW13]; exact hrow.alloc _
              have hGV : V.heap.size ≤ w4.heap.size := hb4.size
              rw [hW13]
              clear hW13 hrow hgr hb4
              generalize w4.heap.size = G at *
              have f2 : W13.cell? ⟨wq.heap.size, 2, none⟩ = some (.slice qp xpath.length qc) := by
                rw [hb13.cell (p := ⟨wq.heap.size, 2, none⟩) hFl0]
                simp [World.cell?, HFV.out]
              have HG13 := Lib.hid hG
              have HB13 := Lib.hid hb13
              have HR13 := Lib.hid hrow13
              have HGV := Lib.hid hGV
              clear hG hb13 hrow13 hGV
              go_wp2
              clear f2
              go_loopw [52] (fun s52 wr3 => ∃ j : Nat, j ≤ xpath.length ∧ s52 = .int .i64 j ∧ ∃ sv, Hid (wr3.heap[G]? = some (.cells #[.int .i64 xk, .slice gp xpos.length gc, sv] 91 (0, 0))) ∧ Hid (wr3.ownsRow V.heap.size 53 3 sv j (stC ((xpath.map bareS).take j))) ∧ Hid (Below V.heap.size V wr3) ∧ Hid (wr3.ownsRow V.heap.size 88 2 (.slice gp xpos.length gc) xpos.length (posC xpos))) (fun s52 _ => xpath.length - (intOf s52).toNat)
              case atStart => exact ⟨0, by omega, rfl, _, HG13, Lib.hid (World.ownsRow_nil _ _ _ _), HB13, HR13⟩
              case round =>
                clear HG13 HB13 HR13
                obtain ⟨j, hj, rfl, sv, hL, hG, hB3, hP3⟩ := hrel
                obtain ⟨ssp, ssc, rfl⟩ := row_shape hG.out
                have hsL : G < wr.heap.size := (Array.getElem?_eq_some_iff.1 hL.out).1
                have hVw := hB3.out.size
                by_cases hjl : j < xpath.length
                · obtain ⟨st, hst⟩ : ∃ st, xpath[j]? = some st := ⟨xpath[j], by simp [hjl]⟩
                  rcases HQP.out with hp | ⟨b', o', rfl, hb', hc'⟩
                  · subst hp; simp at hjl
                  obtain ⟨t1, t2, t3⟩ := hc' j st hst
                  have hbw : Below w.heap.size w wr := (HB.out.trans (HBV.out.mono HB.out.size)).trans (hB3.out.mono (by have := HB.out.size; have := HBV.out.size; omega))
                  have t1 := (hbw.cell (p := ⟨b', o' + j * 3, none⟩) hb').trans t1
                  have t2 := (hbw.cell (p := ⟨b', o' + j * 3 + 1, none⟩) hb').trans t2
                  have t3 := (hbw.cell (p := ⟨b', o' + j * 3 + 2, none⟩) hb').trans t3
                  have gG : wr.cell? ⟨G, 2, none⟩ = some (.slice ssp j ssc) := by simp [World.cell?, hL.out]
                  obtain ⟨⟨bn, bi, bt⟩, hbs⟩ : ∃ s', bareS st = s' := ⟨_, rfl⟩
                  have C1 : Hid (∀ W, Calls Try.prog 56 #[.agg #[.string st.nm, .int .i64 st.ix, .bool st.it]] W (RetB (.agg #[.string bn, .int .i64 bi, .bool bt]) W)) := Lib.hid (fun W => by
                    have := bare_any st W
                    rw [hbs] at this
                    exact this)
                  have HBS := Lib.hid hbs
                  have HST := Lib.hid hst
                  obtain ⟨sn, si, sb⟩ := st
                  dsimp only at t1 t2 t3 C1
                  clear hc' hst hbw hbs
                  go_upto_region 17 with (fail)
                  obtain ⟨W6, hW6⟩ : ∃ W6, wr.alloc (.cells #[.string sn, .int .i64 si, .bool sb] 53) = W6 := ⟨_, rfl⟩
                  have hb6 : Below wr.heap.size wr W6 := by rw [← hW6]; exact (Below.refl _ _).alloc (Nat.le_refl _) _
                  have hd := cellsAt_alloc wr #[.string sn, .int .i64 si, .bool sb] 53 (0, 0)
                  rw [hW6] at hd
                  have d0 : W6.cell? ⟨wr.heap.size, 0, none⟩ = some (.string sn) := hd 0 _ rfl
                  have d1 : W6.cell? ⟨wr.heap.size, 1, none⟩ = some (.int .i64 si) := hd 1 _ rfl
                  have d2 : W6.cell? ⟨wr.heap.size, 2, none⟩ = some (.bool sb) := hd 2 _ rfl
                  have hs6 : wr.heap.size < W6.heap.size := by rw [← hW6]; simp
                  have gG6 := (hb6.cell (p := ⟨G, 2, none⟩) hsL).trans gG
                  have hsL6 : G < W6.heap.size := by omega
                  rw [hW6]
                  clear hW6 hd t1 t2 t3 gG
                  have kc := cell_cls W6
                  refine wp_region_plan_below 5 [(0, [0, 1, 2]), (1, [3, 4]), (2, [5, 6, 7])] (by kernel_rfl) (by kernel_rfl) (fun _ _ _ _ h => h) ?_
                  simp only [wpSegs, pickOps, List.getElem?_toArray, List.getElem?_cons_zero, List.getElem?_cons_succ]
                  iterate 3 (go_big_quiet_step (fail))
                  refine wpQuiet_nil ?_
                  clear kc
                  refine wpListC_plain rfl (fun K hK => ?_)
                  go_step
                  refine (C1.out _).mono ?_
                  rintro e w5 ⟨rfl, hb5⟩
                  have hb65 : Below W6.heap.size W6 w5 := (Below.drew (Below.refl _ _)).trans hb5
                  refine hK _ _ (cls_of_below hb65) ?_
                  clear hK K
                  refine wpListC_plain rfl (fun K hK => ?_)
                  go_step
                  obtain ⟨W3, hW⟩ : ∃ W3, w5.alloc (.cells #[.string bn, .int .i64 bi, .bool bt] 53) = W3 := ⟨_, rfl⟩
                  have hb53 : Below w5.heap.size w5 W3 := by rw [← hW]; exact (Below.refl _ _).alloc (Nat.le_refl _) _
                  have hnew : CellsAt W3 w5.heap.size 0 #[.string bn, .int .i64 bi, .bool bt] := by rw [← hW]; exact cellsAt_alloc w5 _ _ (0, 0)
                  rw [hW]
                  clear hW
                  refine hK _ _ (cls_of_below (hb65.trans (hb53.mono hb65.size))) ?_
                  clear hK K
                  refine wpListC_nil ?_
                  have hbr3 : Below wr.heap.size wr W3 := hb6.trans ((hb65.trans (hb53.mono hb65.size)).mono hb6.size)
                  refine wpList_plain rfl (fun K hK => ?_)
                  have HG3 := hG.out.kept (grown_ofb hbr3 none) (by cases (Value.slice ssp j ssc).ownBlock <;> simp)
                  refine wp_append_x (P := Try.prog) W3 (.tmp 57) (.tmp 60) 50 rfl V.heap.size 53 (.agg #[.string ⟨#[]⟩, .int .i64 0, .bool false]) 3 32 Try.underlying50 (by kernel_rfl) rfl (by decide) (.slice ssp j ssc) j _ rfl HG3 ⟨w5.heap.size, 0, none⟩ 1 1 [.string bn, .int .i64 bi, .bool bt] rfl (by decide) rfl ?c1 ?c2 ?c3 ?c4 ?c5 ?_
                  case c1 =>
                    intro m u hu
                    have := hnew m u (by simpa using hu)
                    rw [addr_add]
                    exact this
                  case c2 => intro u hu; simp at hu; rcases hu with rfl | rfl | rfl <;> rfl
                  case c3 => unfold maxLen; omega
                  case c4 => omega
                  case c5 => have := hbr3.size; omega
                  intro v' w' hrow hgr hv'
                  refine hK _ _ ?_
                  clear hK K
                  have hne : some G ≠ (Value.slice ssp j ssc).ownBlock := fun e => by
                    obtain ⟨c1, h1⟩ := row_cells0 hG.out e.symm
                    rw [hL.out] at h1
                    cases h1
                  have hLw' : w'.heap[G]? = some (.cells #[.int .i64 xk, .slice gp xpos.length gc, .slice ssp j ssc] 91 (0, 0)) := by
                    rw [hgr.block _ (by have := hbr3.size; omega) hne, hbr3.block _ hsL]
                    exact hL.out
                  have hfin := heap_setCell_same (j := 2) hLw' v'
                  have hrow' := hrow.kept (grown_sc w' ⟨G, 2, none⟩ v') (.inr fun e => by
                    obtain ⟨c1, h1⟩ := row_cells0 hrow e
                    rw [hLw'] at h1
                    cases h1)
                  have hP' : (w'.setCell ⟨G, 2, none⟩ v').ownsRow V.heap.size 88 2 (.slice gp xpos.length gc) xpos.length (posC xpos) := by
                    have h1 := hP3.out.kept (grown_ofb hbr3 none) (by cases (Value.slice gp xpos.length gc).ownBlock <;> simp)
                    have h2 := h1.kept hgr (row_apart h1 HG3 (by decide))
                    refine h2.kept (grown_sc w' ⟨G, 2, none⟩ v') (.inr fun e => ?_)
                    obtain ⟨c1, h3⟩ := row_cells0 h2 e
                    rw [hLw'] at h3
                    cases h3
                  have hbw' : Below V.heap.size V (w'.setCell ⟨G, 2, none⟩ v') :=
                    ((hB3.out.trans (hbr3.mono hVw)).grown hgr (by have := hbr3.size; omega) (fun y hy => (HG3.lt y hy).1)).setCell (p := ⟨G, 2, none⟩) HGV.out _
                  have hc6 : w'.cell? ⟨G, 2, none⟩ = some (.slice ssp j ssc) := by simp [World.cell?, hLw']
                  have hf6 : w'.frozen? ⟨G, 2, none⟩ = false := by simp [World.frozen?, hLw']
                  obtain ⟨g', cap', rfl⟩ : ∃ g' cap', v' = .slice (some ⟨g', 0, none⟩) (j + 1) cap' := by
                    rcases hrow.2 with ⟨_, h⟩ | ⟨g', cap', cur, h, _⟩
                    · omega
                    · exact ⟨g', cap', h⟩
                  have HFIN := Lib.hid hfin
                  have HGF := Lib.hid hrow'
                  have HBP := Lib.hid (And.intro hbw' hP')
                  clear hfin hrow' hbw' hP' hLw' hrow hgr hv' HG3 hbr3 hnew hb53 hb65 hb5 hb6 hne d0 d1 d2 hs6 gG6 hsL6
                  go_wp2
                  go_roundw
                  case rel =>
                    refine ⟨j + 1, by omega, by go_num, .slice (some ⟨g', 0, none⟩) (j + 1) cap', HFIN, Lib.hid ?_, Lib.hid HBP.out.1, Lib.hid HBP.out.2⟩
                    rw [List.take_add_one, List.getElem?_map, HST.out, stC_app]
                    have h := HGF.out
                    have e : stC (Option.map bareS (some (⟨sn, si, sb⟩ : St))).toList = [.string bn, .int .i64 bi, .bool bt] := by
                      show stC [bareS ⟨sn, si, sb⟩] = _
                      rw [HBS.out]
                      rfl
                    rw [e]
                    exact h
                  case measure => simp [intOf]; omega
                · obtain rfl : j = xpath.length := by omega
                  rw [List.take_of_length_le (by rw [List.length_map]; exact Nat.le_refl _)] at hG
                  have hbq : Below wq.heap.size wq wr := HBV.out.trans (hB3.out.mono HBV.out.size)
                  have g0 : wr.cell? ⟨G, 0, none⟩ = some (.int .i64 xk) := by simp [World.cell?, hL.out]
                  have g1 : wr.cell? ⟨G, 1, none⟩ = some (.slice gp xpos.length gc) := by simp [World.cell?, hL.out]
                  have g2 : wr.cell? ⟨G, 2, none⟩ = some (.slice ssp xpath.length ssc) := by simp [World.cell?, hL.out]
                  have HOwr := Lib.hid (HO.out.kept (grown_ofb hbq none) (by cases (Value.slice sq r.length sd).ownBlock <;> simp))
                  have HSwr := Lib.hid (HS.out.kept (grown_ofb hbq none) (by simp [Value.ownBlock]))
                  have HBwr := Lib.hid (HB.out.trans (hbq.mono HB.out.size))
                  have HMEM : Hid (∀ z ∈ r ++ [⟨⟨xk, xpos, xpath.map bareS⟩, .slice gp xpos.length gc, .slice ssp xpath.length ssc⟩], OwnLF w.heap.size wr z) := Lib.hid (fun z hz => by
                    rcases List.mem_append.1 hz with hz | hz
                    · exact (HW.out z hz).below hbq
                    · obtain rfl : z = _ := by simpa using hz
                      exact ⟨row_lower hP3.out (by have := HB.out.size; have := HBV.out.size; omega), row_lower (by rw [List.length_map]; exact hG.out) (by have := HB.out.size; have := HBV.out.size; omega), by unfold big; omega, by unfold big; simpa using hql⟩)
                  clear hbq hsL hVw
                  go_upto_region 19 with (fail)
                  go_step
                  iterate 3
                    refine wpList_plain rfl (fun K hK => ?_)
                    go_step
                    refine hK _ _ ?_
                    clear hK K
                  obtain ⟨W3, hW⟩ : ∃ W3, wr.alloc (.cells #[.int .i64 xk, .slice gp xpos.length gc, .slice ssp xpath.length ssc] 91) = W3 := ⟨_, rfl⟩
                  have hb3 : Below wr.heap.size wr W3 := by rw [← hW]; exact (Below.refl wr.heap.size wr).alloc (Nat.le_refl _) _
                  have hnew : CellsAt W3 wr.heap.size 0 #[.int .i64 xk, .slice gp xpos.length gc, .slice ssp xpath.length ssc] := by rw [← hW]; exact cellsAt_alloc wr _ _ (0, 0)
                  rw [hW]
                  clear hW
                  have HG3 := HOwr.out.kept (grown_ofb hb3 none) (by cases (Value.slice sq r.length sd).ownBlock <;> simp)
                  have HS3 := HSwr.out.kept (grown_ofb hb3 none) (by simp [Value.ownBlock])
                  refine wpList_plain rfl (fun K hK => ?_)
                  refine wp_append_x (P := Try.prog) W3 (.tmp 64) (.tmp 66) 85 rfl w.heap.size 91 (.agg #[.int .i64 0, .slice none 0 0, .slice none 0 0]) 3 56 Try.underlying85 (by kernel_rfl) rfl (by decide) (.slice sq r.length sd) r.length _ rfl HG3 ⟨wr.heap.size, 0, none⟩ 1 1 [.int .i64 xk, .slice gp xpos.length gc, .slice ssp xpath.length ssc] rfl (by decide) rfl ?c1 ?c2 ?c3 ?c4 ?c5 ?_
                  case c1 =>
                    intro m u hu
                    have := hnew m u (by simpa using hu)
                    rw [addr_add]
                    exact this
                  case c2 => intro u hu; simp at hu; rcases hu with rfl | rfl | rfl <;> rfl
                  case c3 => unfold maxLen; have := hlr.out; omega
                  case c4 => have := hlr.out; omega
                  case c5 => have := hb3.size; have := HBwr.out.size; omega
                  intro v' w' hrow hgr hv'
                  refine hK _ _ ?_
                  clear hK K
                  have hbw' : Below w.heap.size w w' := (HBwr.out.trans (hb3.mono HBwr.out.size)).grown hgr (by have := hb3.size; have := HBwr.out.size; omega) (fun y hy => (HG3.lt y hy).1)
                  have hS' := HS3.kept hgr HNE.out
                  have hne' : (Value.slice (some ⟨ga, 0, none⟩) n sc).ownBlock = none ∨ (Value.slice (some ⟨ga, 0, none⟩) n sc).ownBlock ≠ v'.ownBlock := by
                    rcases hv' with e | e
                    · rw [e]; exact HNE.out
                    · refine .inr (fun e2 => ?_)
                      rw [e] at e2
                      have := (HS3.lt W3.heap.size e2).2
                      omega
                  have hmem' : ∀ z ∈ r ++ [⟨⟨xk, xpos, xpath.map bareS⟩, .slice gp xpos.length gc, .slice ssp xpath.length ssc⟩], OwnLF w.heap.size w' z := fun z hz => ((HMEM.out z hz).below hb3).kept HG3 hgr
                  obtain ⟨g', cap', rfl⟩ : ∃ g' cap', v' = .slice (some ⟨g', 0, none⟩) (r.length + 1) cap' := by
                    rcases hrow.2 with ⟨_, h⟩ | ⟨g', cap', cur, h, _⟩
                    · omega
                    · exact ⟨g', cap', h⟩
                  have HALL5 := Lib.hid (And.intro hrow (And.intro hbw' (And.intro hS' (And.intro hne' hmem'))))
                  clear hrow hbw' hgr hS' hne' hmem' hv' HG3 HS3 hb3 hnew
                  go_wp2
                  go_roundw
                  case rel =>
                    refine ⟨0 + 1, by have := HI1.out; omega, by go_num, r ++ [⟨⟨xk, xpos, xpath.map bareS⟩, .slice gp xpos.length gc, .slice ssp xpath.length ssc⟩], some ⟨g', 0, none⟩, cap', by rw [List.length_append]; rfl, Lib.hid ?_, Lib.hid ?_, Lib.hid HALL5.out.2.2.2.2, Lib.hid HALL5.out.2.1, Lib.hid HALL5.out.2.2.1, Lib.hid ?_⟩
                    · have h := HALL5.out.1
                      rw [List.length_append, fC_app]
                      exact h
                    · rw [HEQ.out, List.map_append, List.map_append, HM.out]
                      rfl
                    · have h := HALL5.out.2.2.2.1
                      rw [List.length_append]
                      exact h
                  case measure => have := HI1.out; simp [intOf]; omega
            · refine wpListC_plain rfl (fun K hK => ?_)
              go_step
              have hbA : Below V.heap.size V (V.alloc (.cells #[.int .i64 0, .slice none 0 0, .slice none 0 0] 91)).drew := Below.drew ((Below.refl _ _).alloc (Nat.le_refl _) _)
              have hGA : (V.alloc (.cells #[.int .i64 0, .slice none 0 0, .slice none 0 0] 91)).drew.heap[V.heap.size]? = some (.cells #[.int .i64 0, .slice none 0 0, .slice none 0 0] 91 (0, 0)) := heap_new V _
              obtain ⟨WA, hWA⟩ : ∃ WA, (V.alloc (.cells #[.int .i64 0, .slice none 0 0, .slice none 0 0] 91)).drew = WA := ⟨_, rfl⟩
              rw [hWA] at hbA hGA
              rw [hWA]
              refine hK _ _ (cls_of_below hbA) ?_
              clear hK K hWA
              refine wpListC_nil ?_
              have HPA : Hid (PosAt V.heap.size WA pp xpos) := Lib.hid (HPV.out.below hbA)
              refine wpListC_plain rfl (fun K hK => ?_)
              refine wp_append_y (P := Try.prog) (w := WA) (.const (.slice none 0 0)) (.tmp 46) 89 rfl V.heap.size 88 (.agg #[.int .i64 0, .int .i64 0]) 2 16 Try.underlying89 (by kernel_rfl) rfl (by decide) (.slice none 0 0) 0 [] rfl (World.ownsRow_nil _ _ _ _) pp xpos.length pc (posC xpos) rfl (posC_len xpos) (posAt_cells HPA.out).1 (posAt_cells HPA.out).2 (posC_one xpos) (by unfold maxLen; omega) (by omega) hbA.size ?_
              intro v' w4 hrow hgr
              rw [Nat.zero_add, List.nil_append] at hrow
              have hb4 : Below WA.heap.size WA w4 := ⟨hgr.os, hgr.tape, hgr.output, hgr.size, fun k hk => hgr.block k hk (by simp [Value.ownBlock])⟩
              have hbV4 : Below V.heap.size V w4 := hbA.trans (hb4.mono hbA.size)
              obtain ⟨gp, gc, rfl⟩ := row_shape hrow
              refine hK _ _ (cls_of_below hbV4) ?_
              clear hK K
              refine wpListC_nil ?_
              simp only [Act.put, List.setIfInBounds_toArray, List.set_cons_succ, List.set_cons_zero]
              go_big_quiet_step (fail)
              refine wpQuiet_nil ?_
              have hG4 : w4.heap[V.heap.size]? = some (.cells #[.int .i64 0, .slice none 0 0, .slice none 0 0] 91 (0, 0)) := (hb4.block _ (Array.getElem?_eq_some_iff.1 hGA).1).trans hGA
              refine wpList_plain rfl (fun K hK => ?_)
              refine wp_store_row (P := Try.prog) 91 (.tmp 9) (.tmp 48) rfl V.heap.size #[.int .i64 xk, .slice gp xpos.length gc, .slice none 0 0] rfl rfl 91 _ hG4 (by kernel_rfl) rfl (by simp [Value.oneCell']) ?_
              refine hK _ _ ?_
              clear hK K
              obtain ⟨W13, hW13⟩ : ∃ W13, w4.setRow V.heap.size #[.int .i64 xk, .slice gp xpos.length gc, .slice none 0 0] = W13 := ⟨_, rfl⟩
              have hG : W13.heap[V.heap.size]? = some (.cells #[.int .i64 xk, .slice gp xpos.length gc, .slice none 0 0] 91 (0, 0)) := by rw [← hW13]; exact setRow_heap _ _ _ _ _ _ hG4
              have hb13 : Below V.heap.size V W13 := by rw [← hW13]; exact below_setRow hbV4 (Nat.le_refl _) _
              have hrow13 : W13.ownsRow V.heap.size 88 2 (.slice gp xpos.length gc) xpos.length (posC xpos) := by
                rw [← hW13]
                exact hrow.kept (grown_sr w4 V.heap.size _) (by
                  cases hq : (Value.slice gp xpos.length gc).ownBlock with
                  | none => exact .inl rfl
                  | some g =>
                    refine .inr (fun e => ?_)
                    obtain ⟨c1, h1⟩ := row_cells0 hrow hq
                    cases e
                    rw [hG4] at h1
                    cases h1)
              have hGV : V.heap.size ≤ V.heap.size := Nat.le_refl _
              rw [hW13]
              clear hW13 hrow hgr hb4 hbV4 hG4 hGA hbA HPA
              go_upto_region 14 with (fail)
              have f2 : W13.cell? ⟨wq.heap.size, 2, none⟩ = some (.slice qp xpath.length qc) := by
                rw [hb13.cell (p := ⟨wq.heap.size, 2, none⟩) hFl0]
                simp [World.cell?, HFV.out]
              have HG13 := Lib.hid hG
              have HB13 := Lib.hid hb13
              have HR13 := Lib.hid hrow13
              have HGV := Lib.hid hGV
              clear hG hb13 hrow13 hGV
              go_wp2
              clear f2
              go_loopw [52] (fun s52 wr3 => ∃ j : Nat, j ≤ xpath.length ∧ s52 = .int .i64 j ∧ ∃ sv, Hid (wr3.heap[V.heap.size]? = some (.cells #[.int .i64 xk, .slice gp xpos.length gc, sv] 91 (0, 0))) ∧ Hid (wr3.ownsRow V.heap.size 53 3 sv j (stC ((xpath.map bareS).take j))) ∧ Hid (Below V.heap.size V wr3) ∧ Hid (wr3.ownsRow V.heap.size 88 2 (.slice gp xpos.length gc) xpos.length (posC xpos))) (fun s52 _ => xpath.length - (intOf s52).toNat)
              case atStart => exact ⟨0, by omega, rfl, _, HG13, Lib.hid (World.ownsRow_nil _ _ _ _), HB13, HR13⟩
              case round =>
                clear HG13 HB13 HR13
                obtain ⟨j, hj, rfl, sv, hL, hG, hB3, hP3⟩ := hrel
                obtain ⟨ssp, ssc, rfl⟩ := row_shape hG.out
                have hsL : V.heap.size < wr.heap.size := (Array.getElem?_eq_some_iff.1 hL.out).1
                have hVw := hB3.out.size
                by_cases hjl : j < xpath.length
                · obtain ⟨st, hst⟩ : ∃ st, xpath[j]? = some st := ⟨xpath[j], by simp [hjl]⟩
                  rcases HQP.out with hp | ⟨b', o', rfl, hb', hc'⟩
                  · subst hp; simp at hjl
                  obtain ⟨t1, t2, t3⟩ := hc' j st hst
                  have hbw : Below w.heap.size w wr := (HB.out.trans (HBV.out.mono HB.out.size)).trans (hB3.out.mono (by have := HB.out.size; have := HBV.out.size; omega))
                  have t1 := (hbw.cell (p := ⟨b', o' + j * 3, none⟩) hb').trans t1
                  have t2 := (hbw.cell (p := ⟨b', o' + j * 3 + 1, none⟩) hb').trans t2
                  have t3 := (hbw.cell (p := ⟨b', o' + j * 3 + 2, none⟩) hb').trans t3
                  have gG : wr.cell? ⟨V.heap.size, 2, none⟩ = some (.slice ssp j ssc) := by simp [World.cell?, hL.out]
                  obtain ⟨⟨bn, bi, bt⟩, hbs⟩ : ∃ s', bareS st = s' := ⟨_, rfl⟩
                  have C1 : Hid (∀ W, Calls Try.prog 56 #[.agg #[.string st.nm, .int .i64 st.ix, .bool st.it]] W (RetB (.agg #[.string bn, .int .i64 bi, .bool bt]) W)) := Lib.hid (fun W => by
                    have := bare_any st W
                    rw [hbs] at this
                    exact this)
                  have HBS := Lib.hid hbs
                  have HST := Lib.hid hst
                  obtain ⟨sn, si, sb⟩ := st
                  dsimp only at t1 t2 t3 C1
                  clear hc' hst hbw hbs
                  go_upto_region 17 with (fail)
                  obtain ⟨W6, hW6⟩ : ∃ W6, wr.alloc (.cells #[.string sn, .int .i64 si, .bool sb] 53) = W6 := ⟨_, rfl⟩
                  have hb6 : Below wr.heap.size wr W6 := by rw [← hW6]; exact (Below.refl _ _).alloc (Nat.le_refl _) _
                  have hd := cellsAt_alloc wr #[.string sn, .int .i64 si, .bool sb] 53 (0, 0)
                  rw [hW6] at hd
                  have d0 : W6.cell? ⟨wr.heap.size, 0, none⟩ = some (.string sn) := hd 0 _ rfl
                  have d1 : W6.cell? ⟨wr.heap.size, 1, none⟩ = some (.int .i64 si) := hd 1 _ rfl
                  have d2 : W6.cell? ⟨wr.heap.size, 2, none⟩ = some (.bool sb) := hd 2 _ rfl
                  have hs6 : wr.heap.size < W6.heap.size := by rw [← hW6]; simp
                  have gG6 := (hb6.cell (p := ⟨V.heap.size, 2, none⟩) hsL).trans gG
                  have hsL6 : V.heap.size < W6.heap.size := by omega
                  rw [hW6]
                  clear hW6 hd t1 t2 t3 gG
                  have kc := cell_cls W6
                  refine wp_region_plan_below 5 [(0, [0, 1, 2]), (1, [3, 4]), (2, [5, 6, 7])] (by kernel_rfl) (by kernel_rfl) (fun _ _ _ _ h => h) ?_
                  simp only [wpSegs, pickOps, List.getElem?_toArray, List.getElem?_cons_zero, List.getElem?_cons_succ]
                  iterate 3 (go_big_quiet_step (fail))
                  refine wpQuiet_nil ?_
                  clear kc
                  refine wpListC_plain rfl (fun K hK => ?_)
                  go_step
                  refine (C1.out _).mono ?_
                  rintro e w5 ⟨rfl, hb5⟩
                  have hb65 : Below W6.heap.size W6 w5 := (Below.drew (Below.refl _ _)).trans hb5
                  refine hK _ _ (cls_of_below hb65) ?_
                  clear hK K
                  refine wpListC_plain rfl (fun K hK => ?_)
                  go_step
                  obtain ⟨W3, hW⟩ : ∃ W3, w5.alloc (.cells #[.string bn, .int .i64 bi, .bool bt] 53) = W3 := ⟨_, rfl⟩
                  have hb53 : Below w5.heap.size w5 W3 := by rw [← hW]; exact (Below.refl _ _).alloc (Nat.le_refl _) _
                  have hnew : CellsAt W3 w5.heap.size 0 #[.string bn, .int .i64 bi, .bool bt] := by rw [← hW]; exact cellsAt_alloc w5 _ _ (0, 0)
                  rw [hW]
                  clear hW
                  refine hK _ _ (cls_of_below (hb65.trans (hb53.mono hb65.size))) ?_
                  clear hK K
                  refine wpListC_nil ?_
                  have hbr3 : Below wr.heap.size wr W3 := hb6.trans ((hb65.trans (hb53.mono hb65.size)).mono hb6.size)
                  refine wpList_plain rfl (fun K hK => ?_)
                  have HG3 := hG.out.kept (grown_ofb hbr3 none) (by cases (Value.slice ssp j ssc).ownBlock <;> simp)
                  refine wp_append_x (P := Try.prog) W3 (.tmp 57) (.tmp 60) 50 rfl V.heap.size 53 (.agg #[.string ⟨#[]⟩, .int .i64 0, .bool false]) 3 32 Try.underlying50 (by kernel_rfl) rfl (by decide) (.slice ssp j ssc) j _ rfl HG3 ⟨w5.heap.size, 0, none⟩ 1 1 [.string bn, .int .i64 bi, .bool bt] rfl (by decide) rfl ?c1 ?c2 ?c3 ?c4 ?c5 ?_
                  case c1 =>
                    intro m u hu
                    have := hnew m u (by simpa using hu)
                    rw [addr_add]
                    exact this
                  case c2 => intro u hu; simp at hu; rcases hu with rfl | rfl | rfl <;> rfl
                  case c3 => unfold maxLen; omega
                  case c4 => omega
                  case c5 => have := hbr3.size; omega
                  intro v' w' hrow hgr hv'
                  refine hK _ _ ?_
                  clear hK K
                  have hne : some V.heap.size ≠ (Value.slice ssp j ssc).ownBlock := fun e => by
                    obtain ⟨c1, h1⟩ := row_cells0 hG.out e.symm
                    rw [hL.out] at h1
                    cases h1
                  have hLw' : w'.heap[V.heap.size]? = some (.cells #[.int .i64 xk, .slice gp xpos.length gc, .slice ssp j ssc] 91 (0, 0)) := by
                    rw [hgr.block _ (by have := hbr3.size; omega) hne, hbr3.block _ hsL]
                    exact hL.out
                  have hfin := heap_setCell_same (j := 2) hLw' v'
                  have hrow' := hrow.kept (grown_sc w' ⟨V.heap.size, 2, none⟩ v') (.inr fun e => by
                    obtain ⟨c1, h1⟩ := row_cells0 hrow e
                    rw [hLw'] at h1
                    cases h1)
                  have hP' : (w'.setCell ⟨V.heap.size, 2, none⟩ v').ownsRow V.heap.size 88 2 (.slice gp xpos.length gc) xpos.length (posC xpos) := by
                    have h1 := hP3.out.kept (grown_ofb hbr3 none) (by cases (Value.slice gp xpos.length gc).ownBlock <;> simp)
                    have h2 := h1.kept hgr (row_apart h1 HG3 (by decide))
                    refine h2.kept (grown_sc w' ⟨V.heap.size, 2, none⟩ v') (.inr fun e => ?_)
                    obtain ⟨c1, h3⟩ := row_cells0 h2 e
                    rw [hLw'] at h3
                    cases h3
                  have hbw' : Below V.heap.size V (w'.setCell ⟨V.heap.size, 2, none⟩ v') :=
                    ((hB3.out.trans (hbr3.mono hVw)).grown hgr (by have := hbr3.size; omega) (fun y hy => (HG3.lt y hy).1)).setCell (p := ⟨V.heap.size, 2, none⟩) HGV.out _
                  have hc6 : w'.cell? ⟨V.heap.size, 2, none⟩ = some (.slice ssp j ssc) := by simp [World.cell?, hLw']
                  have hf6 : w'.frozen? ⟨V.heap.size, 2, none⟩ = false := by simp [World.frozen?, hLw']
                  obtain ⟨g', cap', rfl⟩ : ∃ g' cap', v' = .slice (some ⟨g', 0, none⟩) (j + 1) cap' := by
                    rcases hrow.2 with ⟨_, h⟩ | ⟨g', cap', cur, h, _⟩
                    · omega
                    · exact ⟨g', cap', h⟩
                  have HFIN := Lib.hid hfin
                  have HGF := Lib.hid hrow'
                  have HBP := Lib.hid (And.intro hbw' hP')
                  clear hfin hrow' hbw' hP' hLw' hrow hgr hv' HG3 hbr3 hnew hb53 hb65 hb5 hb6 hne d0 d1 d2 hs6 gG6 hsL6
                  go_wp2
                  go_roundw
                  case rel =>
                    refine ⟨j + 1, by omega, by go_num, .slice (some ⟨g', 0, none⟩) (j + 1) cap', HFIN, Lib.hid ?_, Lib.hid HBP.out.1, Lib.hid HBP.out.2⟩
                    rw [List.take_add_one, List.getElem?_map, HST.out, stC_app]
                    have h := HGF.out
                    have e : stC (Option.map bareS (some (⟨sn, si, sb⟩ : St))).toList = [.string bn, .int .i64 bi, .bool bt] := by
                      show stC [bareS ⟨sn, si, sb⟩] = _
                      rw [HBS.out]
                      rfl
                    rw [e]
                    exact h
                  case measure => simp [intOf]; omega
                · obtain rfl : j = xpath.length := by omega
                  rw [List.take_of_length_le (by rw [List.length_map]; exact Nat.le_refl _)] at hG
                  have hbq : Below wq.heap.size wq wr := HBV.out.trans (hB3.out.mono HBV.out.size)
                  have g0 : wr.cell? ⟨V.heap.size, 0, none⟩ = some (.int .i64 xk) := by simp [World.cell?, hL.out]
                  have g1 : wr.cell? ⟨V.heap.size, 1, none⟩ = some (.slice gp xpos.length gc) := by simp [World.cell?, hL.out]
                  have g2 : wr.cell? ⟨V.heap.size, 2, none⟩ = some (.slice ssp xpath.length ssc) := by simp [World.cell?, hL.out]
                  have HOwr := Lib.hid (HO.out.kept (grown_ofb hbq none) (by cases (Value.slice sq r.length sd).ownBlock <;> simp))
                  have HSwr := Lib.hid (HS.out.kept (grown_ofb hbq none) (by simp [Value.ownBlock]))
                  have HBwr := Lib.hid (HB.out.trans (hbq.mono HB.out.size))
                  have HMEM : Hid (∀ z ∈ r ++ [⟨⟨xk, xpos, xpath.map bareS⟩, .slice gp xpos.length gc, .slice ssp xpath.length ssc⟩], OwnLF w.heap.size wr z) := Lib.hid (fun z hz => by
                    rcases List.mem_append.1 hz with hz | hz
                    · exact (HW.out z hz).below hbq
                    · obtain rfl : z = _ := by simpa using hz
                      exact ⟨row_lower hP3.out (by have := HB.out.size; have := HBV.out.size; omega), row_lower (by rw [List.length_map]; exact hG.out) (by have := HB.out.size; have := HBV.out.size; omega), by unfold big; omega, by unfold big; simpa using hql⟩)
                  clear hbq hsL hVw
                  go_upto_region 19 with (fail)
                  go_step
                  iterate 3
                    refine wpList_plain rfl (fun K hK => ?_)
                    go_step
                    refine hK _ _ ?_
                    clear hK K
                  obtain ⟨W3, hW⟩ : ∃ W3, wr.alloc (.cells #[.int .i64 xk, .slice gp xpos.length gc, .slice ssp xpath.length ssc] 91) = W3 := ⟨_, rfl⟩
                  have hb3 : Below wr.heap.size wr W3 := by rw [← hW]; exact (Below.refl wr.heap.size wr).alloc (Nat.le_refl _) _
                  have hnew : CellsAt W3 wr.heap.size 0 #[.int .i64 xk, .slice gp xpos.length gc, .slice ssp xpath.length ssc] := by rw [← hW]; exact cellsAt_alloc wr _ _ (0, 0)
                  rw [hW]
                  clear hW
                  have HG3 := HOwr.out.kept (grown_ofb hb3 none) (by cases (Value.slice sq r.length sd).ownBlock <;> simp)
                  have HS3 := HSwr.out.kept (grown_ofb hb3 none) (by simp [Value.ownBlock])
                  refine wpList_plain rfl (fun K hK => ?_)
                  refine wp_append_x (P := Try.prog) W3 (.tmp 64) (.tmp 66) 85 rfl w.heap.size 91 (.agg #[.int .i64 0, .slice none 0 0, .slice none 0 0]) 3 56 Try.underlying85 (by kernel_rfl) rfl (by decide) (.slice sq r.length sd) r.length _ rfl HG3 ⟨wr.heap.size, 0, none⟩ 1 1 [.int .i64 xk, .slice gp xpos.length gc, .slice ssp xpath.length ssc] rfl (by decide) rfl ?c1 ?c2 ?c3 ?c4 ?c5 ?_
                  case c1 =>
                    intro m u hu
                    have := hnew m u (by simpa using hu)
                    rw [addr_add]
                    exact this
                  case c2 => intro u hu; simp at hu; rcases hu with rfl | rfl | rfl <;> rfl
                  case c3 => unfold maxLen; have := hlr.out; omega
                  case c4 => have := hlr.out; omega
                  case c5 => have := hb3.size; have := HBwr.out.size; omega
                  intro v' w' hrow hgr hv'
                  refine hK _ _ ?_
                  clear hK K
                  have hbw' : Below w.heap.size w w' := (HBwr.out.trans (hb3.mono HBwr.out.size)).grown hgr (by have := hb3.size; have := HBwr.out.size; omega) (fun y hy => (HG3.lt y hy).1)
                  have hS' := HS3.kept hgr HNE.out
                  have hne' : (Value.slice (some ⟨ga, 0, none⟩) n sc).ownBlock = none ∨ (Value.slice (some ⟨ga, 0, none⟩) n sc).ownBlock ≠ v'.ownBlock := by
                    rcases hv' with e | e
                    · rw [e]; exact HNE.out
                    · refine .inr (fun e2 => ?_)
                      rw [e] at e2
                      have := (HS3.lt W3.heap.size e2).2
                      omega
                  have hmem' : ∀ z ∈ r ++ [⟨⟨xk, xpos, xpath.map bareS⟩, .slice gp xpos.length gc, .slice ssp xpath.length ssc⟩], OwnLF w.heap.size w' z := fun z hz => ((HMEM.out z hz).below hb3).kept HG3 hgr
                  obtain ⟨g', cap', rfl⟩ : ∃ g' cap', v' = .slice (some ⟨g', 0, none⟩) (r.length + 1) cap' := by
                    rcases hrow.2 with ⟨_, h⟩ | ⟨g', cap', cur, h, _⟩
                    · omega
                    · exact ⟨g', cap', h⟩
                  have HALL5 := Lib.hid (And.intro hrow (And.intro hbw' (And.intro hS' (And.intro hne' hmem'))))
                  clear hrow hbw' hgr hS' hne' hmem' hv' HG3 HS3 hb3 hnew
                  go_wp2
                  go_roundw
                  case rel =>
                    refine ⟨0 + 1, by have := HI1.out; omega, by go_num, r ++ [⟨⟨xk, xpos, xpath.map bareS⟩, .slice gp xpos.length gc, .slice ssp xpath.length ssc⟩], some ⟨g', 0, none⟩, cap', by rw [List.length_append]; rfl, Lib.hid ?_, Lib.hid ?_, Lib.hid HALL5.out.2.2.2.2, Lib.hid HALL5.out.2.1, Lib.hid HALL5.out.2.2.1, Lib.hid ?_⟩
                    · have h := HALL5.out.1
                      rw [List.length_append, fC_app]
                      exact h
                    · rw [HEQ.out, List.map_append, List.map_append, HM.out]
                      rfl
                    · have h := HALL5.out.2.2.2.1
                      rw [List.length_append]
                      exact h
                  case measure => have := HI1.out; simp [intOf]; omega
          | succ i' =>
            obtain ⟨y, hy⟩ : ∃ y, S[i']? = some y := ⟨_, List.getElem?_eq_getElem (by have := HSL.out; omega)⟩
            obtain ⟨k0, k1, k2⟩ := fC_at S i' y hy
            have b1 := (hb8.cell (p := ⟨ga, i' * 3, none⟩) hwa).trans (HGC.out _ _ k0)
            have b2 := (hb8.cell (p := ⟨ga, i' * 3 + 1, none⟩) hwa).trans (HGC.out _ _ k1)
            have b3 := (hb8.cell (p := ⟨ga, i' * 3 + 2, none⟩) hwa).trans (HGC.out _ _ k2)
            have oky := HSOK.out y (List.mem_of_getElem? hy)
            have C1 : Hid (∀ W, Below W8.heap.size W8 W → Calls Try.prog 77 #[.agg y.cells, .agg #[.int .i64 xk, .slice pp xpos.length pc, .slice qp xpath.length qc]] W (RetG (.int .i64 (cmpF y.f ⟨xk, xpos, xpath⟩)) W)) := Lib.hid (fun W h => by
              have hb : Below w.heap.size w W := HB.out.trans ((hb8.trans (h.mono hb8.size)).mono hwr)
              exact faultOrder_g y ⟨⟨xk, xpos, xpath⟩, .slice pp xpos.length pc, .slice qp xpath.length qc⟩ w.heap.size W (oky.below hb) (HOKX.out.below hb) hb.size)
            obtain ⟨cc, hcc⟩ : ∃ cc, cmpF y.f ⟨xk, xpos, xpath⟩ = cc := ⟨_, rfl⟩
            have HCC := Lib.hid hcc
            rw [hcc] at C1
            have HY := Lib.hid hy
            obtain ⟨⟨yk, ypos, ypath⟩, yp, yq⟩ := y
            dsimp only at b1 b2 b3
            dsimp only [LF.cells] at C1
            clear hy k0 k1 k2 oky hcc
            have hd1 : decide ((0 : Int) < (i' : Int) + 1) = true := decide_eq_true (by omega)
            have hin : i' < n := by omega
            have hwk : wrap64 (i' : Int) = i' := IntWalk.wrap64_in _ ⟨by omega, by omega⟩
            have kc := cell_cls W8
            refine wp_region_plan_below 12 [(0, [0, 1, 2, 3, 4, 5, 6, 7, 8]), (1, [9]), (0, [10, 11])] (by kernel_rfl) (by kernel_rfl) (fun _ _ _ _ h => h) ?_
            simp only [wpSegs, pickOps, List.getElem?_toArray, List.getElem?_cons_zero, List.getElem?_cons_succ]
            iterate 9 (go_big_quiet_step (fail))
            refine wpQuiet_nil ?_
            clear kc
            refine wpListC_want (by rfl) (fun K hK => ?_)
            go_step
            refine (C1.out _ (Below.drew (Below.refl _ _))).mono ?_
            rintro e V ⟨rfl, hgV⟩
            have hbV8 : Below W8.heap.size W8 V := (Below.drew (Below.refl _ _)).trans hgV.below
            refine hK _ _ (cls_of_below hbV8) ?_
            clear hK K
            refine wpListC_nil ?_
            have hbV : Below wq.heap.size wq V := hb8.trans (hbV8.mono hb8.size)
            have hFV : V.heap[wq.heap.size]? = some (.cells #[.int .i64 xk, .slice pp xpos.length pc, .slice qp xpath.length qc] 91 (0, 0)) := (hbV8.block _ hs8).trans HF8.out
            clear hgV hbV8 C1 b1 b2 b3 f0 f1 f2 hb8 HB8 HF8 hs8 ga8
            by_cases h0 : cc = 0
            · subst h0
              iterate 2 (go_big_quiet_step (fail))
              refine wpQuiet_nil ?_
              have HBV := Lib.hid hbV
              clear hbV hFV
              go_wp2
              go_roundw
              case rel =>
                refine ⟨i' + 1 + 1, by have := HI1.out; omega, by go_num, r, sq, sd, rfl, Lib.hid (HO.out.kept (grown_ofb HBV.out none) (by cases (Value.slice sq r.length sd).ownBlock <;> simp)), Lib.hid (by rw [dedP_skip HX.out HY.out HCC.out]; exact HM.out), Lib.hid (fun z hz => (HW.out z hz).below HBV.out), Lib.hid (HB.out.trans (HBV.out.mono HB.out.size)), Lib.hid (HS.out.kept (grown_ofb HBV.out none) (by simp [Value.ownBlock])), HNE⟩
              case measure => have := HI1.out; simp [intOf]; omega
            · have hd2 : decide (cc = 0) = false := decide_eq_false h0
              have hd3 : (cc == 0) = false := by simp [h0]
              iterate 2 (go_big_quiet_step (fail))
              refine wpQuiet_nil ?_
              have HEQ : Hid (dedP S (i' + 1 + 1) = dedP S (i' + 1) ++ [⟨⟨xk, xpos, xpath⟩, .slice pp xpos.length pc, .slice qp xpath.length qc⟩]) := Lib.hid (dedP_keep HX.out HY.out (by rw [HCC.out]; exact h0))
              clear hd1 hd2 hd3 hwk hin
              go_upto_region 13 with (fail)
              have hFl0 : wq.heap.size < V.heap.size := (Array.getElem?_eq_some_iff.1 hFV).1
              have f0 : V.cell? ⟨wq.heap.size, 0, none⟩ = some (.int .i64 xk) := by simp [World.cell?, hFV]
              have f1 : V.cell? ⟨wq.heap.size, 1, none⟩ = some (.slice pp xpos.length pc) := by simp [World.cell?, hFV]
              have HFV := Lib.hid hFV
              have HBV := Lib.hid hbV
              have HPV : Hid (PosAt V.heap.size V pp xpos) := Lib.hid (by
                have hb : Below w.heap.size w V := HB.out.trans (hbV.mono HB.out.size)
                exact (HPP.out.below hb).up hb.size)
              clear hFV hbV
              have kc := cell_cls V
              refine wp_region_tree_below 7 (.heads [0, 1, 2, 3] (.fork 4 (.heads [5] (.chain [6] (.tail [7]))) 6 (.chain [4] (.heads [5] (.tail [7]))))) (by kernel_rfl) (by kernel_rfl) (fun _ _ _ _ h => h) ?_
              simp only [wpPlan, pickOps, List.getElem?_toArray, List.getElem?_cons_zero, List.getElem?_cons_succ]
              iterate 4 (go_big_quiet_step (fail))
              refine wpQuiet_nil ?_
              clear kc f0 f1
              refine ⟨?_, ?_⟩
              · refine wpListC_plain rfl (fun K hK => ?_)
                refine wp_append_y (P := Try.prog) (w := { V with drawn := V.drawn + 1 }) (.const (.slice none 0 0)) (.tmp 46) 89 rfl V.heap.size 88 (.agg #[.int .i64 0, .int .i64 0]) 2 16 Try.underlying89 (by kernel_rfl) rfl (by decide) (.slice none 0 0) 0 [] rfl (World.ownsRow_nil _ _ _ _) pp xpos.length pc (posC xpos) rfl (posC_len xpos) (posAt_cells HPV.out).1 (posAt_cells HPV.out).2 (posC_one xpos) (by unfold maxLen; omega) (by omega) (Nat.le_refl _) ?_
                intro v' w4 hrow hgr
                rw [Nat.zero_add, List.nil_append] at hrow
                have hb4 : Below V.heap.size V w4 := ⟨hgr.os, hgr.tape, hgr.output, hgr.size, fun k hk => hgr.block k hk (by simp [Value.ownBlock])⟩
                obtain ⟨gp, gc, rfl⟩ := row_shape hrow
                refine hK _ _ (cls_of_below hb4) ?_
                clear hK K
                refine wpListC_nil ?_
                simp only [Act.put, List.setIfInBounds_toArray, List.set_cons_succ, List.set_cons_zero]
                go_big_quiet_step (fail)
                refine wpQuiet_nil ?_
                refine wpListC_plain rfl (fun K hK => ?_)
                go_step
                refine hK _ _ (cls_of_below (hb4.alloc hb4.size _)) ?_
                clear hK K
                refine wpListC_nil ?_
                go_upto_region 14 with (fail)
                obtain ⟨W13, hW13⟩ : ∃ W13, w4.alloc (.cells #[.int .i64 xk, .slice gp xpos.length gc, .slice none 0 0] 91) = W13 := ⟨_, rfl⟩
                have hG : W13.heap[w4.heap.size]? = some (.cells #[.int .i64 xk, .slice gp xpos.length gc, .slice none 0 0] 91 (0, 0)) := by rw [← hW13]; exact heap_new w4 _
                have hb13 : Below V.heap.size V W13 := by rw [← hW13]; exact hb4.alloc hb4.size _
                have hrow13 : W13.ownsRow V.heap.size 88 2 (.slice gp xpos.length gc) xpos.length (posC xpos) := by rw [← hW13]; exact hrow.alloc _
                have hGV : V.heap.size ≤ w4.heap.size := hb4.size
                rw [hW13]
                clear hW13 hrow hgr hb4
                generalize w4.heap.size = G at *
                have f2 : W13.cell? ⟨wq.heap.size, 2, none⟩ = some (.slice qp xpath.length qc) := by
                  rw [hb13.cell (p := ⟨wq.heap.size, 2, none⟩) hFl0]
                  simp [World.cell?, HFV.out]
                have HG13 := Lib.hid hG
                have HB13 := Lib.hid hb13
                have HR13 := Lib.hid hrow13
                have HGV := Lib.hid hGV
                clear hG hb13 hrow13 hGV
                go_wp2
                clear f2
                go_loopw [52] (fun s52 wr3 => ∃ j : Nat, j ≤ xpath.length ∧ s52 = .int .i64 j ∧ ∃ sv, Hid (wr3.heap[G]? = some (.cells #[.int .i64 xk, .slice gp xpos.length gc, sv] 91 (0, 0))) ∧ Hid (wr3.ownsRow V.heap.size 53 3 sv j (stC ((xpath.map bareS).take j))) ∧ Hid (Below V.heap.size V wr3) ∧ Hid (wr3.ownsRow V.heap.size 88 2 (.slice gp xpos.length gc) xpos.length (posC xpos))) (fun s52 _ => xpath.length - (intOf s52).toNat)
                case atStart => exact ⟨0, by omega, rfl, _, HG13, Lib.hid (World.ownsRow_nil _ _ _ _), HB13, HR13⟩
                case round =>
                  clear HG13 HB13 HR13
                  obtain ⟨j, hj, rfl, sv, hL, hG, hB3, hP3⟩ := hrel
                  obtain ⟨ssp, ssc, rfl⟩ := row_shape hG.out
                  have hsL : G < wr.heap.size := (Array.getElem?_eq_some_iff.1 hL.out).1
                  have hVw := hB3.out.size
                  by_cases hjl : j < xpath.length
                  · obtain ⟨st, hst⟩ : ∃ st, xpath[j]? = some st := ⟨xpath[j], by simp [hjl]⟩
                    rcases HQP.out with hp | ⟨b', o', rfl, hb', hc'⟩
                    · subst hp; simp at hjl
                    obtain ⟨t1, t2, t3⟩ := hc' j st hst
                    have hbw : Below w.heap.size w wr := (HB.out.trans (HBV.out.mono HB.out.size)).trans (hB3.out.mono (by have := HB.out.size; have := HBV.out.size; omega))
                    have t1 := (hbw.cell (p := ⟨b', o' + j * 3, none⟩) hb').trans t1
                    have t2 := (hbw.cell (p := ⟨b', o' + j * 3 + 1, none⟩) hb').trans t2
                    have t3 := (hbw.cell (p := ⟨b', o' + j * 3 + 2, none⟩) hb').trans t3
                    have gG : wr.cell? ⟨G, 2, none⟩ = some (.slice ssp j ssc) := by simp [World.cell?, hL.out]
                    obtain ⟨⟨bn, bi, bt⟩, hbs⟩ : ∃ s', bareS st = s' := ⟨_, rfl⟩
                    have C1 : Hid (∀ W, Calls Try.prog 56 #[.agg #[.string st.nm, .int .i64 st.ix, .bool st.it]] W (RetB (.agg #[.string bn, .int .i64 bi, .bool bt]) W)) := Lib.hid (fun W => by
                      have := bare_any st W
                      rw [hbs] at this
                      exact this)
                    have HBS := Lib.hid hbs
                    have HST := Lib.hid hst
                    obtain ⟨sn, si, sb⟩ := st
                    dsimp only at t1 t2 t3 C1
                    clear hc' hst hbw hbs
                    go_upto_region 17 with (fail)
                    obtain ⟨W6, hW6⟩ : ∃ W6, wr.alloc (.cells #[.string sn, .int .i64 si, .bool sb] 53) = W6 := ⟨_, rfl⟩
                    have hb6 : Below wr.heap.size wr W6 := by rw [← hW6]; exact (Below.refl _ _).alloc (Nat.le_refl _) _
                    have hd := cellsAt_alloc wr #[.string sn, .int .i64 si, .bool sb] 53 (0, 0)
                    rw [hW6] at hd
                    have d0 : W6.cell? ⟨wr.heap.size, 0, none⟩ = some (.string sn) := hd 0 _ rfl
                    have d1 : W6.cell? ⟨wr.heap.size, 1, none⟩ = some (.int .i64 si) := hd 1 _ rfl
                    have d2 : W6.cell? ⟨wr.heap.size, 2, none⟩ = some (.bool sb) := hd 2 _ rfl
                    have hs6 : wr.heap.size < W6.heap.size := by rw [← hW6]; simp
                    have gG6 := (hb6.cell (p := ⟨G, 2, none⟩) hsL).trans gG
                    have hsL6 : G < W6.heap.size := by omega
                    rw [hW6]
                    clear hW6 hd t1 t2 t3 gG
                    have kc := cell_cls W6
                    refine wp_region_plan_below 5 [(0, [0, 1, 2]), (1, [3, 4]), (2, [5, 6, 7])] (by kernel_rfl) (by kernel_rfl) (fun _ _ _ _ h => h) ?_
                    simp only [wpSegs, pickOps, List.getElem?_toArray, List.getElem?_cons_zero, List.getElem?_cons_succ]
                    iterate 3 (go_big_quiet_step (fail))
                    refine wpQuiet_nil ?_
                    clear kc
                    refine wpListC_plain rfl (fun K hK => ?_)
                    go_step
                    refine (C1.out _).mono ?_
                    rintro e w5 ⟨rfl, hb5⟩
                    have hb65 : Below W6.heap.size W6 w5 := (Below.drew (Below.refl _ _)).trans hb5
                    refine hK _ _ (cls_of_below hb65) ?_
                    clear hK K
                    refine wpListC_plain rfl (fun K hK => ?_)
                    go_step
                    obtain ⟨W3, hW⟩ : ∃ W3, w5.alloc (.cells #[.string bn, .int .i64 bi, .bool bt] 53) = W3 := ⟨_, rfl⟩
                    have hb53 : Below w5.heap.size w5 W3 := by rw [← hW]; exact (Below.refl _ _).alloc (Nat.le_refl _) _
                    have hnew : CellsAt W3 w5.heap.size 0 #[.string bn, .int .i64 bi, .bool bt] := by rw [← hW]; exact cellsAt_alloc w5 _ _ (0, 0)
                    rw [hW]
                    clear hW
                    refine hK _ _ (cls_of_below (hb65.trans (hb53.mono hb65.size))) ?_
                    clear hK K
                    refine wpListC_nil ?_
                    have hbr3 : Below wr.heap.size wr W3 := hb6.trans ((hb65.trans (hb53.mono hb65.size)).mono hb6.size)
                    refine wpList_plain rfl (fun K hK => ?_)
                    have HG3 := hG.out.kept (grown_ofb hbr3 none) (by cases (Value.slice ssp j ssc).ownBlock <;> simp)
                    refine wp_append_x (P := Try.prog) W3 (.tmp 57) (.tmp 60) 50 rfl V.heap.size 53 (.agg #[.string ⟨#[]⟩, .int .i64 0, .bool false]) 3 32 Try.underlying50 (by kernel_rfl) rfl (by decide) (.slice ssp j ssc) j _ rfl HG3 ⟨w5.heap.size, 0, none⟩ 1 1 [.string bn, .int .i64 bi, .bool bt] rfl (by decide) rfl ?c1 ?c2 ?c3 ?c4 ?c5 ?_
                    case c1 =>
                      intro m u hu
                      have := hnew m u (by simpa using hu)
                      rw [addr_add]
                      exact this
                    case c2 => intro u hu; simp at hu; rcases hu with rfl | rfl | rfl <;> rfl
                    case c3 => unfold maxLen; omega
                    case c4 => omega
                    case c5 => have := hbr3.size; omega
                    intro v' w' hrow hgr hv'
                    refine hK _ _ ?_
                    clear hK K
                    have hne : some G ≠ (Value.slice ssp j ssc).ownBlock := fun e => by
                      obtain ⟨c1, h1⟩ := row_cells0 hG.out e.symm
                      rw [hL.out] at h1
                      cases h1
                    have hLw' : w'.heap[G]? = some (.cells #[.int .i64 xk, .slice gp xpos.length gc, .slice ssp j ssc] 91 (0, 0)) := by
                      rw [hgr.block _ (by have := hbr3.size; omega) hne, hbr3.block _ hsL]
                      exact hL.out
                    have hfin := heap_setCell_same (j := 2) hLw' v'
                    have hrow' := hrow.kept (grown_sc w' ⟨G, 2, none⟩ v') (.inr fun e => by
                      obtain ⟨c1, h1⟩ := row_cells0 hrow e
                      rw [hLw'] at h1
                      cases h1)
                    have hP' : (w'.setCell ⟨G, 2, none⟩ v').ownsRow V.heap.size 88 2 (.slice gp xpos.length gc) xpos.length (posC xpos) := by
                      have h1 := hP3.out.kept (grown_ofb hbr3 none) (by cases (Value.slice gp xpos.length gc).ownBlock <;> simp)
                      have h2 := h1.kept hgr (row_apart h1 HG3 (by decide))
                      refine h2.kept (grown_sc w' ⟨G, 2, none⟩ v') (.inr fun e => ?_)
                      obtain ⟨c1, h3⟩ := row_cells0 h2 e
                      rw [hLw'] at h3
                      cases h3
                    have hbw' : Below V.heap.size V (w'.setCell ⟨G, 2, none⟩ v') :=
                      ((hB3.out.trans (hbr3.mono hVw)).grown hgr (by have := hbr3.size; omega) (fun y hy => (HG3.lt y hy).1)).setCell (p := ⟨G, 2, none⟩) HGV.out _
                    have hc6 : w'.cell? ⟨G, 2, none⟩ = some (.slice ssp j ssc) := by simp [World.cell?, hLw']
                    have hf6 : w'.frozen? ⟨G, 2, none⟩ = false := by simp [World.frozen?, hLw']
                    obtain ⟨g', cap', rfl⟩ : ∃ g' cap', v' = .slice (some ⟨g', 0, none⟩) (j + 1) cap' := by
                      rcases hrow.2 with ⟨_, h⟩ | ⟨g', cap', cur, h, _⟩
                      · omega
                      · exact ⟨g', cap', h⟩
                    have HFIN := Lib.hid hfin
                    have HGF := Lib.hid hrow'
                    have HBP := Lib.hid (And.intro hbw' hP')
                    clear hfin hrow' hbw' hP' hLw' hrow hgr hv' HG3 hbr3 hnew hb53 hb65 hb5 hb6 hne d0 d1 d2 hs6 gG6 hsL6
                    go_wp2
                    go_roundw
                    case rel =>
                      refine ⟨j + 1, by omega, by go_num, .slice (some ⟨g', 0, none⟩) (j + 1) cap', HFIN, Lib.hid ?_, Lib.hid HBP.out.1, Lib.hid HBP.out.2⟩
                      rw [List.take_add_one, List.getElem?_map, HST.out, stC_app]
                      have h := HGF.out
                      have e : stC (Option.map bareS (some (⟨sn, si, sb⟩ : St))).toList = [.string bn, .int .i64 bi, .bool bt] := by
                        show stC [bareS ⟨sn, si, sb⟩] = _
                        rw [HBS.out]
                        rfl
                      rw [e]
                      exact h
                    case measure => simp [intOf]; omega
                  · obtain rfl : j = xpath.length := by omega
                    rw [List.take_of_length_le (by rw [List.length_map]; exact Nat.le_refl _)] at hG
                    have hbq : Below wq.heap.size wq wr := HBV.out.trans (hB3.out.mono HBV.out.size)
                    have g0 : wr.cell? ⟨G, 0, none⟩ = some (.int .i64 xk) := by simp [World.cell?, hL.out]
                    have g1 : wr.cell? ⟨G, 1, none⟩ = some (.slice gp xpos.length gc) := by simp [World.cell?, hL.out]
                    have g2 : wr.cell? ⟨G, 2, none⟩ = some (.slice ssp xpath.length ssc) := by simp [World.cell?, hL.out]
                    have HOwr := Lib.hid (HO.out.kept (grown_ofb hbq none) (by cases (Value.slice sq r.length sd).ownBlock <;> simp))
                    have HSwr := Lib.hid (HS.out.kept (grown_ofb hbq none) (by simp [Value.ownBlock]))
                    have HBwr := Lib.hid (HB.out.trans (hbq.mono HB.out.size))
                    have HMEM : Hid (∀ z ∈ r ++ [⟨⟨xk, xpos, xpath.map bareS⟩, .slice gp xpos.length gc, .slice ssp xpath.length ssc⟩], OwnLF w.heap.size wr z) := Lib.hid (fun z hz => by
                      rcases List.mem_append.1 hz with hz | hz
                      · exact (HW.out z hz).below hbq
                      · obtain rfl : z = _ := by simpa using hz
                        exact ⟨row_lower hP3.out (by have := HB.out.size; have := HBV.out.size; omega), row_lower (by rw [List.length_map]; exact hG.out) (by have := HB.out.size; have := HBV.out.size; omega), by unfold big; omega, by unfold big; simpa using hql⟩)
                    clear hbq hsL hVw
                    go_upto_region 19 with (fail)
                    go_step
                    iterate 3
                      refine wpList_plain rfl (fun K hK => ?_)
                      go_step
                      refine hK _ _ ?_
                      clear hK K
                    obtain ⟨W3, hW⟩ : ∃ W3, wr.alloc (.cells #[.int .i64 xk, .slice gp xpos.length gc, .slice ssp xpath.length ssc] 91) = W3 := ⟨_, rfl⟩
                    have hb3 : Below wr.heap.size wr W3 := by rw [← hW]; exact (Below.refl wr.heap.size wr).alloc (Nat.le_refl _) _
                    have hnew : CellsAt W3 wr.heap.size 0 #[.int .i64 xk, .slice gp xpos.length gc, .slice ssp xpath.length ssc] := by rw [← hW]; exact cellsAt_alloc wr _ _ (0, 0)
                    rw [hW]
                    clear hW
                    have HG3 := HOwr.out.kept (grown_ofb hb3 none) (by cases (Value.slice sq r.length sd).ownBlock <;> simp)
                    have HS3 := HSwr.out.kept (grown_ofb hb3 none) (by simp [Value.ownBlock])
                    refine wpList_plain rfl (fun K hK => ?_)
                    refine wp_append_x (P := Try.prog) W3 (.tmp 64) (.tmp 66) 85 rfl w.heap.size 91 (.agg #[.int .i64 0, .slice none 0 0, .slice none 0 0]) 3 56 Try.underlying85 (by kernel_rfl) rfl (by decide) (.slice sq r.length sd) r.length _ rfl HG3 ⟨wr.heap.size, 0, none⟩ 1 1 [.int .i64 xk, .slice gp xpos.length gc, .slice ssp xpath.length ssc] rfl (by decide) rfl ?c1 ?c2 ?c3 ?c4 ?c5 ?_
                    case c1 =>
                      intro m u hu
                      have := hnew m u (by simpa using hu)
                      rw [addr_add]
                      exact this
                    case c2 => intro u hu; simp at hu; rcases hu with rfl | rfl | rfl <;> rfl
                    case c3 => unfold maxLen; have := hlr.out; omega
                    case c4 => have := hlr.out; omega
                    case c5 => have := hb3.size; have := HBwr.out.size; omega
                    intro v' w' hrow hgr hv'
                    refine hK _ _ ?_
                    clear hK K
                    have hbw' : Below w.heap.size w w' := (HBwr.out.trans (hb3.mono HBwr.out.size)).grown hgr (by have := hb3.size; have := HBwr.out.size; omega) (fun y hy => (HG3.lt y hy).1)
                    have hS' := HS3.kept hgr HNE.out
                    have hne' : (Value.slice (some ⟨ga, 0, none⟩) n sc).ownBlock = none ∨ (Value.slice (some ⟨ga, 0, none⟩) n sc).ownBlock ≠ v'.ownBlock := by
                      rcases hv' with e | e
                      · rw [e]; exact HNE.out
                      · refine .inr (fun e2 => ?_)
                        rw [e] at e2
                        have := (HS3.lt W3.heap.size e2).2
                        omega
                    have hmem' : ∀ z ∈ r ++ [⟨⟨xk, xpos, xpath.map bareS⟩, .slice gp xpos.length gc, .slice ssp xpath.length ssc⟩], OwnLF w.heap.size w' z := fun z hz => ((HMEM.out z hz).below hb3).kept HG3 hgr
                    obtain ⟨g', cap', rfl⟩ : ∃ g' cap', v' = .slice (some ⟨g', 0, none⟩) (r.length + 1) cap' := by
                      rcases hrow.2 with ⟨_, h⟩ | ⟨g', cap', cur, h, _⟩
                      · omega
                      · exact ⟨g', cap', h⟩
                    have HALL5 := Lib.hid (And.intro hrow (And.intro hbw' (And.intro hS' (And.intro hne' hmem'))))
                    clear hrow hbw' hgr hS' hne' hmem' hv' HG3 HS3 hb3 hnew
                    go_wp2
                    go_roundw
                    case rel =>
                      refine ⟨(i' + 1) + 1, by have := HI1.out; omega, by go_num, r ++ [⟨⟨xk, xpos, xpath.map bareS⟩, .slice gp xpos.length gc, .slice ssp xpath.length ssc⟩], some ⟨g', 0, none⟩, cap', by rw [List.length_append]; rfl, Lib.hid ?_, Lib.hid ?_, Lib.hid HALL5.out.2.2.2.2, Lib.hid HALL5.out.2.1, Lib.hid HALL5.out.2.2.1, Lib.hid ?_⟩
                      · have h := HALL5.out.1
                        rw [List.length_append, fC_app]
                        exact h
                      · rw [HEQ.out, List.map_append, List.map_append, HM.out]
                        rfl
                      · have h := HALL5.out.2.2.2.1
                        rw [List.length_append]
                        exact h
                    case measure => have := HI1.out; simp [intOf]; omega
              · refine wpListC_plain rfl (fun K hK => ?_)
                go_step
                have hbA : Below V.heap.size V (V.alloc (.cells #[.int .i64 0, .slice none 0 0, .slice none 0 0] 91)).drew := Below.drew ((Below.refl _ _).alloc (Nat.le_refl _) _)
                have hGA : (V.alloc (.cells #[.int .i64 0, .slice none 0 0, .slice none 0 0] 91)).drew.heap[V.heap.size]? = some (.cells #[.int .i64 0, .slice none 0 0, .slice none 0 0] 91 (0, 0)) := heap_new V _
                obtain ⟨WA, hWA⟩ : ∃ WA, (V.alloc (.cells #[.int .i64 0, .slice none 0 0, .slice none 0 0] 91)).drew = WA := ⟨_, rfl⟩
                rw [hWA] at hbA hGA
                rw [hWA]
                refine hK _ _ (cls_of_below hbA) ?_
                clear hK K hWA
                refine wpListC_nil ?_
                have HPA : Hid (PosAt V.heap.size WA pp xpos) := Lib.hid (HPV.out.below hbA)
                refine wpListC_plain rfl (fun K hK => ?_)
                refine wp_append_y (P := Try.prog) (w := WA) (.const (.slice none 0 0)) (.tmp 46) 89 rfl V.heap.size 88 (.agg #[.int .i64 0, .int .i64 0]) 2 16 Try.underlying89 (by kernel_rfl) rfl (by decide) (.slice none 0 0) 0 [] rfl (World.ownsRow_nil _ _ _ _) pp xpos.length pc (posC xpos) rfl (posC_len xpos) (posAt_cells HPA.out).1 (posAt_cells HPA.out).2 (posC_one xpos) (by unfold maxLen; omega) (by omega) hbA.size ?_
                intro v' w4 hrow hgr
                rw [Nat.zero_add, List.nil_append] at hrow
                have hb4 : Below WA.heap.size WA w4 := ⟨hgr.os, hgr.tape, hgr.output, hgr.size, fun k hk => hgr.block k hk (by simp [Value.ownBlock])⟩
                have hbV4 : Below V.heap.size V w4 := hbA.trans (hb4.mono hbA.size)
                obtain ⟨gp, gc, rfl⟩ := row_shape hrow
                refine hK _ _ (cls_of_below hbV4) ?_
                clear hK K
                refine wpListC_nil ?_
                simp only [Act.put, List.setIfInBounds_toArray, List.set_cons_succ, List.set_cons_zero]
                go_big_quiet_step (fail)
                refine wpQuiet_nil ?_
                have hG4 : w4.heap[V.heap.size]? = some (.cells #[.int .i64 0, .slice none 0 0, .slice none 0 0] 91 (0, 0)) := (hb4.block _ (Array.getElem?_eq_some_iff.1 hGA).1).trans hGA
                refine wpList_plain rfl (fun K hK => ?_)
                refine wp_store_row (P := Try.prog) 91 (.tmp 9) (.tmp 48) rfl V.heap.size #[.int .i64 xk, .slice gp xpos.length gc, .slice none 0 0] rfl rfl 91 _ hG4 (by kernel_rfl) rfl (by simp [Value.oneCell']) ?_
                refine hK _ _ ?_
                clear hK K
                obtain ⟨W13, hW13⟩ : ∃ W13, w4.setRow V.heap.size #[.int .i64 xk, .slice gp xpos.length gc, .slice none 0 0] = W13 := ⟨_, rfl⟩
                have hG : W13.heap[V.heap.size]? = some (.cells #[.int .i64 xk, .slice gp xpos.length gc, .slice none 0 0] 91 (0, 0)) := by rw [← hW13]; exact setRow_heap _ _ _ _ _ _ hG4
                have hb13 : Below V.heap.size V W13 := by rw [← hW13]; exact below_setRow hbV4 (Nat.le_refl _) _
                have hrow13 : W13.ownsRow V.heap.size 88 2 (.slice gp xpos.length gc) xpos.length (posC xpos) := by
                  rw [← hW13]
                  exact hrow.kept (grown_sr w4 V.heap.size _) (by
                    cases hq : (Value.slice gp xpos.length gc).ownBlock with
                    | none => exact .inl rfl
                    | some g =>
                      refine .inr (fun e => ?_)
                      obtain ⟨c1, h1⟩ := row_cells0 hrow hq
                      cases e
                      rw [hG4] at h1
                      cases h1)
                have hGV : V.heap.size ≤ V.heap.size := Nat.le_refl _
                rw [hW13]
                clear hW13 hrow hgr hb4 hbV4 hG4 hGA hbA HPA
                go_upto_region 14 with (fail)
                have f2 : W13.cell? ⟨wq.heap.size, 2, none⟩ = some (.slice qp xpath.length qc) := by
                  rw [hb13.cell (p := ⟨wq.heap.size, 2, none⟩) hFl0]
                  simp [World.cell?, HFV.out]
                have HG13 := Lib.hid hG
                have HB13 := Lib.hid hb13
                have HR13 := Lib.hid hrow13
                have HGV := Lib.hid hGV
                clear hG hb13 hrow13 hGV
                go_wp2
                clear f2
                go_loopw [52] (fun s52 wr3 => ∃ j : Nat, j ≤ xpath.length ∧ s52 = .int .i64 j ∧ ∃ sv, Hid (wr3.heap[V.heap.size]? = some (.cells #[.int .i64 xk, .slice gp xpos.length gc, sv] 91 (0, 0))) ∧ Hid (wr3.ownsRow V.heap.size 53 3 sv j (stC ((xpath.map bareS).take j))) ∧ Hid (Below V.heap.size V wr3) ∧ Hid (wr3.ownsRow V.heap.size 88 2 (.slice gp xpos.length gc) xpos.length (posC xpos))) (fun s52 _ => xpath.length - (intOf s52).toNat)
                case atStart => exact ⟨0, by omega, rfl, _, HG13, Lib.hid (World.ownsRow_nil _ _ _ _), HB13, HR13⟩
                case round =>
                  clear HG13 HB13 HR13
                  obtain ⟨j, hj, rfl, sv, hL, hG, hB3, hP3⟩ := hrel
                  obtain ⟨ssp, ssc, rfl⟩ := row_shape hG.out
                  have hsL : V.heap.size < wr.heap.size := (Array.getElem?_eq_some_iff.1 hL.out).1
                  have hVw := hB3.out.size
                  by_cases hjl : j < xpath.length
                  · obtain ⟨st, hst⟩ : ∃ st, xpath[j]? = some st := ⟨xpath[j], by simp [hjl]⟩
                    rcases HQP.out with hp | ⟨b', o', rfl, hb', hc'⟩
                    · subst hp; simp at hjl
                    obtain ⟨t1, t2, t3⟩ := hc' j st hst
                    have hbw : Below w.heap.size w wr := (HB.out.trans (HBV.out.mono HB.out.size)).trans (hB3.out.mono (by have := HB.out.size; have := HBV.out.size; omega))
                    have t1 := (hbw.cell (p := ⟨b', o' + j * 3, none⟩) hb').trans t1
                    have t2 := (hbw.cell (p := ⟨b', o' + j * 3 + 1, none⟩) hb').trans t2
                    have t3 := (hbw.cell (p := ⟨b', o' + j * 3 + 2, none⟩) hb').trans t3
                    have gG : wr.cell? ⟨V.heap.size, 2, none⟩ = some (.slice ssp j ssc) := by simp [World.cell?, hL.out]
                    obtain ⟨⟨bn, bi, bt⟩, hbs⟩ : ∃ s', bareS st = s' := ⟨_, rfl⟩
                    have C1 : Hid (∀ W, Calls Try.prog 56 #[.agg #[.string st.nm, .int .i64 st.ix, .bool st.it]] W (RetB (.agg #[.string bn, .int .i64 bi, .bool bt]) W)) := Lib.hid (fun W => by
                      have := bare_any st W
                      rw [hbs] at this
                      exact this)
                    have HBS := Lib.hid hbs
                    have HST := Lib.hid hst
                    obtain ⟨sn, si, sb⟩ := st
                    dsimp only at t1 t2 t3 C1
                    clear hc' hst hbw hbs
                    go_upto_region 17 with (fail)
                    obtain ⟨W6, hW6⟩ : ∃ W6, wr.alloc (.cells #[.string sn, .int .i64 si, .bool sb] 53) = W6 := ⟨_, rfl⟩
                    have hb6 : Below wr.heap.size wr W6 := by rw [← hW6]; exact (Below.refl _ _).alloc (Nat.le_refl _) _
                    have hd := cellsAt_alloc wr #[.string sn, .int .i64 si, .bool sb] 53 (0, 0)
                    rw [hW6] at hd
                    have d0 : W6.cell? ⟨wr.heap.size, 0, none⟩ = some (.string sn) := hd 0 _ rfl
                    have d1 : W6.cell? ⟨wr.heap.size, 1, none⟩ = some (.int .i64 si) := hd 1 _ rfl
                    have d2 : W6.cell? ⟨wr.heap.size, 2, none⟩ = some (.bool sb) := hd 2 _ rfl
                    have hs6 : wr.heap.size < W6.heap.size := by rw [← hW6]; simp
                    have gG6 := (hb6.cell (p := ⟨V.heap.size, 2, none⟩) hsL).trans gG
                    have hsL6 : V.heap.size < W6.heap.size := by omega
                    rw [hW6]
                    clear hW6 hd t1 t2 t3 gG
                    have kc := cell_cls W6
                    refine wp_region_plan_below 5 [(0, [0, 1, 2]), (1, [3, 4]), (2, [5, 6, 7])] (by kernel_rfl) (by kernel_rfl) (fun _ _ _ _ h => h) ?_
                    simp only [wpSegs, pickOps, List.getElem?_toArray, List.getElem?_cons_zero, List.getElem?_cons_succ]
                    iterate 3 (go_big_quiet_step (fail))
                    refine wpQuiet_nil ?_
                    clear kc
                    refine wpListC_plain rfl (fun K hK => ?_)
                    go_step
                    refine (C1.out _).mono ?_
                    rintro e w5 ⟨rfl, hb5⟩
                    have hb65 : Below W6.heap.size W6 w5 := (Below.drew (Below.refl _ _)).trans hb5
                    refine hK _ _ (cls_of_below hb65) ?_
                    clear hK K
                    refine wpListC_plain rfl (fun K hK => ?_)
                    go_step
                    obtain ⟨W3, hW⟩ : ∃ W3, w5.alloc (.cells #[.string bn, .int .i64 bi, .bool bt] 53) = W3 := ⟨_, rfl⟩
                    have hb53 : Below w5.heap.size w5 W3 := by rw [← hW]; exact (Below.refl _ _).alloc (Nat.le_refl _) _
                    have hnew : CellsAt W3 w5.heap.size 0 #[.string bn, .int .i64 bi, .bool bt] := by rw [← hW]; exact cellsAt_alloc w5 _ _ (0, 0)
                    rw [hW]
                    clear hW
                    refine hK _ _ (cls_of_below (hb65.trans (hb53.mono hb65.size))) ?_
                    clear hK K
                    refine wpListC_nil ?_
                    have hbr3 : Below wr.heap.size wr W3 := hb6.trans ((hb65.trans (hb53.mono hb65.size)).mono hb6.size)
                    refine wpList_plain rfl (fun K hK => ?_)
                    have HG3 := hG.out.kept (grown_ofb hbr3 none) (by cases (Value.slice ssp j ssc).ownBlock <;> simp)
                    refine wp_append_x (P := Try.prog) W3 (.tmp 57) (.tmp 60) 50 rfl V.heap.size 53 (.agg #[.string ⟨#[]⟩, .int .i64 0, .bool false]) 3 32 Try.underlying50 (by kernel_rfl) rfl (by decide) (.slice ssp j ssc) j _ rfl HG3 ⟨w5.heap.size, 0, none⟩ 1 1 [.string bn, .int .i64 bi, .bool bt] rfl (by decide) rfl ?c1 ?c2 ?c3 ?c4 ?c5 ?_
                    case c1 =>
                      intro m u hu
                      have := hnew m u (by simpa using hu)
                      rw [addr_add]
                      exact this
                    case c2 => intro u hu; simp at hu; rcases hu with rfl | rfl | rfl <;> rfl
                    case c3 => unfold maxLen; omega
                    case c4 => omega
                    case c5 => have := hbr3.size; omega
                    intro v' w' hrow hgr hv'
                    refine hK _ _ ?_
                    clear hK K
                    have hne : some V.heap.size ≠ (Value.slice ssp j ssc).ownBlock := fun e => by
                      obtain ⟨c1, h1⟩ := row_cells0 hG.out e.symm
                      rw [hL.out] at h1
                      cases h1
                    have hLw' : w'.heap[V.heap.size]? = some (.cells #[.int .i64 xk, .slice gp xpos.length gc, .slice ssp j ssc] 91 (0, 0)) := by
                      rw [hgr.block _ (by have := hbr3.size; omega) hne, hbr3.block _ hsL]
                      exact hL.out
                    have hfin := heap_setCell_same (j := 2) hLw' v'
                    have hrow' := hrow.kept (grown_sc w' ⟨V.heap.size, 2, none⟩ v') (.inr fun e => by
                      obtain ⟨c1, h1⟩ := row_cells0 hrow e
                      rw [hLw'] at h1
                      cases h1)
                    have hP' : (w'.setCell ⟨V.heap.size, 2, none⟩ v').ownsRow V.heap.size 88 2 (.slice gp xpos.length gc) xpos.length (posC xpos) := by
                      have h1 := hP3.out.kept (grown_ofb hbr3 none) (by cases (Value.slice gp xpos.length gc).ownBlock <;> simp)
                      have h2 := h1.kept hgr (row_apart h1 HG3 (by decide))
                      refine h2.kept (grown_sc w' ⟨V.heap.size, 2, none⟩ v') (.inr fun e => ?_)
                      obtain ⟨c1, h3⟩ := row_cells0 h2 e
                      rw [hLw'] at h3
                      cases h3
                    have hbw' : Below V.heap.size V (w'.setCell ⟨V.heap.size, 2, none⟩ v') :=
                      ((hB3.out.trans (hbr3.mono hVw)).grown hgr (by have := hbr3.size; omega) (fun y hy => (HG3.lt y hy).1)).setCell (p := ⟨V.heap.size, 2, none⟩) HGV.out _
                    have hc6 : w'.cell? ⟨V.heap.size, 2, none⟩ = some (.slice ssp j ssc) := by simp [World.cell?, hLw']
                    have hf6 : w'.frozen? ⟨V.heap.size, 2, none⟩ = false := by simp [World.frozen?, hLw']
                    obtain ⟨g', cap', rfl⟩ : ∃ g' cap', v' = .slice (some ⟨g', 0, none⟩) (j + 1) cap' := by
                      rcases hrow.2 with ⟨_, h⟩ | ⟨g', cap', cur, h, _⟩
                      · omega
                      · exact ⟨g', cap', h⟩
                    have HFIN := Lib.hid hfin
                    have HGF := Lib.hid hrow'
                    have HBP := Lib.hid (And.intro hbw' hP')
                    clear hfin hrow' hbw' hP' hLw' hrow hgr hv' HG3 hbr3 hnew hb53 hb65 hb5 hb6 hne d0 d1 d2 hs6 gG6 hsL6
                    go_wp2
                    go_roundw
                    case rel =>
                      refine ⟨j + 1, by omega, by go_num, .slice (some ⟨g', 0, none⟩) (j + 1) cap', HFIN, Lib.hid ?_, Lib.hid HBP.out.1, Lib.hid HBP.out.2⟩
                      rw [List.take_add_one, List.getElem?_map, HST.out, stC_app]
                      have h := HGF.out
                      have e : stC (Option.map bareS (some (⟨sn, si, sb⟩ : St))).toList = [.string bn, .int .i64 bi, .bool bt] := by
                        show stC [bareS ⟨sn, si, sb⟩] = _
                        rw [HBS.out]
                        rfl
                      rw [e]
                      exact h
                    case measure => simp [intOf]; omega
                  · obtain rfl : j = xpath.length := by omega
                    rw [List.take_of_length_le (by rw [List.length_map]; exact Nat.le_refl _)] at hG
                    have hbq : Below wq.heap.size wq wr := HBV.out.trans (hB3.out.mono HBV.out.size)
                    have g0 : wr.cell? ⟨V.heap.size, 0, none⟩ = some (.int .i64 xk) := by simp [World.cell?, hL.out]
                    have g1 : wr.cell? ⟨V.heap.size, 1, none⟩ = some (.slice gp xpos.length gc) := by simp [World.cell?, hL.out]
                    have g2 : wr.cell? ⟨V.heap.size, 2, none⟩ = some (.slice ssp xpath.length ssc) := by simp [World.cell?, hL.out]
                    have HOwr := Lib.hid (HO.out.kept (grown_ofb hbq none) (by cases (Value.slice sq r.length sd).ownBlock <;> simp))
                    have HSwr := Lib.hid (HS.out.kept (grown_ofb hbq none) (by simp [Value.ownBlock]))
                    have HBwr := Lib.hid (HB.out.trans (hbq.mono HB.out.size))
                    have HMEM : Hid (∀ z ∈ r ++ [⟨⟨xk, xpos, xpath.map bareS⟩, .slice gp xpos.length gc, .slice ssp xpath.length ssc⟩], OwnLF w.heap.size wr z) := Lib.hid (fun z hz => by
                      rcases List.mem_append.1 hz with hz | hz
                      · exact (HW.out z hz).below hbq
                      · obtain rfl : z = _ := by simpa using hz
                        exact ⟨row_lower hP3.out (by have := HB.out.size; have := HBV.out.size; omega), row_lower (by rw [List.length_map]; exact hG.out) (by have := HB.out.size; have := HBV.out.size; omega), by unfold big; omega, by unfold big; simpa using hql⟩)
                    clear hbq hsL hVw
                    go_upto_region 19 with (fail)
                    go_step
                    iterate 3
                      refine wpList_plain rfl (fun K hK => ?_)
                      go_step
                      refine hK _ _ ?_
                      clear hK K
                    obtain ⟨W3, hW⟩ : ∃ W3, wr.alloc (.cells #[.int .i64 xk, .slice gp xpos.length gc, .slice ssp xpath.length ssc] 91) = W3 := ⟨_, rfl⟩
                    have hb3 : Below wr.heap.size wr W3 := by rw [← hW]; exact (Below.refl wr.heap.size wr).alloc (Nat.le_refl _) _
                    have hnew : CellsAt W3 wr.heap.size 0 #[.int .i64 xk, .slice gp xpos.length gc, .slice ssp xpath.length ssc] := by rw [← hW]; exact cellsAt_alloc wr _ _ (0, 0)
                    rw [hW]
                    clear hW
                    have HG3 := HOwr.out.kept (grown_ofb hb3 none) (by cases (Value.slice sq r.length sd).ownBlock <;> simp)
                    have HS3 := HSwr.out.kept (grown_ofb hb3 none) (by simp [Value.ownBlock])
                    refine wpList_plain rfl (fun K hK => ?_)
                    refine wp_append_x (P := Try.prog) W3 (.tmp 64) (.tmp 66) 85 rfl w.heap.size 91 (.agg #[.int .i64 0, .slice none 0 0, .slice none 0 0]) 3 56 Try.underlying85 (by kernel_rfl) rfl (by decide) (.slice sq r.length sd) r.length _ rfl HG3 ⟨wr.heap.size, 0, none⟩ 1 1 [.int .i64 xk, .slice gp xpos.length gc, .slice ssp xpath.length ssc] rfl (by decide) rfl ?c1 ?c2 ?c3 ?c4 ?c5 ?_
                    case c1 =>
                      intro m u hu
                      have := hnew m u (by simpa using hu)
                      rw [addr_add]
                      exact this
                    case c2 => intro u hu; simp at hu; rcases hu with rfl | rfl | rfl <;> rfl
                    case c3 => unfold maxLen; have := hlr.out; omega
                    case c4 => have := hlr.out; omega
                    case c5 => have := hb3.size; have := HBwr.out.size; omega
                    intro v' w' hrow hgr hv'
                    refine hK _ _ ?_
                    clear hK K
                    have hbw' : Below w.heap.size w w' := (HBwr.out.trans (hb3.mono HBwr.out.size)).grown hgr (by have := hb3.size; have := HBwr.out.size; omega) (fun y hy => (HG3.lt y hy).1)
                    have hS' := HS3.kept hgr HNE.out
                    have hne' : (Value.slice (some ⟨ga, 0, none⟩) n sc).ownBlock = none ∨ (Value.slice (some ⟨ga, 0, none⟩) n sc).ownBlock ≠ v'.ownBlock := by
                      rcases hv' with e | e
                      · rw [e]; exact HNE.out
                      · refine .inr (fun e2 => ?_)
                        rw [e] at e2
                        have := (HS3.lt W3.heap.size e2).2
                        omega
                    have hmem' : ∀ z ∈ r ++ [⟨⟨xk, xpos, xpath.map bareS⟩, .slice gp xpos.length gc, .slice ssp xpath.length ssc⟩], OwnLF w.heap.size w' z := fun z hz => ((HMEM.out z hz).below hb3).kept HG3 hgr
                    obtain ⟨g', cap', rfl⟩ : ∃ g' cap', v' = .slice (some ⟨g', 0, none⟩) (r.length + 1) cap' := by
                      rcases hrow.2 with ⟨_, h⟩ | ⟨g', cap', cur, h, _⟩
                      · omega
                      · exact ⟨g', cap', h⟩
                    have HALL5 := Lib.hid (And.intro hrow (And.intro hbw' (And.intro hS' (And.intro hne' hmem'))))
                    clear hrow hbw' hgr hS' hne' hmem' hv' HG3 HS3 hb3 hnew
                    go_wp2
                    go_roundw
                    case rel =>
                      refine ⟨(i' + 1) + 1, by have := HI1.out; omega, by go_num, r ++ [⟨⟨xk, xpos, xpath.map bareS⟩, .slice gp xpos.length gc, .slice ssp xpath.length ssc⟩], some ⟨g', 0, none⟩, cap', by rw [List.length_append]; rfl, Lib.hid ?_, Lib.hid ?_, Lib.hid HALL5.out.2.2.2.2, Lib.hid HALL5.out.2.1, Lib.hid HALL5.out.2.2.1, Lib.hid ?_⟩
                      · have h := HALL5.out.1
                        rw [List.length_append, fC_app]
                        exact h
                      · rw [HEQ.out, List.map_append, List.map_append, HM.out]
                        rfl
                      · have h := HALL5.out.2.2.2.1
                        rw [List.length_append]
                        exact h
                    case measure => have := HI1.out; simp [intOf]; omega
        · have hd := HM.out
          obtain rfl : i = n := by omega
          have hF : FsAt wq.heap.size wq sq r := by
            obtain ⟨p', c', e1, h⟩ := fsAt_row HO.out (fun x hx => (HW.out x hx).lok)
            cases e1
            exact h
          have HLC : Hid (r.length ≤ sd) := Lib.hid (by
            rcases HO.out.2 with ⟨e1, h⟩ | ⟨g', cap', cur, e1, _, _, h, _⟩
            · omega
            · cases e1
              exact h)
          have HF := Lib.hid hF
          have HD : Hid (r.map LF.f = (dedP S (List.length S)).map (fun x => cleanF x.f)) := Lib.hid (by rw [HSL.out]; exact hd)
          clear hF hd
          go_wp2
          go_ret
          exact ⟨sq, sd, r, S, rfl, by rw [← HALL.out]; exact HPERM.out, HPW.out, HD.out, HF.out, HB.out, HLC.out⟩
end Go.Proofs.Ytnmnmkdmnohbmaa
