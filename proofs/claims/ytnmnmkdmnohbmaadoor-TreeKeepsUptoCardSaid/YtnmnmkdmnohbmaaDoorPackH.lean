/- Several texts in one: Helper text: the walk over reads of the statements: every call that reads two values and two paths leaves the memory as it was. Helper text: the walk over parts of the statements: the same count as the reference's Size at one less. Conditions: none. -/
import Derived.Test.YtnmnmkdmnohbmaaDoorWalk
import Derived.Test.YtnmnmkdmnohbmaaDoorKnown
import Derived.Test.YtnmnmkdmnohbmaaDoorSize
namespace Go.Proofs.YtnmnmkdmnohbmaaDoor
open Go Go.RowKit Go.Shelf
attribute [local go_sem] run_store_float Oper.semAt_some undef

theorem rd_shape {B : Nat} {w : World} {v : V} {cs : Array Value} (h : IsV B w v cs) : ∃ k b i f t ty p n c q m d, cs = vcells k b i f t ty p n c q m d := by
  obtain ⟨k, b, i, f, t, ty, its, fs⟩ := v
  obtain ⟨p, c, q, d, rfl, _⟩ := h
  exact ⟨_, _, _, _, _, _, _, _, _, _, _, _, rfl⟩

set_option maxRecDepth 100000 in
set_option maxHeartbeats 4000000 in
theorem reads_any (x y : V) (cs cs' : Array Value) (P Q : List St) (pp qp : Option Addr) (cp cq : Nat) (w : World) (hv : IsV w.heap.size w x cs) (hv' : IsV w.heap.size w y cs') (nx : nmV x) (ny : nmV y) (hsh : shV x) (sx : szV x ≤ 100000) (sy : szV y ≤ 100000)
    (hp : StepsAt w.heap.size w pp P) (hq : StepsAt w.heap.size w qp Q) (lp : P.length ≤ cp) (lpm : cp ≤ maxLen) (lq : Q.length ≤ maxLen)
    (hi : ∀ s ∈ P, -9223372036854775808 ≤ s.ix ∧ s.ix ≤ 9223372036854775807) (hl : (pathT P).length ≤ 140737488355328) (hn : ∀ s ∈ P, s.nm.size ≤ maxLen)
    (htab : Lib.TabIs Tryd.prog w "internal/strconv.uint64pow10" .u64 Lib.pow10Tab) (hT : TabsIn w) :
    Calls Tryd.prog 40 #[.agg cs, .agg cs', .slice pp P.length cp, .slice qp Q.length cq] w (RetB (.tuple #[]) w) := by
  obtain ⟨k, b, i, f, t, ty, p, n, c, q, m, d, rfl⟩ := rd_shape hv
  obtain ⟨k', b', i', f', t', ty', p', n', c', q', m', d', rfl⟩ := rd_shape hv'
  obtain ⟨wa, e, hwa, hs0, hs1, hal, hal'⟩ := two_allocs w (vcells k b i f t ty p n c q m d) (vcells k' b' i' f' t' ty' p' n' c' q' m' d') 27 27
  have HWA := Lib.hid hwa
  have HB0 := Lib.hid (Below.refl wa.heap.size wa)
  have HT8 := Lib.hid (Lib.tabBelow_of_tabIs htab)
  have C1 := Lib.hid (show ∀ w', Below w.heap.size w w' → Calls Tryd.prog 34 #[.agg (vcells k b i f t ty p n c q m d), .agg (vcells k' b' i' f' t' ty' p' n' c' q' m' d')] w' (RetB (.bool (eqV x y)) w') from fun w' h => Equal_any _ x (Nat.le_refl _) y _ _ w' (hv.on h) (hv'.on h))
  have C2 := Lib.hid (show ∀ w', Below w.heap.size w w' → Calls Tryd.prog 42 #[.agg (vcells k b i f t ty p n c q m d), .agg (vcells k' b' i' f' t' ty' p' n' c' q' m' d')] w' (RetB (.bool (sameV x y)) w') from fun w' h => Same_any _ x (Nat.le_refl _) nx y ny _ _ w' (hv.on h) (hv'.on h))
  have C3 := Lib.hid (show ∀ w', Below w.heap.size w w' → Calls Tryd.prog 35 #[.agg (vcells k b i f t ty p n c q m d)] w' (RetB (.int .i64 (cntV x)) w') from fun w' h => Count_any _ x (Nat.le_refl _) _ w' (hv.on h) (by omega))
  have C4 := Lib.hid (show ∀ w', Below w.heap.size w w' → Calls Tryd.prog 45 #[.agg (vcells k b i f t ty p n c q m d)] w' (RetB (.int .i64 (depV x)) w') from fun w' h => Depth_any _ x (Nat.le_refl _) _ w' (hv.on h) (by omega))
  have C5 := Lib.hid (show ∀ w', Below w.heap.size w w' → Calls Tryd.prog 12 #[.agg (vcells k b i f t ty p n c q m d)] w' (SndP x w') from fun w' h => Sound_any _ x (Nat.le_refl _) _ w' (hv.on h) (by omega) hsh (hT.on h))
  unfold SndP at C5
  have C6 := Lib.hid (show ∀ w', Below w.heap.size w w' → Calls Tryd.prog 20 #[.agg (vcells k b i f t ty p n c q m d), .slice pp P.length cp] w' (GetPost (getV x P) w') from fun w' h => Get_any x P _ pp cp w' (hv.on h) (hp.on h) (by omega) (by omega))
  have C7 := Lib.hid (show ∀ w', Below w.heap.size w w' → Calls Tryd.prog 21 #[.agg (vcells k b i f t ty p n c q m d), .slice pp P.length cp, .agg (vcells k' b' i' f' t' ty' p' n' c' q' m' d')] w' (GetPost (setV x P y) w') from fun w' h => Set_any x P y _ _ pp cp w' (hv.on h) (hv'.on h) (hp.on h) (by omega) (by omega) (by omega))
  unfold GetPost at C6 C7
  have C8 := Lib.hid (show ∀ w', Below w.heap.size w w' → Calls Tryd.prog 38 #[.slice pp P.length cp] w' (RetB (.string ⟨(pathT P).toArray⟩) w') from fun w' h => PathText_any P pp cp w' (hp.on h) (by omega) hi hl hn (HT8.out w' h))
  have C9 := Lib.hid (show ∀ w', Below w.heap.size w w' → Calls Tryd.prog 36 #[.slice pp P.length cp, .slice qp Q.length cq] w' (RetB (.int .i64 (cmpP P Q)) w') from fun w' h => Compare_any P Q pp qp cp cq w' (hp.on h) (hq.on h) (by omega) lq)
  have C10 := Lib.hid (show ∀ w', Below w.heap.size w w' → Calls Tryd.prog 37 #[.slice pp P.length cp, .slice qp Q.length cq] w' (RetB (.bool (underP P Q)) w') from fun w' h => Under_any P Q pp qp cp cq w' (hp.on h) (hq.on h) lp lpm lq)
  have HV := Lib.hid hv
  have HAL := Lib.hid hal
  have HAL2 := Lib.hid hal'
  obtain ⟨a0, a1, a2, a3, a4, a5, a6, a7⟩ := hal.all0
  obtain ⟨b0, b1, b2, b3, b4, b5, b6, b7⟩ := hal'.all0
  have HSX := Lib.hid sx
  clear hv hv' nx ny hsh sx sy hp hq lp lpm lq hi hl hn htab hT hwa hal hal'
  have hnf : ∀ (fn : Fn) (x y : Array Value) (W : World), (binOp .neq 70 (.func fn x y) .nilFunc).run Tryd.prog W = .ok (.bool true) W := fun _ _ _ _ => rfl
  have tk1 := trivial
  have tk2 := trivial
  have tk3 := trivial
  have tk4 := trivial
  have tk5 := trivial
  have tk6 := trivial
  have tk7 := trivial
  have tk8 := trivial
  have tk9 := trivial
  have tk10 := trivial
  have tk11 := trivial
  refine (callsIn_wide (n := 20)).1 ?_
  refine callsIn_of_wp_marks Tryd.func40 rfl trivial ?_ rfl
  simp only [Tryd.ntmps40, List.size_toArray, List.length_cons, List.length_nil, Nat.reduceAdd, Nat.reduceSub, Array.replicate_succ, Array.replicate_zero, List.push_toArray, List.append_toArray, List.nil_append, List.cons_append]
  gi_wp2_with (first
      | (refine ⟨trivial, ?_⟩; gi_at_call 34; go_loud (clear tk1; refine (callsIn_wide.2 (C1.out _ (HWA.out.trans (HB0.out.mono HWA.out.size)))).mono ?_; rintro e w1 ⟨rfl, hb⟩; have HB1 := Lib.hid (HB0.out.trans (hb.mono HB0.out.size)); clear hb a0 a1 a2 a3 a4 a5 a6 a7 b0 b1 b2 b3 b4 b5 b6 b7; obtain ⟨a0, a1, a2, a3, a4, a5, a6, a7⟩ := (HAL.out.below HB1.out hs0).all0; obtain ⟨b0, b1, b2, b3, b4, b5, b6, b7⟩ := (HAL2.out.below HB1.out hs1).all0))
      | (refine ⟨trivial, ?_⟩; gi_at_call 42; go_loud (clear tk2; refine (callsIn_wide.2 (C2.out _ (HWA.out.trans (HB1.out.mono HWA.out.size)))).mono ?_; rintro e w2 ⟨rfl, hb⟩; have HB2 := Lib.hid (HB1.out.trans (hb.mono HB1.out.size)); clear hb a0 a1 a2 a3 a4 a5 a6 a7 b0 b1 b2 b3 b4 b5 b6 b7; obtain ⟨a0, a1, a2, a3, a4, a5, a6, a7⟩ := (HAL.out.below HB2.out hs0).all0; obtain ⟨b0, b1, b2, b3, b4, b5, b6, b7⟩ := (HAL2.out.below HB2.out hs1).all0))
      | (refine ⟨trivial, ?_⟩; gi_at_call 35; go_loud (clear tk3; refine (callsIn_wide.2 (C3.out _ (HWA.out.trans (HB2.out.mono HWA.out.size)))).mono ?_; rintro e w3 ⟨rfl, hb⟩; have HB3 := Lib.hid (HB2.out.trans (hb.mono HB2.out.size)); clear hb a0 a1 a2 a3 a4 a5 a6 a7 b0 b1 b2 b3 b4 b5 b6 b7; obtain ⟨a0, a1, a2, a3, a4, a5, a6, a7⟩ := (HAL.out.below HB3.out hs0).all0; obtain ⟨b0, b1, b2, b3, b4, b5, b6, b7⟩ := (HAL2.out.below HB3.out hs1).all0))
      | (refine ⟨trivial, ?_⟩; gi_at_call 45; go_loud (clear tk4; refine (callsIn_wide.2 (C4.out _ (HWA.out.trans (HB3.out.mono HWA.out.size)))).mono ?_; rintro e w4 ⟨rfl, hb⟩; have HB4 := Lib.hid (HB3.out.trans (hb.mono HB3.out.size)); clear hb a0 a1 a2 a3 a4 a5 a6 a7 b0 b1 b2 b3 b4 b5 b6 b7; obtain ⟨a0, a1, a2, a3, a4, a5, a6, a7⟩ := (HAL.out.below HB4.out hs0).all0; obtain ⟨b0, b1, b2, b3, b4, b5, b6, b7⟩ := (HAL2.out.below HB4.out hs1).all0))
      | (refine ⟨trivial, ?_⟩; gi_at_call 12; go_loud (clear tk5; refine (callsIn_wide.2 (C5.out _ (HWA.out.trans (HB4.out.mono HWA.out.size)))).mono ?_; rintro e w5 ⟨sv, rfl, _, hb⟩; have HB5 := Lib.hid (HB4.out.trans (hb.mono HB4.out.size)); clear hb a0 a1 a2 a3 a4 a5 a6 a7 b0 b1 b2 b3 b4 b5 b6 b7; obtain ⟨a0, a1, a2, a3, a4, a5, a6, a7⟩ := (HAL.out.below HB5.out hs0).all0; obtain ⟨b0, b1, b2, b3, b4, b5, b6, b7⟩ := (HAL2.out.below HB5.out hs1).all0))
      | (refine ⟨trivial, ?_⟩; gi_at_call 20; go_loud (clear tk6; refine (callsIn_wide.2 (C6.out _ (HWA.out.trans (HB5.out.mono HWA.out.size)))).mono ?_; rintro e w6 ⟨cg, bg, rfl, _, _, _, hb⟩; have HB6 := Lib.hid (HB5.out.trans (hb.mono HB5.out.size)); clear hb a0 a1 a2 a3 a4 a5 a6 a7 b0 b1 b2 b3 b4 b5 b6 b7; obtain ⟨a0, a1, a2, a3, a4, a5, a6, a7⟩ := (HAL.out.below HB6.out hs0).all0; obtain ⟨b0, b1, b2, b3, b4, b5, b6, b7⟩ := (HAL2.out.below HB6.out hs1).all0))
      | (refine ⟨trivial, ?_⟩; gi_at_call 21; go_loud (clear tk7; refine (callsIn_wide.2 (C7.out _ (HWA.out.trans (HB6.out.mono HWA.out.size)))).mono ?_; rintro e w7 ⟨ct, bt, rfl, _, _, _, hb⟩; have HB7 := Lib.hid (HB6.out.trans (hb.mono HB6.out.size)); clear hb a0 a1 a2 a3 a4 a5 a6 a7 b0 b1 b2 b3 b4 b5 b6 b7; obtain ⟨a0, a1, a2, a3, a4, a5, a6, a7⟩ := (HAL.out.below HB7.out hs0).all0; obtain ⟨b0, b1, b2, b3, b4, b5, b6, b7⟩ := (HAL2.out.below HB7.out hs1).all0))
      | (refine ⟨trivial, ?_⟩; gi_at_call 38; go_loud (clear tk8; refine (callsIn_wide.2 (C8.out _ (HWA.out.trans (HB7.out.mono HWA.out.size)))).mono ?_; rintro e w8 ⟨rfl, hb⟩; have HB8 := Lib.hid (HB7.out.trans (hb.mono HB7.out.size)); clear hb a0 a1 a2 a3 a4 a5 a6 a7 b0 b1 b2 b3 b4 b5 b6 b7; obtain ⟨a0, a1, a2, a3, a4, a5, a6, a7⟩ := (HAL.out.below HB8.out hs0).all0; obtain ⟨b0, b1, b2, b3, b4, b5, b6, b7⟩ := (HAL2.out.below HB8.out hs1).all0))
      | (refine ⟨trivial, ?_⟩; gi_at_call 36; go_loud (clear tk9; refine (callsIn_wide.2 (C9.out _ (HWA.out.trans (HB8.out.mono HWA.out.size)))).mono ?_; rintro e w9 ⟨rfl, hb⟩; have HB9 := Lib.hid (HB8.out.trans (hb.mono HB8.out.size)); clear hb a0 a1 a2 a3 a4 a5 a6 a7 b0 b1 b2 b3 b4 b5 b6 b7; obtain ⟨a0, a1, a2, a3, a4, a5, a6, a7⟩ := (HAL.out.below HB9.out hs0).all0; obtain ⟨b0, b1, b2, b3, b4, b5, b6, b7⟩ := (HAL2.out.below HB9.out hs1).all0))
      | (refine ⟨trivial, ?_⟩; gi_at_call 37; go_loud (clear tk10; refine (callsIn_wide.2 (C10.out _ (HWA.out.trans (HB9.out.mono HWA.out.size)))).mono ?_; rintro e w10 ⟨rfl, hb⟩; have HB10 := Lib.hid (HB9.out.trans (hb.mono HB9.out.size)); clear hb a0 a1 a2 a3 a4 a5 a6 a7 b0 b1 b2 b3 b4 b5 b6 b7; obtain ⟨a0, a1, a2, a3, a4, a5, a6, a7⟩ := (HAL.out.below HB10.out hs0).all0; obtain ⟨b0, b1, b2, b3, b4, b5, b6, b7⟩ := (HAL2.out.below HB10.out hs1).all0))
      | (refine ⟨trivial, ?_⟩; gi_at_call 33; clear tk11; refine (callsIn_wide.2 (Walk_any _ _)).mono ?_; rintro e wk ⟨rfl, rfl⟩)
      | refine ⟨trivial, ?_⟩)
  obtain ⟨W5, hW5, hb5, hs5, hc5⟩ : ∃ W5, w10.alloc (.cells #[.int .i64 k, .bool b, .int .i64 i, .float .f64 f, .string t, .string ty, .slice p n c, .slice q m d] 27) = W5 ∧ Below w10.heap.size w10 W5 ∧ W5.heap.size = w10.heap.size + 1 ∧ CellsAt W5 w10.heap.size 0 (vcells k b i f t ty p n c q m d) := ⟨_, rfl, (Below.refl _ _).alloc (Nat.le_refl _) _, by simp, cellsAt_alloc _ _ _ _⟩
  rw [hW5]
  clear hW5
  have hB5 : Below w.heap.size w W5 := (HWA.out.trans (HB10.out.mono HWA.out.size)).trans (hb5.mono (Nat.le_trans HWA.out.size HB10.out.size))
  have HTELL := Lib.hid (walk_tells _ x (Nat.le_refl _) 19 w.heap.size w10.heap.size (vcells k b i f t ty p n c q m d) W5 (by omega) hB5.size hc5 (HV.out.below hB5 (Nat.le_refl _)) (by have := HSX.out; omega))
  have HB5 := Lib.hid hB5
  have h10 : w.heap.size ≤ w10.heap.size := Nat.le_trans HWA.out.size HB10.out.size
  clear hB5 hb5 hc5
  refine wpIn_range_out rfl (by decide) (gf := 74) (lb := #[.pointer (some ⟨w10.heap.size, 0, none⟩)]) rfl trivial (enters_of Tryd.func74 (by kernel_rfl) rfl) HTELL.out
    (fun k hk => by rcases hk with hk | hk <;> omega) (Below.refl _ _) (fun _ => rfl)
    (fun _ V => Below w.heap.size W5 V) (fun _ _ _ => False)
    (ownFrom_below HB5.out.size HB5.out.size) (fun _ _ _ _ _ h _ _ => h) (Below.refl _ _)
    (fun _ _ _ => True) ?hAx ?assign ?body ?done ?stop
  case hAx => exact fun _ _ _ _ _ _ _ _ _ => trivial
  case assign =>
    rintro l pre x V K hI hok hK
    gi_wp2
    exact hK _ _ (Still.refl _ _ _) hI trivial
  case body =>
    rintro l pre x a' V hl hr hI _
    gi_wp2
    exact ⟨Still.refl _ _ _, hI⟩
  case done =>
    rintro D xs V hD _ hI hK
    gi_wp2
    refine ⟨by simp, .inl ⟨_, _, rfl, run_takeDeferred hK, ?_⟩⟩
    refine ⟨_, results_none rfl _ _ _, rfl, ?_⟩
    exact (HB5.out.trans hI).trans ⟨rfl, rfl, rfl, by simp, fun j hj => World.putObj_heap_other (fun e => by have := HB5.out.size; omega)⟩
  case stop =>
    rintro D cc pre V _ _ h _
    exact h.elim
end Go.Proofs.YtnmnmkdmnohbmaaDoor

namespace Go.Proofs.YtnmnmkdmnohbmaaDoor
open Go.RowKit

set_option maxRecDepth 100000 in
set_option maxHeartbeats 1000000 in
theorem lawParts_any : ∀ (N : Nat) (v : V), szV v ≤ N → ∀ (cs : Array Value) (w : World) (most : Int), IsV w.heap.size w v cs → 1 ≤ most → most ≤ 1000000 →
    Calls Tryd.prog 16 #[.agg cs, .int .i64 most] w (RetB (.int .i64 (sizeR v (most - 1))) w) := by
  intro N
  induction N with
  | zero => intro v hv; have := szV_pos v; omega
  | succ N ih =>
    intro v hN cs w most hv hm0 hm1
    obtain ⟨k, b, i, f, t, ty, its, fs⟩ := v
    have hv0 := hv
    obtain ⟨p, c, q, d, rfl, hi, hf, l1, l2⟩ := hv
    unfold lenMax at l1 l2
    have IH := Lib.hid ih
    have HV := Lib.hid hv0
    have HI := Lib.hid hi
    have HF := Lib.hid hf
    have HN := Lib.hid hN
    clear ih hv0 hi hf hN
    go_enter Tryd.func16, Tryd.ntmps16
    go_wp2_with fail
    have hal := cellsAt_alloc w (vcells k b i f t ty p its.length c q fs.length d) 27 (0, 0)
    have hwa : Below w.heap.size w (w.alloc (.cells (vcells k b i f t ty p its.length c q fs.length d) 27)) := (Below.refl _ _).alloc (Nat.le_refl _) _
    have hsz : w.heap.size < (w.alloc (.cells (vcells k b i f t ty p its.length c q fs.length d) 27)).heap.size := by simp
    obtain ⟨wa, hW⟩ : ∃ wa, w.alloc (.cells (vcells k b i f t ty p its.length c q fs.length d) 27) = wa := ⟨_, rfl⟩
    rw [hW] at hal hwa hsz ⊢
    clear hW
    go_loopw [5, 6] (fun n ii wr => ∃ j : Nat, j ≤ its.length ∧ ii = .int .i64 j ∧ ∃ nn : Int, n = .int .i64 nn ∧ 1 ≤ nn ∧ nn ≤ most + 8796093022208 ∧ Hid (sizeIs (its.drop j) (most - 1) nn = sizeIs its (most - 1) (1 + its.length + fs.length)) ∧ Below wa.heap.size wa wr) (fun _ ii _ => its.length - (intOf ii).toNat)
    case atStart => exact ⟨0, by omega, rfl, _, rfl, by omega, by omega, rfl, Below.refl _ _⟩
    case round =>
      obtain ⟨j, hj, rfl, nn, rfl, hn1, hn2, hrel, hbel⟩ := hrel
      obtain ⟨_, _, _, _, _, _, e6, e7⟩ := (hal.below hbel hsz).all0
      by_cases h1 : j < its.length
      · by_cases h2 : nn < most
        · obtain ⟨x, hx⟩ : ∃ x, its[j]? = some x := ⟨its[j], by simp [h1]⟩
          obtain hi := HI.out
          rcases hi with hi | ⟨g, o, rfl, hg, hvs⟩
          · subst hi; simp at h1
          obtain ⟨csx, hcx, hvx⟩ := hvs.get hx
          have hbw := hwa.trans (hbel.mono hwa.size)
          have hcx' := hcx.below hbw hg
          have hvx' := hvx.on hbw
          have hle := sizeR_le hvx (most - 1 - nn) (by omega)
          have hpos := sizeR_pos x (most - 1 - nn)
          have hxN : szV x ≤ N := by
            have := szVs_get hx
            have := HN.out
            simp only [szV] at this
            omega
          have hstep : sizeIs (its.drop (j + 1)) (most - 1) (nn + sizeR x (most - 1 - nn)) = sizeIs its (most - 1) (1 + its.length + fs.length) := by
            rw [← hrel.out, drop_some hx, sizeIs, if_pos (by omega)]
          have hc := IH.out x hxN csx wr (most - nn) hvx' (by omega) (by omega)
          rw [show most - nn - 1 = most - 1 - nn by omega] at hc
          have HC := Lib.hid hc
          have HSTEP := Lib.hid hstep
          obtain ⟨xk, xb, xi, xf, xt, xty, xits, xfs⟩ := x
          obtain ⟨xp, xc, xq, xd, rfl, _, _, _, _⟩ := hvx
          obtain ⟨c0, c1, c2, c3, c4, c5, c6, c7⟩ := hcx'.all
          clear hc hstep hvx' hx hvs hcx hcx' hal hwa
          generalize sizeR (V.mk xk xb xi xf xt xty xits xfs) (most - 1 - nn) = kk at *
          go_wp2_with (go_at_call 16; refine HC.out.mono ?_; rintro e w1 ⟨rfl, hb1⟩)
          go_roundw
          case rel => exact ⟨j + 1, by omega, by go_num, _, rfl, by omega, by omega, HSTEP, hbel.trans (hb1.mono hbel.size)⟩
          case measure => simp [intOf]; omega
        · have hend : sizeIs its (most - 1) (1 + its.length + fs.length) = nn := by
            rw [← hrel.out]
            cases hd : its.drop j with
            | nil => rw [sizeIs]
            | cons x r => rw [sizeIs, if_neg (by omega)]
          have HEND := Lib.hid hend
          clear hend hrel
          go_wp2_with fail
          go_loopw [5, 7] (fun n ii wr => ∃ j : Nat, j ≤ fs.length ∧ ii = .int .i64 j ∧ ∃ mm : Int, n = .int .i64 mm ∧ 1 ≤ mm ∧ mm ≤ most + 8796093022208 ∧ Hid (sizeFs (fs.drop j) (most - 1) mm = sizeFs fs (most - 1) nn) ∧ Below wa.heap.size wa wr) (fun _ ii _ => fs.length - (intOf ii).toNat)
          case atStart => exact ⟨0, by omega, rfl, _, rfl, by omega, by omega, rfl, hbel⟩
          case round =>
            clear hbel e6 e7
            obtain ⟨j2, hj2, rfl, mm, rfl, hm3, hm4, hrel, hbel⟩ := hrel
            obtain ⟨_, _, _, _, _, _, e6, e7⟩ := (hal.below hbel hsz).all0
            by_cases h3 : j2 < fs.length
            · by_cases h4 : mm < most
              · obtain ⟨x, hx⟩ : ∃ x, fs[j2]? = some x := ⟨fs[j2], by simp [h3]⟩
                obtain hf := HF.out
                rcases hf with hf | ⟨g, o, rfl, hg, hvs⟩
                · subst hf; simp at h3
                obtain ⟨hnm, csx, hcx, hvx⟩ := hvs.get hx
                have hbw := hwa.trans (hbel.mono hwa.size)
                have hcx' := hcx.below hbw hg
                have hvx' := hvx.on hbw
                have hle := sizeR_le hvx (most - 1 - mm) (by omega)
                have hpos := sizeR_pos x.2 (most - 1 - mm)
                have hxN : szV x.2 ≤ N := by
                  have := szFs_get hx
                  have := HN.out
                  simp only [szV] at this
                  omega
                have hstep : sizeFs (fs.drop (j2 + 1)) (most - 1) (mm + sizeR x.2 (most - 1 - mm)) = sizeFs fs (most - 1) nn := by
                  rw [← hrel.out, drop_some hx, sizeFs, if_pos (by omega)]
                have hc := IH.out x.2 hxN csx wr (most - mm) hvx' (by omega) (by omega)
                rw [show most - mm - 1 = most - 1 - mm by omega] at hc
                have HC := Lib.hid hc
                have HSTEP := Lib.hid hstep
                obtain ⟨xn, xk, xb, xi, xf, xt, xty, xits, xfs⟩ := x
                obtain ⟨xp, xc, xq, xd, rfl, _, _, _, _⟩ := hvx
                obtain ⟨c0, c1, c2, c3, c4, c5, c6, c7⟩ := hcx'.all
                clear hc hstep hvx' hx hvs hcx hcx' hal hwa hnm
                generalize sizeR (xn, V.mk xk xb xi xf xt xty xits xfs).2 (most - 1 - mm) = kk at *
                go_wp2_with (go_at_call 16; refine HC.out.mono ?_; rintro e w1 ⟨rfl, hb1⟩)
                go_roundw
                case rel => exact ⟨j2 + 1, by omega, by go_num, _, rfl, by omega, by omega, HSTEP, hbel.trans (hb1.mono hbel.size)⟩
                case measure => simp [intOf]; omega
              · have hfin : sizeFs fs (most - 1) nn = mm := by
                  rw [← hrel.out]
                  cases hd : fs.drop j2 with
                  | nil => rw [sizeFs]
                  | cons x r => rw [sizeFs, if_neg (by omega)]
                have HFIN := Lib.hid hfin
                clear hfin
                go_wp2_with fail
                go_ret
                exact ⟨ret_eq (by rw [sizeR, HEND.out, HFIN.out]; rfl), hwa.trans (hbel.mono hwa.size)⟩
            · have hfin : sizeFs fs (most - 1) nn = mm := by
                rw [← hrel.out, List.drop_of_length_le (by omega), sizeFs]
              have HFIN := Lib.hid hfin
              clear hfin
              go_wp2_with fail
              go_ret
              exact ⟨ret_eq (by rw [sizeR, HEND.out, HFIN.out]; rfl), hwa.trans (hbel.mono hwa.size)⟩
      · have hend : sizeIs its (most - 1) (1 + its.length + fs.length) = nn := by
          rw [← hrel.out, List.drop_of_length_le (by omega), sizeIs]
        have HEND := Lib.hid hend
        clear hend hrel
        go_wp2_with fail
        go_loopw [5, 7] (fun n ii wr => ∃ j : Nat, j ≤ fs.length ∧ ii = .int .i64 j ∧ ∃ mm : Int, n = .int .i64 mm ∧ 1 ≤ mm ∧ mm ≤ most + 8796093022208 ∧ Hid (sizeFs (fs.drop j) (most - 1) mm = sizeFs fs (most - 1) nn) ∧ Below wa.heap.size wa wr) (fun _ ii _ => fs.length - (intOf ii).toNat)
        case atStart => exact ⟨0, by omega, rfl, _, rfl, by omega, by omega, rfl, hbel⟩
        case round =>
          clear hbel e6 e7
          obtain ⟨j2, hj2, rfl, mm, rfl, hm3, hm4, hrel, hbel⟩ := hrel
          obtain ⟨_, _, _, _, _, _, e6, e7⟩ := (hal.below hbel hsz).all0
          by_cases h3 : j2 < fs.length
          · by_cases h4 : mm < most
            · obtain ⟨x, hx⟩ : ∃ x, fs[j2]? = some x := ⟨fs[j2], by simp [h3]⟩
              obtain hf := HF.out
              rcases hf with hf | ⟨g, o, rfl, hg, hvs⟩
              · subst hf; simp at h3
              obtain ⟨hnm, csx, hcx, hvx⟩ := hvs.get hx
              have hbw := hwa.trans (hbel.mono hwa.size)
              have hcx' := hcx.below hbw hg
              have hvx' := hvx.on hbw
              have hle := sizeR_le hvx (most - 1 - mm) (by omega)
              have hpos := sizeR_pos x.2 (most - 1 - mm)
              have hxN : szV x.2 ≤ N := by
                have := szFs_get hx
                have := HN.out
                simp only [szV] at this
                omega
              have hstep : sizeFs (fs.drop (j2 + 1)) (most - 1) (mm + sizeR x.2 (most - 1 - mm)) = sizeFs fs (most - 1) nn := by
                rw [← hrel.out, drop_some hx, sizeFs, if_pos (by omega)]
              have hc := IH.out x.2 hxN csx wr (most - mm) hvx' (by omega) (by omega)
              rw [show most - mm - 1 = most - 1 - mm by omega] at hc
              have HC := Lib.hid hc
              have HSTEP := Lib.hid hstep
              obtain ⟨xn, xk, xb, xi, xf, xt, xty, xits, xfs⟩ := x
              obtain ⟨xp, xc, xq, xd, rfl, _, _, _, _⟩ := hvx
              obtain ⟨c0, c1, c2, c3, c4, c5, c6, c7⟩ := hcx'.all
              clear hc hstep hvx' hx hvs hcx hcx' hal hwa hnm
              generalize sizeR (xn, V.mk xk xb xi xf xt xty xits xfs).2 (most - 1 - mm) = kk at *
              go_wp2_with (go_at_call 16; refine HC.out.mono ?_; rintro e w1 ⟨rfl, hb1⟩)
              go_roundw
              case rel => exact ⟨j2 + 1, by omega, by go_num, _, rfl, by omega, by omega, HSTEP, hbel.trans (hb1.mono hbel.size)⟩
              case measure => simp [intOf]; omega
            · have hfin : sizeFs fs (most - 1) nn = mm := by
                rw [← hrel.out]
                cases hd : fs.drop j2 with
                | nil => rw [sizeFs]
                | cons x r => rw [sizeFs, if_neg (by omega)]
              have HFIN := Lib.hid hfin
              clear hfin
              go_wp2_with fail
              go_ret
              exact ⟨ret_eq (by rw [sizeR, HEND.out, HFIN.out]; rfl), hwa.trans (hbel.mono hwa.size)⟩
          · have hfin : sizeFs fs (most - 1) nn = mm := by
              rw [← hrel.out, List.drop_of_length_le (by omega), sizeFs]
            have HFIN := Lib.hid hfin
            clear hfin
            go_wp2_with fail
            go_ret
            exact ⟨ret_eq (by rw [sizeR, HEND.out, HFIN.out]; rfl), hwa.trans (hbel.mono hwa.size)⟩
end Go.Proofs.YtnmnmkdmnohbmaaDoor
