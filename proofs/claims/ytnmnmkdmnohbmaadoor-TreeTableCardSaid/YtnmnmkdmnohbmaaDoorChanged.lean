/- Helper text: the walk over changedWhile of the statements: a range during which entries come and go. Conditions: none. -/
import Derived.Test.YtnmnmkdmnohbmaaDoorChgLaw
import Derived.Test.YtnmnmkdmnohbmaaDoorHolds
import Derived.Test.YtnmnmkdmnohbmaaDoorRound
import Derived.Test.YtnmnmkdmnohbmaaDoorDrawIn
namespace Go.Proofs.YtnmnmkdmnohbmaaDoor
open Go Go.RowKit Go.Maps
attribute [local go_sem] run_store_float undef Oper.semAt_some

set_option maxRecDepth 100000 in
set_option maxHeartbeats 4000000 in
theorem changed_any {w : World} {B T bm : Nat} {l : List (Int × Int)} (h : TS w B T bm l) {BR : Nat} {lv : Value} (hr : w.ownsRow BR 60 2 lv l.length (rowsC l)) (hdis : ∀ g, lv.ownBlock = some g → ¬ footW T w g) (kd K V : Int) (hV : inI V) (few : l.length + 1 < 8796093022207) (hB : B ≤ w.heap.size) (hBR : BR ≤ w.heap.size)
    (htab : ∀ W, Below B w W → Lib.TabIs Tryd.prog W "internal/strconv.uint64pow10" .u64 Lib.pow10Tab) :
    Calls Tryd.prog 69 #[.pointer (some ⟨T, 0, none⟩), lv, .agg #[.int .i64 kd, .int .i64 K, .int .i64 V]] w (fun e w' => ∃ v' l', e = .returned (.tuple #[v', .bool true]) ∧ TS w' B T bm l' ∧ w'.ownsRow BR 60 2 v' l'.length (rowsC l') ∧ l'.length ≤ l.length ∧ TStep T w w' ∧ ∀ g, v'.ownBlock = some g → ¬ footW T w' g ∧ g < w'.heap.size ∧ (lv.ownBlock = some g ∨ w.heap.size ≤ g)) := by
  have HTB := Lib.hid htab
  obtain ⟨pl, cl, rfl⟩ := row_slice hr
  have HTS := Lib.hid h
  have HR := Lib.hid hr
  have HDIS := Lib.hid hdis
  have HV := Lib.hid hV
  have HBB := Lib.hid hB
  have HBR := Lib.hid hBR
  clear h hr hdis hV hB hBR htab
  have heqf : ∀ (f : Fn) (x y : Array Value) (w : World), (binOp BinOp.eql 116 (.func f x y) Value.nilFunc).run Tryd.prog w = .ok (.bool false) w := fun _ _ _ _ => by first | rfl | kernel_rfl | simp [binOp, go_sem]
  refine (callsIn_wide (n := 5)).1 ?_
  refine callsIn_of_wp_marks Tryd.func69 rfl trivial ?_ rfl
  simp only [Tryd.ntmps69, List.size_toArray, List.length_cons, List.length_nil, Nat.reduceAdd, Nat.reduceSub, Array.replicate_succ, Array.replicate_zero, List.push_toArray, List.append_toArray, List.nil_append, List.cons_append]
  gi_wp2_with (refine ⟨trivial, ?_⟩; gi_at_call 71; refine (callsIn_wide.2 (All_tab _ _)).mono ?_; rintro e w1 ⟨rfl, rfl⟩)
  obtain ⟨W0, eW, hbw0, hs0, k0, k1, k2, k3, k4, k5, k6, k7⟩ := eight w (.cells #[.pointer (some ⟨T, 0, none⟩)] 55) (.cells #[.slice pl l.length cl] 61) (.cells #[.int .i64 kd, .int .i64 K, .int .i64 V] 63) (.cells #[.slice none 0 0] 61) (.cells #[.bool false] 4) (.cells #[.int .i64 0] 3) (.cells #[.slice pl l.length cl] 61) (.cells #[.pointer (some ⟨T, 0, none⟩)] 55)
  rw [eW]
  clear eW heqf
  have hTSw := HTS.out.on hbw0
  have hTlt : T < w.heap.size ∧ bm < w.heap.size := ⟨HTS.out.lt, HTS.out.bm_lt.1⟩
  have HF0 := Lib.hid (show ∀ g, footW T W0 g → g < w.heap.size ∧ footW T w g from fun g ⟨bm', kv', vv', q1, q2⟩ => by
    have hf : footW T w g := ⟨bm', kv', vv', (hbw0.block T hTlt.1).symm.trans q1, q2⟩
    exact ⟨(HTS.out.foot_lt hf).2, hf⟩)
  have HB0 := Lib.hid hbw0
  have K0 := Lib.hid k0
  have K1 := Lib.hid k1
  have K2 := Lib.hid k2
  have K3 := Lib.hid k3
  have K4 := Lib.hid k4
  have KR := Lib.hid (HR.out.kept (grown_of_below hbw0 none) (by cases (Value.slice pl l.length cl).ownBlock <;> simp))
  have HS0 := Lib.hid hs0
  have lt0 := hTlt.1
  have lt1 := hTlt.2
  have bN5 : Boxed W0 (w.heap.size + 1 + 1 + 1 + 1 + 1) 3 (.int .i64 0) := k5
  have bN6 : Boxed W0 (w.heap.size + 1 + 1 + 1 + 1 + 1 + 1) 61 (.slice pl l.length cl) := k6
  have hcv := block_of_cells k7
  have HBOX := Lib.hid (show ∀ W, Chg W0 W T (w.heap.size + 1 + 1 + 1 + 1 + 1) (w.heap.size + 1 + 1 + 1 + 1 + 1 + 1) → Below B w W ∧ W.heap[w.heap.size]? = W0.heap[w.heap.size]? ∧ W.heap[w.heap.size + 1]? = W0.heap[w.heap.size + 1]? ∧ W.heap[w.heap.size + 1 + 1]? = W0.heap[w.heap.size + 1 + 1]? ∧ W.heap[w.heap.size + 1 + 1 + 1]? = W0.heap[w.heap.size + 1 + 1 + 1]? ∧ W.heap[w.heap.size + 1 + 1 + 1 + 1]? = W0.heap[w.heap.size + 1 + 1 + 1 + 1]? ∧ W.ownsRow BR 60 2 (.slice pl l.length cl) l.length (rowsC l) from fun W hc => by
    have keep : ∀ k, w.heap.size ≤ k → k < w.heap.size + 1 + 1 + 1 + 1 + 1 → W.heap[k]? = W0.heap[k]? := fun k h1 h2 => hc.moved.block k (by omega) (fun hx => by
      rcases hx with q | q | q
      · have := (HF0.out k q).1; omega
      · omega
      · omega)
    have hbl : Below B W0 W := hc.moved.below (by have := HBB.out; omega) (fun k hk => by
      rcases hk with q | q | q
      · exact (HTS.out.foot_lt (HF0.out k q).2).1
      · have := HBB.out; omega
      · have := HBB.out; omega)
    refine ⟨(HB0.out.mono HBB.out).trans hbl, keep _ (by omega) (by omega), keep _ (by omega) (by omega), keep _ (by omega) (by omega), keep _ (by omega) (by omega), keep _ (by omega) (by omega), tabrow_at KR.out (fun g hg => hc.moved.block g (KR.out.lt g hg).2 (fun hx => ?_))⟩
    have hlt := (HR.out.lt g hg).2
    rcases hx with q | q | q
    · exact HDIS.out g hg (HF0.out g q).2
    · omega
    · omega)
  have HKEEP := Lib.hid (show ∀ W W', Chg W0 W T (w.heap.size + 1 + 1 + 1 + 1 + 1) (w.heap.size + 1 + 1 + 1 + 1 + 1 + 1) → TStep T W W' → ∀ (g : Nat) (t : TypeId) (v : Value), w.heap.size ≤ g → g < W0.heap.size → Boxed W g t v → Boxed W' g t v from fun W W' hc hs g t v h1 h2 hb =>
    (hs.1.block g hb.lt (fun hf => by
      rcases hc.foot g hf with q | q
      · have := (HF0.out g q).1; omega
      · omega)).trans hb)
  show Code.wpIn _ _ _ _ _ { tmps := ?T0, defers := [] } _
  refine wpIn_rangeFunc_ownH rfl (by decide) (gf := 105) (lb := #[.pointer (some ⟨w.heap.size + 1 + 1 + 1 + 1 + 1 + 1 + 1, 0, none⟩)]) rfl trivial (enters_of Tryd.func105 (by kernel_rfl) rfl)
    (tab_stops 4 hTSw (w.heap.size + 1 + 1 + 1 + 1 + 1 + 1 + 1) (by omega) hcv (fun g => g = w.heap.size + 1 + 1 + 1 + 1 + 1 ∨ g = w.heap.size + 1 + 1 + 1 + 1 + 1 + 1) (fun g e => by omega)) KeepT.trans (fun W l' o o' hl h hc _ => KeepT.put W l' o o' h hc (by omega)) (Below.refl _ _) (fun _ => rfl)
    (fun (pre : List (ByteArray × Int)) W => (∃ after av, Boxed W (w.heap.size + 1 + 1 + 1 + 1 + 1 + 1) 61 av ∧ W.ownsRow BR 60 2 av after.length (rowsC after) ∧ TS W B T bm after ∧ Rem l after pre.length ∧ (∀ g, av.ownBlock = some g → ¬ footW T W g ∧ g < W.heap.size ∧ (((Value.slice pl l.length cl).ownBlock = some g ∧ g < w.heap.size) ∨ W0.heap.size ≤ g))) ∧ Boxed W (w.heap.size + 1 + 1 + 1 + 1 + 1) 3 (.int .i64 pre.length) ∧ Chg W0 W T (w.heap.size + 1 + 1 + 1 + 1 + 1) (w.heap.size + 1 + 1 + 1 + 1 + 1 + 1))
    (fun (_ : Code) (pre : List (ByteArray × Int)) (_ : World) => ¬ (pre <+: entT l))
    ?hI
    (by intro c s A B row hs _ _; exact hs)
    ?h0
    (fun x a' W => a' = { tmps := ((((?T0 : Array Value).setIfInBounds 26 (.string x.1)).setIfInBounds 27 (.int .i64 x.2)).setIfInBounds 11 (.string x.1)).setIfInBounds 12 (.int .i64 x.2), defers := [] })
    ?hAx ?assign ?body ?done ?stop
  case hI =>
    rintro pre X Y row ⟨⟨after, av, h9, hrow, hts, hrem, hav⟩, h8, hch⟩ hg hrw
    refine ⟨⟨after, av, ?_, rowsT_own hrow hg hrw, hts.grown hg hrw (by omega) (by omega), hrem, fun g hgo => ?_⟩, ?_, Chg.own (β := Unit) (Nat.le_refl _) (by omega) () X Y row hch hg hrw⟩
    · exact boxed_own (β := Unit) _ _ (fun _ => av) () X Y row h9 hg (fun r e => (hrw r e).2)
    · obtain ⟨a1, a2, a3⟩ := hav g hgo
      exact ⟨fun hf => a1 ((grown_foot hg hrw (by omega) hts.lt g).1 hf), Nat.lt_of_lt_of_le a2 hg.size, a3⟩
    · exact boxed_own (β := Unit) _ _ (fun _ => Value.int .i64 pre.length) () X Y row h8 hg (fun r e => (hrw r e).2)
  case h0 => exact ⟨⟨l, _, bN6, KR.out, hTSw, Rem.start l, fun g hgo => ⟨fun hf => HDIS.out g hgo (HF0.out g hf).2, by have := (HR.out.lt g hgo).2; omega, .inl ⟨hgo, (HR.out.lt g hgo).2⟩⟩⟩, bN5, Chg.refl _ _ _ _⟩
  case hAx =>
    rintro x a' _ X Y row h _ _
    exact h
  case assign =>
    rintro l' pre x W K hI hK2
    dsimp only [tenc]
    gi_wp2
    exact hK2 _ _ (KeepsFrom.refl _ _) (KeepT.of_below (Below.refl _ _) (by obtain ⟨⟨after, av, _, _, hts, _⟩, _⟩ := hI; exact hts.lt)) hI rfl
  case body =>
    rintro ln pre x a' W hl hrl ⟨⟨after, av, h9, hrow, hts, hrem, hav⟩, h8, hch⟩ rfl hplen
    obtain ⟨xk, xv⟩ := x
    obtain ⟨⟨rk, rv⟩, hrv⟩ : ∃ r, l[pre.length]? = some r := ⟨_, List.getElem?_eq_getElem hplen⟩
    obtain ⟨pa, ca, rfl⟩ := row_slice hrow
    have hnp := Lib.hid (show ¬ (xk.toList = (nmB rk).toList ∧ xv = rv) → ¬ (pre ++ [(xk, xv)] <+: entT l) from ent_at (x := (xk, xv)) hrv)
    have hpl : (pre ++ [(xk, xv)]).length = pre.length + 1 := by simp
    generalize pre ++ [(xk, xv)] = pre' at *
    generalize hn : pre.length = n at *
    clear hn
    have hrow0 := HR.out
    obtain ⟨p', c', e1, hcs⟩ := rows_cells2 hrow0
    cases e1
    obtain ⟨g, rfl, hg, _⟩ := hcs _ _ hrv
    clear hcs hrow0
    have HRV := Lib.hid hrv
    have HCELL := Lib.hid (show ∀ (W' : World) (m : Int) (v9 : Value), Chg W0 W' T (w.heap.size + 1 + 1 + 1 + 1 + 1) (w.heap.size + 1 + 1 + 1 + 1 + 1 + 1) → Boxed W' (w.heap.size + 1 + 1 + 1 + 1 + 1) 3 (.int .i64 m) → Boxed W' (w.heap.size + 1 + 1 + 1 + 1 + 1 + 1) 61 v9 →
        W'.cell? ⟨w.heap.size, 0, none⟩ = some (.pointer (some ⟨T, 0, none⟩)) ∧ W'.cell? ⟨w.heap.size + 1, 0, none⟩ = some (.slice (some ⟨g, 0, none⟩) l.length cl) ∧ W'.cell? ⟨w.heap.size + 1 + 1, 1, none⟩ = some (.int .i64 K) ∧ W'.cell? ⟨w.heap.size + 1 + 1, 2, none⟩ = some (.int .i64 V) ∧
        W'.cell? ⟨w.heap.size + 1 + 1 + 1, 0, none⟩ = some (.slice none 0 0) ∧ W'.frozen? ⟨w.heap.size + 1 + 1 + 1, 0, none⟩ = false ∧ W'.cell? ⟨w.heap.size + 1 + 1 + 1 + 1, 0, none⟩ = some (.bool false) ∧ W'.frozen? ⟨w.heap.size + 1 + 1 + 1 + 1, 0, none⟩ = false ∧
        W'.cell? ⟨w.heap.size + 1 + 1 + 1 + 1 + 1, 0, none⟩ = some (.int .i64 m) ∧ W'.frozen? ⟨w.heap.size + 1 + 1 + 1 + 1 + 1, 0, none⟩ = false ∧ W'.cell? ⟨w.heap.size + 1 + 1 + 1 + 1 + 1 + 1, 0, none⟩ = some v9 ∧ W'.frozen? ⟨w.heap.size + 1 + 1 + 1 + 1 + 1 + 1, 0, none⟩ = false ∧
        W'.cell? ⟨g, n * 2, none⟩ = some (.int .i64 rk) ∧ W'.cell? ⟨g, n * 2 + 1, none⟩ = some (.int .i64 rv) ∧ w.heap.size + 1 + 1 + 1 + 1 + 1 + 1 + 1 + 1 ≤ W'.heap.size from fun W' m v9 hc h8 h9 => by
      obtain ⟨_, r0, r1, r2, r3, r4, rR⟩ := HBOX.out W' hc
      rw [K0.out] at r0
      rw [K1.out] at r1
      rw [K2.out] at r2
      rw [K3.out] at r3
      rw [K4.out] at r4
      obtain ⟨p', c', e1, hcs⟩ := rows_cells2 rR
      obtain ⟨g', e2, _, q0, q1⟩ := hcs _ _ HRV.out
      cases e1
      cases e2
      have := hc.moved.size
      have := HS0.out
      refine ⟨by simp [World.cell?, r0], by simp [World.cell?, r1], by simp [World.cell?, r2], by simp [World.cell?, r2], by simp [World.cell?, r3], by simp [World.frozen?, r3], by simp [World.cell?, r4], by simp [World.frozen?, r4], h8.cell, h8.frozen, h9.cell, h9.frozen, q0, q1, by omega⟩)
    have hrk := Lib.hid (HTS.out.ok _ (List.mem_of_getElem? hrv)).1
    have HNAME := Lib.hid (show ∀ (W1 W' : World) (k : Int), inI k → Chg W0 W1 T (w.heap.size + 1 + 1 + 1 + 1 + 1) (w.heap.size + 1 + 1 + 1 + 1 + 1 + 1) → Below W1.heap.size W1 W' → Calls Tryd.prog 62 #[.int .i64 k] W' (RetB (.string (nmB k)) W') from fun W1 W' k hk hc hb => name_row k hk W' (HTB.out W' ((HBOX.out W1 hc).1.trans (hb.mono (by have := hc.moved.size; have := HS0.out; have := HBB.out; omega)))))
    obtain ⟨c3, c4, c5, c5', c6, f6, c7, f7, c8, f8, c9, f9, q0, q1, hsz⟩ := HCELL.out W n _ hch h8 h9
    have lg : g < W.heap.size := by omega
    have H8 := Lib.hid h8
    have H9 := Lib.hid h9
    have HCH := Lib.hid hch
    have HROW := Lib.hid hrow
    have HTSA := Lib.hid hts
    have HREM := Lib.hid hrem
    have HAV := Lib.hid hav
    have hge : decide ((l.length : Int) ≤ (n : Int)) = false := decide_eq_false (by omega)
    have hge2 : decide (l.length ≤ n) = false := decide_eq_false (by omega)
    have hmx : Tryd.prog.follows .mixedOrders = true := by kernel_rfl
    clear h8 h9 hch hrow hts hrem hav hrv
    simp only [List.setIfInBounds_toArray, List.set_cons_succ, List.set_cons_zero]
    have NM1 := Lib.hid (HNAME.out W W rk hrk.out HCH.out (Below.refl _ _))
    by_cases hx : xk.toList = (nmB rk).toList ∧ xv = rv
    · obtain ⟨hx1, rfl⟩ := hx
      obtain rfl := txt_ext hx1
      have dz := beq_txt (nmB rk).toList
      clear hx1 hnp
      gi_wp2_with (refine ⟨trivial, ?_⟩; gi_at_call 62; refine (CallsIn.inRound ln (callsIn_wide.2 NM1.out)).mono ?_; rintro e w1 ⟨rfl, hb1⟩; have HB1 := Lib.hid hb1; obtain ⟨c3', c4', c5a, c5b, _, _, _, _, c8', _, _, _, q0', q1', hsz'⟩ := HCELL.out w1 n _ (HCH.out.step (TStep.of_below hb1 HTSA.out.lt)) (HKEEP.out W w1 HCH.out (TStep.of_below hb1 HTSA.out.lt) _ _ _ (by omega) (by have := HS0.out; omega) H8.out) (HKEEP.out W w1 HCH.out (TStep.of_below hb1 HTSA.out.lt) _ _ _ (by omega) (by have := HS0.out; omega) H9.out); clear hb1)
      have HCH1 := Lib.hid (HCH.out.step (TStep.of_below HB1.out HTSA.out.lt))
      have HS1 := Lib.hid (TStep.of_below HB1.out HTSA.out.lt)
      have kc := cell_cls w1
      have lb : w.heap.size < w1.heap.size ∧ w.heap.size + 1 < w1.heap.size ∧ w.heap.size + 1 + 1 < w1.heap.size ∧ w.heap.size + 1 + 1 + 1 + 1 + 1 < w1.heap.size := ⟨by omega, by omega, by omega, by omega⟩
      obtain ⟨lb0, lb1, lb2, lb8⟩ := lb
      refine wpR_region_plan_below 8 [(0, [0, 1, 2, 3, 4, 6, 7]), (1, [5]), (2, [8, 9])] hmx (by kernel_rfl) (by kernel_rfl) (fun _ _ h => h) (fun _ _ _ _ h => h) ?_
      simp only [wpSegs, pickOps, List.getElem?_toArray, List.getElem?_cons_zero, List.getElem?_cons_succ]
      iterate 7 (go_big_quiet_step (fail))
      refine wpQuiet_nil ?_
      clear kc
      refine wpListC_want (by rfl) (fun KK hK => ?_)
      go_step
      refine (HNAME.out w1 _ (wrap64 (K + n)) (inI_wrap _) HCH1.out (Below.drew (Below.refl _ _))).mono ?_
      rintro e w2 ⟨rfl, hb2⟩
      have hbw2 := (Below.drew (Below.refl w1.heap.size w1)).trans hb2
      refine hK _ _ (cls_of_below hbw2) ?_
      clear hK KK
      refine wpListC_nil ?_
      have hlt1 : T < w1.heap.size := Nat.lt_of_lt_of_le HTSA.out.lt HB1.out.size
      have S2 := Lib.hid (HS1.out.trans (TStep.of_below hbw2 hlt1))
      have T2 := Lib.hid ((HTSA.out.on HB1.out).on hbw2)
      have L2 : B ≤ w2.heap.size := by have := HBB.out; have := hbw2.size; omega
      clear hb2 hbw2 c3' c4' c5a c5b c8' q0' q1' lb0 lb1 lb2 lb8 c3 c4 c5 c5' c6 f6 c7 f7 c8 f8 c9 f9 q0 q1
      generalize hkk : wrap64 (K + n) = kk at *
      have HKK : inI kk := by rw [← hkk]; exact inI_wrap _
      have hroom : after.length + 1 < 8796093022208 := by have := HREM.out.len; omega
      refine wpList_plain rfl (fun KK hK => ?_)
      go_step
      refine (Put_row T2.out kk V HKK HV.out hroom L2).mono ?_
      rintro e w3 ⟨rfl, ht3, hst3⟩
      have T3 := Lib.hid ht3
      have S3 := Lib.hid (S2.out.trans hst3)
      clear ht3 hst3
      refine hK _ _ ?_
      clear hK KK
      refine wpList_plain rfl (fun KK hK => ?_)
      go_step
      refine hK _ _ ?_
      clear hK KK
      refine wpList_nil ?_
      have hfew : after.length < 8796093022207 := by have := HREM.out.len; omega
      have hfew2 : (putR after kk V).length < 8796093022207 := by have := HREM.out.len; have := putR_len after kk V; omega
      have hr3 := row_step HROW.out (fun g hg => (HAV.out g hg).1) S3.out
      have R3 := Lib.hid hr3.1
      have CH3 := Lib.hid (HCH.out.step S3.out)
      obtain ⟨c3, c4, c5, c5', c6, f6, c7, f7, c8, f8, c9, f9, q0, q1, hsz3⟩ := HCELL.out w3 n _ CH3.out (HKEEP.out W w3 HCH.out S3.out _ _ _ (by omega) (by have := HS0.out; omega) H8.out) (HKEEP.out W w3 HCH.out S3.out _ _ _ (by omega) (by have := HS0.out; omega) H9.out)
      clear hr3
      gi_wp2_with (refine ⟨trivial, ?_⟩; first
        | (gi_at_call 63; refine (CallsIn.inRound ln (callsIn_wide.2 (rPut2_any R3.out hfew kk V))).mono ?_; rintro e w4 ⟨v4, rfl, hr4, hb4⟩; obtain ⟨p4, c4v, rfl⟩ := row_slice hr4; have R4 := Lib.hid hr4; have HB4 := Lib.hid hb4; have S4 := Lib.hid (S3.out.trans (TStep.of_below hb4 T3.out.lt)); have T4 := Lib.hid (T3.out.on hb4); obtain ⟨d3, _⟩ := HCELL.out w4 n _ (HCH.out.step S4.out) (HKEEP.out W w4 HCH.out S4.out _ _ _ (by omega) (by have := HS0.out; omega) H8.out) (HKEEP.out W w4 HCH.out S4.out _ _ _ (by omega) (by have := HS0.out; omega) H9.out); clear hr4 hb4)
        | (gi_at_call 66; refine (CallsIn.inRound ln (callsIn_wide.2 (Drop_row T4.out rk hrk.out))).mono ?_; rintro e w5 ⟨rfl, ht5, hst5⟩; have T5 := Lib.hid ht5; have S45 := Lib.hid hst5; have S5 := Lib.hid (S4.out.trans hst5); obtain ⟨_, e4, _, _, _, _, _, _, e8, _, _, _, eq0, eq1, esz⟩ := HCELL.out w5 n _ (HCH.out.step S5.out) (HKEEP.out W w5 HCH.out S5.out _ _ _ (by omega) (by have := HS0.out; omega) H8.out) (HKEEP.out W w5 HCH.out S5.out _ _ _ (by omega) (by have := HS0.out; omega) H9.out); have hr5 := row_step R4.out (fun g hg hf => (by have := T3.out.foot_lt (foot_below HB4.out T3.out.lt hf); have := (R4.out.lt g hg).1; omega)) hst5; have R5 := Lib.hid hr5.1; clear ht5 hst5 hr5)
        | (gi_at_call 67; refine (CallsIn.inRound ln (callsIn_wide.2 (rDrop_any R5.out hfew2 rk))).mono ?_; rintro e w6 ⟨v6, rfl, hr6, hb6⟩; obtain ⟨p6, c6v, rfl⟩ := row_slice hr6; have R6 := Lib.hid hr6; have HB6 := Lib.hid hb6; have S6 := Lib.hid (S5.out.trans (TStep.of_below hb6 T5.out.lt)); have T6 := Lib.hid (T5.out.on hb6); obtain ⟨_, _, _, _, _, _, _, _, g8, gf8, g9, gf9, _, _, gsz⟩ := HCELL.out w6 n _ (HCH.out.step S6.out) (HKEEP.out W w6 HCH.out S6.out _ _ _ (by omega) (by have := HS0.out; omega) H8.out) (HKEEP.out W w6 HCH.out S6.out _ _ _ (by omega) (by have := HS0.out; omega) H9.out); clear hr6 hb6))
      have hnf : ∀ b, w.heap.size ≤ b → b < W0.heap.size → ¬ footW T w6 b := fun b h1 h2 hf => by
        rcases (HCH.out.step S6.out).foot b hf with q | q
        · have := (HF0.out b q).1; omega
        · omega
      have hn8 := hnf (w.heap.size + 1 + 1 + 1 + 1 + 1) (by omega) (by have := HS0.out; omega)
      have hn9 := hnf (w.heap.size + 1 + 1 + 1 + 1 + 1 + 1) (by omega) (by have := HS0.out; omega)
      have b8 := HKEEP.out W w6 HCH.out S6.out _ _ _ (by omega) (by have := HS0.out; omega) H8.out
      have b9 := HKEEP.out W w6 HCH.out S6.out _ _ _ (by omega) (by have := HS0.out; omega) H9.out
      have hT8 : T ≠ w.heap.size + 1 + 1 + 1 + 1 + 1 := by omega
      have hT9 : T ≠ w.heap.size + 1 + 1 + 1 + 1 + 1 + 1 := by omega
      have hs5 : W0.heap.size ≤ w5.heap.size := Nat.le_trans HCH.out.moved.size S5.out.1.size
      refine ⟨((keepsFrom_step HTSA.out (by omega) (by omega) S6.out).trans ((KeepsOthers.setCell _ _ _).from _)).trans ((KeepsOthers.setCell _ _ _).from _), ((KeepT.step S6.out).trans (KeepT.set _ _ _ (.inr rfl) hT9)).trans (KeepT.set _ _ _ (.inl rfl) hT8), ⟨dropR (putR after kk V) rk, _, (b9.set _).other (by omega) _, ?_, (T6.out.set hn9 _).set (fun hf => hn8 ((foot_set hT9 _).1 hf)) _, ?_, fun q hq => ?_⟩, ?_, ((HCH.out.step S6.out).set (.inr rfl) hT9 _).set (.inl rfl) hT8 _⟩
      · have hrr := row_base R6.out (show BR ≤ w5.heap.size by have := HBR.out; omega)
        refine (hrr.kept (grown_setCell _ _ _) (.inr (fun e => ?_))).kept (grown_setCell _ _ _) (.inr (fun e => ?_))
        · have h1 : w.heap.size + 1 + 1 + 1 + 1 + 1 + 1 = _ := rfl
          have := (R6.out.lt _ e).1
          simp only at this
          have := HS0.out
          omega
        · have := (R6.out.lt _ e).1
          simp only at this
          have := HS0.out
          omega
      · rw [hpl]
        exact HREM.out.step HTS.out.nd HRV.out kk V
      · have h1 := R6.out.lt q hq
        refine ⟨fun hf => ?_, ?_, .inr (Nat.le_trans hs5 h1.1)⟩
        · have hf2 := foot_below HB6.out T5.out.lt ((foot_set hT9 q).1 ((foot_set hT8 q).1 hf))
          have := T5.out.foot_lt hf2
          omega
        · simpa [World.setCell] using h1.2
      · rw [hpl]
        have := (b8.other (show w.heap.size + 1 + 1 + 1 + 1 + 1 ≠ w.heap.size + 1 + 1 + 1 + 1 + 1 + 1 by omega) (.slice p6 (dropR (putR after kk V) rk).length c6v)).set (.int .i64 ((n : Int) + 1))
        simpa using this
    · have HNP := Lib.hid (hnp.out hx)
      clear hnp
      have HX : Hid (∀ w1 (u v : Value), Below W.heap.size W w1 → KeepsFrom W0.heap.size W ((w1.setCell ⟨w.heap.size + 1 + 1 + 1, 0, none⟩ u).setCell ⟨w.heap.size + 1 + 1 + 1 + 1, 0, none⟩ v)) := Lib.hid (fun w1 u v hbw => ((show KeepsFrom W0.heap.size W w1 from ⟨hbw.size, fun k o _ hk _ => (hbw.block k (Array.getElem?_eq_some_iff.1 hk).1).trans hk⟩).trans ((KeepsOthers.setCell _ _ _).from _)).trans ((KeepsOthers.setCell _ _ _).from _))
      by_cases hk : xk.toList = (nmB rk).toList
      · have hv : ¬ xv = rv := fun e => hx ⟨hk, e⟩
        obtain rfl := txt_ext hk
        have dz := beq_txt (nmB rk).toList
        clear hk hx
        gi_wp2_with (refine ⟨trivial, ?_⟩; gi_at_call 62; refine (CallsIn.inRound ln (callsIn_wide.2 NM1.out)).mono ?_; rintro e w1 ⟨rfl, hb1⟩; have HB1 := Lib.hid hb1; obtain ⟨c3', c4', c5a, c5b, c6', f6', c7', f7', c8', _, c9', _, q0', q1', hsz'⟩ := HCELL.out w1 n _ (HCH.out.step (TStep.of_below hb1 HTSA.out.lt)) (HKEEP.out W w1 HCH.out (TStep.of_below hb1 HTSA.out.lt) _ _ _ (by omega) (by have := HS0.out; omega) H8.out) (HKEEP.out W w1 HCH.out (TStep.of_below hb1 HTSA.out.lt) _ _ _ (by omega) (by have := HS0.out; omega) H9.out); clear hb1)
        exact ⟨HX.out _ _ _ HB1.out, HNP.out⟩
      · have dz : (xk.toList == (nmB rk).toList) = false := by simpa using hk
        clear hk hx
        gi_wp2_with (refine ⟨trivial, ?_⟩; gi_at_call 62; refine (CallsIn.inRound ln (callsIn_wide.2 NM1.out)).mono ?_; rintro e w1 ⟨rfl, hb1⟩; have HB1 := Lib.hid hb1; obtain ⟨c3', c4', c5a, c5b, c6', f6', c7', f7', c8', _, c9', _, q0', q1', hsz'⟩ := HCELL.out w1 n _ (HCH.out.step (TStep.of_below hb1 HTSA.out.lt)) (HKEEP.out W w1 HCH.out (TStep.of_below hb1 HTSA.out.lt) _ _ _ (by omega) (by have := HS0.out; omega) H8.out) (HKEEP.out W w1 HCH.out (TStep.of_below hb1 HTSA.out.lt) _ _ _ (by omega) (by have := HS0.out; omega) H9.out); clear hb1)
        exact ⟨HX.out _ _ _ HB1.out, HNP.out⟩
  case stop =>
    rintro D c pre W _ hp h _
    exact absurd hp h
  case done =>
    rintro Dd xs W hD hS ⟨⟨after, av, h9, hrow, hts, hrem, hav⟩, h8, hch⟩ hKd
    obtain ⟨pa, ca, rfl⟩ := row_slice hrow
    have hxl : xs.length = l.length := by rw [hS]; simp [entT]
    rw [hxl] at h8 hrem
    obtain ⟨hbB, r0, r1, r2, r3, r4, rR⟩ := HBOX.out W hch
    rw [K1.out] at r1
    rw [K3.out] at r3
    rw [K4.out] at r4
    have c4 : W.drew.cell? ⟨w.heap.size + 1, 0, none⟩ = some (.slice pl l.length cl) := by show W.cell? _ = _; simp [World.cell?, r1]
    have c8 : W.drew.cell? ⟨w.heap.size + 1 + 1 + 1 + 1 + 1, 0, none⟩ = some (.int .i64 l.length) := h8.cell
    have c9 : W.drew.cell? ⟨w.heap.size + 1 + 1 + 1 + 1 + 1 + 1, 0, none⟩ = some (.slice pa after.length ca) := h9.cell
    have c6 : W.drew.cell? ⟨w.heap.size + 1 + 1 + 1, 0, none⟩ = some (.slice none 0 0) := by show W.cell? _ = _; simp [World.cell?, r3]
    have f6 : W.drew.frozen? ⟨w.heap.size + 1 + 1 + 1, 0, none⟩ = false := by show W.frozen? _ = _; simp [World.frozen?, r3]
    have hb6 : Boxed W (w.heap.size + 1 + 1 + 1) 61 (.slice none 0 0) := r3
    have hb7 : Boxed W (w.heap.size + 1 + 1 + 1 + 1) 4 (.bool false) := r4
    have H6 := Lib.hid hb6
    have H7 := Lib.hid hb7
    have HROW := Lib.hid hrow
    have HTSA := Lib.hid hts
    have HREM := Lib.hid hrem
    have HAV := Lib.hid hav
    have HCH := Lib.hid hch
    have HKD := Lib.hid hKd
    have hmx : Tryd.prog.follows .mixedOrders = true := by kernel_rfl
    clear h8 h9 r0 r1 r2 r3 r4 rR hb6 hb7 hrow hts hrem hav hch hKd hbB
    gi_wp2
    refine wpIn_noexit ?_
    refine wpIn_wide.2 ?_
    refine wp_region_plan 6 [(0, [0, 1, 2, 3, 4]), (1, [5]), (2, [6])] (RdCls (w.heap.size + 1) (w.heap.size + 1 + 1 + 1 + 1 + 1) (w.heap.size + 1 + 1 + 1 + 1 + 1 + 1) (.slice pl l.length cl) (.int .i64 l.length) (.slice pa after.length ca)) hmx (by kernel_rfl) (rd_of c4 c8 c9) (fun _ _ _ _ h => h) ?_
    simp only [wpSegs, pickOps, List.getElem?_toArray, List.getElem?_cons_zero, List.getElem?_cons_succ]
    have kca := fun z : RdW (w.heap.size + 1) (w.heap.size + 1 + 1 + 1 + 1 + 1) (w.heap.size + 1 + 1 + 1 + 1 + 1 + 1) (.slice pl l.length cl) (.int .i64 l.length) (.slice pa after.length ca) => z.ha
    have kcb := fun z : RdW (w.heap.size + 1) (w.heap.size + 1 + 1 + 1 + 1 + 1) (w.heap.size + 1 + 1 + 1 + 1 + 1 + 1) (.slice pl l.length cl) (.int .i64 l.length) (.slice pa after.length ca) => z.hb
    have kcc := fun z : RdW (w.heap.size + 1) (w.heap.size + 1 + 1 + 1 + 1 + 1) (w.heap.size + 1 + 1 + 1 + 1 + 1 + 1) (.slice pl l.length cl) (.int .i64 l.length) (.slice pa after.length ca) => z.hc
    have hne : Nonempty (RdW (w.heap.size + 1) (w.heap.size + 1 + 1 + 1 + 1 + 1) (w.heap.size + 1 + 1 + 1 + 1 + 1 + 1) (.slice pl l.length cl) (.int .i64 l.length) (.slice pa after.length ca)) := ⟨⟨_, c4, c8, c9⟩⟩
    iterate 5 (go_big_quiet_step (fail))
    refine wpQuiet_nil ?_
    clear kca kcb kcc hne
    refine wpListC_plain rfl (fun KK hK => ?_)
    go_step
    have off : ∀ (b : Nat) (v : Value), b ≠ w.heap.size + 1 + 1 + 1 → W.drew.cell? ⟨b, 0, none⟩ = some v → (W.setCell ⟨w.heap.size + 1 + 1 + 1, 0, none⟩ (.slice pa after.length ca)).drew.cell? ⟨b, 0, none⟩ = some v := fun b v hb hc => (World.cell?_of_block (a := ⟨b, 0, none⟩) (Below.heap_setCell _ _ _ _ hb)).trans hc
    refine hK _ _ (rd_of (off _ _ (by omega) c4) (off _ _ (by omega) c8) (off _ _ (by omega) c9)) ?_
    clear hK KK off c4 c8 c9 c6 f6
    refine wpListC_nil ?_
    have x6 : Boxed (W.setCell ⟨w.heap.size + 1 + 1 + 1, 0, none⟩ (.slice pa after.length ca)).drew (w.heap.size + 1 + 1 + 1) 61 (.slice pa after.length ca) := Boxed.set (W := W.drew) _ H6.out
    have x7 : Boxed (W.setCell ⟨w.heap.size + 1 + 1 + 1, 0, none⟩ (.slice pa after.length ca)).drew (w.heap.size + 1 + 1 + 1 + 1) 4 (.bool false) := Boxed.other (W := W.drew) H7.out (by omega) _
    have hnf : ∀ b, w.heap.size ≤ b → b < W0.heap.size → ¬ footW T W b := fun b h1 h2 hf => by
      rcases HCH.out.foot b hf with q | q
      · have := (HF0.out b q).1; omega
      · omega
    have hT6 : T ≠ w.heap.size + 1 + 1 + 1 := by omega
    have hT7 : T ≠ w.heap.size + 1 + 1 + 1 + 1 := by omega
    have t1 : TS (W.setCell ⟨w.heap.size + 1 + 1 + 1, 0, none⟩ (.slice pa after.length ca)).drew B T bm after := (HTSA.out.on (Below.drew (Below.refl _ W))).set (g := w.heap.size + 1 + 1 + 1) (hnf _ (by omega) (by have := HS0.out; omega)) (.slice pa after.length ca)
    have fW1 : ∀ g, footW T (W.setCell ⟨w.heap.size + 1 + 1 + 1, 0, none⟩ (.slice pa after.length ca)).drew g → footW T W g := fun g hf => (foot_set (W := W.drew) hT6 g).1 hf
    have rW1 : (W.setCell ⟨w.heap.size + 1 + 1 + 1, 0, none⟩ (.slice pa after.length ca)).drew.ownsRow BR 60 2 (.slice pa after.length ca) after.length (rowsC after) := by
      have h1 : W.drew.ownsRow BR 60 2 (.slice pa after.length ca) after.length (rowsC after) := HROW.out
      exact h1.kept (grown_setCell _ _ _) (.inr (fun e => by have := (HAV.out (w.heap.size + 1 + 1 + 1) e).2.2; have := HS0.out; omega))
    have hD1 : (W.setCell ⟨w.heap.size + 1 + 1 + 1, 0, none⟩ (.slice pa after.length ca)).drew.heap[Dd]? = some (.deferred (some [])) := (Below.heap_setCell _ _ _ _ (by show Dd ≠ w.heap.size + 1 + 1 + 1; have := HS0.out; omega)).trans HKD.out
    have mW1 : Chg W0 (W.setCell ⟨w.heap.size + 1 + 1 + 1, 0, none⟩ (.slice pa after.length ca)).drew T (w.heap.size + 1 + 1 + 1 + 1 + 1) (w.heap.size + 1 + 1 + 1 + 1 + 1 + 1) ∨ True := .inr trivial
    have kW1 : ∀ k, k < w.heap.size → (W.setCell ⟨w.heap.size + 1 + 1 + 1, 0, none⟩ (.slice pa after.length ca)).drew.heap[k]? = W.heap[k]? := fun k hk => (Below.heap_setCell _ _ _ _ (by show k ≠ w.heap.size + 1 + 1 + 1; omega)).trans rfl
    have sW1 : (W.setCell ⟨w.heap.size + 1 + 1 + 1, 0, none⟩ (.slice pa after.length ca)).drew.heap.size = W.heap.size := by simp [World.setCell]
    have oW1 : (W.setCell ⟨w.heap.size + 1 + 1 + 1, 0, none⟩ (.slice pa after.length ca)).drew.os = W.os ∧ (W.setCell ⟨w.heap.size + 1 + 1 + 1, 0, none⟩ (.slice pa after.length ca)).drew.tape = W.tape ∧ (W.setCell ⟨w.heap.size + 1 + 1 + 1, 0, none⟩ (.slice pa after.length ca)).drew.output = W.output := ⟨rfl, rfl, rfl⟩
    clear mW1
    generalize (W.setCell ⟨w.heap.size + 1 + 1 + 1, 0, none⟩ (.slice pa after.length ca)).drew = W1 at *
    have c7 := x7.cell
    have f7 := x7.frozen
    have X6 := Lib.hid x6
    have X7 := Lib.hid x7
    have T1 := Lib.hid t1
    have FW1 := Lib.hid fW1
    have RW1 := Lib.hid rW1
    have HD1 := Lib.hid hD1
    have KW1 := Lib.hid kW1
    have SW1 := Lib.hid sW1
    have OW1 := Lib.hid oW1
    have HNF := Lib.hid hnf
    clear x6 x7 t1 fW1 rW1 hD1 kW1 sW1 oW1 hnf
    go_wp2_with fail
    gi_wp2
    have y6 := X6.out.other (B' := w.heap.size + 1 + 1 + 1 + 1) (by omega) (.bool true)
    have y7 := X7.out.set (.bool true)
    have hD2 : (W1.setCell ⟨w.heap.size + 1 + 1 + 1 + 1, 0, none⟩ (.bool true)).heap[Dd]? = some (.deferred (some [])) := (Below.heap_setCell _ _ _ _ (by show Dd ≠ w.heap.size + 1 + 1 + 1 + 1; have := HS0.out; omega)).trans HD1.out
    have hg := grownBy_putObj' (W1.setCell ⟨w.heap.size + 1 + 1 + 1 + 1, 0, none⟩ (.bool true)) Dd (.deferred none)
    have hrw : ∀ r, some Dd = some r → W0.heap.size ≤ r ∧ ∃ o : Obj, (W1.setCell ⟨w.heap.size + 1 + 1 + 1 + 1, 0, none⟩ (.bool true)).heap[r]? = some o ∧ o.isCells = false := fun r e => by cases e; exact ⟨hD, _, hD2, rfl⟩
    have z6 := (boxed_own (β := Unit) _ _ (fun _ => Value.slice pa after.length ca) () _ _ _ y6 hg (fun r e => (hrw r e).2)).cell
    have z7 := (boxed_own (β := Unit) _ _ (fun _ => Value.bool true) () _ _ _ y7 hg (fun r e => (hrw r e).2)).cell
    have t2 := (T1.out.set (g := w.heap.size + 1 + 1 + 1 + 1) (fun hf => HNF.out _ (by omega) (by have := HS0.out; omega) (FW1.out _ hf)) (.bool true)).grown hg hrw (by omega) (by omega)
    have r2 := rowsT_own (RW1.out.kept (grown_setCell _ ⟨w.heap.size + 1 + 1 + 1 + 1, 0, none⟩ (.bool true)) (.inr (fun e => by have := (HAV.out (w.heap.size + 1 + 1 + 1 + 1) e).2.2; have := HS0.out; omega))) hg hrw
    have f2 : ∀ g, footW T ((W1.setCell ⟨w.heap.size + 1 + 1 + 1 + 1, 0, none⟩ (.bool true)).putObj Dd (.deferred none)) g → footW T W g := fun g hf => FW1.out g ((foot_set hT7 g).1 ((grown_foot hg hrw (by omega) (by have := T1.out.lt; simpa [World.setCell] using this) g).1 hf))
    have s2 : ((W1.setCell ⟨w.heap.size + 1 + 1 + 1 + 1, 0, none⟩ (.bool true)).putObj Dd (.deferred none)).heap.size = W.heap.size := by rw [← SW1.out]; simp [World.setCell, World.putObj]
    refine ⟨by simp, .inl ⟨_, _, rfl, run_takeDeferred hD2, ?_⟩⟩
    refine ⟨.tuple #[.slice pa after.length ca, .bool true], ?_, .slice pa after.length ca, after, rfl, t2, r2, HREM.out.len, ⟨⟨?_, ?_, ?_, ?_, fun k hk hnk => ?_⟩, fun q hq => ?_⟩, fun q hq => ⟨fun hf => (HAV.out q hq).1 (f2 q hf), by rw [s2]; exact (HAV.out q hq).2.1, by rcases (HAV.out q hq).2.2 with ⟨h, _⟩ | h; exact .inl h; exact .inr (by have := HB0.out.size; omega)⟩⟩
    · simp [results, Tryd.results69, go_sem, z6, z7]
    · exact (hg.os.trans OW1.out.1).trans (HCH.out.moved.os.trans HB0.out.os)
    · exact (hg.tape.trans OW1.out.2.1).trans (HCH.out.moved.tape.trans HB0.out.tape)
    · exact (hg.output.trans OW1.out.2.2).trans (HCH.out.moved.output.trans HB0.out.output)
    · rw [s2]; exact Nat.le_trans HB0.out.size HCH.out.moved.size
    · refine (hg.block k (by have := SW1.out; have := HB0.out.size; have := HCH.out.moved.size; simp [World.setCell]; omega) (fun e => by cases e; omega)).trans ((Below.heap_setCell _ _ _ _ (by show k ≠ w.heap.size + 1 + 1 + 1 + 1; omega)).trans ((KW1.out k hk).trans ((HCH.out.moved.block k (by omega) (fun hx => ?_)).trans (HB0.out.block k hk))))
      rcases hx with q | q | q
      · exact hnk (HF0.out k q).2
      · omega
      · omega
    · rcases HCH.out.foot q (f2 q hq) with h1 | h1
      · exact .inl (HF0.out q h1).2
      · exact .inr (by omega)
end Go.Proofs.YtnmnmkdmnohbmaaDoor
