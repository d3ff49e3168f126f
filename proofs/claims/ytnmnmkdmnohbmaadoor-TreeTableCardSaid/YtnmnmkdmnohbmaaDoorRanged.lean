/- Helper text: the walk over rangedOver of the statements: a range broken off, a range within it. Conditions: none. -/
import Derived.Test.YtnmnmkdmnohbmaaDoorRngLaw
import Derived.Test.YtnmnmkdmnohbmaaDoorHolds
import Derived.Test.YtnmnmkdmnohbmaaDoorRound
import Derived.Test.YtnmnmkdmnohbmaaDoorDrawIn
namespace Go.Proofs.YtnmnmkdmnohbmaaDoor
open Go Go.RowKit Go.Maps
theorem run_store_fun {P : Program} {w : World} {a : Addr} {m : Mode} (fn : Fn) (first captured : Array Value) : (store a (.func fn first captured) m).run P w = stored P w a (.func fn first captured) m := run_store P w a _ m rfl
attribute [local go_sem] run_store_float run_store_fun undef Oper.semAt_some

set_option maxRecDepth 100000 in
set_option maxHeartbeats 4000000 in
theorem ranged_any {w : World} {B T bm : Nat} {l : List (Int × Int)} (h : TS w B T bm l) {BR : Nat} {lv : Value} (hr : w.ownsRow BR 60 2 lv l.length (rowsC l)) (hdis : ∀ g, lv.ownBlock = some g → ¬ footW T w g) (L : Int) (few : l.length < 8796093022207) (hB : B ≤ w.heap.size)
    (htab : ∀ W, Below B w W → Lib.TabIs Tryd.prog W "internal/strconv.uint64pow10" .u64 Lib.pow10Tab) :
    Calls Tryd.prog 31 #[.pointer (some ⟨T, 0, none⟩), lv, .int .i64 L] w (RetB (.bool true) w) := by
  have HTB := Lib.hid htab
  obtain ⟨pl, cl, rfl⟩ := row_slice hr
  have HTS := Lib.hid h
  have HR := Lib.hid hr
  have HBB := Lib.hid hB
  clear h hr hdis hB htab
  have heqf : ∀ (f : Fn) (x y : Array Value) (w : World), (binOp BinOp.eql 116 (.func f x y) Value.nilFunc).run Tryd.prog w = .ok (.bool false) w := fun _ _ _ _ => by first | rfl | kernel_rfl | simp [binOp, go_sem]
  refine (callsIn_wide (n := 7)).1 ?_
  refine callsIn_of_wp_marks Tryd.func31 rfl trivial ?_ rfl
  simp only [Tryd.ntmps31, List.size_toArray, List.length_cons, List.length_nil, Nat.reduceAdd, Nat.reduceSub, Array.replicate_succ, Array.replicate_zero, List.push_toArray, List.append_toArray, List.nil_append, List.cons_append]
  gi_wp2_with (refine ⟨trivial, ?_⟩; gi_at_call 71; refine (callsIn_wide.2 (All_tab _ _)).mono ?_; rintro e w1 ⟨rfl, rfl⟩)
  obtain ⟨W0, eW, hbw0, hs0, k0, k1, k2, k3, k4, k5⟩ := six w (.cells #[.slice pl l.length cl] 61) (.cells #[.int .i64 L] 3) (.cells #[.bool false] 4) (.cells #[.int .i64 0] 3) (.cells #[.pointer (some ⟨T, 0, none⟩)] 55) (.cells #[.func (.func 105) #[] #[.pointer (some ⟨w.heap.size + 1 + 1 + 1 + 1, 0, none⟩)]] 116)
  rw [eW]
  clear eW heqf
  have hTSw := HTS.out.on hbw0
  have hTlt : T < w.heap.size ∧ bm < w.heap.size := ⟨HTS.out.lt, HTS.out.bm_lt.1⟩
  have HF0 := Lib.hid (show ∀ g, footW T W0 g → g < w.heap.size from fun g ⟨bm', kv', vv', q1, q2⟩ => by
    have hf : footW T w g := ⟨bm', kv', vv', (hbw0.block T hTlt.1).symm.trans q1, q2⟩
    exact (HTS.out.foot_lt hf).2)
  have HB0 := Lib.hid hbw0
  have HT0 := Lib.hid hTSw
  have K0 := Lib.hid k0
  have K1 := Lib.hid k1
  have K2 := Lib.hid k2
  have K4 := Lib.hid k4
  have K5 := Lib.hid k5
  have KR := Lib.hid (HR.out.kept (grown_of_below hbw0 none) (by cases (Value.slice pl l.length cl).ownBlock <;> simp))
  have HS0 := Lib.hid hs0
  have lt0 := hTlt.1
  have lt1 := hTlt.2
  have bN3 : Boxed W0 (w.heap.size + 1 + 1 + 1) 3 (.int .i64 0) := k3
  have hcv := block_of_cells k4
  have HCV := Lib.hid hcv
  have HBOX := Lib.hid (show ∀ W, Moved (fun g => g = w.heap.size + 1 + 1 + 1) W0 W → Below B w W ∧ TS W B T bm l ∧ W.heap[w.heap.size]? = W0.heap[w.heap.size]? ∧ W.heap[w.heap.size + 1]? = W0.heap[w.heap.size + 1]? ∧ W.heap[w.heap.size + 1 + 1]? = W0.heap[w.heap.size + 1 + 1]? ∧ W.heap[w.heap.size + 1 + 1 + 1 + 1]? = W0.heap[w.heap.size + 1 + 1 + 1 + 1]? ∧ W.heap[w.heap.size + 1 + 1 + 1 + 1 + 1]? = W0.heap[w.heap.size + 1 + 1 + 1 + 1 + 1]? ∧ W.ownsRow BR 60 2 (.slice pl l.length cl) l.length (rowsC l) from fun W hc => by
    have keep : ∀ k, k < W0.heap.size → k ≠ w.heap.size + 1 + 1 + 1 → W.heap[k]? = W0.heap[k]? := fun k h1 h2 => hc.block k h1 h2
    have hs := HS0.out
    have hbl : Below B W0 W := hc.below (by have := HBB.out; omega) (fun k hk => by have := HBB.out; omega)
    refine ⟨(HB0.out.mono HBB.out).trans hbl, HT0.out.moved hc (fun g hg e => by have := HF0.out g hg; omega), keep _ (by omega) (by omega), keep _ (by omega) (by omega), keep _ (by omega) (by omega), keep _ (by omega) (by omega), keep _ (by omega) (by omega), tabrow_at KR.out (fun g hg => hc.block g (KR.out.lt g hg).2 (fun hx => ?_))⟩
    have hlt := (HR.out.lt g hg).2
    omega)
  have HCELL := Lib.hid (show ∀ (W' : World) (m : Int), Moved (fun g => g = w.heap.size + 1 + 1 + 1) W0 W' → Boxed W' (w.heap.size + 1 + 1 + 1) 3 (.int .i64 m) →
      W'.cell? ⟨w.heap.size, 0, none⟩ = some (.slice pl l.length cl) ∧ W'.cell? ⟨w.heap.size + 1, 0, none⟩ = some (.int .i64 L) ∧ W'.cell? ⟨w.heap.size + 1 + 1, 0, none⟩ = some (.bool false) ∧ W'.frozen? ⟨w.heap.size + 1 + 1, 0, none⟩ = false ∧
      W'.cell? ⟨w.heap.size + 1 + 1 + 1, 0, none⟩ = some (.int .i64 m) ∧ W'.frozen? ⟨w.heap.size + 1 + 1 + 1, 0, none⟩ = false ∧ W'.cell? ⟨w.heap.size + 1 + 1 + 1 + 1 + 1, 0, none⟩ = some (.func (.func 105) #[] #[.pointer (some ⟨w.heap.size + 1 + 1 + 1 + 1, 0, none⟩)]) ∧
      w.heap.size + 1 + 1 + 1 + 1 + 1 + 1 ≤ W'.heap.size from fun W' m hc h7 => by
    obtain ⟨_, _, r0, r1, r2, _, r5, _⟩ := HBOX.out W' hc
    rw [K0.out] at r0
    rw [K1.out] at r1
    rw [K2.out] at r2
    rw [K5.out] at r5
    have := hc.size
    have := HS0.out
    refine ⟨by simp [World.cell?, r0], by simp [World.cell?, r1], by simp [World.cell?, r2], by simp [World.frozen?, r2], h7.cell, h7.frozen, by simp [World.cell?, r5], by omega⟩)
  have HFIN := Lib.hid (show ∀ W Dd, W0.heap.size ≤ Dd → Moved (fun g => g = w.heap.size + 1 + 1 + 1) W0 W → W.heap[Dd]? = some (.deferred (some [])) → (W.setCell ⟨w.heap.size + 1 + 1, 0, none⟩ (.bool true)).heap[Dd]? = some (.deferred (some [])) ∧ ((W.setCell ⟨w.heap.size + 1 + 1, 0, none⟩ (.bool true)).putObj Dd (.deferred none)).cell? ⟨w.heap.size + 1 + 1, 0, none⟩ = some (.bool true) ∧ Below w.heap.size w ((W.setCell ⟨w.heap.size + 1 + 1, 0, none⟩ (.bool true)).putObj Dd (.deferred none)) from fun W Dd hD hm hk => by
    have hs := HS0.out
    have hk1 : (W.setCell ⟨w.heap.size + 1 + 1, 0, none⟩ (.bool true)).heap[Dd]? = some (.deferred (some [])) := (Below.heap_setCell _ _ _ _ (by show Dd ≠ w.heap.size + 1 + 1; omega)).trans hk
    have b6 : Boxed W (w.heap.size + 1 + 1) 4 (.bool false) := ((HBOX.out W hm).2.2.2.2.1).trans K2.out
    have hg := grownBy_putObj' (W.setCell ⟨w.heap.size + 1 + 1, 0, none⟩ (.bool true)) Dd (.deferred none)
    have hb : Below w.heap.size w W := HB0.out.trans (hm.below (by omega) (fun k hk => by omega))
    have hb1 : Below w.heap.size w (W.setCell ⟨w.heap.size + 1 + 1, 0, none⟩ (.bool true)) := hb.setCell (p := ⟨w.heap.size + 1 + 1, 0, none⟩) (show w.heap.size ≤ w.heap.size + 1 + 1 by omega) _
    refine ⟨hk1, (boxed_own (β := Unit) _ _ (fun _ => Value.bool true) () _ _ _ (b6.set (.bool true)) hg (fun r e => by cases e; exact ⟨_, hk1, rfl⟩)).cell, ⟨hg.os.trans hb1.os, hg.tape.trans hb1.tape, hg.output.trans hb1.output, Nat.le_trans hb1.size hg.size, fun k hk => (hg.block k (Nat.lt_of_lt_of_le hk hb1.size) (fun e => by cases e; omega)).trans (hb1.block k hk)⟩⟩)
  show Code.wpIn _ _ _ _ _ { tmps := ?T0, defers := [] } _
  refine wpIn_rangeFunc_ownH rfl (by decide) (gf := 105) (lb := #[.pointer (some ⟨w.heap.size + 1 + 1 + 1 + 1, 0, none⟩)]) rfl trivial (enters_of Tryd.func105 (by kernel_rfl) rfl)
    (tab_stops 6 hTSw (w.heap.size + 1 + 1 + 1 + 1) (by omega) hcv (fun g => g = w.heap.size + 1 + 1 + 1) (fun g e => by omega)) KeepT.trans (fun W l' o o' hl h hc _ => KeepT.put W l' o o' h hc (by omega)) (Below.refl _ _) (fun _ => rfl)
    (fun (pre : List (ByteArray × Int)) W => Boxed W (w.heap.size + 1 + 1 + 1) 3 (.int .i64 pre.length) ∧ Moved (fun g => g = w.heap.size + 1 + 1 + 1) W0 W ∧ ¬ (1 ≤ L ∧ L ≤ pre.length))
    (fun (c : Code) (pre : List (ByteArray × Int)) (W : World) => ¬ (pre <+: entT l) ∨ (c = .exit 0 ∧ 1 ≤ L ∧ L = pre.length ∧ Boxed W (w.heap.size + 1 + 1 + 1) 3 (.int .i64 pre.length) ∧ Moved (fun g => g = w.heap.size + 1 + 1 + 1) W0 W))
    ?hI
    ?hIx
    ?h0
    (fun x a' W => a' = { tmps := ((((?T0 : Array Value).setIfInBounds 18 (.string x.1)).setIfInBounds 19 (.int .i64 x.2)).setIfInBounds 9 (.string x.1)).setIfInBounds 10 (.int .i64 x.2), defers := [] })
    ?hAx ?assign ?body ?done ?stop
  case hI =>
    rintro pre X Y row ⟨h7, hm, hlim⟩ hg hrw
    exact ⟨boxed_own (β := Unit) _ _ (fun _ => Value.int .i64 pre.length) () X Y row h7 hg (fun r e => (hrw r e).2), Moved.own (β := Unit) (Nat.le_refl _) () X Y row hm hg hrw, hlim⟩
  case hIx =>
    rintro c pre X Y row h hg hrw
    rcases h with h | ⟨hc, h1, hL, h7, hm⟩
    · exact .inl h
    · exact .inr ⟨hc, h1, hL, boxed_own (β := Unit) _ _ (fun _ => Value.int .i64 pre.length) () X Y row h7 hg (fun r e => (hrw r e).2), Moved.own (β := Unit) (Nat.le_refl _) () X Y row hm hg hrw⟩
  case h0 => exact ⟨bN3, ⟨rfl, rfl, rfl, Nat.le_refl _, fun _ _ _ => rfl⟩, by rintro ⟨h1, h2⟩; simp at h2; omega⟩
  case hAx =>
    rintro x a' _ X Y row h _ _
    exact h
  case assign =>
    rintro l' pre x W K hI hK2
    dsimp only [tenc]
    gi_wp2
    exact hK2 _ _ (KeepsFrom.refl _ _) (KeepT.of_below (Below.refl _ _) (by have := hI.2.1.size; omega)) hI rfl
  case body =>
    rintro ln pre x a' W hl hrl ⟨h7, hm, hlim⟩ rfl hplen
    obtain ⟨xk, xv⟩ := x
    obtain ⟨⟨rk, rv⟩, hrv⟩ : ∃ r, l[pre.length]? = some r := ⟨_, List.getElem?_eq_getElem hplen⟩
    have hnp := Lib.hid (show ¬ (xk.toList = (nmB rk).toList ∧ xv = rv) → ¬ (pre ++ [(xk, xv)] <+: entT l) from ent_at (x := (xk, xv)) hrv)
    have hpl : (pre ++ [(xk, xv)]).length = pre.length + 1 := by simp
    generalize pre ++ [(xk, xv)] = pre' at *
    generalize hn : pre.length = n at *
    clear hn
    have hrow0 := HR.out
    obtain ⟨p', c', e1, hcs⟩ := rows_cells2 hrow0
    cases e1
    obtain ⟨g, rfl, hg, _⟩ := hcs _ _ hrv
    clear hcs hrow0
    have HRV := Lib.hid hrv
    have HROWC := Lib.hid (show ∀ (W' : World), Moved (fun g => g = w.heap.size + 1 + 1 + 1) W0 W' → ∀ (j : Nat) (a b : Int), l[j]? = some (a, b) → W'.cell? ⟨g, j * 2, none⟩ = some (.int .i64 a) ∧ W'.cell? ⟨g, j * 2 + 1, none⟩ = some (.int .i64 b) from fun W' hc j a b hj => by
      obtain ⟨p', c', e1, hcs⟩ := rows_cells2 (HBOX.out W' hc).2.2.2.2.2.2.2
      obtain ⟨g', e2, _, q0, q1⟩ := hcs _ _ hj
      cases e1
      cases e2
      exact ⟨q0, q1⟩)
    have hrk := Lib.hid (HTS.out.ok _ (List.mem_of_getElem? hrv)).1
    have HNAME := Lib.hid (show ∀ (W' : World) (k : Int), inI k → Moved (fun g => g = w.heap.size + 1 + 1 + 1) W0 W' → Calls Tryd.prog 62 #[.int .i64 k] W' (RetB (.string (nmB k)) W') from fun W' k hk hc => name_row k hk W' (HTB.out W' (HBOX.out W' hc).1))
    obtain ⟨c4, c5, c6, f6, c7, f7, c9, hsz⟩ := HCELL.out W n hm h7
    obtain ⟨q0, q1⟩ := HROWC.out W hm n rk rv hrv
    have lg : g < W.heap.size := by omega
    have H7 := Lib.hid h7
    have HM := Lib.hid hm
    have HLIM := Lib.hid hlim
    have hge : decide ((l.length : Int) ≤ (n : Int)) = false := decide_eq_false (by omega)
    have hge2 : decide (l.length ≤ n) = false := decide_eq_false (by omega)
    have HL := Lib.hid hplen
    have HPL := Lib.hid hpl
    have HLN := Lib.hid hrl
    have HLB := Lib.hid hl
    have HS1 := Lib.hid (show W0.heap.size ≤ W.heap.size from hm.size)
    have hw1 : wrap64 ((n : Int) + 1) = (n : Int) + 1 := lit_one (by omega)
    have HEND := Lib.hid (show ∀ W1, Below W.heap.size W W1 → KeepsFrom W0.heap.size W (W1.setCell ⟨w.heap.size + 1 + 1 + 1, 0, none⟩ (.int .i64 ((n : Int) + 1))) ∧ KeepT T (fun g => g = w.heap.size + 1 + 1 + 1) W (W1.setCell ⟨w.heap.size + 1 + 1 + 1, 0, none⟩ (.int .i64 ((n : Int) + 1))) ∧
        Boxed (W1.setCell ⟨w.heap.size + 1 + 1 + 1, 0, none⟩ (.int .i64 ((n : Int) + 1))) (w.heap.size + 1 + 1 + 1) 3 (.int .i64 pre'.length) ∧ Moved (fun g => g = w.heap.size + 1 + 1 + 1) W0 (W1.setCell ⟨w.heap.size + 1 + 1 + 1, 0, none⟩ (.int .i64 ((n : Int) + 1))) from fun W1 hb => by
      have hTl : T < W.heap.size := by have := HS1.out; have := HS0.out; omega
      have b7 : Boxed W1 (w.heap.size + 1 + 1 + 1) 3 (.int .i64 n) := (hb.block _ H7.out.lt).trans H7.out
      refine ⟨(keepsFrom_below hb).trans ((KeepsOthers.setCell _ _ _).from _), (KeepT.of_below hb hTl).trans (KeepT.set _ _ _ rfl (by omega)), ?_, (HM.out.on hb).set rfl _⟩
      have := b7.set (.int .i64 ((n : Int) + 1))
      rw [HPL.out]
      simpa using this)
    have HIN := Lib.hid (show ∀ W1, Below W.heap.size W W1 → Moved (fun g => g = w.heap.size + 1 + 1 + 1) W0 W1 ∧ Boxed W1 (w.heap.size + 1 + 1 + 1) 3 (.int .i64 n) from fun W1 hb => ⟨HM.out.on hb, (hb.block _ H7.out.lt).trans H7.out⟩)
    clear h7 hm hlim hrv hrl hpl hplen hl
    simp only [List.setIfInBounds_toArray, List.set_cons_succ, List.set_cons_zero]
    have NM1 := Lib.hid (HNAME.out W rk hrk.out HM.out)
    have HX : Hid (∀ w1 (u : Value), Below W.heap.size W w1 → KeepsFrom W0.heap.size W (w1.setCell ⟨w.heap.size + 1 + 1, 0, none⟩ u)) := Lib.hid (fun w1 u hbw => (keepsFrom_below hbw).trans ((KeepsOthers.setCell _ _ _).from _))
    by_cases hx : xk.toList = (nmB rk).toList ∧ xv = rv
    · obtain ⟨hx1, rfl⟩ := hx
      obtain rfl := txt_ext hx1
      have dz := beq_txt (nmB rk).toList
      clear hx1 hnp
      by_cases hz : n = 0
      · have hz0 : ((n : Int) == 0) = true := by simp [hz]
        clear hz
        gi_wp2_with (refine ⟨trivial, ?_⟩; gi_at_call 62; refine (CallsIn.inRound ln (callsIn_wide.2 NM1.out)).mono ?_; rintro e w1 ⟨rfl, hb1⟩; have HB1 := Lib.hid hb1; obtain ⟨hm1, h71⟩ := HIN.out w1 hb1; obtain ⟨c4', c5', c6', f6', c7', f7', c9', hsz'⟩ := HCELL.out w1 n hm1 h71; obtain ⟨q0', q1'⟩ := HROWC.out w1 hm1 n rk xv HRV.out; have lb5 : w.heap.size + 1 + 1 + 1 + 1 + 1 < w1.heap.size := (by omega); clear hb1 hm1 h71)
        obtain ⟨W2, eW2, hbw2, hs2, k11⟩ : ∃ W2, w1.alloc (.cells #[.int .i64 0] 3) = W2 ∧ Below w1.heap.size w1 W2 ∧ W2.heap.size = w1.heap.size + 1 ∧ Boxed W2 w1.heap.size 3 (.int .i64 0) := ⟨_, rfl, (Below.refl _ _).alloc (Nat.le_refl _) _, by simp, Boxed.new _ _ _⟩
        rw [eW2]
        clear eW2 c4 c5 c6 f6 c7 f7 c9 q0 q1 c4' c5' c6' f6' c7' f7' c9' q0' q1'
        have hbW2 : Below W.heap.size W W2 := HB1.out.trans (hbw2.mono HB1.out.size)
        obtain ⟨hm2, h72⟩ := HIN.out W2 hbW2
        have hT2 : TS W2 B T bm l := (HBOX.out W2 hm2).2.1
        have hcv2 := block_of_cells (((HBOX.out W2 hm2).2.2.2.2.2.1).trans K4.out)
        obtain ⟨r0, hr0⟩ := HLN.out
        have hlr : W2.heap[ln]? = some (.loop r0) := (hbW2.block ln (Array.getElem?_eq_some_iff.1 hr0).1).trans hr0
        have HB2 := Lib.hid hbw2
        have HS2 := Lib.hid hs2
        have hws : W.heap.size ≤ w1.heap.size := HB1.out.size
        have HJ := Lib.hid (show ∀ Wi, Below w1.heap.size w1 Wi → Below W.heap.size W Wi from fun Wi hb => HB1.out.trans (hb.mono HB1.out.size))
        clear hm2 h72 hr0 hbw2 hbW2 lb5
        show Code.wpIn _ _ _ _ _ { tmps := ?T1, defers := [] } _
        refine wpIn_rangeFunc_ownN rfl hlr (by decide) (gf := 105) (lb := #[.pointer (some ⟨w.heap.size + 1 + 1 + 1 + 1, 0, none⟩)]) rfl trivial (enters_of Tryd.func105 (by kernel_rfl) rfl)
          (SeqStopsK.inRound ln (tab_stops 4 hT2 (w.heap.size + 1 + 1 + 1 + 1) (by omega) hcv2 (fun g => g = w1.heap.size) (fun g e => by omega))) KeepT.trans (fun W l' o o' hl h hc _ => KeepT.put W l' o o' h hc (by omega)) (Below.refl _ _) (fun _ => rfl)
          (fun (pre2 : List (ByteArray × Int)) W' => Boxed W' w1.heap.size 3 (.int .i64 pre2.length) ∧ Below w1.heap.size w1 W')
          (fun (_ : Code) (pre2 : List (ByteArray × Int)) (_ : World) => ¬ (pre2 <+: entT l))
          ?hI2
          (by intro c s A B row hs _ _; exact hs)
          ⟨k11, HB2.out⟩
          (fun x a' W => a' = { tmps := (((?T1 : Array Value).setIfInBounds 46 (.string x.1)).setIfInBounds 47 (.int .i64 x.2)).setIfInBounds 12 (.string x.1), defers := [] })
          ?hAx2 ?assign2 ?body2 ?done2 ?stop2
        case hI2 =>
          rintro pre2 X Y row ⟨h11, hbi⟩ hg hrw
          exact ⟨boxed_own (β := Unit) _ _ (fun _ => Value.int .i64 pre2.length) () X Y row h11 hg (fun r e => (hrw r e).2), ownFrom_below (β := Unit) (Nat.le_refl _) (by omega) () X Y row hbi hg hrw⟩
        case hAx2 =>
          rintro x a' _ X Y row h _ _
          exact h
        case assign2 =>
          rintro l' pre2 x Wi K hI hK2
          dsimp only [tenc]
          gi_wp2
          exact hK2 _ _ (KeepsFrom.refl _ _) (KeepT.of_below (Below.refl _ _) (by have := hI.2.size; omega)) hI rfl
        case body2 =>
          rintro ln2 pre2 x a'' Wi hl2 hrl2 ⟨h11, hbi⟩ rfl hplen2
          obtain ⟨jk, jv⟩ := x
          obtain ⟨⟨rk2, rv2⟩, hrv2⟩ : ∃ r, l[pre2.length]? = some r := ⟨_, List.getElem?_eq_getElem hplen2⟩
          have hnp2 := Lib.hid (show ¬ (jk.toList = (nmB rk2).toList ∧ jv = rv2) → ¬ (pre2 ++ [(jk, jv)] <+: entT l) from ent_at (x := (jk, jv)) hrv2)
          have hpl2 : (pre2 ++ [(jk, jv)]).length = pre2.length + 1 := by simp
          generalize pre2 ++ [(jk, jv)] = pre2' at *
          generalize hm : pre2.length = m at *
          clear hm
          obtain ⟨hmi, h7i⟩ := HIN.out Wi (HJ.out Wi hbi)
          obtain ⟨c4, c5, c6, f6, c7, f7, c9, hszi⟩ := HCELL.out Wi n hmi h7i
          obtain ⟨q0, q1⟩ := HROWC.out Wi hmi m rk2 rv2 hrv2
          have c11 := h11.cell
          have f11 := h11.frozen
          have hge3 : decide ((l.length : Int) ≤ (m : Int)) = false := decide_eq_false (by omega)
          have hge4 : decide (l.length ≤ m) = false := decide_eq_false (by omega)
          have hw2 : wrap64 ((m : Int) + 1) = (m : Int) + 1 := lit_one (by omega)
          have hrk2 := Lib.hid (HTS.out.ok _ (List.mem_of_getElem? hrv2)).1
          have NM2 := Lib.hid (HNAME.out Wi rk2 hrk2.out hmi)
          have HBI := Lib.hid hbi
          have H11 := Lib.hid h11
          have HRV2 := Lib.hid hrv2
          have HPL2 := Lib.hid hpl2
          have H112 := Lib.hid (show ∀ w3, Below Wi.heap.size Wi w3 → Boxed w3 w1.heap.size 3 (.int .i64 m) ∧ Moved (fun g => g = w.heap.size + 1 + 1 + 1) W0 w3 ∧ Boxed w3 (w.heap.size + 1 + 1 + 1) 3 (.int .i64 n) from fun w3 hb => ⟨(hb.block _ H11.out.lt).trans H11.out, HIN.out w3 (HJ.out w3 (HBI.out.trans (hb.mono HBI.out.size)))⟩)
          have hsi : w1.heap.size ≤ Wi.heap.size := hbi.size
          clear hmi h7i h11 hbi hrv2 hrl2 hl2 hpl2 hT2 hcv2 hlr k11 hs2
          simp only [List.setIfInBounds_toArray, List.set_cons_succ, List.set_cons_zero]
          by_cases hk : jk.toList = (nmB rk2).toList
          · obtain rfl := txt_ext hk
            have dz2 := beq_txt (nmB rk2).toList
            clear hk hnp2
            gi_wp2_with (refine ⟨trivial, ?_⟩; gi_at_call 62; refine (CallsIn.inRound ln2 (CallsIn.inRound ln (callsIn_wide.2 NM2.out))).mono ?_; rintro e w3 ⟨rfl, hb3⟩; have HB3 := Lib.hid hb3; obtain ⟨h113, hm3, h73⟩ := H112.out w3 hb3; obtain ⟨c4', c5', c6', f6', c7', f7', c9', hsz'⟩ := HCELL.out w3 n hm3 h73; obtain ⟨q0', q1'⟩ := HROWC.out w3 hm3 m rk2 rv2 HRV2.out; have c11' := h113.cell; have f11' := h113.frozen; clear hb3 hm3 h73 h113)
            refine ⟨(keepsFrom_below HB3.out).trans ((KeepsOthers.setCell _ _ _).from _), (KeepT.of_below HB3.out (by omega)).trans (KeepT.set _ _ _ rfl (by omega)), ?_, (HBI.out.trans (HB3.out.mono HBI.out.size)).setCell (p := ⟨w1.heap.size, 0, none⟩) (Nat.le_refl _) _⟩
            have := (H112.out w3 HB3.out).1.set (.int .i64 ((m : Int) + 1))
            rw [HPL2.out]
            simpa using this
          · have HNP2 := Lib.hid (hnp2.out (fun h => hk h.1))
            have dz2 : (jk.toList == (nmB rk2).toList) = false := by simpa using hk
            clear hk hnp2
            gi_wp2_with (refine ⟨trivial, ?_⟩; gi_at_call 62; refine (CallsIn.inRound ln2 (CallsIn.inRound ln (callsIn_wide.2 NM2.out))).mono ?_; rintro e w3 ⟨rfl, hb3⟩; have HB3 := Lib.hid hb3; obtain ⟨h113, hm3, h73⟩ := H112.out w3 hb3; obtain ⟨c4', c5', c6', f6', c7', f7', c9', hsz'⟩ := HCELL.out w3 n hm3 h73; obtain ⟨q0', q1'⟩ := HROWC.out w3 hm3 m rk2 rv2 HRV2.out; have c11' := h113.cell; have f11' := h113.frozen; clear hb3 hm3 h73 h113)
            exact ⟨(keepsFrom_below HB3.out).trans ((KeepsOthers.setCell _ _ _).from _), HNP2.out⟩
        case stop2 =>
          rintro c pre2 Wi hp h
          exact absurd hp h
        case done2 =>
          rintro xs Wi hS ⟨h11, hbi⟩
          have hxl : xs.length = l.length := by rw [hS]; simp [entT]
          rw [hxl] at h11
          obtain ⟨hmi, h7i⟩ := HIN.out Wi (HJ.out Wi hbi)
          obtain ⟨c4, c5, c6, f6, c7, f7, c9, hszi⟩ := HCELL.out Wi n hmi h7i
          have c11 := h11.cell
          have HBI := Lib.hid (HJ.out Wi hbi)
          have d0 : ((l.length : Int) == (l.length : Int)) = true := by simp
          clear hmi h7i h11 hbi hT2 hcv2 hlr k11 hs2 hxl hS
          by_cases hL : (n : Int) + 1 = L
          · have hL0 : ((n : Int) + 1 == L) = true := by simpa using hL
            have HLL := Lib.hid hL
            clear hL
            gi_wp2
            have e := HEND.out Wi HBI.out
            exact ⟨e.1, .inr ⟨rfl, by have := HLL.out; omega, by have := HLL.out; have := HPL.out; omega, e.2.2.1, e.2.2.2⟩⟩
          · have hL0 : ((n : Int) + 1 == L) = false := by simpa using hL
            have HLL := Lib.hid hL
            clear hL
            gi_wp2
            have e := HEND.out Wi HBI.out
            exact ⟨e.1, e.2.1, e.2.2.1, e.2.2.2, by have := HLL.out; have := HPL.out; have := HLIM.out; omega⟩
      · have hz0 : ((n : Int) == 0) = false := by simpa using hz
        clear hz
        by_cases hL : (n : Int) + 1 = L
        · have hL0 : ((n : Int) + 1 == L) = true := by simpa using hL
          have HLL := Lib.hid hL
          clear hL
          gi_wp2_with (refine ⟨trivial, ?_⟩; gi_at_call 62; refine (CallsIn.inRound ln (callsIn_wide.2 NM1.out)).mono ?_; rintro e w1 ⟨rfl, hb1⟩; have HB1 := Lib.hid hb1; obtain ⟨hm1, h71⟩ := HIN.out w1 hb1; obtain ⟨c4', c5', c6', f6', c7', f7', c9', hsz'⟩ := HCELL.out w1 n hm1 h71; obtain ⟨q0', q1'⟩ := HROWC.out w1 hm1 n rk xv HRV.out; clear hb1 hm1 h71)
          have e := HEND.out w1 HB1.out
          exact ⟨e.1, .inr ⟨rfl, by have := HLL.out; omega, by have := HLL.out; have := HPL.out; omega, e.2.2.1, e.2.2.2⟩⟩
        · have hL0 : ((n : Int) + 1 == L) = false := by simpa using hL
          have HLL := Lib.hid hL
          clear hL
          gi_wp2_with (refine ⟨trivial, ?_⟩; gi_at_call 62; refine (CallsIn.inRound ln (callsIn_wide.2 NM1.out)).mono ?_; rintro e w1 ⟨rfl, hb1⟩; have HB1 := Lib.hid hb1; obtain ⟨hm1, h71⟩ := HIN.out w1 hb1; obtain ⟨c4', c5', c6', f6', c7', f7', c9', hsz'⟩ := HCELL.out w1 n hm1 h71; obtain ⟨q0', q1'⟩ := HROWC.out w1 hm1 n rk xv HRV.out; clear hb1 hm1 h71)
          have e := HEND.out w1 HB1.out
          exact ⟨e.1, e.2.1, e.2.2.1, e.2.2.2, by have := HLL.out; have := HPL.out; have := HLIM.out; omega⟩
    · have HNP := Lib.hid (hnp.out hx)
      clear hnp
      by_cases hk : xk.toList = (nmB rk).toList
      · have hv : ¬ xv = rv := fun e => hx ⟨hk, e⟩
        obtain rfl := txt_ext hk
        have dz := beq_txt (nmB rk).toList
        clear hk hx
        gi_wp2_with (refine ⟨trivial, ?_⟩; gi_at_call 62; refine (CallsIn.inRound ln (callsIn_wide.2 NM1.out)).mono ?_; rintro e w1 ⟨rfl, hb1⟩; have HB1 := Lib.hid hb1; obtain ⟨hm1, h71⟩ := HIN.out w1 hb1; obtain ⟨c4', c5', c6', f6', c7', f7', c9', hsz'⟩ := HCELL.out w1 n hm1 h71; obtain ⟨q0', q1'⟩ := HROWC.out w1 hm1 n rk rv HRV.out; clear hb1 hm1 h71)
        exact ⟨HX.out _ _ HB1.out, .inl HNP.out⟩
      · have dz : (xk.toList == (nmB rk).toList) = false := by simpa using hk
        clear hk hx
        gi_wp2_with (refine ⟨trivial, ?_⟩; gi_at_call 62; refine (CallsIn.inRound ln (callsIn_wide.2 NM1.out)).mono ?_; rintro e w1 ⟨rfl, hb1⟩; have HB1 := Lib.hid hb1; obtain ⟨hm1, h71⟩ := HIN.out w1 hb1; obtain ⟨c4', c5', c6', f6', c7', f7', c9', hsz'⟩ := HCELL.out w1 n hm1 h71; obtain ⟨q0', q1'⟩ := HROWC.out w1 hm1 n rk rv HRV.out; clear hb1 hm1 h71)
        exact ⟨HX.out _ _ HB1.out, .inl HNP.out⟩
  case stop =>
    rintro D c pre W hD hp h hKd
    rcases h with h | ⟨rfl, h1, hL, h7, hm⟩
    · exact absurd hp h
    have hple := hp.length_le
    have hle : (entT l).length = l.length := by simp [entT]
    rw [hle] at hple
    obtain ⟨hD1, z6, hfin⟩ := HFIN.out W D hD hm hKd
    obtain ⟨c4, c5, c6, f6, c7, f7, c9, hsz⟩ := HCELL.out W _ hm h7
    have HD1 := Lib.hid hD1
    have HF := Lib.hid hfin
    have HZ6 := Lib.hid z6
    have hge1 : decide (1 ≤ L) = true := decide_eq_true h1
    generalize hz : (pre.length : Int) = z at *
    have hb : (z == L) = true := by simp [hL]
    by_cases hlt : L < (l.length : Int)
    · have hl1 : decide (L < (l.length : Int)) = true := decide_eq_true hlt
      clear hD1 z6 hfin h7 hm hKd hlt h1 hL hz hple hle hp
      gi_wp2
      refine ⟨by simp, .inl ⟨_, _, rfl, run_takeDeferred HD1.out, ?_⟩⟩
      refine ⟨.bool true, ?_, rfl, HF.out⟩
      simp [results, Tryd.results31, go_sem, HZ6.out]
    · have hl1 : decide (L < (l.length : Int)) = false := decide_eq_false hlt
      have hzl : (z == (l.length : Int)) = true := by
        have : z = (l.length : Int) := by omega
        simp [this]
      clear hD1 z6 hfin h7 hm hKd hlt h1 hL hz hple hle hp
      gi_wp2
      refine ⟨by simp, .inl ⟨_, _, rfl, run_takeDeferred HD1.out, ?_⟩⟩
      refine ⟨.bool true, ?_, rfl, HF.out⟩
      simp [results, Tryd.results31, go_sem, HZ6.out]
  case done =>
    rintro Dd xs W hD hS ⟨h7, hm, hlim⟩ hKd
    have hxl : xs.length = l.length := by rw [hS]; simp [entT]
    rw [hxl] at h7 hlim
    obtain ⟨hD1, z6, hfin⟩ := HFIN.out W Dd hD hm hKd
    obtain ⟨c4, c5, c6, f6, c7, f7, c9, hsz⟩ := HCELL.out W _ hm h7
    have HD1 := Lib.hid hD1
    have HF := Lib.hid hfin
    have HZ6 := Lib.hid z6
    have d0 : ((l.length : Int) == (l.length : Int)) = true := by simp
    by_cases h1 : 1 ≤ L
    · have hge1 : decide (1 ≤ L) = true := decide_eq_true h1
      have hl1 : decide (L < (l.length : Int)) = false := decide_eq_false (by omega)
      clear hD1 z6 hfin h7 hm hKd h1 hlim hxl hS
      gi_wp2
      refine ⟨by simp, .inl ⟨_, _, rfl, run_takeDeferred HD1.out, ?_⟩⟩
      refine ⟨.bool true, ?_, rfl, HF.out⟩
      simp [results, Tryd.results31, go_sem, HZ6.out]
    · have hge1 : decide (1 ≤ L) = false := decide_eq_false h1
      clear hD1 z6 hfin h7 hm hKd h1 hlim hxl hS
      gi_wp2
      refine ⟨by simp, .inl ⟨_, _, rfl, run_takeDeferred HD1.out, ?_⟩⟩
      refine ⟨.bool true, ?_, rfl, HF.out⟩
      simp [results, Tryd.results31, go_sem, HZ6.out]
end Go.Proofs.YtnmnmkdmnohbmaaDoor
