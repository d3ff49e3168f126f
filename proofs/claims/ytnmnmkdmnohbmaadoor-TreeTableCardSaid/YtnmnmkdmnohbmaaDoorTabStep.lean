/- Helper text: the walk over tableStep of the statements: one call of a table beside the list. Conditions: none. -/
import Derived.Test.YtnmnmkdmnohbmaaDoorChanged
import Derived.Test.YtnmnmkdmnohbmaaDoorRanged
namespace Go.Proofs.YtnmnmkdmnohbmaaDoor
open Go Go.RowKit Go.Maps
attribute [local go_sem] undef

/-- What one step leaves: the table and the list with the same entries, one more at most; all else stands. -/
def StepPost (w : World) (B BR T bm : Nat) (l : List (Int × Int)) (lv : Value) (e : Ending) (w' : World) : Prop :=
  ∃ v' l', e = .returned (.tuple #[v', .bool true]) ∧ TS w' B T bm l' ∧ w'.ownsRow BR 60 2 v' l'.length (rowsC l') ∧ l'.length ≤ l.length + 1 ∧ TStep T w w' ∧ ∀ g, v'.ownBlock = some g → ¬ footW T w' g ∧ g < w'.heap.size ∧ (lv.ownBlock = some g ∨ w.heap.size ≤ g)
theorem step_stay {w w' : World} {B BR T bm : Nat} {l : List (Int × Int)} {lv : Value} (h : TS w B T bm l) (hr : w.ownsRow BR 60 2 lv l.length (rowsC l)) (hdis : ∀ g, lv.ownBlock = some g → ¬ footW T w g) (hb : Below w.heap.size w w') : StepPost w B BR T bm l lv (.returned (.tuple #[lv, .bool true])) w' := by
  have hs := TStep.of_below hb h.lt
  refine ⟨lv, l, rfl, h.on hb, tabrow_at hr (fun g hg => hb.block g (hr.lt g hg).2), by omega, hs, fun g hg => ⟨fun hf => ?_, Nat.lt_of_lt_of_le (hr.lt g hg).2 hb.size, .inl hg⟩⟩
  rcases hs.2 g hf with q | q
  · exact hdis g hg q
  · have := (hr.lt g hg).2
    omega
/-- A step of the table, then the list written anew. -/
theorem step_new {w w1 w2 : World} {B BR T bm : Nat} {l l' : List (Int × Int)} {lv v' : Value} (hBR : BR ≤ w.heap.size) (ht : TS w1 B T bm l') (hs : TStep T w w1) (hr : w2.ownsRow w1.heap.size 60 2 v' l'.length (rowsC l')) (hb : Below w1.heap.size w1 w2) (hl : l'.length ≤ l.length + 1) : StepPost w B BR T bm l lv (.returned (.tuple #[v', .bool true])) w2 := by
  have hs2 := TStep.of_below hb ht.lt
  refine ⟨v', l', rfl, ht.on hb, row_base hr (Nat.le_trans hBR hs.1.size), hl, hs.trans hs2, fun g hg => ⟨fun hf => ?_, (hr.lt g hg).2, .inr (Nat.le_trans hs.1.size (hr.lt g hg).1)⟩⟩
  have := (ht.foot_lt (foot_below hb ht.lt hf)).2
  have := (hr.lt g hg).1
  omega
theorem Len_row {w : World} {B T bm : Nat} {l : List (Int × Int)} (h : TS w B T bm l) : Calls Tryd.prog 28 #[.pointer (some ⟨T, 0, none⟩)] w (RetS (.int .i64 l.length) w) := by
  obtain ⟨kv, vv, D, ht⟩ := h.ex
  have := Len_any ht
  rwa [show (ksR l).length = l.length by simp [ksR]] at this
theorem dropR_le (l : List (Int × Int)) (k : Int) : (dropR l k).length ≤ l.length + 1 := Nat.le_succ_of_le (List.length_filter_le _ _)

section
variable {w : World} {B T bm : Nat} {l : List (Int × Int)} {BR : Nat} {lv : Value}

set_option maxRecDepth 100000 in
set_option maxHeartbeats 4000000 in
theorem step_put (h : TS w B T bm l) (hr : w.ownsRow BR 60 2 lv l.length (rowsC l)) (hdis : ∀ g, lv.ownBlock = some g → ¬ footW T w g) (K V : Int) (hK : inI K) (hV : inI V) (few : l.length + 1 < 8796093022207) (hB : B ≤ w.heap.size) (hBR : BR ≤ w.heap.size)
    (htab : ∀ W, Below B w W → Lib.TabIs Tryd.prog W "internal/strconv.uint64pow10" .u64 Lib.pow10Tab) :
    Calls Tryd.prog 29 #[.pointer (some ⟨T, 0, none⟩), lv, .agg #[.int .i64 1, .int .i64 K, .int .i64 V]] w (StepPost w B BR T bm l lv) := by
  have HTB := Lib.hid htab
  obtain ⟨pl, cl, rfl⟩ := row_slice hr
  have HTS := Lib.hid h
  have HR := Lib.hid hr
  have HDIS := Lib.hid hdis
  have HV := Lib.hid hV
  have HK := Lib.hid hK
  have HBB := Lib.hid hB
  have HBR := Lib.hid hBR
  have hTl := h.lt
  have HF0 := Lib.hid (show ∀ g, footW T w g → g < w.heap.size from fun g hg => (h.foot_lt hg).2)
  clear h hr hdis hV hK hB hBR htab
  go_enter Tryd.func29, Tryd.ntmps29
  go_upto_region 1 with fail
  obtain ⟨W0, eW, hbw0, hs0, k0⟩ : ∃ W0, w.alloc (.cells #[.int .i64 1, .int .i64 K, .int .i64 V] 63) = W0 ∧ Below w.heap.size w W0 ∧ W0.heap.size = w.heap.size + 1 ∧ W0.heap[w.heap.size]? = some (.cells #[.int .i64 1, .int .i64 K, .int .i64 V] 63) := ⟨_, rfl, (Below.refl _ _).alloc (Nat.le_refl _) _, by simp, heap_new _ _⟩
  rw [eW]
  clear eW
  have HB0 := Lib.hid hbw0
  have HS0 := Lib.hid hs0
  have K0 := Lib.hid k0
  have HT0 := Lib.hid (HTS.out.on hbw0)
  have HSTEP0 := Lib.hid (TStep.of_below hbw0 HTS.out.lt)
  have HBX := Lib.hid (show ∀ W, TStep T W0 W → W.cell? ⟨w.heap.size, 0, none⟩ = some (.int .i64 1) ∧ W.cell? ⟨w.heap.size, 1, none⟩ = some (.int .i64 K) ∧ W.cell? ⟨w.heap.size, 2, none⟩ = some (.int .i64 V) ∧ w.heap.size < W.heap.size from fun W hs => by
    have e := (hs.1.block w.heap.size (by have := HS0.out; omega) (fun hf => by
      have := HF0.out _ (foot_below HB0.out HTS.out.lt hf)
      omega)).trans K0.out
    exact ⟨by simp [World.cell?, e], by simp [World.cell?, e], by simp [World.cell?, e], (Array.getElem?_eq_some_iff.1 e).1⟩)
  have HROW := Lib.hid (show ∀ W, TStep T w W → W.ownsRow BR 60 2 (.slice pl l.length cl) l.length (rowsC l) from fun W hs => (row_step HR.out HDIS.out hs).1)
  have HTAB := Lib.hid (show ∀ W, TStep T w W → Lib.TabIs Tryd.prog W "internal/strconv.uint64pow10" .u64 Lib.pow10Tab from fun W hs => HTB.out W (hs.1.below HBB.out (fun k hk => (HTS.out.foot_lt hk).1)))
  obtain ⟨x0, x1, x2, hsz0⟩ := HBX.out W0 (TStep.of_below (Below.refl _ _) HT0.out.lt)
  have NM1 := Lib.hid (name_row K HK.out W0 (HTAB.out W0 HSTEP0.out))
  have hmx : Tryd.prog.follows .mixedOrders = true := by kernel_rfl
  clear k0 hbw0 hs0
  go_upto_region 3 with fail
  refine wp_region_plan_below 6 [(0, [0, 1, 2, 4, 5]), (1, [3]), (2, [6, 7])] hmx (by kernel_rfl) (fun _ _ _ _ h => h) ?_
  simp only [wpSegs, pickOps, List.getElem?_toArray, List.getElem?_cons_zero, List.getElem?_cons_succ]
  have kc := cell_cls W0
  iterate 5 (go_big_quiet_step (fail))
  refine wpQuiet_nil ?_
  clear kc
  refine wpListC_want (by rfl) (fun KK hK => ?_)
  go_step
  refine (name_row K HK.out _ (HTAB.out _ (HSTEP0.out.trans (TStep.of_below (Below.drew (Below.refl _ W0)) HT0.out.lt)))).mono ?_
  rintro e w1 ⟨rfl, hb1⟩
  have hbw1 := (Below.drew (Below.refl W0.heap.size W0)).trans hb1
  refine hK _ _ (cls_of_below hbw1) ?_
  clear hK KK
  refine wpListC_nil ?_
  have S1 := Lib.hid (TStep.of_below hbw1 HT0.out.lt)
  have T1 := Lib.hid (HT0.out.on hbw1)
  have L1 : B ≤ w1.heap.size := by have := HBB.out; have := hbw1.size; omega
  clear hb1 hbw1 x0 x1 x2
  refine wpList_plain rfl (fun KK hK => ?_)
  go_step
  refine (Put_row T1.out K V HK.out HV.out (by omega) L1).mono ?_
  rintro e w2 ⟨rfl, ht2, hst2⟩
  have T2 := Lib.hid ht2
  have S2 := Lib.hid (S1.out.trans hst2)
  clear ht2 hst2
  refine hK _ _ ?_
  clear hK KK
  refine wpList_plain rfl (fun KK hK => ?_)
  go_step
  refine hK _ _ ?_
  clear hK KK
  refine wpList_nil ?_
  obtain ⟨x0, x1, x2, hsz2⟩ := HBX.out w2 S2.out
  have R2 := Lib.hid (HROW.out w2 (HSTEP0.out.trans S2.out))
  go_wp2_with (go_at_call 63; refine (rPut2_any R2.out (by omega) K V).mono ?_; rintro e w3 ⟨v3, rfl, hr3, hb3⟩; obtain ⟨p3, c3, rfl⟩ := row_slice hr3; have R3 := Lib.hid hr3; have HB3 := Lib.hid hb3; clear hr3 hb3)
  go_ret2
  exact step_new HBR.out T2.out (HSTEP0.out.trans S2.out) R3.out HB3.out (putR_len _ _ _)

set_option maxRecDepth 100000 in
set_option maxHeartbeats 4000000 in
theorem step_get (h : TS w B T bm l) (hr : w.ownsRow BR 60 2 lv l.length (rowsC l)) (hdis : ∀ g, lv.ownBlock = some g → ¬ footW T w g) (K V : Int) (hK : inI K) (hV : inI V) (few : l.length + 1 < 8796093022207) (hB : B ≤ w.heap.size) (hBR : BR ≤ w.heap.size)
    (htab : ∀ W, Below B w W → Lib.TabIs Tryd.prog W "internal/strconv.uint64pow10" .u64 Lib.pow10Tab) :
    Calls Tryd.prog 29 #[.pointer (some ⟨T, 0, none⟩), lv, .agg #[.int .i64 2, .int .i64 K, .int .i64 V]] w (StepPost w B BR T bm l lv) := by
  have HTB := Lib.hid htab
  obtain ⟨pl, cl, rfl⟩ := row_slice hr
  have HTS := Lib.hid h
  have HR := Lib.hid hr
  have HDIS := Lib.hid hdis
  have HV := Lib.hid hV
  have HK := Lib.hid hK
  have HBB := Lib.hid hB
  have HBR := Lib.hid hBR
  have hTl := h.lt
  have HF0 := Lib.hid (show ∀ g, footW T w g → g < w.heap.size from fun g hg => (h.foot_lt hg).2)
  clear h hr hdis hV hK hB hBR htab
  go_enter Tryd.func29, Tryd.ntmps29
  go_upto_region 1 with fail
  obtain ⟨W0, eW, hbw0, hs0, k0⟩ : ∃ W0, w.alloc (.cells #[.int .i64 2, .int .i64 K, .int .i64 V] 63) = W0 ∧ Below w.heap.size w W0 ∧ W0.heap.size = w.heap.size + 1 ∧ W0.heap[w.heap.size]? = some (.cells #[.int .i64 2, .int .i64 K, .int .i64 V] 63) := ⟨_, rfl, (Below.refl _ _).alloc (Nat.le_refl _) _, by simp, heap_new _ _⟩
  rw [eW]
  clear eW
  have HB0 := Lib.hid hbw0
  have HS0 := Lib.hid hs0
  have K0 := Lib.hid k0
  have HT0 := Lib.hid (HTS.out.on hbw0)
  have HSTEP0 := Lib.hid (TStep.of_below hbw0 HTS.out.lt)
  have HBX := Lib.hid (show ∀ W, TStep T W0 W → W.cell? ⟨w.heap.size, 0, none⟩ = some (.int .i64 2) ∧ W.cell? ⟨w.heap.size, 1, none⟩ = some (.int .i64 K) ∧ W.cell? ⟨w.heap.size, 2, none⟩ = some (.int .i64 V) ∧ w.heap.size < W.heap.size from fun W hs => by
    have e := (hs.1.block w.heap.size (by have := HS0.out; omega) (fun hf => by
      have := HF0.out _ (foot_below HB0.out HTS.out.lt hf)
      omega)).trans K0.out
    exact ⟨by simp [World.cell?, e], by simp [World.cell?, e], by simp [World.cell?, e], (Array.getElem?_eq_some_iff.1 e).1⟩)
  have HROW := Lib.hid (show ∀ W, TStep T w W → W.ownsRow BR 60 2 (.slice pl l.length cl) l.length (rowsC l) from fun W hs => (row_step HR.out HDIS.out hs).1)
  have HTAB := Lib.hid (show ∀ W, TStep T w W → Lib.TabIs Tryd.prog W "internal/strconv.uint64pow10" .u64 Lib.pow10Tab from fun W hs => HTB.out W (hs.1.below HBB.out (fun k hk => (HTS.out.foot_lt hk).1)))
  obtain ⟨x0, x1, x2, hsz0⟩ := HBX.out W0 (TStep.of_below (Below.refl _ _) HT0.out.lt)
  have NM1 := Lib.hid (name_row K HK.out W0 (HTAB.out W0 HSTEP0.out))
  have hmx : Tryd.prog.follows .mixedOrders = true := by kernel_rfl
  clear k0 hbw0 hs0
  go_wp2_with (first
    | (go_at_call 62; refine NM1.out.mono ?_; rintro e w1 ⟨rfl, hb1⟩; have HB1 := Lib.hid hb1; have S1 := Lib.hid (TStep.of_below hb1 HT0.out.lt); have T1 := Lib.hid (HT0.out.on hb1); obtain ⟨y0, y1, y2, hsz1⟩ := HBX.out w1 S1.out; clear hb1)
    | (go_at_call 64; refine (Get_row T1.out K HK.out).mono ?_; rintro e w2 ⟨rfl, rfl⟩; have R1 := Lib.hid (HROW.out w1 (HSTEP0.out.trans S1.out)))
    | (go_at_call 65; refine (getRow_any R1.out (by omega) K).mono ?_; rintro e w3 ⟨rfl, rfl⟩))
  go_ret2
  exact step_stay HTS.out HR.out HDIS.out (HB0.out.trans (HB1.out.mono HB0.out.size))

set_option maxRecDepth 100000 in
set_option maxHeartbeats 4000000 in
theorem step_drop (h : TS w B T bm l) (hr : w.ownsRow BR 60 2 lv l.length (rowsC l)) (hdis : ∀ g, lv.ownBlock = some g → ¬ footW T w g) (K V : Int) (hK : inI K) (hV : inI V) (few : l.length + 1 < 8796093022207) (hB : B ≤ w.heap.size) (hBR : BR ≤ w.heap.size)
    (htab : ∀ W, Below B w W → Lib.TabIs Tryd.prog W "internal/strconv.uint64pow10" .u64 Lib.pow10Tab) :
    Calls Tryd.prog 29 #[.pointer (some ⟨T, 0, none⟩), lv, .agg #[.int .i64 3, .int .i64 K, .int .i64 V]] w (StepPost w B BR T bm l lv) := by
  have HTB := Lib.hid htab
  obtain ⟨pl, cl, rfl⟩ := row_slice hr
  have HTS := Lib.hid h
  have HR := Lib.hid hr
  have HDIS := Lib.hid hdis
  have HV := Lib.hid hV
  have HK := Lib.hid hK
  have HBB := Lib.hid hB
  have HBR := Lib.hid hBR
  have hTl := h.lt
  have HF0 := Lib.hid (show ∀ g, footW T w g → g < w.heap.size from fun g hg => (h.foot_lt hg).2)
  clear h hr hdis hV hK hB hBR htab
  go_enter Tryd.func29, Tryd.ntmps29
  go_upto_region 1 with fail
  obtain ⟨W0, eW, hbw0, hs0, k0⟩ : ∃ W0, w.alloc (.cells #[.int .i64 3, .int .i64 K, .int .i64 V] 63) = W0 ∧ Below w.heap.size w W0 ∧ W0.heap.size = w.heap.size + 1 ∧ W0.heap[w.heap.size]? = some (.cells #[.int .i64 3, .int .i64 K, .int .i64 V] 63) := ⟨_, rfl, (Below.refl _ _).alloc (Nat.le_refl _) _, by simp, heap_new _ _⟩
  rw [eW]
  clear eW
  have HB0 := Lib.hid hbw0
  have HS0 := Lib.hid hs0
  have K0 := Lib.hid k0
  have HT0 := Lib.hid (HTS.out.on hbw0)
  have HSTEP0 := Lib.hid (TStep.of_below hbw0 HTS.out.lt)
  have HBX := Lib.hid (show ∀ W, TStep T W0 W → W.cell? ⟨w.heap.size, 0, none⟩ = some (.int .i64 3) ∧ W.cell? ⟨w.heap.size, 1, none⟩ = some (.int .i64 K) ∧ W.cell? ⟨w.heap.size, 2, none⟩ = some (.int .i64 V) ∧ w.heap.size < W.heap.size from fun W hs => by
    have e := (hs.1.block w.heap.size (by have := HS0.out; omega) (fun hf => by
      have := HF0.out _ (foot_below HB0.out HTS.out.lt hf)
      omega)).trans K0.out
    exact ⟨by simp [World.cell?, e], by simp [World.cell?, e], by simp [World.cell?, e], (Array.getElem?_eq_some_iff.1 e).1⟩)
  have HROW := Lib.hid (show ∀ W, TStep T w W → W.ownsRow BR 60 2 (.slice pl l.length cl) l.length (rowsC l) from fun W hs => (row_step HR.out HDIS.out hs).1)
  have HTAB := Lib.hid (show ∀ W, TStep T w W → Lib.TabIs Tryd.prog W "internal/strconv.uint64pow10" .u64 Lib.pow10Tab from fun W hs => HTB.out W (hs.1.below HBB.out (fun k hk => (HTS.out.foot_lt hk).1)))
  obtain ⟨x0, x1, x2, hsz0⟩ := HBX.out W0 (TStep.of_below (Below.refl _ _) HT0.out.lt)
  have NM1 := Lib.hid (name_row K HK.out W0 (HTAB.out W0 HSTEP0.out))
  have hmx : Tryd.prog.follows .mixedOrders = true := by kernel_rfl
  clear k0 hbw0 hs0
  go_wp2_with (first
    | (go_at_call 62; refine NM1.out.mono ?_; rintro e w1 ⟨rfl, hb1⟩; have HB1 := Lib.hid hb1; have S1 := Lib.hid (TStep.of_below hb1 HT0.out.lt); have T1 := Lib.hid (HT0.out.on hb1); obtain ⟨y0, y1, y2, hsz1⟩ := HBX.out w1 S1.out; clear hb1)
    | (go_at_call 66; refine (Drop_row T1.out K HK.out).mono ?_; rintro e w2 ⟨rfl, ht2, hst2⟩; have T2 := Lib.hid ht2; have S2 := Lib.hid (S1.out.trans hst2); obtain ⟨z0, z1, z2, hsz2⟩ := HBX.out w2 S2.out; have R2 := Lib.hid (HROW.out w2 (HSTEP0.out.trans S2.out)); clear ht2 hst2)
    | (go_at_call 67; refine (rDrop_any R2.out (by omega) K).mono ?_; rintro e w3 ⟨v3, rfl, hr3, hb3⟩; obtain ⟨p3, c3, rfl⟩ := row_slice hr3; have R3 := Lib.hid hr3; have HB3 := Lib.hid hb3; clear hr3 hb3))
  go_ret2
  exact step_new HBR.out T2.out (HSTEP0.out.trans S2.out) R3.out HB3.out (dropR_le _ _)

set_option maxRecDepth 100000 in
set_option maxHeartbeats 4000000 in
theorem step_len (h : TS w B T bm l) (hr : w.ownsRow BR 60 2 lv l.length (rowsC l)) (hdis : ∀ g, lv.ownBlock = some g → ¬ footW T w g) (K V : Int) (hK : inI K) (hV : inI V) (few : l.length + 1 < 8796093022207) (hB : B ≤ w.heap.size) (hBR : BR ≤ w.heap.size)
    (htab : ∀ W, Below B w W → Lib.TabIs Tryd.prog W "internal/strconv.uint64pow10" .u64 Lib.pow10Tab) :
    Calls Tryd.prog 29 #[.pointer (some ⟨T, 0, none⟩), lv, .agg #[.int .i64 4, .int .i64 K, .int .i64 V]] w (StepPost w B BR T bm l lv) := by
  have HTB := Lib.hid htab
  obtain ⟨pl, cl, rfl⟩ := row_slice hr
  have HTS := Lib.hid h
  have HR := Lib.hid hr
  have HDIS := Lib.hid hdis
  have HV := Lib.hid hV
  have HK := Lib.hid hK
  have HBB := Lib.hid hB
  have HBR := Lib.hid hBR
  have hTl := h.lt
  have HF0 := Lib.hid (show ∀ g, footW T w g → g < w.heap.size from fun g hg => (h.foot_lt hg).2)
  clear h hr hdis hV hK hB hBR htab
  go_enter Tryd.func29, Tryd.ntmps29
  go_upto_region 1 with fail
  obtain ⟨W0, eW, hbw0, hs0, k0⟩ : ∃ W0, w.alloc (.cells #[.int .i64 4, .int .i64 K, .int .i64 V] 63) = W0 ∧ Below w.heap.size w W0 ∧ W0.heap.size = w.heap.size + 1 ∧ W0.heap[w.heap.size]? = some (.cells #[.int .i64 4, .int .i64 K, .int .i64 V] 63) := ⟨_, rfl, (Below.refl _ _).alloc (Nat.le_refl _) _, by simp, heap_new _ _⟩
  rw [eW]
  clear eW
  have HB0 := Lib.hid hbw0
  have HS0 := Lib.hid hs0
  have K0 := Lib.hid k0
  have HT0 := Lib.hid (HTS.out.on hbw0)
  have HSTEP0 := Lib.hid (TStep.of_below hbw0 HTS.out.lt)
  have HBX := Lib.hid (show ∀ W, TStep T W0 W → W.cell? ⟨w.heap.size, 0, none⟩ = some (.int .i64 4) ∧ W.cell? ⟨w.heap.size, 1, none⟩ = some (.int .i64 K) ∧ W.cell? ⟨w.heap.size, 2, none⟩ = some (.int .i64 V) ∧ w.heap.size < W.heap.size from fun W hs => by
    have e := (hs.1.block w.heap.size (by have := HS0.out; omega) (fun hf => by
      have := HF0.out _ (foot_below HB0.out HTS.out.lt hf)
      omega)).trans K0.out
    exact ⟨by simp [World.cell?, e], by simp [World.cell?, e], by simp [World.cell?, e], (Array.getElem?_eq_some_iff.1 e).1⟩)
  have HROW := Lib.hid (show ∀ W, TStep T w W → W.ownsRow BR 60 2 (.slice pl l.length cl) l.length (rowsC l) from fun W hs => (row_step HR.out HDIS.out hs).1)
  have HTAB := Lib.hid (show ∀ W, TStep T w W → Lib.TabIs Tryd.prog W "internal/strconv.uint64pow10" .u64 Lib.pow10Tab from fun W hs => HTB.out W (hs.1.below HBB.out (fun k hk => (HTS.out.foot_lt hk).1)))
  obtain ⟨x0, x1, x2, hsz0⟩ := HBX.out W0 (TStep.of_below (Below.refl _ _) HT0.out.lt)
  have NM1 := Lib.hid (name_row K HK.out W0 (HTAB.out W0 HSTEP0.out))
  have hmx : Tryd.prog.follows .mixedOrders = true := by kernel_rfl
  clear k0 hbw0 hs0
  go_wp2_with (go_at_call 28; refine (Len_row HT0.out).mono ?_; rintro e w1 ⟨rfl, rfl⟩)
  go_ret2
  exact step_stay HTS.out HR.out HDIS.out HB0.out

set_option maxRecDepth 100000 in
set_option maxHeartbeats 4000000 in
theorem step_keys (h : TS w B T bm l) (hr : w.ownsRow BR 60 2 lv l.length (rowsC l)) (hdis : ∀ g, lv.ownBlock = some g → ¬ footW T w g) (K V : Int) (hK : inI K) (hV : inI V) (few : l.length + 1 < 8796093022207) (hB : B ≤ w.heap.size) (hBR : BR ≤ w.heap.size)
    (htab : ∀ W, Below B w W → Lib.TabIs Tryd.prog W "internal/strconv.uint64pow10" .u64 Lib.pow10Tab) :
    Calls Tryd.prog 29 #[.pointer (some ⟨T, 0, none⟩), lv, .agg #[.int .i64 6, .int .i64 K, .int .i64 V]] w (StepPost w B BR T bm l lv) := by
  have HTB := Lib.hid htab
  obtain ⟨pl, cl, rfl⟩ := row_slice hr
  have HTS := Lib.hid h
  have HR := Lib.hid hr
  have HDIS := Lib.hid hdis
  have HV := Lib.hid hV
  have HK := Lib.hid hK
  have HBB := Lib.hid hB
  have HBR := Lib.hid hBR
  have hTl := h.lt
  have HF0 := Lib.hid (show ∀ g, footW T w g → g < w.heap.size from fun g hg => (h.foot_lt hg).2)
  clear h hr hdis hV hK hB hBR htab
  go_enter Tryd.func29, Tryd.ntmps29
  go_upto_region 1 with fail
  obtain ⟨W0, eW, hbw0, hs0, k0⟩ : ∃ W0, w.alloc (.cells #[.int .i64 6, .int .i64 K, .int .i64 V] 63) = W0 ∧ Below w.heap.size w W0 ∧ W0.heap.size = w.heap.size + 1 ∧ W0.heap[w.heap.size]? = some (.cells #[.int .i64 6, .int .i64 K, .int .i64 V] 63) := ⟨_, rfl, (Below.refl _ _).alloc (Nat.le_refl _) _, by simp, heap_new _ _⟩
  rw [eW]
  clear eW
  have HB0 := Lib.hid hbw0
  have HS0 := Lib.hid hs0
  have K0 := Lib.hid k0
  have HT0 := Lib.hid (HTS.out.on hbw0)
  have HSTEP0 := Lib.hid (TStep.of_below hbw0 HTS.out.lt)
  have HBX := Lib.hid (show ∀ W, TStep T W0 W → W.cell? ⟨w.heap.size, 0, none⟩ = some (.int .i64 6) ∧ W.cell? ⟨w.heap.size, 1, none⟩ = some (.int .i64 K) ∧ W.cell? ⟨w.heap.size, 2, none⟩ = some (.int .i64 V) ∧ w.heap.size < W.heap.size from fun W hs => by
    have e := (hs.1.block w.heap.size (by have := HS0.out; omega) (fun hf => by
      have := HF0.out _ (foot_below HB0.out HTS.out.lt hf)
      omega)).trans K0.out
    exact ⟨by simp [World.cell?, e], by simp [World.cell?, e], by simp [World.cell?, e], (Array.getElem?_eq_some_iff.1 e).1⟩)
  have HROW := Lib.hid (show ∀ W, TStep T w W → W.ownsRow BR 60 2 (.slice pl l.length cl) l.length (rowsC l) from fun W hs => (row_step HR.out HDIS.out hs).1)
  have HTAB := Lib.hid (show ∀ W, TStep T w W → Lib.TabIs Tryd.prog W "internal/strconv.uint64pow10" .u64 Lib.pow10Tab from fun W hs => HTB.out W (hs.1.below HBB.out (fun k hk => (HTS.out.foot_lt hk).1)))
  obtain ⟨x0, x1, x2, hsz0⟩ := HBX.out W0 (TStep.of_below (Below.refl _ _) HT0.out.lt)
  have NM1 := Lib.hid (name_row K HK.out W0 (HTAB.out W0 HSTEP0.out))
  have hmx : Tryd.prog.follows .mixedOrders = true := by kernel_rfl
  clear k0 hbw0 hs0
  go_wp2_with (go_at_call 30; refine (holds_any HT0.out (HROW.out W0 HSTEP0.out) (HTAB.out W0 HSTEP0.out)).mono ?_; rintro e w1 ⟨rfl, hb1⟩)
  go_ret2
  exact step_stay HTS.out HR.out HDIS.out (HB0.out.trans (hb1.mono HB0.out.size))

set_option maxRecDepth 100000 in
set_option maxHeartbeats 4000000 in
theorem step_all (h : TS w B T bm l) (hr : w.ownsRow BR 60 2 lv l.length (rowsC l)) (hdis : ∀ g, lv.ownBlock = some g → ¬ footW T w g) (K V : Int) (hK : inI K) (hV : inI V) (few : l.length + 1 < 8796093022207) (hB : B ≤ w.heap.size) (hBR : BR ≤ w.heap.size)
    (htab : ∀ W, Below B w W → Lib.TabIs Tryd.prog W "internal/strconv.uint64pow10" .u64 Lib.pow10Tab) :
    Calls Tryd.prog 29 #[.pointer (some ⟨T, 0, none⟩), lv, .agg #[.int .i64 7, .int .i64 K, .int .i64 V]] w (StepPost w B BR T bm l lv) := by
  have HTB := Lib.hid htab
  obtain ⟨pl, cl, rfl⟩ := row_slice hr
  have HTS := Lib.hid h
  have HR := Lib.hid hr
  have HDIS := Lib.hid hdis
  have HV := Lib.hid hV
  have HK := Lib.hid hK
  have HBB := Lib.hid hB
  have HBR := Lib.hid hBR
  have hTl := h.lt
  have HF0 := Lib.hid (show ∀ g, footW T w g → g < w.heap.size from fun g hg => (h.foot_lt hg).2)
  clear h hr hdis hV hK hB hBR htab
  go_enter Tryd.func29, Tryd.ntmps29
  go_upto_region 1 with fail
  obtain ⟨W0, eW, hbw0, hs0, k0⟩ : ∃ W0, w.alloc (.cells #[.int .i64 7, .int .i64 K, .int .i64 V] 63) = W0 ∧ Below w.heap.size w W0 ∧ W0.heap.size = w.heap.size + 1 ∧ W0.heap[w.heap.size]? = some (.cells #[.int .i64 7, .int .i64 K, .int .i64 V] 63) := ⟨_, rfl, (Below.refl _ _).alloc (Nat.le_refl _) _, by simp, heap_new _ _⟩
  rw [eW]
  clear eW
  have HB0 := Lib.hid hbw0
  have HS0 := Lib.hid hs0
  have K0 := Lib.hid k0
  have HT0 := Lib.hid (HTS.out.on hbw0)
  have HSTEP0 := Lib.hid (TStep.of_below hbw0 HTS.out.lt)
  have HBX := Lib.hid (show ∀ W, TStep T W0 W → W.cell? ⟨w.heap.size, 0, none⟩ = some (.int .i64 7) ∧ W.cell? ⟨w.heap.size, 1, none⟩ = some (.int .i64 K) ∧ W.cell? ⟨w.heap.size, 2, none⟩ = some (.int .i64 V) ∧ w.heap.size < W.heap.size from fun W hs => by
    have e := (hs.1.block w.heap.size (by have := HS0.out; omega) (fun hf => by
      have := HF0.out _ (foot_below HB0.out HTS.out.lt hf)
      omega)).trans K0.out
    exact ⟨by simp [World.cell?, e], by simp [World.cell?, e], by simp [World.cell?, e], (Array.getElem?_eq_some_iff.1 e).1⟩)
  have HROW := Lib.hid (show ∀ W, TStep T w W → W.ownsRow BR 60 2 (.slice pl l.length cl) l.length (rowsC l) from fun W hs => (row_step HR.out HDIS.out hs).1)
  have HTAB := Lib.hid (show ∀ W, TStep T w W → Lib.TabIs Tryd.prog W "internal/strconv.uint64pow10" .u64 Lib.pow10Tab from fun W hs => HTB.out W (hs.1.below HBB.out (fun k hk => (HTS.out.foot_lt hk).1)))
  obtain ⟨x0, x1, x2, hsz0⟩ := HBX.out W0 (TStep.of_below (Below.refl _ _) HT0.out.lt)
  have NM1 := Lib.hid (name_row K HK.out W0 (HTAB.out W0 HSTEP0.out))
  have hmx : Tryd.prog.follows .mixedOrders = true := by kernel_rfl
  clear k0 hbw0 hs0
  have tk := trivial
  have HRG := Lib.hid (show ∀ (W' : World) (x : Int), Below w.heap.size w W' → Calls Tryd.prog 31 #[.pointer (some ⟨T, 0, none⟩), .slice pl l.length cl, .int .i64 x] W' (RetB (.bool true) W') from fun W' x hb => ranged_any (HTS.out.on hb) (HROW.out W' (TStep.of_below hb HTS.out.lt)) (row_step HR.out HDIS.out (TStep.of_below hb HTS.out.lt)).2 x (by omega) (Nat.le_trans HBB.out hb.size) (fun W2 hb2 => HTB.out W2 ((hb.mono HBB.out).trans hb2)))
  go_wp2_with (first
    | (clear tk; go_at_call 31; refine (HRG.out _ V HB0.out).mono ?_; rintro e w1 ⟨rfl, hb1⟩; have HB1 := Lib.hid (HB0.out.trans (hb1.mono HB0.out.size)); clear hb1)
    | (go_at_call 31; refine (HRG.out _ (-1) HB1.out).mono ?_; rintro e w2 ⟨rfl, hb2⟩; have HB2 := Lib.hid (HB1.out.trans (hb2.mono HB1.out.size)); clear hb2))
  go_ret2
  exact step_stay HTS.out HR.out HDIS.out HB2.out

set_option maxRecDepth 100000 in
set_option maxHeartbeats 4000000 in
theorem step_while (h : TS w B T bm l) (hr : w.ownsRow BR 60 2 lv l.length (rowsC l)) (hdis : ∀ g, lv.ownBlock = some g → ¬ footW T w g) (K V : Int) (hK : inI K) (hV : inI V) (few : l.length + 1 < 8796093022207) (hB : B ≤ w.heap.size) (hBR : BR ≤ w.heap.size)
    (htab : ∀ W, Below B w W → Lib.TabIs Tryd.prog W "internal/strconv.uint64pow10" .u64 Lib.pow10Tab) :
    Calls Tryd.prog 29 #[.pointer (some ⟨T, 0, none⟩), lv, .agg #[.int .i64 8, .int .i64 K, .int .i64 V]] w (StepPost w B BR T bm l lv) := by
  have HTB := Lib.hid htab
  obtain ⟨pl, cl, rfl⟩ := row_slice hr
  have HTS := Lib.hid h
  have HR := Lib.hid hr
  have HDIS := Lib.hid hdis
  have HV := Lib.hid hV
  have HK := Lib.hid hK
  have HBB := Lib.hid hB
  have HBR := Lib.hid hBR
  have hTl := h.lt
  have HF0 := Lib.hid (show ∀ g, footW T w g → g < w.heap.size from fun g hg => (h.foot_lt hg).2)
  clear h hr hdis hV hK hB hBR htab
  go_enter Tryd.func29, Tryd.ntmps29
  go_upto_region 1 with fail
  obtain ⟨W0, eW, hbw0, hs0, k0⟩ : ∃ W0, w.alloc (.cells #[.int .i64 8, .int .i64 K, .int .i64 V] 63) = W0 ∧ Below w.heap.size w W0 ∧ W0.heap.size = w.heap.size + 1 ∧ W0.heap[w.heap.size]? = some (.cells #[.int .i64 8, .int .i64 K, .int .i64 V] 63) := ⟨_, rfl, (Below.refl _ _).alloc (Nat.le_refl _) _, by simp, heap_new _ _⟩
  rw [eW]
  clear eW
  have HB0 := Lib.hid hbw0
  have HS0 := Lib.hid hs0
  have K0 := Lib.hid k0
  have HT0 := Lib.hid (HTS.out.on hbw0)
  have HSTEP0 := Lib.hid (TStep.of_below hbw0 HTS.out.lt)
  have HBX := Lib.hid (show ∀ W, TStep T W0 W → W.cell? ⟨w.heap.size, 0, none⟩ = some (.int .i64 8) ∧ W.cell? ⟨w.heap.size, 1, none⟩ = some (.int .i64 K) ∧ W.cell? ⟨w.heap.size, 2, none⟩ = some (.int .i64 V) ∧ w.heap.size < W.heap.size from fun W hs => by
    have e := (hs.1.block w.heap.size (by have := HS0.out; omega) (fun hf => by
      have := HF0.out _ (foot_below HB0.out HTS.out.lt hf)
      omega)).trans K0.out
    exact ⟨by simp [World.cell?, e], by simp [World.cell?, e], by simp [World.cell?, e], (Array.getElem?_eq_some_iff.1 e).1⟩)
  have HROW := Lib.hid (show ∀ W, TStep T w W → W.ownsRow BR 60 2 (.slice pl l.length cl) l.length (rowsC l) from fun W hs => (row_step HR.out HDIS.out hs).1)
  have HTAB := Lib.hid (show ∀ W, TStep T w W → Lib.TabIs Tryd.prog W "internal/strconv.uint64pow10" .u64 Lib.pow10Tab from fun W hs => HTB.out W (hs.1.below HBB.out (fun k hk => (HTS.out.foot_lt hk).1)))
  obtain ⟨x0, x1, x2, hsz0⟩ := HBX.out W0 (TStep.of_below (Below.refl _ _) HT0.out.lt)
  have NM1 := Lib.hid (name_row K HK.out W0 (HTAB.out W0 HSTEP0.out))
  have hmx : Tryd.prog.follows .mixedOrders = true := by kernel_rfl
  clear k0 hbw0 hs0
  have HCH := Lib.hid (changed_any HT0.out (HROW.out W0 HSTEP0.out) (row_step HR.out HDIS.out HSTEP0.out).2 8 K V HV.out few (Nat.le_trans HBB.out HB0.out.size) (Nat.le_trans HBR.out HB0.out.size) (fun W hb => HTB.out W ((HB0.out.mono HBB.out).trans hb)))
  go_wp2_with (go_at_call 69; refine HCH.out.mono ?_; rintro e w1 ⟨v', l', rfl, ht1, hr1, hl1, hs1, hd1⟩; obtain ⟨p1, c1, rfl⟩ := row_slice hr1; have T1 := Lib.hid ht1; have R1 := Lib.hid hr1; have S1 := Lib.hid hs1; have D1 := Lib.hid hd1; have L1 := Lib.hid hl1; clear ht1 hr1 hl1 hs1 hd1)
  go_ret2
  refine ⟨_, l', rfl, T1.out, R1.out, Nat.le_succ_of_le L1.out, HSTEP0.out.trans S1.out, fun g hg => ⟨(D1.out g hg).1, (D1.out g hg).2.1, ?_⟩⟩
  rcases (D1.out g hg).2.2 with q | q
  · exact .inl q
  · exact .inr (Nat.le_trans HB0.out.size q)

set_option maxRecDepth 100000 in
set_option maxHeartbeats 4000000 in
theorem step_other (h : TS w B T bm l) (hr : w.ownsRow BR 60 2 lv l.length (rowsC l)) (hdis : ∀ g, lv.ownBlock = some g → ¬ footW T w g) (K V : Int) (kd : Int) (n1 : (kd == 1) = false) (n2 : (kd == 2) = false) (n3 : (kd == 3) = false) (n4 : (kd == 4) = false) (n5 : (kd == 5) = false) (n6 : (kd == 6) = false) (n7 : (kd == 7) = false) (n8 : (kd == 8) = false) (hK : inI K) (hV : inI V) (few : l.length + 1 < 8796093022207) (hB : B ≤ w.heap.size) (hBR : BR ≤ w.heap.size)
    (htab : ∀ W, Below B w W → Lib.TabIs Tryd.prog W "internal/strconv.uint64pow10" .u64 Lib.pow10Tab) :
    Calls Tryd.prog 29 #[.pointer (some ⟨T, 0, none⟩), lv, .agg #[.int .i64 kd, .int .i64 K, .int .i64 V]] w (StepPost w B BR T bm l lv) := by
  have HTB := Lib.hid htab
  obtain ⟨pl, cl, rfl⟩ := row_slice hr
  have HTS := Lib.hid h
  have HR := Lib.hid hr
  have HDIS := Lib.hid hdis
  have HV := Lib.hid hV
  have HK := Lib.hid hK
  have HBB := Lib.hid hB
  have HBR := Lib.hid hBR
  have hTl := h.lt
  have HF0 := Lib.hid (show ∀ g, footW T w g → g < w.heap.size from fun g hg => (h.foot_lt hg).2)
  clear h hr hdis hV hK hB hBR htab
  go_enter Tryd.func29, Tryd.ntmps29
  go_upto_region 1 with fail
  obtain ⟨W0, eW, hbw0, hs0, k0⟩ : ∃ W0, w.alloc (.cells #[.int .i64 kd, .int .i64 K, .int .i64 V] 63) = W0 ∧ Below w.heap.size w W0 ∧ W0.heap.size = w.heap.size + 1 ∧ W0.heap[w.heap.size]? = some (.cells #[.int .i64 kd, .int .i64 K, .int .i64 V] 63) := ⟨_, rfl, (Below.refl _ _).alloc (Nat.le_refl _) _, by simp, heap_new _ _⟩
  rw [eW]
  clear eW
  have HB0 := Lib.hid hbw0
  have HS0 := Lib.hid hs0
  have K0 := Lib.hid k0
  have HT0 := Lib.hid (HTS.out.on hbw0)
  have HSTEP0 := Lib.hid (TStep.of_below hbw0 HTS.out.lt)
  have HBX := Lib.hid (show ∀ W, TStep T W0 W → W.cell? ⟨w.heap.size, 0, none⟩ = some (.int .i64 kd) ∧ W.cell? ⟨w.heap.size, 1, none⟩ = some (.int .i64 K) ∧ W.cell? ⟨w.heap.size, 2, none⟩ = some (.int .i64 V) ∧ w.heap.size < W.heap.size from fun W hs => by
    have e := (hs.1.block w.heap.size (by have := HS0.out; omega) (fun hf => by
      have := HF0.out _ (foot_below HB0.out HTS.out.lt hf)
      omega)).trans K0.out
    exact ⟨by simp [World.cell?, e], by simp [World.cell?, e], by simp [World.cell?, e], (Array.getElem?_eq_some_iff.1 e).1⟩)
  have HROW := Lib.hid (show ∀ W, TStep T w W → W.ownsRow BR 60 2 (.slice pl l.length cl) l.length (rowsC l) from fun W hs => (row_step HR.out HDIS.out hs).1)
  have HTAB := Lib.hid (show ∀ W, TStep T w W → Lib.TabIs Tryd.prog W "internal/strconv.uint64pow10" .u64 Lib.pow10Tab from fun W hs => HTB.out W (hs.1.below HBB.out (fun k hk => (HTS.out.foot_lt hk).1)))
  obtain ⟨x0, x1, x2, hsz0⟩ := HBX.out W0 (TStep.of_below (Below.refl _ _) HT0.out.lt)
  have NM1 := Lib.hid (name_row K HK.out W0 (HTAB.out W0 HSTEP0.out))
  have hmx : Tryd.prog.follows .mixedOrders = true := by kernel_rfl
  clear k0 hbw0 hs0
  go_wp2_with fail
  go_ret2
  exact step_stay HTS.out HR.out HDIS.out HB0.out

set_option maxRecDepth 100000 in
set_option maxHeartbeats 4000000 in
theorem step_at_out (h : TS w B T bm l) (hr : w.ownsRow BR 60 2 lv l.length (rowsC l)) (hdis : ∀ g, lv.ownBlock = some g → ¬ footW T w g) (K V : Int) (hout : K < 0 ∨ (l.length : Int) ≤ K) (hK : inI K) (hV : inI V) (few : l.length + 1 < 8796093022207) (hB : B ≤ w.heap.size) (hBR : BR ≤ w.heap.size)
    (htab : ∀ W, Below B w W → Lib.TabIs Tryd.prog W "internal/strconv.uint64pow10" .u64 Lib.pow10Tab) :
    Calls Tryd.prog 29 #[.pointer (some ⟨T, 0, none⟩), lv, .agg #[.int .i64 5, .int .i64 K, .int .i64 V]] w (StepPost w B BR T bm l lv) := by
  have HTB := Lib.hid htab
  obtain ⟨pl, cl, rfl⟩ := row_slice hr
  have HTS := Lib.hid h
  have HR := Lib.hid hr
  have HDIS := Lib.hid hdis
  have HV := Lib.hid hV
  have HK := Lib.hid hK
  have HBB := Lib.hid hB
  have HBR := Lib.hid hBR
  have hTl := h.lt
  have HF0 := Lib.hid (show ∀ g, footW T w g → g < w.heap.size from fun g hg => (h.foot_lt hg).2)
  clear h hr hdis hV hK hB hBR htab
  go_enter Tryd.func29, Tryd.ntmps29
  go_upto_region 1 with fail
  obtain ⟨W0, eW, hbw0, hs0, k0⟩ : ∃ W0, w.alloc (.cells #[.int .i64 5, .int .i64 K, .int .i64 V] 63) = W0 ∧ Below w.heap.size w W0 ∧ W0.heap.size = w.heap.size + 1 ∧ W0.heap[w.heap.size]? = some (.cells #[.int .i64 5, .int .i64 K, .int .i64 V] 63) := ⟨_, rfl, (Below.refl _ _).alloc (Nat.le_refl _) _, by simp, heap_new _ _⟩
  rw [eW]
  clear eW
  have HB0 := Lib.hid hbw0
  have HS0 := Lib.hid hs0
  have K0 := Lib.hid k0
  have HT0 := Lib.hid (HTS.out.on hbw0)
  have HSTEP0 := Lib.hid (TStep.of_below hbw0 HTS.out.lt)
  have HBX := Lib.hid (show ∀ W, TStep T W0 W → W.cell? ⟨w.heap.size, 0, none⟩ = some (.int .i64 5) ∧ W.cell? ⟨w.heap.size, 1, none⟩ = some (.int .i64 K) ∧ W.cell? ⟨w.heap.size, 2, none⟩ = some (.int .i64 V) ∧ w.heap.size < W.heap.size from fun W hs => by
    have e := (hs.1.block w.heap.size (by have := HS0.out; omega) (fun hf => by
      have := HF0.out _ (foot_below HB0.out HTS.out.lt hf)
      omega)).trans K0.out
    exact ⟨by simp [World.cell?, e], by simp [World.cell?, e], by simp [World.cell?, e], (Array.getElem?_eq_some_iff.1 e).1⟩)
  have HROW := Lib.hid (show ∀ W, TStep T w W → W.ownsRow BR 60 2 (.slice pl l.length cl) l.length (rowsC l) from fun W hs => (row_step HR.out HDIS.out hs).1)
  have HTAB := Lib.hid (show ∀ W, TStep T w W → Lib.TabIs Tryd.prog W "internal/strconv.uint64pow10" .u64 Lib.pow10Tab from fun W hs => HTB.out W (hs.1.below HBB.out (fun k hk => (HTS.out.foot_lt hk).1)))
  obtain ⟨x0, x1, x2, hsz0⟩ := HBX.out W0 (TStep.of_below (Below.refl _ _) HT0.out.lt)
  have NM1 := Lib.hid (name_row K HK.out W0 (HTAB.out W0 HSTEP0.out))
  have hmx : Tryd.prog.follows .mixedOrders = true := by kernel_rfl
  clear k0 hbw0 hs0
  obtain ⟨kv, vv, D, ht⟩ := HT0.out.ex
  have HAT := Lib.hid (At_out ht K (by rw [show (ksR l).length = l.length by simp [ksR]]; exact hout))
  have HOUT := Lib.hid hout
  clear hout ht
  by_cases h0 : K < 0
  · have d0 : decide (K < 0) = true := decide_eq_true h0
    clear h0
    go_wp2_with (go_at_call 68; refine HAT.out.mono ?_; rintro e w1 ⟨rfl, hb1⟩; have HB1 := Lib.hid hb1; obtain ⟨y0, y1, y2, hsz1⟩ := HBX.out w1 (TStep.of_below hb1 HT0.out.lt); clear hb1)
    go_ret2
    exact step_stay HTS.out HR.out HDIS.out (HB0.out.trans (HB1.out.mono HB0.out.size))
  · have d0 : decide (K < 0) = false := decide_eq_false h0
    have d1 : decide ((l.length : Int) ≤ K) = true := decide_eq_true (by have := HOUT.out; omega)
    clear h0
    go_wp2_with (go_at_call 68; refine HAT.out.mono ?_; rintro e w1 ⟨rfl, hb1⟩; have HB1 := Lib.hid hb1; obtain ⟨y0, y1, y2, hsz1⟩ := HBX.out w1 (TStep.of_below hb1 HT0.out.lt); clear hb1)
    go_ret2
    exact step_stay HTS.out HR.out HDIS.out (HB0.out.trans (HB1.out.mono HB0.out.size))

set_option maxRecDepth 100000 in
set_option maxHeartbeats 4000000 in
theorem step_at_in (h : TS w B T bm l) (hr : w.ownsRow BR 60 2 lv l.length (rowsC l)) (hdis : ∀ g, lv.ownBlock = some g → ¬ footW T w g) (i : Nat) (V : Int) (rk rv : Int) (hi : l[i]? = some (rk, rv)) (hK : inI (i : Int)) (hV : inI V) (few : l.length + 1 < 8796093022207) (hB : B ≤ w.heap.size) (hBR : BR ≤ w.heap.size)
    (htab : ∀ W, Below B w W → Lib.TabIs Tryd.prog W "internal/strconv.uint64pow10" .u64 Lib.pow10Tab) :
    Calls Tryd.prog 29 #[.pointer (some ⟨T, 0, none⟩), lv, .agg #[.int .i64 5, .int .i64 (i : Int), .int .i64 V]] w (StepPost w B BR T bm l lv) := by
  have HTB := Lib.hid htab
  obtain ⟨pl, cl, rfl⟩ := row_slice hr
  have HTS := Lib.hid h
  have HR := Lib.hid hr
  have HDIS := Lib.hid hdis
  have HV := Lib.hid hV
  have HK := Lib.hid hK
  have HBB := Lib.hid hB
  have HBR := Lib.hid hBR
  have hTl := h.lt
  have HF0 := Lib.hid (show ∀ g, footW T w g → g < w.heap.size from fun g hg => (h.foot_lt hg).2)
  clear h hr hdis hV hK hB hBR htab
  go_enter Tryd.func29, Tryd.ntmps29
  go_upto_region 1 with fail
  obtain ⟨W0, eW, hbw0, hs0, k0⟩ : ∃ W0, w.alloc (.cells #[.int .i64 5, .int .i64 (i : Int), .int .i64 V] 63) = W0 ∧ Below w.heap.size w W0 ∧ W0.heap.size = w.heap.size + 1 ∧ W0.heap[w.heap.size]? = some (.cells #[.int .i64 5, .int .i64 (i : Int), .int .i64 V] 63) := ⟨_, rfl, (Below.refl _ _).alloc (Nat.le_refl _) _, by simp, heap_new _ _⟩
  rw [eW]
  clear eW
  have HB0 := Lib.hid hbw0
  have HS0 := Lib.hid hs0
  have K0 := Lib.hid k0
  have HT0 := Lib.hid (HTS.out.on hbw0)
  have HSTEP0 := Lib.hid (TStep.of_below hbw0 HTS.out.lt)
  have HBX := Lib.hid (show ∀ W, TStep T W0 W → W.cell? ⟨w.heap.size, 0, none⟩ = some (.int .i64 5) ∧ W.cell? ⟨w.heap.size, 1, none⟩ = some (.int .i64 (i : Int)) ∧ W.cell? ⟨w.heap.size, 2, none⟩ = some (.int .i64 V) ∧ w.heap.size < W.heap.size from fun W hs => by
    have e := (hs.1.block w.heap.size (by have := HS0.out; omega) (fun hf => by
      have := HF0.out _ (foot_below HB0.out HTS.out.lt hf)
      omega)).trans K0.out
    exact ⟨by simp [World.cell?, e], by simp [World.cell?, e], by simp [World.cell?, e], (Array.getElem?_eq_some_iff.1 e).1⟩)
  have HROW := Lib.hid (show ∀ W, TStep T w W → W.ownsRow BR 60 2 (.slice pl l.length cl) l.length (rowsC l) from fun W hs => (row_step HR.out HDIS.out hs).1)
  have HTAB := Lib.hid (show ∀ W, TStep T w W → Lib.TabIs Tryd.prog W "internal/strconv.uint64pow10" .u64 Lib.pow10Tab from fun W hs => HTB.out W (hs.1.below HBB.out (fun k hk => (HTS.out.foot_lt hk).1)))
  obtain ⟨x0, x1, x2, hsz0⟩ := HBX.out W0 (TStep.of_below (Below.refl _ _) HT0.out.lt)
  have NM1 := Lib.hid (name_row (i : Int) HK.out W0 (HTAB.out W0 HSTEP0.out))
  have hmx : Tryd.prog.follows .mixedOrders = true := by kernel_rfl
  clear k0 hbw0 hs0
  have hlt := (List.getElem?_eq_some_iff.1 hi).1
  obtain ⟨kv, vv, D, ht⟩ := HT0.out.ex
  have HAT := Lib.hid (At_in ht (i := i) (s := nmB rk) (x := rv) (by simp [ksR, hi]) (by simp [vsR, hi]))
  obtain ⟨p', c', e1, hcs⟩ := rows_cells2 (HROW.out W0 HSTEP0.out)
  cases e1
  obtain ⟨g, rfl, hg, q0, q1⟩ := hcs _ _ hi
  have hrk := Lib.hid (HTS.out.ok _ (List.mem_of_getElem? hi)).1
  have d0 : decide ((i : Int) < 0) = false := decide_eq_false (by omega)
  have d1 : decide ((l.length : Int) ≤ (i : Int)) = false := decide_eq_false (by omega)
  have d2 : decide (l.length ≤ i) = false := decide_eq_false (by omega)
  have Q0 := Lib.hid q0
  have Q1 := Lib.hid q1
  clear hi ht hcs q0 q1
  go_upto_region 20 with (go_at_call 68; refine HAT.out.mono ?_; rintro e w1 ⟨rfl, hb1⟩; have HB1 := Lib.hid hb1; obtain ⟨y0, y1, y2, hsz1⟩ := HBX.out w1 (TStep.of_below hb1 HT0.out.lt); have q0 := (HB1.out.cell (p := ⟨g, i * 2, none⟩) hg).trans Q0.out; have q1 := (HB1.out.cell (p := ⟨g, i * 2 + 1, none⟩) hg).trans Q1.out; clear hb1)
  have hg1 : g < w1.heap.size := Nat.lt_of_lt_of_le hg HB1.out.size
  have dz := beq_txt (nmB rk).toList
  have kc := cell_cls w1
  refine wp_region_plan_below 25 [(0, [0, 1, 2, 3, 4, 5, 6, 7, 8, 9]), (1, [10]), (0, [11, 12, 13, 23, 14, 15, 16, 17, 18, 19, 20, 21, 22, 24])] hmx (by kernel_rfl) (fun _ _ _ _ h => h) ?_
  simp only [wpSegs, pickOps, List.getElem?_toArray, List.getElem?_cons_zero, List.getElem?_cons_succ]
  iterate 10 (go_big_quiet_step (fail))
  refine wpQuiet_nil ?_
  refine wpListC_want (by rfl) (fun KK hK => ?_)
  go_step
  have hbd := HB1.out.trans ((Below.drew (Below.refl w1.heap.size w1)).mono HB1.out.size)
  refine (name_row rk hrk.out _ (HTAB.out _ (HSTEP0.out.trans (TStep.of_below hbd HT0.out.lt)))).mono ?_
  rintro e w2 ⟨rfl, hb2⟩
  have hbw2 := (Below.drew (Below.refl w1.heap.size w1)).trans hb2
  have HBW2 := Lib.hid hbw2
  refine hK _ _ (cls_of_below hbw2) ?_
  clear hK KK hbd hb2 hbw2
  refine wpListC_nil ?_
  iterate 14 (go_big_quiet_step (fail))
  refine wpQuiet_nil ?_
  clear kc
  go_wp2_with fail
  go_ret2
  exact step_stay HTS.out HR.out HDIS.out (HB0.out.trans ((HB1.out.trans (HBW2.out.mono HB1.out.size)).mono HB0.out.size))

set_option maxRecDepth 100000 in
set_option maxHeartbeats 4000000 in
theorem step_any (h : TS w B T bm l) (hr : w.ownsRow BR 60 2 lv l.length (rowsC l)) (hdis : ∀ g, lv.ownBlock = some g → ¬ footW T w g) (kd K V : Int) (hK : inI K) (hV : inI V) (few : l.length + 1 < 8796093022207) (hB : B ≤ w.heap.size) (hBR : BR ≤ w.heap.size)
    (htab : ∀ W, Below B w W → Lib.TabIs Tryd.prog W "internal/strconv.uint64pow10" .u64 Lib.pow10Tab) :
    Calls Tryd.prog 29 #[.pointer (some ⟨T, 0, none⟩), lv, .agg #[.int .i64 kd, .int .i64 K, .int .i64 V]] w (StepPost w B BR T bm l lv) := by
  by_cases h1 : kd = 1
  · subst h1; exact step_put h hr hdis K V hK hV few hB hBR htab
  by_cases h2 : kd = 2
  · subst h2; exact step_get h hr hdis K V hK hV few hB hBR htab
  by_cases h3 : kd = 3
  · subst h3; exact step_drop h hr hdis K V hK hV few hB hBR htab
  by_cases h4 : kd = 4
  · subst h4; exact step_len h hr hdis K V hK hV few hB hBR htab
  by_cases h5 : kd = 5
  · subst h5
    by_cases hin : K < 0 ∨ (l.length : Int) ≤ K
    · exact step_at_out h hr hdis K V hin hK hV few hB hBR htab
    · obtain ⟨i, rfl⟩ : ∃ i : Nat, K = i := ⟨K.toNat, by omega⟩
      obtain ⟨⟨rk, rv⟩, hi⟩ : ∃ r, l[i]? = some r := ⟨_, List.getElem?_eq_getElem (by omega)⟩
      exact step_at_in h hr hdis i V rk rv hi hK hV few hB hBR htab
  by_cases h6 : kd = 6
  · subst h6; exact step_keys h hr hdis K V hK hV few hB hBR htab
  by_cases h7 : kd = 7
  · subst h7; exact step_all h hr hdis K V hK hV few hB hBR htab
  by_cases h8 : kd = 8
  · subst h8; exact step_while h hr hdis K V hK hV few hB hBR htab
  exact step_other h hr hdis K V kd (beq_eq_false_iff_ne.2 h1) (beq_eq_false_iff_ne.2 h2) (beq_eq_false_iff_ne.2 h3) (beq_eq_false_iff_ne.2 h4) (beq_eq_false_iff_ne.2 h5) (beq_eq_false_iff_ne.2 h6) (beq_eq_false_iff_ne.2 h7) (beq_eq_false_iff_ne.2 h8) hK hV few hB hBR htab
end
end Go.Proofs.YtnmnmkdmnohbmaaDoor
