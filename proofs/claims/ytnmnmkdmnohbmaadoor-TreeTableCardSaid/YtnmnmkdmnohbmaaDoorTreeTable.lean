/- Helper text: the walk over TreeTable: two tables of texts, used in turns, beside two lists. Conditions: none. -/
import Derived.Test.YtnmnmkdmnohbmaaDoorTabStep
import Derived.Test.YtnmnmkdmnohbmaaDoorTwoTab
import Derived.Test.YtnmnmkdmnohbmaaDoorOpenO
import Derived.LaidEqlPtr
namespace Go.Proofs.YtnmnmkdmnohbmaaDoor
open Go Go.RowKit Go.Maps
attribute [local go_sem] undef

theorem k1B : (⟨#[107, 45, 49]⟩ : ByteArray) = nmB (-1) := by decide +kernel
theorem k2B : (⟨#[107, 45, 50]⟩ : ByteArray) = nmB (-2) := by decide +kernel
theorem ptr_other {w : World} {B X bx Y b2 : Nat} {l m : List (Int × Int)} (h : PairT w B X bx Y b2 l m) :
    (binOp BinOp.eql 55 (.pointer (some ⟨X, 0, none⟩)) (.pointer (some ⟨Y, 0, none⟩))).run Tryd.prog w = .ok (.bool false) w := by
  obtain ⟨_, _, _, hx⟩ := h.tx.ex
  obtain ⟨_, _, _, hy⟩ := h.ty.ex
  obtain ⟨j, hj, hs⟩ : ∃ j, Tryd.prog.info? 104 = some j ∧ j.size = 3 := by
    have : (Tryd.prog.info? 104).map (·.size) = some 3 := by kernel_rfl
    obtain ⟨j, hj, hs⟩ := Option.map_eq_some_iff.1 this
    exact ⟨j, hj, hs⟩
  refine run_eql_ptr_other w Tryd.underlying55 hj (by omega) (fun e => ?_) hx.block hy.block
  have e1 : X = Y := by cases e; rfl
  subst e1
  exact h.d X ((hx.foot X).2 (.inl rfl)) ((hx.foot X).2 (.inl rfl))
theorem row_one {B : Nat} (w : World) (hB : B ≤ w.heap.size) (a b : Int) : (w.alloc (.cells #[.int .i64 a, .int .i64 b] 60)).ownsRow B 60 2 (.slice (some ⟨w.heap.size, 0, none⟩) 1 1) 1 (rowsC [(a, b)]) := by
  refine ⟨by simp [rowsC], .inr ⟨w.heap.size, 1, #[.int .i64 a, .int .i64 b], rfl, hB, heap_new _ _, by omega, by decide, by simp, by simp [rowsC]⟩⟩
theorem ts_nil {w : World} {B T bm : Nat} {kv vv : Value} {D : DataW Unit} (h : IsTab w B T bm kv vv D [] []) : TS w B T bm [] := ⟨⟨kv, vv, D, h⟩, by simp, by simp⟩

set_option maxRecDepth 100000 in
set_option maxHeartbeats 4000000 in
theorem TreeTable_walk (W : World) (pp : Option Addr) (cap : Nat) (ops : List (Int × Int × Int)) (oa : OpsAt W.heap.size W pp ops) (io : ∀ s ∈ ops, inI s.2.1 ∧ inI s.2.2) (sl : ops.length < 8000000000000) (htab : Lib.TabIs Tryd.prog W "internal/strconv.uint64pow10" .u64 Lib.pow10Tab) :
    Calls Tryd.prog 5 #[.slice pp ops.length cap] W (RetB (.bool true) W) := by
  have HTB := Lib.hid (Lib.tabBelow_of_tabIs htab)
  have HOA := Lib.hid oa
  have HIO := Lib.hid io
  clear oa io htab
  have tk := trivial
  have tk1 := trivial
  have tk2 := trivial
  have tk3 := trivial
  go_enter Tryd.func5, Tryd.ntmps5
  go_upto_region 3 with (first
    | (clear tk; go_at_call 26; refine (new_any _).mono ?_; rintro e w1 ⟨rfl, ht1, hb1⟩; have HT1 := Lib.hid ht1; have HB1 := Lib.hid hb1; clear ht1 hb1)
    | (go_at_call 26; refine (new_any _).mono ?_; rintro e w2 ⟨rfl, ht2, hb2⟩; have HT2 := Lib.hid ht2; have HB2 := Lib.hid hb2; clear ht2 hb2))
  have HP := Lib.hid (two_new (ts_nil HT1.out) (ts_nil HT2.out) HB2.out HB1.out.size (Nat.le_refl _))
  have HBW := Lib.hid (HB1.out.trans (HB2.out.mono HB1.out.size))
  have hpo := ptr_other HP.out
  clear HT1 HT2 HB1 HB2
  have HPUT1 := Lib.hid (show Calls Tryd.prog 27 #[.pointer (some ⟨W.heap.size + 1, 0, none⟩), .string ⟨#[107, 45, 49]⟩, .int .i64 5] w2 (fun e w' => e = .returned (.bool true) ∧ TS w' W.heap.size (W.heap.size + 1) W.heap.size [(-1, 5)] ∧ TStep (W.heap.size + 1) w2 w') from by
    have := Put_row HP.out.tx (-1) 5 (by unfold inI; omega) (by unfold inI; omega) (by simp) HBW.out.size
    rw [← k1B] at this
    exact this)
  have HPUT2 := Lib.hid (show ∀ w', PairT w' W.heap.size (W.heap.size + 1) W.heap.size (w1.heap.size + 1) w1.heap.size [(-1, 5)] [] → W.heap.size ≤ w'.heap.size → Calls Tryd.prog 27 #[.pointer (some ⟨w1.heap.size + 1, 0, none⟩), .string ⟨#[107, 45, 50]⟩, .int .i64 6] w' (fun e w'' => e = .returned (.bool true) ∧ TS w'' W.heap.size (w1.heap.size + 1) w1.heap.size [(-2, 6)] ∧ TStep (w1.heap.size + 1) w' w'') from fun w' hp hs => by
    have := Put_row hp.ty (-2) 6 (by unfold inI; omega) (by unfold inI; omega) (by simp) hs
    rw [← k2B] at this
    exact this)
  go_upto_region 7 with (first
    | (clear tk1; go_at_call 27; refine HPUT1.out.mono ?_; rintro e w3 ⟨rfl, ht3, hs3⟩; have P3 := Lib.hid (HP.out.step hs3 ht3); have B3 := Lib.hid (HBW.out.trans (HP.out.tx.step_below hs3 HBW.out.size)); clear ht3 hs3)
    | (clear tk2; go_at_call 28; refine (Len_row P3.out.ty).mono ?_; rintro e w4 ⟨rfl, rfl⟩)
    | (clear tk3; go_at_call 28; refine (Len_row P3.out.tx).mono ?_; rintro e w5 ⟨rfl, rfl⟩)
    | (go_at_call 27; refine (HPUT2.out _ P3.out B3.out.size).mono ?_; rintro e w6 ⟨rfl, ht6, hs6⟩; have P6 := Lib.hid (P3.out.swap.step hs6 ht6).swap; have B6 := Lib.hid (B3.out.trans (P3.out.ty.step_below hs6 B3.out.size)); clear ht6 hs6))
  go_upto_region 10 with fail
  obtain ⟨W8, eW, hbw8, r5, r6⟩ : ∃ W8, (w6.alloc (.cells #[.int .i64 (-1), .int .i64 5] 60)).alloc (.cells #[.int .i64 (-2), .int .i64 6] 60) = W8 ∧ Below w6.heap.size w6 W8 ∧
      W8.ownsRow w6.heap.size 60 2 (.slice (some ⟨w6.heap.size, 0, none⟩) 1 1) 1 (rowsC [(-1, 5)]) ∧ W8.ownsRow w6.heap.size 60 2 (.slice (some ⟨w6.heap.size + 1, 0, none⟩) 1 1) 1 (rowsC [(-2, 6)]) := by
    refine ⟨_, rfl, ((Below.refl _ _).alloc (Nat.le_refl _) _).alloc (by simp) _, (row_one w6 (Nat.le_refl _) _ _).alloc _, ?_⟩
    have := row_one (w6.alloc (.cells #[.int .i64 (-1), .int .i64 5] 60)) (B := w6.heap.size) (by simp) (-2) 6
    rwa [World.size_alloc] at this
  rw [eW]
  clear eW
  have HT8 := Lib.hid (P6.out.two hbw8 r5 r6 B6.out.size)
  have HB8 := Lib.hid (B6.out.trans (hbw8.mono B6.out.size))
  clear hbw8 r5 r6 hpo P3 B3 P6 B6 HPUT1 HPUT2 HP HBW
  generalize W.heap.size + 1 = X at *
  generalize w1.heap.size + 1 = Y at *
  generalize w1.heap.size = b2 at *
  generalize (some ⟨w6.heap.size, 0, none⟩ : Option Addr) = p5 at *
  generalize (some ⟨w6.heap.size + 1, 0, none⟩ : Option Addr) = p6 at *
  go_loopw [3, 4, 5, 6, 7] (fun xv yv lv mv ii wr => ∃ (X bx Y b2 : Nat) (l m : List (Int × Int)) (j : Nat), xv = .pointer (some ⟨X, 0, none⟩) ∧ yv = .pointer (some ⟨Y, 0, none⟩) ∧ ii = .int .i64 j ∧ j ≤ ops.length ∧ Hid (TwoT wr W.heap.size W.heap.size X bx Y b2 l m lv mv) ∧ Hid (Below W.heap.size W wr) ∧ Hid (l.length ≤ j + 1 ∧ m.length ≤ j + 1)) (fun _ _ _ _ ii _ => ops.length - (intOf ii).toNat)
  case atStart => exact ⟨X, _, Y, _, _, _, 0, rfl, rfl, rfl, by omega, HT8, HB8, Lib.hid ⟨by simp, by simp⟩⟩
  case round =>
    obtain ⟨X, bx, Y, b2, l, m, j, rfl, rfl, rfl, hj, htt, hb, hlen⟩ := hrel
    obtain ⟨pl, cl, rfl⟩ := row_slice htt.out.rl
    obtain ⟨pm, cm, rfl⟩ := row_slice htt.out.rm
    have HTW := Lib.hid (show ∀ W2, Below W.heap.size wr W2 → Lib.TabIs Tryd.prog W2 "internal/strconv.uint64pow10" .u64 Lib.pow10Tab from fun W2 hb2 => HTB.out W2 (hb.out.trans hb2))
    by_cases hlt : j < ops.length
    · obtain ⟨⟨kd, K, V⟩, hop⟩ : ∃ s, ops[j]? = some s := ⟨_, List.getElem?_eq_getElem hlt⟩
      have hio := Lib.hid (HIO.out _ (List.mem_of_getElem? hop))
      obtain ⟨b, o, rfl, hbl, q0, q1, q2⟩ : ∃ b o, pp = some ⟨b, o, none⟩ ∧ b < wr.heap.size ∧ wr.cell? ⟨b, o + j * 3, none⟩ = some (.int .i64 kd) ∧ wr.cell? ⟨b, o + j * 3 + 1, none⟩ = some (.int .i64 K) ∧ wr.cell? ⟨b, o + j * 3 + 2, none⟩ = some (.int .i64 V) := by
        rcases HOA.out with h0 | ⟨b, o, e, hB, hc⟩
        · rw [h0] at hlt; simp at hlt
        · obtain ⟨a0, a1, a2⟩ := hc j _ hop
          exact ⟨b, o, e, Nat.lt_of_lt_of_le hB hb.out.size, (hb.out.cell (p := ⟨b, o + j * 3, none⟩) hB).trans a0, (hb.out.cell (p := ⟨b, o + j * 3 + 1, none⟩) hB).trans a1, (hb.out.cell (p := ⟨b, o + j * 3 + 2, none⟩) hB).trans a2⟩
      have HCALL := Lib.hid (step_any htt.out.tx htt.out.rl (fun g hg => (htt.out.dl g hg).1) kd K V hio.out.1 hio.out.2 (by have := hlen.out; omega) hb.out.size hb.out.size HTW.out)
      clear hop
      by_cases h9 : kd = 9
      · have d9 : (kd == 9) = true := by simp [h9]
        clear h9
        go_wp2_with fail
        go_roundw
        case rel => exact ⟨Y, b2, X, bx, m, l, j + 1, rfl, rfl, by go_num, by omega, Lib.hid htt.out.swap, hb, Lib.hid ⟨by have := hlen.out; omega, by have := hlen.out; omega⟩⟩
        case measure => simp [intOf]; omega
      · have d9 : (kd == 9) = false := by simpa using h9
        clear h9
        go_wp2_with (go_at_call 29; refine HCALL.out.mono ?_; rintro e w9 ⟨v', l', rfl, ht9, hr9, hl9, hs9, hd9⟩; have T9 := Lib.hid ht9; have R9 := Lib.hid hr9; have L9 := Lib.hid hl9; have S9 := Lib.hid hs9; have D9 := Lib.hid hd9; clear ht9 hr9 hl9 hs9 hd9)
        go_roundw
        case rel => exact ⟨X, bx, Y, b2, l', m, j + 1, rfl, rfl, by go_num, by omega, Lib.hid (htt.out.step S9.out T9.out R9.out D9.out), Lib.hid (hb.out.trans (htt.out.tx.step_below S9.out hb.out.size)), Lib.hid ⟨by have := hlen.out; have := L9.out; omega, by have := hlen.out; omega⟩⟩
        case measure => simp [intOf]; omega
    · obtain rfl : j = ops.length := by omega
      have tk4 := trivial
      have few : l.length < 8796093022207 := by have := hlen.out; omega
      have HFEW := Lib.hid few
      clear hlt hj few
      go_wp2_with (first
        | (clear tk4; go_at_call 30; refine (holds_any htt.out.tx htt.out.rl (HTW.out wr (Below.refl _ _))).mono ?_; rintro e w9 ⟨rfl, hb9⟩; have HB9 := Lib.hid hb9; have HT9 := Lib.hid (htt.out.on hb9); clear hb9)
        | (go_at_call 30; refine (holds_any HT9.out.ty HT9.out.rm (HTW.out w9 (HB9.out.mono hb.out.size))).mono ?_; rintro e w10 ⟨rfl, hb10⟩; have HB10 := Lib.hid (HB9.out.trans (hb10.mono HB9.out.size)); have HT10 := Lib.hid (HT9.out.on hb10); clear hb10)
        | (go_at_call 31; refine (ranged_any HT10.out.tx HT10.out.rl (fun g hg => (HT10.out.dl g hg).1) (-1) HFEW.out (Nat.le_trans hb.out.size HB10.out.size) (fun W2 hb2 => HTW.out W2 ((HB10.out.mono hb.out.size).trans hb2))).mono ?_; rintro e w11 ⟨rfl, hb11⟩; have HB11 := Lib.hid (HB10.out.trans (hb11.mono HB10.out.size)); clear hb11))
      go_ret
      exact ⟨rfl, hb.out.trans (HB11.out.mono hb.out.size)⟩
end Go.Proofs.YtnmnmkdmnohbmaaDoor
