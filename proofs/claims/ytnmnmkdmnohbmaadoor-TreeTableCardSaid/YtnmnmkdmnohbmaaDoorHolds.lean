/- Helper text: the walk over holds of the statements: a table's keys and entries are the list's. Conditions: none. -/
import Derived.Test.YtnmnmkdmnohbmaaDoorTabRow
namespace Go.Proofs.YtnmnmkdmnohbmaaDoor
open Go Go.RowKit Go.Maps
attribute [local go_sem] run_store_float undef

theorem name_row (k : Int) (hk : inI k) (w : World) (htab : Lib.TabIs Tryd.prog w "internal/strconv.uint64pow10" .u64 Lib.pow10Tab) :
    Calls Tryd.prog 62 #[.int .i64 k] w (RetB (.string (nmB k)) w) := name_any k hk w htab
theorem beq_txt (l : List UInt8) : (l == l) = true := by simp

set_option maxRecDepth 100000 in
set_option maxHeartbeats 4000000 in
theorem holds_any {w : World} {B T bm : Nat} {l : List (Int × Int)} (h : TS w B T bm l) {B2 : Nat} {lv : Value} (hr : w.ownsRow B2 60 2 lv l.length (rowsC l)) (htab : Lib.TabIs Tryd.prog w "internal/strconv.uint64pow10" .u64 Lib.pow10Tab) :
    Calls Tryd.prog 30 #[.pointer (some ⟨T, 0, none⟩), lv] w (RetB (.bool true) w) := by
  have HTB := Lib.hid (Lib.tabBelow_of_tabIs htab)
  obtain ⟨kv, vv, D, ht⟩ := h.ex
  have lk : (ksR l).length = l.length := by simp [ksR]
  have hlen := Len_any ht
  rw [lk] at hlen
  have HLEN := Lib.hid hlen
  have HT := Lib.hid (show ∀ w', Below w.heap.size w w' → IsTab w' B T bm kv vv D (ksR l) (vsR l) from fun w' hb => ht.on hb)
  have HKEYS := Lib.hid (show Calls Tryd.prog 70 #[.pointer (some ⟨T, 0, none⟩)] w (fun e w' => ∃ v, e = .returned v ∧ w'.ownsRow w.heap.size 9 1 v l.length ((ksR l).map Value.string) ∧ Below w.heap.size w w') from by have := Keys_any ht; rwa [lk] at this)
  have few := ht.few
  rw [lk] at few
  have HOK := Lib.hid h.ok
  obtain ⟨pl, cl, rfl, hcs⟩ := rows_cells2 hr
  have HC := Lib.hid hcs
  have LK := Lib.hid lk
  unfold RetS at HLEN
  clear h ht hlen lk hr hcs htab
  go_enter Tryd.func30, Tryd.ntmps30
  go_upto_region 7 with (first
    | (go_at_call 28; refine HLEN.out.mono ?_; rintro e w1 ⟨rfl, rfl⟩)
    | (go_at_call 70; refine HKEYS.out.mono ?_; rintro e w1 ⟨kv5, rfl, hk5, hb1⟩; obtain ⟨p5, c5, rfl⟩ := row_slice hk5; have HK5 := Lib.hid hk5; have HB1 := Lib.hid hb1; clear hk5 hb1))
  have HKY : Hid (∀ (m : Nat) (s : ByteArray), (ksR l)[m]? = some s → ∃ (g : Nat) (cur : Array Value), p5 = some ⟨g, 0, none⟩ ∧ w.heap.size ≤ g ∧ w1.heap[g]? = some (.cells cur 9 (0, 0)) ∧ cur[m]? = some (Value.string s)) := Lib.hid (fun m s hm => by
    have hml := (List.getElem?_eq_some_iff.1 hm).1
    rw [LK.out] at hml
    rcases HK5.out.2 with ⟨_, h0⟩ | ⟨g, cap, cur, hv, hb, hh, hn', hc, hs, ht⟩
    · omega
    · obtain ⟨rfl, _⟩ : p5 = some ⟨g, 0, none⟩ ∧ True := by cases hv; exact ⟨rfl, trivial⟩
      refine ⟨g, cur, rfl, hb, hh, ?_⟩
      have hu : ((ksR l).map Value.string)[m]? = some (.string s) := by rw [List.getElem?_map, hm]; rfl
      rw [← ht, List.getElem?_take] at hu
      split at hu
      · simpa using hu
      · cases hu)
  clear HK5 HLEN HKEYS
  go_loopw [6] (fun ii wr => ∃ j : Nat, j ≤ l.length ∧ ii = .int .i64 j ∧ Hid (Below w.heap.size w wr) ∧ Hid (∀ (m : Nat) (s : ByteArray), j ≤ m → (ksR l)[m]? = some s → ∃ (g : Nat) (cur : Array Value), p5 = some ⟨g, 0, none⟩ ∧ w.heap.size ≤ g ∧ wr.heap[g]? = some (.cells cur 9 (0, 0)) ∧ cur[m]? = some (Value.string s))) (fun ii _ => l.length - (intOf ii).toNat)
  case atStart => exact ⟨0, by omega, rfl, HB1, Lib.hid (fun m s _ hm => HKY.out m s hm)⟩
  case round =>
    obtain ⟨j, hj, rfl, hb, hky⟩ := hrel
    by_cases hlt : j < l.length
    · obtain ⟨⟨rk, rv⟩, hrj⟩ : ∃ r, l[j]? = some r := ⟨_, List.getElem?_eq_getElem hlt⟩
      have hks : (ksR l)[j]? = some (nmB rk) := by simp [ksR, hrj]
      have hvs : (vsR l)[j]? = some rv := by simp [vsR, hrj]
      obtain ⟨g, rfl, hg, q0, q1⟩ := HC.out j _ hrj
      obtain ⟨g5, cur5, rfl, hg5, hh5, k0c⟩ := hky.out j _ (Nat.le_refl _) hks
      have hg5l : g5 < wr.heap.size := (Array.getElem?_eq_some_iff.1 hh5).1
      have HH5 := Lib.hid hh5
      have k0 : wr.cell? ⟨g5, j, none⟩ = some (.string (nmB rk)) := by simp [World.cell?, hh5, k0c]
      have kf : wr.frozen? ⟨g5, j, none⟩ = false := by simp [World.frozen?, hh5]
      clear hh5 k0c
      have HAT := Lib.hid (At_in (HT.out _ hb.out) hks hvs)
      have HNM := Lib.hid (show ∀ w', Below w.heap.size w w' → Calls Tryd.prog 62 #[.int .i64 rk] w' (RetB (.string (nmB rk)) w') from fun w' hw => name_row rk (HOK.out _ (List.mem_of_getElem? hrj)).1 w' (HTB.out w' hw))
      have K0 := Lib.hid k0
      have KF := Lib.hid kf
      have Q0 := Lib.hid q0
      have Q1 := Lib.hid q1
      have dz := beq_txt (nmB rk).toList
      generalize hnm : nmB rk = nm at *
      have HNMB := Lib.hid hnm
      clear hrj hks hvs q0 q1 k0 kf hnm
      go_upto_region 12 with (first
        | (go_at_call 68; refine HAT.out.mono ?_; rintro e w2 ⟨rfl, hb2⟩; have HB2 := Lib.hid (hb.out.trans (hb2.mono hb.out.size)); have HB2w := Lib.hid hb2; have q0 := (HB2.out.cell (p := ⟨g, j * 2, none⟩) hg).trans Q0.out; have q1 := (HB2.out.cell (p := ⟨g, j * 2 + 1, none⟩) hg).trans Q1.out; clear hb2)
        | (go_at_call 62; refine (HNM.out _ HB2.out).mono ?_; rintro e w3 ⟨rfl, hb3⟩; have HB3 := Lib.hid (HB2.out.trans (hb3.mono HB2.out.size)); have HB3w := Lib.hid (HB2w.out.trans (hb3.mono HB2w.out.size)); have q0' := (HB3.out.cell (p := ⟨g, j * 2, none⟩) hg).trans Q0.out; have q1' := (HB3.out.cell (p := ⟨g, j * 2 + 1, none⟩) hg).trans Q1.out; have k0 := (HB3w.out.cell (p := ⟨g5, j, none⟩) hg5l).trans K0.out; have kf3 := (World.frozen?_of_block (a := ⟨g5, j, none⟩) (HB3w.out.block g5 hg5l)).trans KF.out; clear hb3))
      have HH6 := Lib.hid (heap_setCell_same (j := j) ((HB3w.out.block g5 hg5l).trans HH5.out) (Value.string ⟨#[119, 114, 105, 116, 116, 101, 110, 32, 111, 118, 101, 114]⟩))
      have HB4 := Lib.hid (HB3.out.setCell (p := ⟨g5, j, none⟩) hg5 (Value.string ⟨#[119, 114, 105, 116, 116, 101, 110, 32, 111, 118, 101, 114]⟩))
      go_wp2_with fail
      go_roundw
      case rel =>
        refine ⟨j + 1, by omega, by go_num, HB4, Lib.hid (fun m s hm hs => ?_)⟩
        obtain ⟨g6, cur6, e6, _, hh6, hc6⟩ := hky.out m s (by omega) hs
        cases e6
        have hh6' := HH5.out
        rw [hh6] at hh6'
        cases hh6'
        refine ⟨g5, _, rfl, hg5, HH6.out, ?_⟩
        rw [Array.getElem?_setIfInBounds_ne (by omega)]
        exact hc6
      case measure => simp [intOf]; omega
    · obtain rfl : j = l.length := by omega
      have HAT := Lib.hid (At_out (HT.out _ hb.out) (l.length : Int) (.inr (by rw [LK.out]; exact Int.le_refl _)))
      clear hlt hj hky
      go_wp2_with (go_at_call 68; refine HAT.out.mono ?_; rintro e w2 ⟨rfl, hb2⟩; have HB2 := Lib.hid (hb.out.trans (hb2.mono hb.out.size)); clear hb2)
      go_ret
      exact ⟨rfl, HB2.out⟩
end Go.Proofs.YtnmnmkdmnohbmaaDoor
