/- The reference's text of a path. Conditions: none. -/
import Derived.Test.YtnmnmkdmnohbmaaDoorPathRd
namespace Go.Proofs.YtnmnmkdmnohbmaaDoor
open Go.RowKit
attribute [local go_sem] St.cells

theorem guarded_any (s : ByteArray) (w : World) : Calls Tryd.prog 116 #[.string s] w (RetS (.bool (markedL s.data.toList)) w) := by
  by_cases h0 : s.size = 0
  · obtain rfl := ba_nil h0
    go_enter Tryd.func116, Tryd.ntmps116
    go_wp2
    all_goals go_ret
    all_goals exact ⟨ret_eq (by first | rfl | (exfalso; simp_all)), rfl⟩
  · have h1 : 0 < s.size := by omega
    obtain ⟨r, e⟩ := ba_head h1
    have hne : ¬ s.toList = [] := by rw [ByteArray.toList_eq, e]; simp
    have E := Lib.hid e
    clear h0 e
    obtain ⟨b, hb⟩ : ∃ b, s[0] = b := ⟨_, rfl⟩
    have hm := mark_tell b r
    rw [hb] at E
    have HM := Lib.hid hm
    clear hm
    by_cases g1 : (b.toNat : Int) = 45
    · have M : Hid (markedL s.data.toList = true) := Lib.hid (by rw [E.out]; exact HM.out.2 (.inl g1))
      go_enter Tryd.func116, Tryd.ntmps116
      go_wp2
      all_goals go_ret
      all_goals exact ⟨ret_eq (by rw [M.out]; first | rfl | (simp_all; done)), rfl⟩
    · by_cases g2 : (48 : Int) ≤ b.toNat
      · by_cases g3 : (b.toNat : Int) ≤ 57
        · have M : Hid (markedL s.data.toList = true) := Lib.hid (by rw [E.out]; exact HM.out.2 (.inr ⟨g2, g3⟩))
          go_enter Tryd.func116, Tryd.ntmps116
          go_wp2
          all_goals go_ret
          all_goals exact ⟨ret_eq (by rw [M.out]; simp [*]), rfl⟩
        · have M : Hid (markedL s.data.toList = false) := Lib.hid (by
            rw [E.out]
            cases h : markedL (b :: r) with
            | false => rfl
            | true => rcases HM.out.1 h with h | ⟨_, h⟩
                      · exact absurd h g1
                      · exact absurd h g3)
          have g3' : decide ((b.toNat : Int) ≤ 57) = false := decide_eq_false g3
          go_enter Tryd.func116, Tryd.ntmps116
          go_wp2
          all_goals go_ret
          all_goals exact ⟨ret_eq (by rw [M.out]; simp_all), rfl⟩
      · have M : Hid (markedL s.data.toList = false) := Lib.hid (by
          rw [E.out]
          cases h : markedL (b :: r) with
          | false => rfl
          | true => rcases HM.out.1 h with h | ⟨h, _⟩
                    · exact absurd h g1
                    · exact absurd h g2)
        go_enter Tryd.func116, Tryd.ntmps116
        go_wp2
        all_goals go_ret
        all_goals exact ⟨ret_eq (by rw [M.out]; simp_all), rfl⟩


theorem ext_one {n : ByteArray} {m : Nat} (h : m < n.size) {x : UInt8} (hx : n[m] = x) : (n.extract m (m + 1)).data.toList = [x] := by
  rw [Lib.extract_data, drop_byte h hx]
  simp

set_option maxRecDepth 100000 in
set_option maxHeartbeats 4000000 in
theorem stepText_any (s : St) (w : World) (hi : -9223372036854775808 ≤ s.ix ∧ s.ix ≤ 9223372036854775807) (hn : s.nm.size ≤ 16777216)
    (htab : Lib.TabIs Tryd.prog w "internal/strconv.uint64pow10" .u64 Lib.pow10Tab) :
    Calls Tryd.prog 92 #[.agg s.cells] w (RetB (.string ⟨(stepT s).toArray⟩) w) := by
  obtain ⟨n, i, t⟩ := s
  dsimp only at hi hn
  obtain ⟨W0, hW0⟩ : ∃ W0, w.alloc (.cells #[.string n, .int .i64 i, .bool t] 34) = W0 := ⟨_, rfl⟩
  have HB0 : Hid (Below w.heap.size w W0) := Lib.hid (by rw [← hW0]; exact (Below.refl _ _).alloc (Nat.le_refl _) _)
  have hg0 : W0.heap[w.heap.size]? = some (.cells (St.mk n i t).cells 34 (0, 0)) := by rw [← hW0]; exact heap_new w _
  obtain ⟨c0, c1, c2⟩ := step_reads hg0
  dsimp only at c0 c1 c2
  have hs0 : w.heap.size < W0.heap.size := by rw [← hW0]; simp
  have HT := Lib.hid (Lib.tabBelow_of_tabIs htab)
  have HI := Lib.hid hi
  have HW0 := Lib.hid hW0
  clear hW0 hg0 htab hi
  cases t
  · cases hm : markedL n.data.toList
    all_goals
      have HM := Lib.hid hm
      go_enter Tryd.func92, Tryd.ntmps92
      go_upto_region 1 with (fail)
      rw [HW0.out]
      clear HW0
      go_wp2_with (go_at_call 116; refine (guarded_any n _).mono ?_; rintro e w3 ⟨rfl, hw3⟩; rw [← hw3]; clear hw3; rw [hm])
      clear hm
      go_loopw [3, 4] (fun sv iv wr => ∃ m : Nat, m ≤ n.size ∧ iv = .int .i64 m ∧ ∃ out : ByteArray, sv = .string out ∧ out.size ≤ 2 * m + 2 ∧ Hid (out.data.toList = (if markedL n.data.toList then [126, 50] else []) ++ (n.data.toList.take m).flatMap escB) ∧ Hid (wr = W0)) (fun _ iv _ => n.size - (intOf iv).toNat)
      case atStart =>
        exact ⟨0, Nat.zero_le _, rfl, _, rfl, by decide, Lib.hid (by rw [HM.out]; rfl), Lib.hid rfl⟩
      case round =>
        obtain ⟨m, hm, rfl, out, rfl, hos, HO, HWr⟩ := hrel
        have hwr := HWr.out
        subst hwr
        clear HWr
        by_cases h2 : m < n.size
        · obtain ⟨x, hx⟩ : ∃ x, n[m] = x := ⟨_, rfl⟩
          have HE := Lib.hid (esc_step h2 hx)
          have HX1 := Lib.hid (ext_one h2 hx)
          by_cases g1 : (x.toNat : Int) = 126
          · have GE := Lib.hid (escB_wave g1)
            go_wp2
            go_roundw
            case rel => exact ⟨m + 1, by omega, by go_num, _, rfl, by rw [ByteArray.size_append]; have e : (⟨#[126, 48]⟩ : ByteArray).size = 2 := rfl; omega, Lib.hid (by rw [ByteArray.data_append, Array.toList_append, HO.out, HE.out.1, GE.out, List.append_assoc]), Lib.hid (by first | rfl | trivial)⟩
            case measure => simp [intOf]; omega
          · by_cases g2 : (x.toNat : Int) = 47
            · have GE := Lib.hid (escB_slant g2)
              go_wp2
              go_roundw
              case rel => exact ⟨m + 1, by omega, by go_num, _, rfl, by rw [ByteArray.size_append]; have e : (⟨#[126, 49]⟩ : ByteArray).size = 2 := rfl; omega, Lib.hid (by rw [ByteArray.data_append, Array.toList_append, HO.out, HE.out.1, GE.out, List.append_assoc]), Lib.hid (by first | rfl | trivial)⟩
              case measure => simp [intOf]; omega
            · have GE := Lib.hid (escB_same g1 g2)
              have hes : (n.extract m (m + 1)).size = 1 := by rw [← ba_len, HX1.out]; rfl
              go_wp2
              go_roundw
              case rel => exact ⟨m + 1, by omega, by go_num, _, rfl, by rw [ByteArray.size_append]; omega, Lib.hid (by rw [ByteArray.data_append, Array.toList_append, HO.out, HE.out.1, GE.out, HX1.out, List.append_assoc]), Lib.hid (by first | rfl | trivial)⟩
              case measure => simp [intOf]; omega
        · have HF : Hid (out = ⟨(stepT ⟨n, i, false⟩).toArray⟩) := Lib.hid (ba_eq (by rw [HO.out, take_full (by omega)]; rfl))
          go_wp2
          go_ret
          exact ⟨ret_eq (by rw [← HF.out]; rfl), HB0.out⟩
  · go_enter Tryd.func92, Tryd.ntmps92
    go_upto_region 1 with (fail)
    rw [HW0.out]
    clear HW0
    go_wp2_with (go_at_call 82; refine (Tryd.strconv_Itoa i HI.out.1 HI.out.2 _ (HT.out _ HB0.out)).mono ?_; rintro e w3 ⟨rfl, kk, os, hw3⟩; have HB3 := Lib.hid (show Below W0.heap.size W0 w3 from by rw [hw3]; exact below_grew _ _ _); clear hw3)
    go_ret
    exact ⟨rfl, HB0.out.trans (HB3.out.mono HB0.out.size)⟩

set_option maxRecDepth 100000 in
set_option maxHeartbeats 4000000 in
theorem refPathText_any (l : List St) (p : Option Addr) (c : Nat) (w : World) (hs : StepsAt w.heap.size w p l) (ll : l.length ≤ 4194304)
    (hi : ∀ s ∈ l, -9223372036854775808 ≤ s.ix ∧ s.ix ≤ 9223372036854775807) (hl : (pathT l).length ≤ 16777216) (hn : ∀ s ∈ l, s.nm.size ≤ 16777216)
    (htab : Lib.TabIs Tryd.prog w "internal/strconv.uint64pow10" .u64 Lib.pow10Tab) :
    Calls Tryd.prog 49 #[.slice p l.length c] w (RetB (.string ⟨(pathT l).toArray⟩) w) := by
  have HI := Lib.hid hi
  have HNM := Lib.hid hn
  have HL := Lib.hid hl
  have HT := Lib.hid (Lib.tabBelow_of_tabIs htab)
  have HS := Lib.hid hs
  clear hi hl htab hn hs
  go_enter Tryd.func49, Tryd.ntmps49
  go_wp2
  go_loopw [3, 4] (fun sv iv wr => ∃ k : Nat, k ≤ l.length ∧ iv = .int .i64 k ∧ ∃ out : ByteArray, sv = .string out ∧ Hid (out.data.toList = pathT (l.take k)) ∧ Hid (Below w.heap.size w wr)) (fun _ iv _ => l.length - (intOf iv).toNat)
  case atStart => exact ⟨0, Nat.zero_le _, rfl, _, rfl, Lib.hid rfl, Lib.hid (Below.refl _ _)⟩
  case round =>
    obtain ⟨k, hk, rfl, out, rfl, HO, HBW⟩ := hrel
    by_cases h1 : k < l.length
    · obtain ⟨x, hx⟩ : ∃ x, l[k]? = some x := ⟨l[k], by simp [h1]⟩
      rcases HS.out with h0 | ⟨b, o, rfl, hB, hc⟩
      · subst h0; simp at h1
      obtain ⟨c0, c1, c2⟩ := hc k x hx
      have c0 := (HBW.out.cell (p := ⟨b, o + k * 3, none⟩) hB).trans c0
      have c1 := (HBW.out.cell (p := ⟨b, o + k * 3 + 1, none⟩) hB).trans c1
      have c2 := (HBW.out.cell (p := ⟨b, o + k * 3 + 2, none⟩) hB).trans c2
      have hbw : b < wr.heap.size := Nat.lt_of_lt_of_le hB HBW.out.size
      have HX := Lib.hid hx
      have HC := Lib.hid (stepText_any x wr (HI.out _ (List.mem_of_getElem? hx)) (HNM.out _ (List.mem_of_getElem? hx)) (HT.out _ HBW.out))
      have hroom := pathT_room hx
      have hll := HL.out
      have hol : out.size = (pathT (l.take k)).length := by rw [← ba_len, HO.out]
      obtain ⟨tx, htx⟩ : ∃ tx : ByteArray, (⟨(stepT x).toArray⟩ : ByteArray) = tx := ⟨_, rfl⟩
      have hxd : tx.data.toList = stepT x := by rw [← htx]
      have hxl : tx.size = (stepT x).length := by rw [← ba_len, hxd]
      have hs1 : ¬ 9223372036854775807 < out.size + 1 := by omega
      have hs2 : ¬ 9223372036854775807 < out.size + 1 + tx.size := by omega
      have HXD := Lib.hid hxd
      rw [htx] at HC
      clear hc hx hB htx hroom hll hol hxl hxd
      obtain ⟨n, i, t⟩ := x
      unfold St.cells at HC
      dsimp only at c0 c1 c2 HC
      go_wp2_with (go_at_call 92; refine HC.out.mono ?_; rintro e w3 ⟨rfl, hb3⟩; have HB3 := Lib.hid (HBW.out.trans (hb3.mono HBW.out.size)); clear hb3)
      go_roundw
      case rel => exact ⟨k + 1, by omega, by go_num, _, rfl, Lib.hid (by rw [ByteArray.data_append, Array.toList_append, ByteArray.data_append, Array.toList_append, HO.out, HXD.out, pathT_take HX.out]; simp), HB3⟩
      case measure => simp [intOf]; omega
    · have HF : Hid (out = ⟨(pathT l).toArray⟩) := Lib.hid (ba_eq (by rw [HO.out, List.take_of_length_le (by omega)]))
      go_wp2
      go_ret
      exact ⟨ret_eq (by rw [← HF.out]; rfl), HBW.out⟩

set_option maxRecDepth 100000 in
set_option maxHeartbeats 4000000 in
theorem plainName_any (n : ByteArray) (w : World) (hn : n.size ≤ 16777216) :
    Calls Tryd.prog 115 #[.string n] w (RetS (.string ⟨(plainL n.data.toList).toArray⟩) w) := by
  go_enter Tryd.func115, Tryd.ntmps115
  go_wp2
  go_loopw [3, 4] (fun sv iv wr => ∃ k : Nat, k ≤ n.size ∧ iv = .int .i64 k ∧ ∃ out : ByteArray, sv = .string out ∧ out.size ≤ k ∧ Hid (out.data.toList ++ plainL (n.data.toList.drop k) = plainL n.data.toList) ∧ Hid (wr = w)) (fun _ iv _ => n.size - (intOf iv).toNat)
  case atStart => exact ⟨0, Nat.zero_le _, rfl, _, rfl, by decide, Lib.hid rfl, Lib.hid rfl⟩
  case round =>
    obtain ⟨k, hk, rfl, out, rfl, hos, HO, HWr⟩ := hrel
    by_cases h1 : k < n.size
    · obtain ⟨x, hx⟩ : ∃ x, n[k] = x := ⟨_, rfl⟩
      have HDR := Lib.hid (drop_byte h1 hx)
      have HX1 := Lib.hid (ext_one h1 hx)
      have hes : (n.extract k (k + 1)).size = 1 := by rw [← ba_len, HX1.out]; rfl
      by_cases g1 : (x.toNat : Int) = 126
      · have GX : Hid (x = 126) := Lib.hid (byte_num (k := 126) g1 (by omega))
        by_cases h2 : k + 1 < n.size
        · obtain ⟨y, hy⟩ : ∃ y, n[k + 1] = y := ⟨_, rfl⟩
          have HDR2 := Lib.hid (drop_byte h2 hy)
          have h2' : decide ((n.size : Int) ≤ (k : Int) + 1) = false := decide_eq_false (by omega)
          by_cases g2 : (y.toNat : Int) = 48
          · have GY : Hid (y = 48) := Lib.hid (byte_num (k := 48) g2 (by omega))
            go_wp2
            go_roundw
            case rel => exact ⟨k + 1 + 1, by omega, by go_num, _, rfl, by rw [ByteArray.size_append]; have e : (⟨#[126]⟩ : ByteArray).size = 1 := rfl; omega, Lib.hid (by rw [← HO.out, HDR.out, HDR2.out, GX.out, GY.out, plainL_wave, if_pos rfl, ByteArray.data_append, Array.toList_append]; simp), HWr⟩
            case measure => simp [intOf]; omega
          · by_cases g3 : (y.toNat : Int) = 49
            · have GY : Hid (y = 49) := Lib.hid (byte_num (k := 49) g3 (by omega))
              go_wp2
              go_roundw
              case rel => exact ⟨k + 1 + 1, by omega, by go_num, _, rfl, by rw [ByteArray.size_append]; have e : (⟨#[47]⟩ : ByteArray).size = 1 := rfl; omega, Lib.hid (by rw [← HO.out, HDR.out, HDR2.out, GX.out, GY.out, plainL_wave, if_neg (by decide), if_pos rfl, ByteArray.data_append, Array.toList_append]; simp), HWr⟩
              case measure => simp [intOf]; omega
            · have GY : Hid (y ≠ 48 ∧ y ≠ 49) := Lib.hid ⟨fun e => g2 (by rw [e]; rfl), fun e => g3 (by rw [e]; rfl)⟩
              go_wp2
              go_roundw
              case rel => exact ⟨k + 1 + 1, by omega, by go_num, _, rfl, by omega, Lib.hid (by rw [← HO.out, HDR.out, HDR2.out, GX.out, plainL_wave, if_neg GY.out.1, if_neg GY.out.2]), HWr⟩
              case measure => simp [intOf]; omega
        · have h2' : decide ((n.size : Int) ≤ (k : Int) + 1) = true := decide_eq_true (by omega)
          have HE : Hid (n.data.toList.drop (k + 1) = []) := Lib.hid (List.drop_eq_nil_iff.2 (by rw [ba_len]; omega))
          go_wp2
          go_roundw
          case rel => exact ⟨k + 1, by omega, by go_num, _, rfl, by rw [ByteArray.size_append]; omega, Lib.hid (by rw [← HO.out, HDR.out, HE.out, ByteArray.data_append, Array.toList_append, HX1.out]; simp [plainL]), HWr⟩
          case measure => simp [intOf]; omega
      · have GX : Hid (x ≠ 126) := Lib.hid (fun e => g1 (by rw [e]; rfl))
        go_wp2
        go_roundw
        case rel => exact ⟨k + 1, by omega, by go_num, _, rfl, by rw [ByteArray.size_append]; omega, Lib.hid (by rw [← HO.out, HDR.out, plainL_plain GX.out, ByteArray.data_append, Array.toList_append, HX1.out]; simp), HWr⟩
        case measure => simp [intOf]; omega
    · have HF : Hid (out = ⟨(plainL n.data.toList).toArray⟩) := Lib.hid (ba_eq (by
        have e : n.data.toList.drop k = [] := List.drop_eq_nil_iff.2 (by rw [ba_len]; omega)
        have h := HO.out
        rw [e] at h
        show _ = plainL n.data.toList
        rw [← h]
        simp [plainL]))
      go_wp2
      go_ret
      exact ⟨ret_eq (by rw [← HF.out]; rfl), HWr.out.symm⟩
end Go.Proofs.YtnmnmkdmnohbmaaDoor
