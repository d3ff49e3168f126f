/- Several texts in one: The reference's text of a path. The reference's guess at one step. The law's clean: a path without what does not count. The reference's SameSteps: all fields alike. TreeOrderLaws, walked: Compare is an order, Under is told by the texts. TreePathBack, walked: there and back. The reference's PathRead. Conditions: none. -/
import Derived.Test.YtnmnmkdmnohbmaaGreatDoorPackN
import Derived.Test.YtnmnmkdmnohbmaaGreatDoorPackA
import Derived.Test.YtnmnmkdmnohbmaaGreatDoorPackJ
import Derived.Test.YtnmnmkdmnohbmaaGreatDoorPackK
namespace Go.Proofs.YtnmnmkdmnohbmaaGreatDoor
open Go.RowKit
attribute [local go_sem] St.cells

theorem guarded_any (s : ByteArray) (w : World) : Calls Tryz.prog 57 #[.string s] w (RetS (.bool (markedL s.data.toList)) w) := by
  by_cases h0 : s.size = 0
  · obtain rfl := ba_nil h0
    go_enter Tryz.func57, Tryz.ntmps57
    go_wp2
    all_goals go_ret
    all_goals exact ⟨ret_eq (by first | rfl | (exfalso; simp_all)), rfl⟩
  · have h1 : 0 < s.size := by omega
    obtain ⟨r, e⟩ := ba_head h1
    have hne : ¬ s.toList = [] := by rw [ByteArray.toList_eq, e]; simp
    have E := Lib.hid e
    clear h0 e
    obtain ⟨b, hb⟩ : ∃ b, s[0] = b := ⟨_, rfl⟩
    have hm := mark_tell b r
    rw [hb] at E
    have HM := Lib.hid hm
    clear hm
    by_cases g1 : (b.toNat : Int) = 45
    · have M : Hid (markedL s.data.toList = true) := Lib.hid (by rw [E.out]; exact HM.out.2 (.inl g1))
      go_enter Tryz.func57, Tryz.ntmps57
      go_wp2
      all_goals go_ret
      all_goals exact ⟨ret_eq (by rw [M.out]; first | rfl | (simp_all; done)), rfl⟩
    · by_cases g2 : (48 : Int) ≤ b.toNat
      · by_cases g3 : (b.toNat : Int) ≤ 57
        · have M : Hid (markedL s.data.toList = true) := Lib.hid (by rw [E.out]; exact HM.out.2 (.inr ⟨g2, g3⟩))
          go_enter Tryz.func57, Tryz.ntmps57
          go_wp2
          all_goals go_ret
          all_goals exact ⟨ret_eq (by rw [M.out]; simp [*]), rfl⟩
        · have M : Hid (markedL s.data.toList = false) := Lib.hid (by
            rw [E.out]
            cases h : markedL (b :: r) with
            | false => rfl
            | true => rcases HM.out.1 h with h | ⟨_, h⟩
                      · exact absurd h g1
                      · exact absurd h g3)
          have g3' : decide ((b.toNat : Int) ≤ 57) = false := decide_eq_false g3
          go_enter Tryz.func57, Tryz.ntmps57
          go_wp2
          all_goals go_ret
          all_goals exact ⟨ret_eq (by rw [M.out]; simp_all), rfl⟩
      · have M : Hid (markedL s.data.toList = false) := Lib.hid (by
          rw [E.out]
          cases h : markedL (b :: r) with
          | false => rfl
          | true => rcases HM.out.1 h with h | ⟨h, _⟩
                    · exact absurd h g1
                    · exact absurd h g2)
        go_enter Tryz.func57, Tryz.ntmps57
        go_wp2
        all_goals go_ret
        all_goals exact ⟨ret_eq (by rw [M.out]; simp_all), rfl⟩


theorem ext_one {n : ByteArray} {m : Nat} (h : m < n.size) {x : UInt8} (hx : n[m] = x) : (n.extract m (m + 1)).data.toList = [x] := by
  rw [Lib.extract_data, drop_byte h hx]
  simp

set_option maxRecDepth 100000 in
set_option maxHeartbeats 4000000 in
theorem stepText_any (s : St) (w : World) (hi : -9223372036854775808 ≤ s.ix ∧ s.ix ≤ 9223372036854775807) (hn : s.nm.size ≤ 16777216)
    (htab : Lib.TabIs Tryz.prog w "internal/strconv.uint64pow10" .u64 Lib.pow10Tab) :
    Calls Tryz.prog 30 #[.agg s.cells] w (RetB (.string ⟨(stepT s).toArray⟩) w) := by
  obtain ⟨n, i, t⟩ := s
  dsimp only at hi hn
  obtain ⟨W0, hW0⟩ : ∃ W0, w.alloc (.cells #[.string n, .int .i64 i, .bool t] 69) = W0 := ⟨_, rfl⟩
  have HB0 : Hid (Below w.heap.size w W0) := Lib.hid (by rw [← hW0]; exact (Below.refl _ _).alloc (Nat.le_refl _) _)
  have hg0 : W0.heap[w.heap.size]? = some (.cells (St.mk n i t).cells 69 (0, 0)) := by rw [← hW0]; exact heap_new w _
  obtain ⟨c0, c1, c2⟩ := step_reads hg0
  dsimp only at c0 c1 c2
  have hs0 : w.heap.size < W0.heap.size := by rw [← hW0]; simp
  have HT := Lib.hid (Lib.tabBelow_of_tabIs htab)
  have HI := Lib.hid hi
  have HW0 := Lib.hid hW0
  clear hW0 hg0 htab hi
  cases t
  · cases hm : markedL n.data.toList
    all_goals
      have HM := Lib.hid hm
      go_enter Tryz.func30, Tryz.ntmps30
      go_upto_region 1 with (fail)
      rw [HW0.out]
      clear HW0
      go_wp2_with (go_at_call 57; refine (guarded_any n _).mono ?_; rintro e w3 ⟨rfl, hw3⟩; rw [← hw3]; clear hw3; rw [hm])
      clear hm
      go_loopw [3, 4] (fun sv iv wr => ∃ m : Nat, m ≤ n.size ∧ iv = .int .i64 m ∧ ∃ out : ByteArray, sv = .string out ∧ out.size ≤ 2 * m + 2 ∧ Hid (out.data.toList = (if markedL n.data.toList then [126, 50] else []) ++ (n.data.toList.take m).flatMap escB) ∧ Hid (wr = W0)) (fun _ iv _ => n.size - (intOf iv).toNat)
      case atStart =>
        exact ⟨0, Nat.zero_le _, rfl, _, rfl, by decide, Lib.hid (by rw [HM.out]; rfl), Lib.hid rfl⟩
      case round =>
        obtain ⟨m, hm, rfl, out, rfl, hos, HO, HWr⟩ := hrel
        have hwr := HWr.out
        subst hwr
        clear HWr
        by_cases h2 : m < n.size
        · obtain ⟨x, hx⟩ : ∃ x, n[m] = x := ⟨_, rfl⟩
          have HE := Lib.hid (esc_step h2 hx)
          have HX1 := Lib.hid (ext_one h2 hx)
          by_cases g1 : (x.toNat : Int) = 126
          · have GE := Lib.hid (escB_wave g1)
            go_wp2
            go_roundw
            case rel => exact ⟨m + 1, by omega, by go_num, _, rfl, by rw [ByteArray.size_append]; have e : (⟨#[126, 48]⟩ : ByteArray).size = 2 := rfl; omega, Lib.hid (by rw [ByteArray.data_append, Array.toList_append, HO.out, HE.out.1, GE.out, List.append_assoc]), Lib.hid (by first | rfl | trivial)⟩
            case measure => simp [intOf]; omega
          · by_cases g2 : (x.toNat : Int) = 47
            · have GE := Lib.hid (escB_slant g2)
              go_wp2
              go_roundw
              case rel => exact ⟨m + 1, by omega, by go_num, _, rfl, by rw [ByteArray.size_append]; have e : (⟨#[126, 49]⟩ : ByteArray).size = 2 := rfl; omega, Lib.hid (by rw [ByteArray.data_append, Array.toList_append, HO.out, HE.out.1, GE.out, List.append_assoc]), Lib.hid (by first | rfl | trivial)⟩
              case measure => simp [intOf]; omega
            · have GE := Lib.hid (escB_same g1 g2)
              have hes : (n.extract m (m + 1)).size = 1 := by rw [← ba_len, HX1.out]; rfl
              go_wp2
              go_roundw
              case rel => exact ⟨m + 1, by omega, by go_num, _, rfl, by rw [ByteArray.size_append]; omega, Lib.hid (by rw [ByteArray.data_append, Array.toList_append, HO.out, HE.out.1, GE.out, HX1.out, List.append_assoc]), Lib.hid (by first | rfl | trivial)⟩
              case measure => simp [intOf]; omega
        · have HF : Hid (out = ⟨(stepT ⟨n, i, false⟩).toArray⟩) := Lib.hid (ba_eq (by rw [HO.out, take_full (by omega)]; rfl))
          go_wp2
          go_ret
          exact ⟨ret_eq (by rw [← HF.out]; rfl), HB0.out⟩
  · go_enter Tryz.func30, Tryz.ntmps30
    go_upto_region 1 with (fail)
    rw [HW0.out]
    clear HW0
    go_wp2_with (go_at_call 47; refine (Tryz.strconv_Itoa i HI.out.1 HI.out.2 _ (HT.out _ HB0.out)).mono ?_; rintro e w3 ⟨rfl, kk, os, hw3⟩; have HB3 := Lib.hid (show Below W0.heap.size W0 w3 from by rw [hw3]; exact below_grew _ _ _); clear hw3)
    go_ret
    exact ⟨rfl, HB0.out.trans (HB3.out.mono HB0.out.size)⟩

set_option maxRecDepth 100000 in
set_option maxHeartbeats 4000000 in
theorem plainName_any (n : ByteArray) (w : World) (hn : n.size ≤ 16777216) :
    Calls Tryz.prog 56 #[.string n] w (RetS (.string ⟨(plainL n.data.toList).toArray⟩) w) := by
  go_enter Tryz.func56, Tryz.ntmps56
  go_wp2
  go_loopw [3, 4] (fun sv iv wr => ∃ k : Nat, k ≤ n.size ∧ iv = .int .i64 k ∧ ∃ out : ByteArray, sv = .string out ∧ out.size ≤ k ∧ Hid (out.data.toList ++ plainL (n.data.toList.drop k) = plainL n.data.toList) ∧ Hid (wr = w)) (fun _ iv _ => n.size - (intOf iv).toNat)
  case atStart => exact ⟨0, Nat.zero_le _, rfl, _, rfl, by decide, Lib.hid rfl, Lib.hid rfl⟩
  case round =>
    obtain ⟨k, hk, rfl, out, rfl, hos, HO, HWr⟩ := hrel
    by_cases h1 : k < n.size
    · obtain ⟨x, hx⟩ : ∃ x, n[k] = x := ⟨_, rfl⟩
      have HDR := Lib.hid (drop_byte h1 hx)
      have HX1 := Lib.hid (ext_one h1 hx)
      have hes : (n.extract k (k + 1)).size = 1 := by rw [← ba_len, HX1.out]; rfl
      by_cases g1 : (x.toNat : Int) = 126
      · have GX : Hid (x = 126) := Lib.hid (byte_num (k := 126) g1 (by omega))
        by_cases h2 : k + 1 < n.size
        · obtain ⟨y, hy⟩ : ∃ y, n[k + 1] = y := ⟨_, rfl⟩
          have HDR2 := Lib.hid (drop_byte h2 hy)
          have h2' : decide ((n.size : Int) ≤ (k : Int) + 1) = false := decide_eq_false (by omega)
          by_cases g2 : (y.toNat : Int) = 48
          · have GY : Hid (y = 48) := Lib.hid (byte_num (k := 48) g2 (by omega))
            go_wp2
            go_roundw
            case rel => exact ⟨k + 1 + 1, by omega, by go_num, _, rfl, by rw [ByteArray.size_append]; have e : (⟨#[126]⟩ : ByteArray).size = 1 := rfl; omega, Lib.hid (by rw [← HO.out, HDR.out, HDR2.out, GX.out, GY.out, plainL_wave, if_pos rfl, ByteArray.data_append, Array.toList_append]; simp), HWr⟩
            case measure => simp [intOf]; omega
          · by_cases g3 : (y.toNat : Int) = 49
            · have GY : Hid (y = 49) := Lib.hid (byte_num (k := 49) g3 (by omega))
              go_wp2
              go_roundw
              case rel => exact ⟨k + 1 + 1, by omega, by go_num, _, rfl, by rw [ByteArray.size_append]; have e : (⟨#[47]⟩ : ByteArray).size = 1 := rfl; omega, Lib.hid (by rw [← HO.out, HDR.out, HDR2.out, GX.out, GY.out, plainL_wave, if_neg (by decide), if_pos rfl, ByteArray.data_append, Array.toList_append]; simp), HWr⟩
              case measure => simp [intOf]; omega
            · have GY : Hid (y ≠ 48 ∧ y ≠ 49) := Lib.hid ⟨fun e => g2 (by rw [e]; rfl), fun e => g3 (by rw [e]; rfl)⟩
              go_wp2
              go_roundw
              case rel => exact ⟨k + 1 + 1, by omega, by go_num, _, rfl, by omega, Lib.hid (by rw [← HO.out, HDR.out, HDR2.out, GX.out, plainL_wave, if_neg GY.out.1, if_neg GY.out.2]), HWr⟩
              case measure => simp [intOf]; omega
        · have h2' : decide ((n.size : Int) ≤ (k : Int) + 1) = true := decide_eq_true (by omega)
          have HE : Hid (n.data.toList.drop (k + 1) = []) := Lib.hid (List.drop_eq_nil_iff.2 (by rw [ba_len]; omega))
          go_wp2
          go_roundw
          case rel => exact ⟨k + 1, by omega, by go_num, _, rfl, by rw [ByteArray.size_append]; omega, Lib.hid (by rw [← HO.out, HDR.out, HE.out, ByteArray.data_append, Array.toList_append, HX1.out]; simp [plainL]), HWr⟩
          case measure => simp [intOf]; omega
      · have GX : Hid (x ≠ 126) := Lib.hid (fun e => g1 (by rw [e]; rfl))
        go_wp2
        go_roundw
        case rel => exact ⟨k + 1, by omega, by go_num, _, rfl, by rw [ByteArray.size_append]; omega, Lib.hid (by rw [← HO.out, HDR.out, plainL_plain GX.out, ByteArray.data_append, Array.toList_append, HX1.out]; simp), HWr⟩
        case measure => simp [intOf]; omega
    · have HF : Hid (out = ⟨(plainL n.data.toList).toArray⟩) := Lib.hid (ba_eq (by
        have e : n.data.toList.drop k = [] := List.drop_eq_nil_iff.2 (by rw [ba_len]; omega)
        have h := HO.out
        rw [e] at h
        show _ = plainL n.data.toList
        rw [← h]
        simp [plainL]))
      go_wp2
      go_ret
      exact ⟨ret_eq (by rw [← HF.out]; rfl), HWr.out.symm⟩
end Go.Proofs.YtnmnmkdmnohbmaaGreatDoor

namespace Go.Proofs.YtnmnmkdmnohbmaaGreatDoor
open Go.RowKit
attribute [local go_sem] St.cells

theorem close_guess {w W : World} {a : Act} {g : Nat} {x : St} (hL : W.heap[g]? = some (.cells x.cells 69 (0, 0)))
    (t2 : a.tmps[2]?.getD undef = .pointer (some ⟨g, 0, none⟩)) (hd : a.defers = []) (hb : Below w.heap.size w W) :
    bodyPost Tryz.prog Tryz.f29 (RetB (.agg x.cells) w) .ret a W := by
  have c0 : W.cell? ⟨g, 0, none⟩ = some (.string x.nm) := by simp [World.cell?, hL, St.cells]
  have c1 : W.cell? ⟨g, 1, none⟩ = some (.int .i64 x.ix) := by simp [World.cell?, hL, St.cells]
  have c2 : W.cell? ⟨g, 2, none⟩ = some (.bool x.it) := by simp [World.cell?, hL, St.cells]
  refine bodyPost_ret (v := .agg x.cells) ?_ hd ⟨rfl, hb⟩
  simp only [results, Tryz.results29]
  simp [go_sem, t2, c0, c1, c2]

theorem byte_wrap (x : UInt8) : wrap64 (x.toNat : Int) = x.toNat := by
  have := x.toNat_lt
  unfold wrap64
  omega
theorem num_step {s : ByteArray} {k : Nat} (h : k < s.size) {x : UInt8} (hx : s[k] = x) : numW (s.data.toList.take (k + 1)) = numStep (numW (s.data.toList.take k)) x := by
  have h2 : s.data.toList[k]? = some x := by
    rw [Array.getElem?_toList, ← hx]
    exact Array.getElem?_eq_getElem h
  rw [List.take_add_one, h2]
  exact numW_snoc _ _

set_option maxRecDepth 100000 in
set_option maxHeartbeats 4000000 in
theorem guess_any (s : ByteArray) (hs : s.size ≤ 16777216) (w : World) :
    Calls Tryz.prog 29 #[.string s] w (RetB (.agg (guessL s.data.toList).cells) w) := by
  obtain ⟨W0, hW0⟩ : ∃ W0, w.alloc (.cells #[.string ⟨#[]⟩, .int .i64 0, .bool false] 69) = W0 := ⟨_, rfl⟩
  have HB0 : Hid (Below w.heap.size w W0) := Lib.hid (by rw [← hW0]; exact (Below.refl _ _).alloc (Nat.le_refl _) _)
  have hL : W0.heap[w.heap.size]? = some (.cells #[.string ⟨#[]⟩, .int .i64 0, .bool false] 69 (0, 0)) := by rw [← hW0]; exact heap_new w _
  have f0 : W0.frozen? ⟨w.heap.size, 0, none⟩ = false := by simp [World.frozen?, hL]
  have f1 : W0.frozen? ⟨w.heap.size, 1, none⟩ = false := by simp [World.frozen?, hL]
  have f2 : W0.frozen? ⟨w.heap.size, 2, none⟩ = false := by simp [World.frozen?, hL]
  have c0 : W0.cell? ⟨w.heap.size, 0, none⟩ = some (.string ⟨#[]⟩) := by simp [World.cell?, hL]
  have c1 : W0.cell? ⟨w.heap.size, 1, none⟩ = some (.int .i64 0) := by simp [World.cell?, hL]
  have c2 : W0.cell? ⟨w.heap.size, 2, none⟩ = some (.bool false) := by simp [World.cell?, hL]
  have hlt : w.heap.size < W0.heap.size := by rw [← hW0]; simp
  have HL := Lib.hid hL
  have HW0 := Lib.hid hW0
  clear hW0 hL
  by_cases h0 : s.size = 0
  · obtain rfl := ba_nil h0
    go_enter Tryz.func29, Tryz.ntmps29
    go_upto_region 1 with (fail)
    rw [HW0.out]
    clear HW0
    go_wp2_with (go_at_call 56; refine (plainName_any _ _ hs).mono ?_; rintro e w3 ⟨rfl, hw3⟩; rw [← hw3]; clear hw3)
    have hl1 := set_same (j := 0) HL.out (.string ⟨(plainL []).toArray⟩)
    have hl2 := set_same (j := 1) hl1 (.int .i64 0)
    have hl3 := set_same (j := 2) hl2 (.bool false)
    have hx : guessL ByteArray.empty.data.toList = ⟨⟨(plainL []).toArray⟩, 0, false⟩ := by
      unfold guessL
      rw [if_neg (fun h => h.1 rfl)]
      rfl
    rw [hx]
    exact close_guess (g := w.heap.size) (x := ⟨⟨(plainL []).toArray⟩, 0, false⟩) hl3 rfl rfl (((HB0.out.setCell (Nat.le_refl _) _).setCell (Nat.le_refl _) _).setCell (Nat.le_refl _) _)
  · have h1 : 0 < s.size := by omega
    obtain ⟨r, e⟩ := ba_head h1
    have hne : ¬ s.toList = [] := by rw [ByteArray.toList_eq, e]; simp
    have hie : s.toList.isEmpty = false := by
      cases h : s.toList with
      | nil => exact absurd h hne
      | cons _ _ => rfl
    obtain ⟨b, hb⟩ : ∃ b, s[0] = b := ⟨_, rfl⟩
    rw [hb] at e
    have E := Lib.hid e
    have HM := Lib.hid (mark_tell b r)
    clear e
    by_cases g1 : (b.toNat : Int) = 45
    · have M : Hid (markedL s.data.toList = true) := Lib.hid (by rw [E.out]; exact HM.out.2 (.inl g1))
      have GB : Hid (b = 45) := Lib.hid (byte_num (k := 45) g1 (by omega))
      have hx : guessL s.data.toList = ⟨⟨#[]⟩, wrap64 (-(numW s.data.toList)), true⟩ := by
        unfold guessL
        rw [if_pos ⟨by rw [E.out]; simp, M.out⟩]
        congr 1
        rw [if_pos (by rw [E.out, GB.out]; rfl)]
      have HX := Lib.hid hx
      clear hx
      go_enter Tryz.func29, Tryz.ntmps29
      go_upto_region 1 with (fail)
      rw [HW0.out]
      clear HW0
      go_wp2
      go_loopw [3, 4] (fun nv iv wr => ∃ k : Nat, k ≤ s.size ∧ iv = .int .i64 k ∧ ∃ m : Int, nv = .int .i64 m ∧ Hid (m = numW (s.data.toList.take k)) ∧ Hid (wr = W0)) (fun _ iv _ => s.size - (intOf iv).toNat)
      case atStart => exact ⟨0, Nat.zero_le _, rfl, 0, rfl, Lib.hid rfl, Lib.hid (by first | rfl | trivial)⟩
      case round =>
        obtain ⟨k, hk, rfl, m, rfl, HMN, HWr⟩ := hrel
        by_cases h2 : k < s.size
        · obtain ⟨x, hx⟩ : ∃ x, s[k] = x := ⟨_, rfl⟩
          have HNS := Lib.hid (num_step h2 hx)
          by_cases g5 : (x.toNat : Int) = 45
          · have HST : Hid (numStep m x = m) := Lib.hid (by have e : x = 45 := byte_num (k := 45) g5 (by omega); unfold numStep; rw [if_pos e])
            go_wp2
            go_roundw
            case rel => exact ⟨k + 1, by omega, by go_num, m, rfl, Lib.hid (by rw [HNS.out, ← HMN.out, HST.out]), HWr⟩
            case measure => simp [intOf]; omega
          · have HST : Hid (numStep m x = wrap64 (wrap64 (wrap64 (m * 10) + wrap64 x.toNat) - 48)) := Lib.hid (by unfold numStep; rw [if_neg (fun e => g5 (by rw [e]; rfl)), byte_wrap])
            go_wp2
            go_roundw
            case rel => exact ⟨k + 1, by omega, by go_num, _, rfl, Lib.hid (by rw [HNS.out, ← HMN.out, HST.out]), HWr⟩
            case measure => simp [intOf]; omega
        · have HALL : Hid (m = numW s.data.toList) := Lib.hid (by rw [HMN.out, take_full (by omega)])
          have hwr := HWr.out
          subst hwr
          go_wp2
          have hx3 : guessL s.data.toList = ⟨⟨#[]⟩, wrap64 (-m), true⟩ := by rw [HX.out, ← HALL.out]
          have hl1 := set_same (j := 0) HL.out (.string ⟨#[]⟩)
          have hl2 := set_same (j := 1) hl1 (.int .i64 (wrap64 (-m)))
          have hl3 := set_same (j := 2) hl2 (.bool true)
          show bodyPost _ _ (RetB (.agg (guessL s.data.toList).cells) w) .ret _ _
          rw [hx3]
          exact close_guess (g := w.heap.size) (x := ⟨⟨#[]⟩, wrap64 (-m), true⟩) hl3 rfl rfl (((HB0.out.setCell (Nat.le_refl _) _).setCell (Nat.le_refl _) _).setCell (Nat.le_refl _) _)
    · by_cases g2 : (48 : Int) ≤ b.toNat
      · by_cases g3 : (b.toNat : Int) ≤ 57
        · have M : Hid (markedL s.data.toList = true) := Lib.hid (by rw [E.out]; exact HM.out.2 (.inr ⟨g2, g3⟩))
          have hx : guessL s.data.toList = ⟨⟨#[]⟩, numW s.data.toList, true⟩ := by
            unfold guessL
            rw [if_pos ⟨by rw [E.out]; simp, M.out⟩]
            congr 1
            rw [if_neg (by rw [E.out]; intro h; exact g1 (by rw [Option.some.inj h]; rfl))]
          have HX := Lib.hid hx
          clear hx
          go_enter Tryz.func29, Tryz.ntmps29
          go_upto_region 1 with (fail)
          rw [HW0.out]
          clear HW0
          go_wp2
          go_loopw [3, 4] (fun nv iv wr => ∃ k : Nat, k ≤ s.size ∧ iv = .int .i64 k ∧ ∃ m : Int, nv = .int .i64 m ∧ Hid (m = numW (s.data.toList.take k)) ∧ Hid (wr = W0)) (fun _ iv _ => s.size - (intOf iv).toNat)
          case atStart => exact ⟨0, Nat.zero_le _, rfl, 0, rfl, Lib.hid rfl, Lib.hid (by first | rfl | trivial)⟩
          case round =>
            obtain ⟨k, hk, rfl, m, rfl, HMN, HWr⟩ := hrel
            by_cases h2 : k < s.size
            · obtain ⟨x, hx⟩ : ∃ x, s[k] = x := ⟨_, rfl⟩
              have HNS := Lib.hid (num_step h2 hx)
              by_cases g5 : (x.toNat : Int) = 45
              · have HST : Hid (numStep m x = m) := Lib.hid (by have e : x = 45 := byte_num (k := 45) g5 (by omega); unfold numStep; rw [if_pos e])
                go_wp2
                go_roundw
                case rel => exact ⟨k + 1, by omega, by go_num, m, rfl, Lib.hid (by rw [HNS.out, ← HMN.out, HST.out]), HWr⟩
                case measure => simp [intOf]; omega
              · have HST : Hid (numStep m x = wrap64 (wrap64 (wrap64 (m * 10) + wrap64 x.toNat) - 48)) := Lib.hid (by unfold numStep; rw [if_neg (fun e => g5 (by rw [e]; rfl)), byte_wrap])
                go_wp2
                go_roundw
                case rel => exact ⟨k + 1, by omega, by go_num, _, rfl, Lib.hid (by rw [HNS.out, ← HMN.out, HST.out]), HWr⟩
                case measure => simp [intOf]; omega
            · have HALL : Hid (m = numW s.data.toList) := Lib.hid (by rw [HMN.out, take_full (by omega)])
              have hwr := HWr.out
              subst hwr
              go_wp2
              have hx3 : guessL s.data.toList = ⟨⟨#[]⟩, m, true⟩ := by rw [HX.out, ← HALL.out]
              have hl1 := set_same (j := 0) HL.out (.string ⟨#[]⟩)
              have hl2 := set_same (j := 1) hl1 (.int .i64 (m))
              have hl3 := set_same (j := 2) hl2 (.bool true)
              show bodyPost _ _ (RetB (.agg (guessL s.data.toList).cells) w) .ret _ _
              rw [hx3]
              exact close_guess (g := w.heap.size) (x := ⟨⟨#[]⟩, m, true⟩) hl3 rfl rfl (((HB0.out.setCell (Nat.le_refl _) _).setCell (Nat.le_refl _) _).setCell (Nat.le_refl _) _)
        · have M : Hid (markedL s.data.toList = false) := Lib.hid (by
            rw [E.out]
            cases h : markedL (b :: r) with
            | false => rfl
            | true => rcases HM.out.1 h with h | ⟨_, h⟩
                      · exact absurd h g1
                      · exact absurd h g3)
          have g3' : decide ((b.toNat : Int) ≤ 57) = false := decide_eq_false g3
          have hx : guessL s.data.toList = ⟨⟨(plainL s.data.toList).toArray⟩, 0, false⟩ := by
            unfold guessL
            rw [if_neg (fun h => by rw [M.out] at h; cases h.2)]
          have HX := Lib.hid hx
          clear hx
          go_enter Tryz.func29, Tryz.ntmps29
          go_upto_region 1 with (fail)
          rw [HW0.out]
          clear HW0
          go_wp2_with (go_at_call 56; refine (plainName_any _ _ hs).mono ?_; rintro e w3 ⟨rfl, hw3⟩; rw [← hw3]; clear hw3)
          have hl1 := set_same (j := 0) HL.out (.string ⟨(plainL s.data.toList).toArray⟩)
          have hl2 := set_same (j := 1) hl1 (.int .i64 0)
          have hl3 := set_same (j := 2) hl2 (.bool false)
          rw [HX.out]
          exact close_guess (g := w.heap.size) (x := ⟨⟨(plainL s.data.toList).toArray⟩, 0, false⟩) hl3 rfl rfl (((HB0.out.setCell (Nat.le_refl _) _).setCell (Nat.le_refl _) _).setCell (Nat.le_refl _) _)
      · have M : Hid (markedL s.data.toList = false) := Lib.hid (by
          rw [E.out]
          cases h : markedL (b :: r) with
          | false => rfl
          | true => rcases HM.out.1 h with h | ⟨h, _⟩
                    · exact absurd h g1
                    · exact absurd h g2)
        have hx : guessL s.data.toList = ⟨⟨(plainL s.data.toList).toArray⟩, 0, false⟩ := by
          unfold guessL
          rw [if_neg (fun h => by rw [M.out] at h; cases h.2)]
        have HX := Lib.hid hx
        clear hx
        go_enter Tryz.func29, Tryz.ntmps29
        go_upto_region 1 with (fail)
        rw [HW0.out]
        clear HW0
        go_wp2_with (go_at_call 56; refine (plainName_any _ _ hs).mono ?_; rintro e w3 ⟨rfl, hw3⟩; rw [← hw3]; clear hw3)
        have hl1 := set_same (j := 0) HL.out (.string ⟨(plainL s.data.toList).toArray⟩)
        have hl2 := set_same (j := 1) hl1 (.int .i64 0)
        have hl3 := set_same (j := 2) hl2 (.bool false)
        rw [HX.out]
        exact close_guess (g := w.heap.size) (x := ⟨⟨(plainL s.data.toList).toArray⟩, 0, false⟩) hl3 rfl rfl (((HB0.out.setCell (Nat.le_refl _) _).setCell (Nat.le_refl _) _).setCell (Nat.le_refl _) _)
end Go.Proofs.YtnmnmkdmnohbmaaGreatDoor

namespace Go.Proofs.YtnmnmkdmnohbmaaGreatDoor
open Go.RowKit
attribute [local go_sem] St.cells

end Go.Proofs.YtnmnmkdmnohbmaaGreatDoor

namespace Go.Proofs.YtnmnmkdmnohbmaaGreatDoor
open Go.RowKit

theorem st_eqd {x y : St} : x = y ↔ x.it = y.it ∧ x.ix = y.ix ∧ (x.nm.toList == y.nm.toList) = true := by
  obtain ⟨n, i, b⟩ := x
  obtain ⟨n2, i2, b2⟩ := y
  constructor
  · rintro h
    cases h
    simp
  · rintro ⟨h1, h2, h3⟩
    dsimp only at *
    subst h1 h2
    have h4 : n.toList = n2.toList := by simpa using h3
    have : n = n2 := by
      have h5 : n.data = n2.data := by
        rw [ByteArray.toList_eq, ByteArray.toList_eq] at h4
        exact Array.toList_inj.1 h4
      obtain ⟨d⟩ := n
      obtain ⟨d2⟩ := n2
      cases h5
      rfl
    rw [this]

set_option maxRecDepth 100000 in
set_option maxHeartbeats 4000000 in
theorem SameSteps_d (a b : List St) (p q : Option Addr) (c d : Nat) (w : World) (ha : StepsAt w.heap.size w p a) (hb : StepsAt w.heap.size w q b) (la : a.length ≤ 4194304) (lb : b.length ≤ 4194304) :
    Calls Tryz.prog 12 #[.slice p a.length c, .slice q b.length d] w (fun e w' => ∃ r : Bool, e = .returned (.bool r) ∧ (r = true ↔ a = b) ∧ Below w.heap.size w w') := by
  by_cases hlen : a.length = b.length
  · have HLEN := Lib.hid hlen
    have hd5 : ((a.length : Int) != (b.length : Int)) = false := by simp [hlen]
    clear hlen
    go_enter Tryz.func12, Tryz.ntmps12
    go_wp2
    clear hd5
    go_loopw [5] (fun i wr => ∃ k : Nat, k ≤ a.length ∧ i = .int .i64 k ∧ Hid (a.take k = b.take k) ∧ Hid (Below w.heap.size w wr)) (fun i _ => a.length - (intOf i).toNat)
    case atStart => exact ⟨0, Nat.zero_le _, rfl, rfl, Lib.hid (Below.refl _ _)⟩
    case round =>
      obtain ⟨k, hka, rfl, hcmp, HBwr⟩ := hrel
      by_cases h1 : k < a.length
      · have h2 : k < b.length := by have := HLEN.out; omega
        obtain ⟨x, hx⟩ : ∃ x, a[k]? = some x := ⟨a[k], by simp [h1]⟩
        obtain ⟨y, hy⟩ : ∃ y, b[k]? = some y := ⟨b[k], by simp [h2]⟩
        rcases ha with ha | ⟨ba, oa, rfl, hBa, hca⟩
        · subst ha; simp at h1
        rcases hb with hb | ⟨bb, ob, rfl, hBb, hcb⟩
        · subst hb; simp at h2
        obtain ⟨a1, a2, a3⟩ := hca k x hx
        obtain ⟨b1, b2, b3⟩ := hcb k y hy
        have a1 := (HBwr.out.cell (p := ⟨ba, oa + k * 3, none⟩) hBa).trans a1
        have a2 := (HBwr.out.cell (p := ⟨ba, oa + k * 3 + 1, none⟩) hBa).trans a2
        have a3 := (HBwr.out.cell (p := ⟨ba, oa + k * 3 + 2, none⟩) hBa).trans a3
        have b1 := (HBwr.out.cell (p := ⟨bb, ob + k * 3, none⟩) hBb).trans b1
        have b2 := (HBwr.out.cell (p := ⟨bb, ob + k * 3 + 1, none⟩) hBb).trans b2
        have b3 := (HBwr.out.cell (p := ⟨bb, ob + k * 3 + 2, none⟩) hBb).trans b3
        have hw1 : ba < wr.heap.size := Nat.lt_of_lt_of_le hBa HBwr.out.size
        have hw2 : bb < wr.heap.size := Nat.lt_of_lt_of_le hBb HBwr.out.size
        have HE : Hid ((x.it = y.it ∧ x.ix = y.ix ∧ (x.nm.toList == y.nm.toList) = true → a.take (k + 1) = b.take (k + 1)) ∧ (¬ (x.it = y.it ∧ x.ix = y.ix ∧ (x.nm.toList == y.nm.toList) = true) → ¬ a = b)) := Lib.hid ⟨fun h => by
            rw [List.take_add_one, List.take_add_one, hcmp.out, hx, hy, st_eqd.2 h], fun h e => h (st_eqd.1 (by subst e; rw [hx] at hy; exact Option.some.inj hy))⟩
        clear hca hcb hx hy
        obtain ⟨xn, xi, xt⟩ := x
        obtain ⟨yn, yi, yt⟩ := y
        dsimp only at a1 a2 a3 b1 b2 b3 HE
        have tail : ∀ W, W = wr → True := fun _ _ => trivial
        clear tail
        by_cases e1 : xt = yt
        · subst e1
          by_cases e2 : xi = yi
          · subst e2
            cases e3 : (xn.toList == yn.toList) with
            | true =>
              rw [e3] at HE
              cases xt <;> (
                go_wp2
                refine wp_region_plan_below 37 [(0, [0, 1, 2, 3, 4, 5, 6, 7, 8, 9, 10, 11, 12, 13, 14, 15, 16, 17, 18, 19, 20, 21, 22, 23, 24, 25, 26, 27, 28, 29, 30, 31, 32, 33, 34, 35, 36])] (by kernel_rfl) (by kernel_rfl) (fun _ _ _ _ h => h) ?_
                simp only [wpSegs, pickOps, List.getElem?_toArray, List.getElem?_cons_zero, List.getElem?_cons_succ]
                have kc := cell_cls wr
                iterate 37 (go_big_quiet_step (fail))
                refine wpQuiet_nil ?_
                clear kc
                go_wp2
                go_roundw
                case rel => exact ⟨k + 1, by omega, by go_num, HE.out.1 (by simp), Lib.hid (HBwr.out.trans ((Below.drew (Below.refl wr.heap.size wr)).mono HBwr.out.size))⟩
                case measure => simp [intOf]; omega)
            | false =>
              rw [e3] at HE
              have HN := HE.out.2 (by simp)
              clear HE
              cases xt <;> (
                go_wp2
                refine wp_region_plan_below 37 [(0, [0, 1, 2, 3, 4, 5, 6, 7, 8, 9, 10, 11, 12, 13, 14, 15, 16, 17, 18, 19, 20, 21, 22, 23, 24, 25, 26, 27, 28, 29, 30, 31, 32, 33, 34, 35, 36])] (by kernel_rfl) (by kernel_rfl) (fun _ _ _ _ h => h) ?_
                simp only [wpSegs, pickOps, List.getElem?_toArray, List.getElem?_cons_zero, List.getElem?_cons_succ]
                have kc := cell_cls wr
                iterate 37 (go_big_quiet_step (fail))
                refine wpQuiet_nil ?_
                clear kc
                go_wp2
                go_ret
                exact ⟨false, rfl, by simp [HN], HBwr.out.trans ((Below.drew (Below.refl wr.heap.size wr)).mono HBwr.out.size)⟩)
          · have HN := HE.out.2 (by simp [e2])
            have e2' : decide (xi = yi) = false := decide_eq_false e2
            have e3' : decide (¬ xi = yi) = true := decide_eq_true e2
            have e4' : (xi != yi) = true := by simp [e2]
            have e5' : (xi == yi) = false := by simp [e2]
            clear HE
            cases xt <;> (
                go_wp2
                refine wp_region_plan_below 37 [(0, [0, 1, 2, 3, 4, 5, 6, 7, 8, 9, 10, 11, 12, 13, 14, 15, 16, 17, 18, 19, 20, 21, 22, 23, 24, 25, 26, 27, 28, 29, 30, 31, 32, 33, 34, 35, 36])] (by kernel_rfl) (by kernel_rfl) (fun _ _ _ _ h => h) ?_
                simp only [wpSegs, pickOps, List.getElem?_toArray, List.getElem?_cons_zero, List.getElem?_cons_succ]
                have kc := cell_cls wr
                iterate 37 (go_big_quiet_step (fail))
                refine wpQuiet_nil ?_
                clear kc
                go_wp2
                go_ret
                exact ⟨false, rfl, by simp [HN], HBwr.out.trans ((Below.drew (Below.refl wr.heap.size wr)).mono HBwr.out.size)⟩)
        · have HN := HE.out.2 (by simp [e1])
          clear HE
          cases xt <;> cases yt <;> first | exact absurd rfl e1 | (
                clear e1
                go_wp2
                refine wp_region_plan_below 37 [(0, [0, 1, 2, 3, 4, 5, 6, 7, 8, 9, 10, 11, 12, 13, 14, 15, 16, 17, 18, 19, 20, 21, 22, 23, 24, 25, 26, 27, 28, 29, 30, 31, 32, 33, 34, 35, 36])] (by kernel_rfl) (by kernel_rfl) (fun _ _ _ _ h => h) ?_
                simp only [wpSegs, pickOps, List.getElem?_toArray, List.getElem?_cons_zero, List.getElem?_cons_succ]
                have kc := cell_cls wr
                iterate 37 (go_big_quiet_step (fail))
                refine wpQuiet_nil ?_
                clear kc
                go_wp2
                go_ret
                exact ⟨false, rfl, by simp [HN], HBwr.out.trans ((Below.drew (Below.refl wr.heap.size wr)).mono HBwr.out.size)⟩)
      · have hall := hcmp.out
        rw [List.take_of_length_le (by omega), List.take_of_length_le (by have := HLEN.out; omega)] at hall
        have HA := Lib.hid hall
        clear hall
        go_wp2
        go_ret
        exact ⟨true, rfl, by simp [HA.out], HBwr.out⟩
  · have hne : ¬ a = b := fun e => hlen (by rw [e])
    have HN := Lib.hid hne
    have hd : decide (a.length = b.length) = false := decide_eq_false hlen
    clear hne
    go_enter Tryz.func12, Tryz.ntmps12
    go_wp2
    go_ret
    exact ⟨false, rfl, by simp [HN.out], Below.refl _ _⟩

end Go.Proofs.YtnmnmkdmnohbmaaGreatDoor

namespace Go.Proofs.YtnmnmkdmnohbmaaGreatDoor
open Go.RowKit
attribute [local go_sem] St.cells

theorem nm_le {l : List St} (h : wtP l ≤ 1048576) : ∀ s ∈ l, s.nm.size ≤ maxLen := by
  intro s hs
  have : wtS s ≤ wtP l := by
    induction l with
    | nil => cases hs
    | cons x l ih =>
      rw [wtP_cons] at *
      rcases List.mem_cons.1 hs with rfl | hs
      · omega
      · have := ih (by omega) hs
        omega
  unfold wtS at this
  rw [ba_len] at this
  unfold maxLen
  omega

theorem PathText_w (l : List St) (p : Option Addr) (c : Nat) (w : World) (hs : StepsAt w.heap.size w p l) (hi : ∀ s ∈ l, inI s.ix) (hw : wtP l ≤ 1048576)
    (htab : Lib.TabIs Tryz.prog w "internal/strconv.uint64pow10" .u64 Lib.pow10Tab) :
    Calls Tryz.prog 22 #[.slice p l.length c] w (RetB (.string ⟨(pathT l).toArray⟩) w) :=
  PathText_any l p c w hs (by have := wtP_len l; unfold maxLen; omega) hi (by have := pathT_len hi; omega) (nm_le hw) htab

end Go.Proofs.YtnmnmkdmnohbmaaGreatDoor

namespace Go.Proofs.YtnmnmkdmnohbmaaGreatDoor
open Go.RowKit
attribute [local go_sem] St.cells

theorem bare_ok {s : St} (h : inI s.ix) : okSt (bareS s) := by
  obtain ⟨n, i, t⟩ := s
  cases t
  · exact ⟨rfl, by show (-9223372036854775808 : Int) ≤ 0; decide, by show (0 : Int) ≤ 9223372036854775807; decide⟩
  · exact ⟨rfl, h⟩
theorem bares_ok {l : List St} (h : ∀ s ∈ l, inI s.ix) : ∀ s ∈ l.map bareS, okSt s := by
  intro s hs
  obtain ⟨x, hx, rfl⟩ := List.mem_map.1 hs
  exact bare_ok (h x hx)
theorem read_back {l : List St} (h : ∀ s ∈ l, inI s.ix) : readL (pathT l) = some (l.map bareS) := by
  rw [← pathT_bare]
  exact readL_path (bares_ok h)
theorem text_same {a b : List St} (ha : ∀ s ∈ a, inI s.ix) (hb : ∀ s ∈ b, inI s.ix) : pathT b = pathT a ↔ cmpP a b = 0 := by
  rw [cmpP_zero]
  constructor
  · intro h
    exact ok_inj (bares_ok ha) (bares_ok hb) (by rw [pathT_bare, pathT_bare, h])
  · intro h
    rw [← pathT_bare a, ← pathT_bare b, h]
theorem count_none {l : List UInt8} (h : ∀ c ∈ l, c ≠ 47) : l.count 47 = 0 := List.count_eq_zero.2 (fun hm => h 47 hm rfl)
theorem count_path : ∀ l : List St, (pathT l).count 47 = l.length
  | [] => rfl
  | s :: l => by
    have e : pathT (s :: l) = 47 :: stepT s ++ pathT l := rfl
    rw [e, List.cons_append, List.count_cons_self, List.count_append, count_none (stepT_slash s), count_path l]
    simp
theorem esc_ge (l : List UInt8) : l.length ≤ (l.flatMap escB).length := by
  induction l with
  | nil => simp
  | cons b l ih =>
    have : 1 ≤ (escB b).length := by
      rcases escB_cases b with ⟨_, e⟩ | ⟨_, e⟩ | ⟨_, _, e⟩ <;> rw [e] <;> simp
    simp only [List.flatMap_cons, List.length_append, List.length_cons]
    omega
theorem nm_room {l : List St} (h : ∀ s ∈ l, okSt s) : ∀ s ∈ l, s.nm.data.toList.length ≤ (pathT l).length := by
  intro s hs
  have h1 : s.nm.data.toList.length ≤ (stepT s).length := by
    have hb := (h s hs).1
    obtain ⟨n, i, t⟩ := s
    cases t
    · have := esc_ge n.data.toList
      show _ ≤ (nameT n.data.toList).length
      unfold nameT
      rw [List.length_append]
      dsimp only
      omega
    · have : n = ByteArray.empty := by simp [bareS] at hb; exact hb.symm
      subst this
      simp
  have h2 : (stepT s).length ≤ (pathT l).length := by
    clear h1 h
    induction l with
    | nil => cases hs
    | cons x l ih =>
      have e : pathT (x :: l) = 47 :: stepT x ++ pathT l := rfl
      rw [e, List.cons_append, List.length_cons, List.length_append]
      rcases List.mem_cons.1 hs with rfl | hs
      · omega
      · have := ih hs; omega
  omega

/-- The text of what was read. -/
theorem PathText_r (l : List St) (s : ByteArray) (hr : readL s.data.toList = some l) (hs : s.size ≤ 16777216) (p : Option Addr) (c : Nat) (w : World) (hst : StepsAt w.heap.size w p l)
    (htab : Lib.TabIs Tryz.prog w "internal/strconv.uint64pow10" .u64 Lib.pow10Tab) : Calls Tryz.prog 22 #[.slice p l.length c] w (RetB (.string s) w) := by
  obtain ⟨h1, h2⟩ := readL_iff.1 hr
  have h3 : (pathT l).length ≤ 16777216 := by rw [h1, ba_len]; exact hs
  have h4 : l.length ≤ (pathT l).length := by have := count_path l; have := List.count_le_length (a := (47 : UInt8)) (l := pathT l); omega
  have := PathText_any l p c w hst (by unfold maxLen; omega) (fun x hx => (h2 x hx).2) (by omega) (fun x hx => by have := nm_room h2 x hx; rw [ba_len] at this; unfold maxLen; omega) htab
  have e : (⟨(pathT l).toArray⟩ : ByteArray) = s := by rw [h1]
  rw [e] at this
  exact this

end Go.Proofs.YtnmnmkdmnohbmaaGreatDoor

namespace Go.Proofs.YtnmnmkdmnohbmaaGreatDoor
open Go.RowKit
attribute [local go_sem] St.cells

theorem plainL_len : ∀ l : List UInt8, (plainL l).length ≤ l.length
  | [] => by simp [plainL]
  | [b] => by simp [plainL]
  | b :: c :: r => by
    have h1 := plainL_len r
    have h2 := plainL_len (c :: r)
    unfold plainL
    split
    · split
      · simp only [List.length_cons]; omega
      · split <;> simp only [List.length_cons] <;> omega
    · simp only [List.length_cons] at h2 ⊢
      omega
theorem guess_nm (p : List UInt8) : (guessL p).nm.data.toList.length ≤ p.length := by
  unfold guessL
  split
  · simp
  · exact plainL_len p

theorem seg_at {l a seg rest : List UInt8} {f i : Nat} (h : l = a ++ 47 :: (seg ++ rest)) (hf : f = a.length + 1) (hi : i = f + seg.length) : l.drop i = rest ∧ (l.drop f).take (i - f) = seg ∧ l.length = i + rest.length := by
  have e1 : l = (a ++ [47]) ++ (seg ++ rest) := by rw [h]; simp
  have e2 : l = (a ++ [47] ++ seg) ++ rest := by rw [h]; simp
  have l1 : (a ++ [47]).length = f := by simp [hf]
  have l2 : (a ++ [47] ++ seg).length = i := by rw [List.length_append, l1, hi]
  refine ⟨?_, ?_, ?_⟩
  · rw [e2, ← l2, List.drop_left]
  · rw [e1, ← l1, List.drop_left, hi, ← l1, Nat.add_sub_cancel_left, List.take_left]
  · rw [e2, List.length_append, l2]

/-- Where the reading stands: within a piece, or at the end. -/
def RdAt (s : ByteArray) (d : List St) (f i : Nat) : Prop :=
  (∃ seg rest, s.data.toList = pathT d ++ 47 :: (seg ++ rest) ∧ (∀ c ∈ seg, c ≠ 47) ∧ f = (pathT d).length + 1 ∧ i = f + seg.length) ∨ (pathT d = s.data.toList ∧ i = s.size + 1)

set_option maxRecDepth 100000 in
set_option maxHeartbeats 4000000 in
theorem refPathRead_any (s : ByteArray) (hs : s.size ≤ 16777216) (w : World) (htab : Lib.TabIs Tryz.prog w "internal/strconv.uint64pow10" .u64 Lib.pow10Tab) :
    Calls Tryz.prog 10 #[.string s] w (ReadP s w) := by
  by_cases h0 : s.size = 0
  · obtain rfl := ba_nil h0
    go_enter Tryz.func10, Tryz.ntmps10
    go_wp2
    all_goals go_ret2
    exact ⟨none, [], 0, true, rfl, fun _ => rfl, (fun h => by cases h), .inl rfl, Nat.le_refl _, by decide, Below.refl _ _⟩
  · have h1 : 0 < s.size := by omega
    obtain ⟨r, e⟩ := ba_head h1
    have hne : ¬ s.toList = [] := by rw [ByteArray.toList_eq, e]; simp
    have hie : s.toList.isEmpty = false := by
      cases h : s.toList with
      | nil => exact absurd h hne
      | cons _ _ => rfl
    obtain ⟨b, hb⟩ : ∃ b, s[0] = b := ⟨_, rfl⟩
    rw [hb] at e
    have E := Lib.hid e
    clear e
    by_cases g1 : (b.toNat : Int) = 47
    · have GB : Hid (b = 47) := Lib.hid (byte_num (k := 47) g1 (by omega))
      have HT := Lib.hid (Lib.tabBelow_of_tabIs htab)
      go_enter Tryz.func10, Tryz.ntmps10
      go_wp2
      clear hb hie hne
      go_loopw [4, 5, 6] (fun pv fv iv wr => ∃ f i : Nat, fv = .int .i64 f ∧ iv = .int .i64 i ∧ i ≤ s.size + 1 ∧ f ≤ s.size + 1 ∧ ∃ d : List St, d.length ≤ s.size ∧ Hid (∀ x ∈ d, okSt x) ∧ Hid (wr.ownsRow w.heap.size 69 3 pv d.length (flatS d)) ∧ Hid (Below w.heap.size w wr) ∧ Hid (RdAt s d f i)) (fun _ _ iv _ => s.size + 1 - (intOf iv).toNat)
      case atStart => exact ⟨1, 1, rfl, rfl, by omega, by omega, [], by simp, Lib.hid (fun x hx => by cases hx), Lib.hid (World.ownsRow_nil _ _ _ _), Lib.hid (Below.refl _ _), Lib.hid (.inl ⟨[], r, by rw [E.out, GB.out]; rfl, (fun c hc => by cases hc), rfl, rfl⟩)⟩
      case round =>
        obtain ⟨f, i, rfl, rfl, hi, hf, d, hd, HOK, HR, HBW, HAT⟩ := hrel
        by_cases h2 : i ≤ s.size
        · obtain ⟨seg, rest, hA, hB, hC, hD⟩ : ∃ seg rest, s.data.toList = pathT d ++ 47 :: (seg ++ rest) ∧ (∀ c ∈ seg, c ≠ 47) ∧ f = (pathT d).length + 1 ∧ i = f + seg.length := by
            rcases HAT.out with h | ⟨_, h⟩
            · exact h
            · omega
          obtain ⟨sa, sb, sc⟩ := seg_at hA hC hD
          have SA := Lib.hid sa
          have SB := Lib.hid sb
          have SC := Lib.hid sc
          have HA := Lib.hid hA
          have HSF := Lib.hid hB
          have HC := Lib.hid hC
          have HD := Lib.hid hD
          have hfi : f ≤ i := by omega
          clear hA hB hC hD sa sb sc HAT
          by_cases h3 : i < s.size
          · obtain ⟨x, hx⟩ : ∃ x, s[i] = x := ⟨_, rfl⟩
            have HX := Lib.hid (drop_byte h3 hx)
            by_cases g2 : (x.toNat : Int) = 47
            · have HCUT : Hid (Cut rest ∧ ∀ g, stepT g = seg → RdAt s (d ++ [g]) (i + 1) (i + 1)) := Lib.hid (by
                have e : rest = 47 :: s.data.toList.drop (i + 1) := by rw [← SA.out, HX.out, byte_num (k := 47) g2 (by omega)]; rfl
                refine ⟨.inr ⟨_, e⟩, fun g hg => .inl ⟨[], s.data.toList.drop (i + 1), ?_, (fun c hc => by cases hc), ?_, rfl⟩⟩
                · rw [pathT_snoc, hg, List.append_assoc, List.nil_append, List.cons_append, ← e]
                  exact HA.out
                · have h := HD.out
                  have h4 := HC.out
                  rw [pathT_snoc, hg, List.length_append, List.length_cons]
                  omega)
              obtain ⟨g, hg⟩ : ∃ g, guessL seg = g := ⟨_, rfl⟩
              have hgk := guess_ok seg
              have hgn := guess_nm seg
              have hpd : (s.extract f i).data.toList = seg := by rw [Lib.extract_data]; exact SB.out
              have hsl : seg.length ≤ 16777216 := by have := HD.out; have := HC.out; omega
              have HCG : Hid (∀ w6, Calls Tryz.prog 29 #[.string (s.extract f i)] w6 (RetB (.agg g.cells) w6)) := Lib.hid (fun w6 => by
                have h := guess_any (s.extract f i) (by rw [← ba_len, hpd]; exact hsl) w6
                rw [hpd, hg] at h
                exact h)
              rw [hg] at hgk hgn
              obtain ⟨tx, htx⟩ : ∃ tx : ByteArray, (⟨(stepT g).toArray⟩ : ByteArray) = tx := ⟨_, rfl⟩
              have HTX : Hid (tx.data.toList = stepT g) := Lib.hid (by rw [← htx])
              have HCS : Hid (∀ w6, Below w.heap.size w w6 → Calls Tryz.prog 30 #[.agg g.cells] w6 (RetB (.string tx) w6)) := Lib.hid (fun w6 h => by
                rw [← htx]
                exact stepText_any g w6 hgk.2 (by rw [← ba_len]; omega) (HT.out _ h))
              have HPD := Lib.hid hpd
              have HG := Lib.hid hg
              have HGK := Lib.hid hgk
              have HDL : Hid (d.length + 1 ≤ s.size) := Lib.hid (by
                have h := congrArg List.length HA.out
                have h4 := count_path d
                have h5 := List.count_le_length (a := (47 : UInt8)) (l := pathT d)
                rw [ba_len, List.length_append, List.length_cons] at h
                omega)
              clear hgk hgn hpd hg htx
              obtain ⟨gn, gi, gt⟩ := g
              unfold St.cells at HCG HCS
              dsimp only at HCG HCS
              go_wp2_with fail
              refine (HCG.out _).mono ?_
              rintro e w3 ⟨rfl, hb3⟩
              have HB3 := Lib.hid (HBW.out.trans (hb3.mono HBW.out.size))
              have HB3' := Lib.hid hb3
              clear hb3
              obtain ⟨W5, hW5⟩ : ∃ W5, w3.alloc (.cells #[.string gn, .int .i64 gi, .bool gt] 69) = W5 := ⟨_, rfl⟩
              have hb5 : Below w3.heap.size w3 W5 := by rw [← hW5]; exact (Below.refl _ _).alloc (Nat.le_refl _) _
              have hg5 : W5.heap[w3.heap.size]? = some (.cells (St.mk gn gi gt).cells 69 (0, 0)) := by rw [← hW5]; exact heap_new w3 _
              have hs5 : w3.heap.size < W5.heap.size := by rw [← hW5]; simp
              have HB5 := Lib.hid (HB3.out.trans (hb5.mono HB3.out.size))
              have HB5' := Lib.hid (HB3'.out.trans (hb5.mono HB3'.out.size))
              have HG5 := Lib.hid hg5
              have HS5 := Lib.hid hs5
              have HW5 := Lib.hid hW5
              clear hW5 hb5 hg5 hs5
              go_wp2_with fail
              rw [HW5.out]
              clear HW5
              refine (HCS.out _ HB5.out).mono ?_
              rintro e w4 ⟨rfl, hb4⟩
              have HB4 := Lib.hid (HB5.out.trans (hb4.mono HB5.out.size))
              have HB4' := Lib.hid (HB5'.out.trans (hb4.mono HB5'.out.size))
              have hg4 : w4.heap[w3.heap.size]? = some (.cells (St.mk gn gi gt).cells 69 (0, 0)) := (hb4.block _ HS5.out).trans HG5.out
              have hs4 : w3.heap.size < w4.heap.size := Nat.lt_of_lt_of_le HS5.out hb4.size
              obtain ⟨a0, a1, a2⟩ := step_reads hg4
              dsimp only at a0 a1 a2
              clear hb4 hg4
              by_cases hw : stepT ⟨gn, gi, gt⟩ = seg
              · have hq : tx.toList = (s.extract f i).toList := by rw [ByteArray.toList_eq, ByteArray.toList_eq, HTX.out, HPD.out, hw]
                have hq2 : (tx.toList == (s.extract f i).toList) = true := beq_iff_eq.2 hq
                have HNX := Lib.hid (HCUT.out.2 _ hw)
                clear hw
                go_upto_region 15 with (fail)
                go_step
                iterate 3
                  refine wpList_plain rfl (fun K hK => ?_)
                  go_step
                  refine hK _ _ ?_
                  clear hK K
                obtain ⟨W6, hW6⟩ : ∃ W6, w4.alloc (.cells #[.string gn, .int .i64 gi, .bool gt] 69) = W6 := ⟨_, rfl⟩
                have hb6 : Below w4.heap.size w4 W6 := by rw [← hW6]; exact (Below.refl _ _).alloc (Nat.le_refl _) _
                have hg6 : W6.heap[w4.heap.size]? = some (.cells (St.mk gn gi gt).cells 69 (0, 0)) := by rw [← hW6]; exact heap_new w4 _
                obtain ⟨n0, n1, n2⟩ := step_reads hg6
                dsimp only at n0 n1 n2
                try rw [hW6]
                clear hW6
                have hb16 : Below wr.heap.size wr W6 := HB4'.out.trans (hb6.mono HB4'.out.size)
                refine wpList_plain rfl (fun K hK => ?_)
                have HG3 := HR.out.kept (grown_b hb16 none) (by cases u4.ownBlock <;> simp)
                refine wp_append_1 (P := Tryz.prog) W6 (.tmp 43) (.tmp 45) 30 rfl w.heap.size 69 (.agg #[.string ⟨#[]⟩, .int .i64 0, .bool false]) 3 32 Tryz.underlying30 (by kernel_rfl) rfl (by decide) u4 d.length _ rfl HG3 ⟨w4.heap.size, 0, none⟩ 1 1 [.string gn, .int .i64 gi, .bool gt] rfl (by decide) rfl ?c1 ?c2 ?c3 ?c4 ?c5 ?_
                case c1 =>
                  intro m v hv
                  rw [addr_add1, Nat.zero_add]
                  match m, hv with
                  | 0, hv => cases hv; exact n0
                  | 1, hv => cases hv; exact n1
                  | 2, hv => cases hv; exact n2
                  | m + 3, hv => simp at hv
                case c2 => intro v hv; simp at hv; rcases hv with rfl | rfl | rfl <;> rfl
                case c3 => unfold maxLen; omega
                case c4 => omega
                case c5 => have := HBW.out.size; have := hb16.size; omega
                intro v' w' hrow hgr hv'
                refine hK _ _ ?_
                clear hK K
                have HROW : Hid (w'.ownsRow w.heap.size 69 3 v' (d ++ [St.mk gn gi gt]).length (flatS (d ++ [St.mk gn gi gt]))) := Lib.hid (by
                  have e : flatS (d ++ [St.mk gn gi gt]) = flatS d ++ [.string gn, .int .i64 gi, .bool gt] := by simp [flatS, St.cells]
                  rw [List.length_append, e]
                  exact hrow)
                have HBN : Hid (Below w.heap.size w w') := Lib.hid ((HBW.out.trans (hb16.mono HBW.out.size)).grown hgr (by have := HBW.out.size; have := hb16.size; omega) (fun y hy => (HG3.lt y hy).1))
                clear hrow hgr hv' HG3 hb16 hb6 hg6 n0 n1 n2 a0 a1 a2 hs4 hq hq2
                have hdl := HDL.out
                go_wp2
                go_roundw
                case rel => exact ⟨i + 1, i + 1, by go_num, by go_num, by omega, by omega, d ++ [St.mk gn gi gt], by rw [List.length_append]; exact hdl, Lib.hid (fun y hy => by
                  rcases List.mem_append.1 hy with hy | hy
                  · exact HOK.out y hy
                  · obtain rfl := List.mem_singleton.1 hy; exact HGK.out), HROW, HBN, HNX⟩
                case measure => simp [intOf]; omega
              · have hq : ¬ tx.toList = (s.extract f i).toList := by rw [ByteArray.toList_eq, ByteArray.toList_eq, HTX.out, HPD.out]; exact hw
                have hq2 : (tx.toList == (s.extract f i).toList) = false := beq_eq_false_iff_ne.2 hq
                have HNO : Hid (readL s.data.toList = none) := Lib.hid (readL_refuse HA.out HSF.out HCUT.out.1 (by rw [HG.out]; exact hw))
                clear hw
                go_wp2
                go_ret2
                exact ⟨none, [], 0, false, rfl, (fun h => by cases h), fun _ => ⟨HNO.out, rfl⟩, .inl rfl, Nat.le_refl _, by decide, HB4.out⟩
            · have HN : Hid (RdAt s d f (i + 1)) := Lib.hid (.inl ⟨seg ++ [x], s.data.toList.drop (i + 1), by rw [List.append_assoc, List.singleton_append, ← HX.out, SA.out]; exact HA.out, (fun c hc => by
                rcases List.mem_append.1 hc with hc | hc
                · exact HSF.out c hc
                · obtain rfl := List.mem_singleton.1 hc
                  exact fun e => g2 (by rw [e]; rfl)), HC.out, by have := HD.out; rw [List.length_append]; simp; omega⟩)
              go_wp2
              go_roundw
              case rel => exact ⟨f, i + 1, rfl, by go_num, by omega, by omega, d, hd, HOK, HR, HBW, HN⟩
              case measure => simp [intOf]; omega
          · have HCUT : Hid (Cut rest ∧ ∀ g, stepT g = seg → RdAt s (d ++ [g]) (i + 1) (i + 1)) := Lib.hid (by
              have e : rest = [] := List.eq_nil_of_length_eq_zero (by have := SC.out; rw [ba_len] at this; omega)
              refine ⟨.inl e, fun g hg => .inr ⟨?_, by omega⟩⟩
              have h := HA.out
              rw [e, List.append_nil] at h
              rw [pathT_snoc, hg, h])
            obtain ⟨g, hg⟩ : ∃ g, guessL seg = g := ⟨_, rfl⟩
            have hgk := guess_ok seg
            have hgn := guess_nm seg
            have hpd : (s.extract f i).data.toList = seg := by rw [Lib.extract_data]; exact SB.out
            have hsl : seg.length ≤ 16777216 := by have := HD.out; have := HC.out; omega
            have HCG : Hid (∀ w6, Calls Tryz.prog 29 #[.string (s.extract f i)] w6 (RetB (.agg g.cells) w6)) := Lib.hid (fun w6 => by
              have h := guess_any (s.extract f i) (by rw [← ba_len, hpd]; exact hsl) w6
              rw [hpd, hg] at h
              exact h)
            rw [hg] at hgk hgn
            obtain ⟨tx, htx⟩ : ∃ tx : ByteArray, (⟨(stepT g).toArray⟩ : ByteArray) = tx := ⟨_, rfl⟩
            have HTX : Hid (tx.data.toList = stepT g) := Lib.hid (by rw [← htx])
            have HCS : Hid (∀ w6, Below w.heap.size w w6 → Calls Tryz.prog 30 #[.agg g.cells] w6 (RetB (.string tx) w6)) := Lib.hid (fun w6 h => by
              rw [← htx]
              exact stepText_any g w6 hgk.2 (by rw [← ba_len]; omega) (HT.out _ h))
            have HPD := Lib.hid hpd
            have HG := Lib.hid hg
            have HGK := Lib.hid hgk
            have HDL : Hid (d.length + 1 ≤ s.size) := Lib.hid (by
              have h := congrArg List.length HA.out
              have h4 := count_path d
              have h5 := List.count_le_length (a := (47 : UInt8)) (l := pathT d)
              rw [ba_len, List.length_append, List.length_cons] at h
              omega)
            clear hgk hgn hpd hg htx
            obtain ⟨gn, gi, gt⟩ := g
            unfold St.cells at HCG HCS
            dsimp only at HCG HCS
            go_wp2_with fail
            refine (HCG.out _).mono ?_
            rintro e w3 ⟨rfl, hb3⟩
            have HB3 := Lib.hid (HBW.out.trans (hb3.mono HBW.out.size))
            have HB3' := Lib.hid hb3
            clear hb3
            obtain ⟨W5, hW5⟩ : ∃ W5, w3.alloc (.cells #[.string gn, .int .i64 gi, .bool gt] 69) = W5 := ⟨_, rfl⟩
            have hb5 : Below w3.heap.size w3 W5 := by rw [← hW5]; exact (Below.refl _ _).alloc (Nat.le_refl _) _
            have hg5 : W5.heap[w3.heap.size]? = some (.cells (St.mk gn gi gt).cells 69 (0, 0)) := by rw [← hW5]; exact heap_new w3 _
            have hs5 : w3.heap.size < W5.heap.size := by rw [← hW5]; simp
            have HB5 := Lib.hid (HB3.out.trans (hb5.mono HB3.out.size))
            have HB5' := Lib.hid (HB3'.out.trans (hb5.mono HB3'.out.size))
            have HG5 := Lib.hid hg5
            have HS5 := Lib.hid hs5
            have HW5 := Lib.hid hW5
            clear hW5 hb5 hg5 hs5
            go_wp2_with fail
            rw [HW5.out]
            clear HW5
            refine (HCS.out _ HB5.out).mono ?_
            rintro e w4 ⟨rfl, hb4⟩
            have HB4 := Lib.hid (HB5.out.trans (hb4.mono HB5.out.size))
            have HB4' := Lib.hid (HB5'.out.trans (hb4.mono HB5'.out.size))
            have hg4 : w4.heap[w3.heap.size]? = some (.cells (St.mk gn gi gt).cells 69 (0, 0)) := (hb4.block _ HS5.out).trans HG5.out
            have hs4 : w3.heap.size < w4.heap.size := Nat.lt_of_lt_of_le HS5.out hb4.size
            obtain ⟨a0, a1, a2⟩ := step_reads hg4
            dsimp only at a0 a1 a2
            clear hb4 hg4
            by_cases hw : stepT ⟨gn, gi, gt⟩ = seg
            · have hq : tx.toList = (s.extract f i).toList := by rw [ByteArray.toList_eq, ByteArray.toList_eq, HTX.out, HPD.out, hw]
              have hq2 : (tx.toList == (s.extract f i).toList) = true := beq_iff_eq.2 hq
              have HNX := Lib.hid (HCUT.out.2 _ hw)
              clear hw
              go_upto_region 15 with (fail)
              go_step
              iterate 3
                refine wpList_plain rfl (fun K hK => ?_)
                go_step
                refine hK _ _ ?_
                clear hK K
              obtain ⟨W6, hW6⟩ : ∃ W6, w4.alloc (.cells #[.string gn, .int .i64 gi, .bool gt] 69) = W6 := ⟨_, rfl⟩
              have hb6 : Below w4.heap.size w4 W6 := by rw [← hW6]; exact (Below.refl _ _).alloc (Nat.le_refl _) _
              have hg6 : W6.heap[w4.heap.size]? = some (.cells (St.mk gn gi gt).cells 69 (0, 0)) := by rw [← hW6]; exact heap_new w4 _
              obtain ⟨n0, n1, n2⟩ := step_reads hg6
              dsimp only at n0 n1 n2
              try rw [hW6]
              clear hW6
              have hb16 : Below wr.heap.size wr W6 := HB4'.out.trans (hb6.mono HB4'.out.size)
              refine wpList_plain rfl (fun K hK => ?_)
              have HG3 := HR.out.kept (grown_b hb16 none) (by cases u4.ownBlock <;> simp)
              refine wp_append_1 (P := Tryz.prog) W6 (.tmp 43) (.tmp 45) 30 rfl w.heap.size 69 (.agg #[.string ⟨#[]⟩, .int .i64 0, .bool false]) 3 32 Tryz.underlying30 (by kernel_rfl) rfl (by decide) u4 d.length _ rfl HG3 ⟨w4.heap.size, 0, none⟩ 1 1 [.string gn, .int .i64 gi, .bool gt] rfl (by decide) rfl ?c1 ?c2 ?c3 ?c4 ?c5 ?_
              case c1 =>
                intro m v hv
                rw [addr_add1, Nat.zero_add]
                match m, hv with
                | 0, hv => cases hv; exact n0
                | 1, hv => cases hv; exact n1
                | 2, hv => cases hv; exact n2
                | m + 3, hv => simp at hv
              case c2 => intro v hv; simp at hv; rcases hv with rfl | rfl | rfl <;> rfl
              case c3 => unfold maxLen; omega
              case c4 => omega
              case c5 => have := HBW.out.size; have := hb16.size; omega
              intro v' w' hrow hgr hv'
              refine hK _ _ ?_
              clear hK K
              have HROW : Hid (w'.ownsRow w.heap.size 69 3 v' (d ++ [St.mk gn gi gt]).length (flatS (d ++ [St.mk gn gi gt]))) := Lib.hid (by
                have e : flatS (d ++ [St.mk gn gi gt]) = flatS d ++ [.string gn, .int .i64 gi, .bool gt] := by simp [flatS, St.cells]
                rw [List.length_append, e]
                exact hrow)
              have HBN : Hid (Below w.heap.size w w') := Lib.hid ((HBW.out.trans (hb16.mono HBW.out.size)).grown hgr (by have := HBW.out.size; have := hb16.size; omega) (fun y hy => (HG3.lt y hy).1))
              clear hrow hgr hv' HG3 hb16 hb6 hg6 n0 n1 n2 a0 a1 a2 hs4 hq hq2
              have hdl := HDL.out
              go_wp2
              go_roundw
              case rel => exact ⟨i + 1, i + 1, by go_num, by go_num, by omega, by omega, d ++ [St.mk gn gi gt], by rw [List.length_append]; exact hdl, Lib.hid (fun y hy => by
                rcases List.mem_append.1 hy with hy | hy
                · exact HOK.out y hy
                · obtain rfl := List.mem_singleton.1 hy; exact HGK.out), HROW, HBN, HNX⟩
              case measure => simp [intOf]; omega
            · have hq : ¬ tx.toList = (s.extract f i).toList := by rw [ByteArray.toList_eq, ByteArray.toList_eq, HTX.out, HPD.out]; exact hw
              have hq2 : (tx.toList == (s.extract f i).toList) = false := beq_eq_false_iff_ne.2 hq
              have HNO : Hid (readL s.data.toList = none) := Lib.hid (readL_refuse HA.out HSF.out HCUT.out.1 (by rw [HG.out]; exact hw))
              clear hw
              go_wp2
              go_ret2
              exact ⟨none, [], 0, false, rfl, (fun h => by cases h), fun _ => ⟨HNO.out, rfl⟩, .inl rfl, Nat.le_refl _, by decide, HB4.out⟩
        · have HY : Hid (readL s.data.toList = some d) := Lib.hid (by
            rcases HAT.out with ⟨seg, rest, hA, _, hC, hD⟩ | ⟨h, _⟩
            · obtain ⟨_, _, sc⟩ := seg_at hA hC hD
              rw [ba_len] at sc
              omega
            · exact readL_iff.2 ⟨h, HOK.out⟩)
          obtain ⟨p, c, rfl, hpc, hcm, hst⟩ := row_steps HR.out
          have HST := Lib.hid hst
          have HPC := Lib.hid hpc
          have HCM := Lib.hid hcm
          clear hst hpc hcm
          go_wp2
          go_ret2
          exact ⟨p, d, c, true, rfl, fun _ => HY.out, (fun h => by cases h), HST.out, HPC.out, HCM.out, HBW.out⟩
    · have g1' : ((b.toNat : Int) != 47) = true := by simp [g1]
      have HN : Hid (readL s.data.toList = none) := Lib.hid (readL_head E.out (fun e => g1 (by rw [e]; rfl)))
      go_enter Tryz.func10, Tryz.ntmps10
      go_wp2
      all_goals go_ret2
      exact ⟨none, [], 0, false, rfl, (fun h => by cases h), fun _ => ⟨HN.out, rfl⟩, .inl rfl, Nat.le_refl _, by decide, Below.refl _ _⟩
end Go.Proofs.YtnmnmkdmnohbmaaGreatDoor
