/- The reference's guess at one step. Conditions: none. -/
import Derived.Test.YtnmnmkdmnohbmaaDoorRefText
namespace Go.Proofs.YtnmnmkdmnohbmaaDoor
open Go.RowKit
attribute [local go_sem] St.cells

theorem close_guess {w W : World} {a : Act} {g : Nat} {x : St} (hL : W.heap[g]? = some (.cells x.cells 34 (0, 0)))
    (t2 : a.tmps[2]?.getD undef = .pointer (some ⟨g, 0, none⟩)) (hd : a.defers = []) (hb : Below w.heap.size w W) :
    bodyPost Tryd.prog Tryd.f91 (RetB (.agg x.cells) w) .ret a W := by
  have c0 : W.cell? ⟨g, 0, none⟩ = some (.string x.nm) := by simp [World.cell?, hL, St.cells]
  have c1 : W.cell? ⟨g, 1, none⟩ = some (.int .i64 x.ix) := by simp [World.cell?, hL, St.cells]
  have c2 : W.cell? ⟨g, 2, none⟩ = some (.bool x.it) := by simp [World.cell?, hL, St.cells]
  refine bodyPost_ret (v := .agg x.cells) ?_ hd ⟨rfl, hb⟩
  simp only [results, Tryd.results91]
  simp [go_sem, t2, c0, c1, c2]

theorem byte_wrap (x : UInt8) : wrap64 (x.toNat : Int) = x.toNat := by
  have := x.toNat_lt
  unfold wrap64
  omega
theorem num_step {s : ByteArray} {k : Nat} (h : k < s.size) {x : UInt8} (hx : s[k] = x) : numW (s.data.toList.take (k + 1)) = numStep (numW (s.data.toList.take k)) x := by
  have h2 : s.data.toList[k]? = some x := by
    rw [Array.getElem?_toList, ← hx]
    exact Array.getElem?_eq_getElem h
  rw [List.take_add_one, h2]
  exact numW_snoc _ _

set_option maxRecDepth 100000 in
set_option maxHeartbeats 4000000 in
theorem guess_any (s : ByteArray) (hs : s.size ≤ 16777216) (w : World) :
    Calls Tryd.prog 91 #[.string s] w (RetB (.agg (guessL s.data.toList).cells) w) := by
  obtain ⟨W0, hW0⟩ : ∃ W0, w.alloc (.cells #[.string ⟨#[]⟩, .int .i64 0, .bool false] 34) = W0 := ⟨_, rfl⟩
  have HB0 : Hid (Below w.heap.size w W0) := Lib.hid (by rw [← hW0]; exact (Below.refl _ _).alloc (Nat.le_refl _) _)
  have hL : W0.heap[w.heap.size]? = some (.cells #[.string ⟨#[]⟩, .int .i64 0, .bool false] 34 (0, 0)) := by rw [← hW0]; exact heap_new w _
  have f0 : W0.frozen? ⟨w.heap.size, 0, none⟩ = false := by simp [World.frozen?, hL]
  have f1 : W0.frozen? ⟨w.heap.size, 1, none⟩ = false := by simp [World.frozen?, hL]
  have f2 : W0.frozen? ⟨w.heap.size, 2, none⟩ = false := by simp [World.frozen?, hL]
  have c0 : W0.cell? ⟨w.heap.size, 0, none⟩ = some (.string ⟨#[]⟩) := by simp [World.cell?, hL]
  have c1 : W0.cell? ⟨w.heap.size, 1, none⟩ = some (.int .i64 0) := by simp [World.cell?, hL]
  have c2 : W0.cell? ⟨w.heap.size, 2, none⟩ = some (.bool false) := by simp [World.cell?, hL]
  have hlt : w.heap.size < W0.heap.size := by rw [← hW0]; simp
  have HL := Lib.hid hL
  have HW0 := Lib.hid hW0
  clear hW0 hL
  by_cases h0 : s.size = 0
  · obtain rfl := ba_nil h0
    go_enter Tryd.func91, Tryd.ntmps91
    go_upto_region 1 with (fail)
    rw [HW0.out]
    clear HW0
    go_wp2_with (go_at_call 115; refine (plainName_any _ _ hs).mono ?_; rintro e w3 ⟨rfl, hw3⟩; rw [← hw3]; clear hw3)
    have hl1 := set_same (j := 0) HL.out (.string ⟨(plainL []).toArray⟩)
    have hl2 := set_same (j := 1) hl1 (.int .i64 0)
    have hl3 := set_same (j := 2) hl2 (.bool false)
    have hx : guessL ByteArray.empty.data.toList = ⟨⟨(plainL []).toArray⟩, 0, false⟩ := by
      unfold guessL
      rw [if_neg (fun h => h.1 rfl)]
      rfl
    rw [hx]
    exact close_guess (g := w.heap.size) (x := ⟨⟨(plainL []).toArray⟩, 0, false⟩) hl3 rfl rfl (((HB0.out.setCell (Nat.le_refl _) _).setCell (Nat.le_refl _) _).setCell (Nat.le_refl _) _)
  · have h1 : 0 < s.size := by omega
    obtain ⟨r, e⟩ := ba_head h1
    have hne : ¬ s.toList = [] := by rw [ByteArray.toList_eq, e]; simp
    have hie : s.toList.isEmpty = false := by
      cases h : s.toList with
      | nil => exact absurd h hne
      | cons _ _ => rfl
    obtain ⟨b, hb⟩ : ∃ b, s[0] = b := ⟨_, rfl⟩
    rw [hb] at e
    have E := Lib.hid e
    have HM := Lib.hid (mark_tell b r)
    clear e
    by_cases g1 : (b.toNat : Int) = 45
    · have M : Hid (markedL s.data.toList = true) := Lib.hid (by rw [E.out]; exact HM.out.2 (.inl g1))
      have GB : Hid (b = 45) := Lib.hid (byte_num (k := 45) g1 (by omega))
      have hx : guessL s.data.toList = ⟨⟨#[]⟩, wrap64 (-(numW s.data.toList)), true⟩ := by
        unfold guessL
        rw [if_pos ⟨by rw [E.out]; simp, M.out⟩]
        congr 1
        rw [if_pos (by rw [E.out, GB.out]; rfl)]
      have HX := Lib.hid hx
      clear hx
      go_enter Tryd.func91, Tryd.ntmps91
      go_upto_region 1 with (fail)
      rw [HW0.out]
      clear HW0
      go_wp2
      go_loopw [3, 4] (fun nv iv wr => ∃ k : Nat, k ≤ s.size ∧ iv = .int .i64 k ∧ ∃ m : Int, nv = .int .i64 m ∧ Hid (m = numW (s.data.toList.take k)) ∧ Hid (wr = W0)) (fun _ iv _ => s.size - (intOf iv).toNat)
      case atStart => exact ⟨0, Nat.zero_le _, rfl, 0, rfl, Lib.hid rfl, Lib.hid (by first | rfl | trivial)⟩
      case round =>
        obtain ⟨k, hk, rfl, m, rfl, HMN, HWr⟩ := hrel
        by_cases h2 : k < s.size
        · obtain ⟨x, hx⟩ : ∃ x, s[k] = x := ⟨_, rfl⟩
          have HNS := Lib.hid (num_step h2 hx)
          by_cases g5 : (x.toNat : Int) = 45
          · have HST : Hid (numStep m x = m) := Lib.hid (by have e : x = 45 := byte_num (k := 45) g5 (by omega); unfold numStep; rw [if_pos e])
            go_wp2
            go_roundw
            case rel => exact ⟨k + 1, by omega, by go_num, m, rfl, Lib.hid (by rw [HNS.out, ← HMN.out, HST.out]), HWr⟩
            case measure => simp [intOf]; omega
          · have HST : Hid (numStep m x = wrap64 (wrap64 (wrap64 (m * 10) + wrap64 x.toNat) - 48)) := Lib.hid (by unfold numStep; rw [if_neg (fun e => g5 (by rw [e]; rfl)), byte_wrap])
            go_wp2
            go_roundw
            case rel => exact ⟨k + 1, by omega, by go_num, _, rfl, Lib.hid (by rw [HNS.out, ← HMN.out, HST.out]), HWr⟩
            case measure => simp [intOf]; omega
        · have HALL : Hid (m = numW s.data.toList) := Lib.hid (by rw [HMN.out, take_full (by omega)])
          have hwr := HWr.out
          subst hwr
          go_wp2
          have hx3 : guessL s.data.toList = ⟨⟨#[]⟩, wrap64 (-m), true⟩ := by rw [HX.out, ← HALL.out]
          have hl1 := set_same (j := 0) HL.out (.string ⟨#[]⟩)
          have hl2 := set_same (j := 1) hl1 (.int .i64 (wrap64 (-m)))
          have hl3 := set_same (j := 2) hl2 (.bool true)
          show bodyPost _ _ (RetB (.agg (guessL s.data.toList).cells) w) .ret _ _
          rw [hx3]
          exact close_guess (g := w.heap.size) (x := ⟨⟨#[]⟩, wrap64 (-m), true⟩) hl3 rfl rfl (((HB0.out.setCell (Nat.le_refl _) _).setCell (Nat.le_refl _) _).setCell (Nat.le_refl _) _)
    · by_cases g2 : (48 : Int) ≤ b.toNat
      · by_cases g3 : (b.toNat : Int) ≤ 57
        · have M : Hid (markedL s.data.toList = true) := Lib.hid (by rw [E.out]; exact HM.out.2 (.inr ⟨g2, g3⟩))
          have hx : guessL s.data.toList = ⟨⟨#[]⟩, numW s.data.toList, true⟩ := by
            unfold guessL
            rw [if_pos ⟨by rw [E.out]; simp, M.out⟩]
            congr 1
            rw [if_neg (by rw [E.out]; intro h; exact g1 (by rw [Option.some.inj h]; rfl))]
          have HX := Lib.hid hx
          clear hx
          go_enter Tryd.func91, Tryd.ntmps91
          go_upto_region 1 with (fail)
          rw [HW0.out]
          clear HW0
          go_wp2
          go_loopw [3, 4] (fun nv iv wr => ∃ k : Nat, k ≤ s.size ∧ iv = .int .i64 k ∧ ∃ m : Int, nv = .int .i64 m ∧ Hid (m = numW (s.data.toList.take k)) ∧ Hid (wr = W0)) (fun _ iv _ => s.size - (intOf iv).toNat)
          case atStart => exact ⟨0, Nat.zero_le _, rfl, 0, rfl, Lib.hid rfl, Lib.hid (by first | rfl | trivial)⟩
          case round =>
            obtain ⟨k, hk, rfl, m, rfl, HMN, HWr⟩ := hrel
            by_cases h2 : k < s.size
            · obtain ⟨x, hx⟩ : ∃ x, s[k] = x := ⟨_, rfl⟩
              have HNS := Lib.hid (num_step h2 hx)
              by_cases g5 : (x.toNat : Int) = 45
              · have HST : Hid (numStep m x = m) := Lib.hid (by have e : x = 45 := byte_num (k := 45) g5 (by omega); unfold numStep; rw [if_pos e])
                go_wp2
                go_roundw
                case rel => exact ⟨k + 1, by omega, by go_num, m, rfl, Lib.hid (by rw [HNS.out, ← HMN.out, HST.out]), HWr⟩
                case measure => simp [intOf]; omega
              · have HST : Hid (numStep m x = wrap64 (wrap64 (wrap64 (m * 10) + wrap64 x.toNat) - 48)) := Lib.hid (by unfold numStep; rw [if_neg (fun e => g5 (by rw [e]; rfl)), byte_wrap])
                go_wp2
                go_roundw
                case rel => exact ⟨k + 1, by omega, by go_num, _, rfl, Lib.hid (by rw [HNS.out, ← HMN.out, HST.out]), HWr⟩
                case measure => simp [intOf]; omega
            · have HALL : Hid (m = numW s.data.toList) := Lib.hid (by rw [HMN.out, take_full (by omega)])
              have hwr := HWr.out
              subst hwr
              go_wp2
              have hx3 : guessL s.data.toList = ⟨⟨#[]⟩, m, true⟩ := by rw [HX.out, ← HALL.out]
              have hl1 := set_same (j := 0) HL.out (.string ⟨#[]⟩)
              have hl2 := set_same (j := 1) hl1 (.int .i64 (m))
              have hl3 := set_same (j := 2) hl2 (.bool true)
              show bodyPost _ _ (RetB (.agg (guessL s.data.toList).cells) w) .ret _ _
              rw [hx3]
              exact close_guess (g := w.heap.size) (x := ⟨⟨#[]⟩, m, true⟩) hl3 rfl rfl (((HB0.out.setCell (Nat.le_refl _) _).setCell (Nat.le_refl _) _).setCell (Nat.le_refl _) _)
        · have M : Hid (markedL s.data.toList = false) := Lib.hid (by
            rw [E.out]
            cases h : markedL (b :: r) with
            | false => rfl
            | true => rcases HM.out.1 h with h | ⟨_, h⟩
                      · exact absurd h g1
                      · exact absurd h g3)
          have g3' : decide ((b.toNat : Int) ≤ 57) = false := decide_eq_false g3
          have hx : guessL s.data.toList = ⟨⟨(plainL s.data.toList).toArray⟩, 0, false⟩ := by
            unfold guessL
            rw [if_neg (fun h => by rw [M.out] at h; cases h.2)]
          have HX := Lib.hid hx
          clear hx
          go_enter Tryd.func91, Tryd.ntmps91
          go_upto_region 1 with (fail)
          rw [HW0.out]
          clear HW0
          go_wp2_with (go_at_call 115; refine (plainName_any _ _ hs).mono ?_; rintro e w3 ⟨rfl, hw3⟩; rw [← hw3]; clear hw3)
          have hl1 := set_same (j := 0) HL.out (.string ⟨(plainL s.data.toList).toArray⟩)
          have hl2 := set_same (j := 1) hl1 (.int .i64 0)
          have hl3 := set_same (j := 2) hl2 (.bool false)
          rw [HX.out]
          exact close_guess (g := w.heap.size) (x := ⟨⟨(plainL s.data.toList).toArray⟩, 0, false⟩) hl3 rfl rfl (((HB0.out.setCell (Nat.le_refl _) _).setCell (Nat.le_refl _) _).setCell (Nat.le_refl _) _)
      · have M : Hid (markedL s.data.toList = false) := Lib.hid (by
          rw [E.out]
          cases h : markedL (b :: r) with
          | false => rfl
          | true => rcases HM.out.1 h with h | ⟨h, _⟩
                    · exact absurd h g1
                    · exact absurd h g2)
        have hx : guessL s.data.toList = ⟨⟨(plainL s.data.toList).toArray⟩, 0, false⟩ := by
          unfold guessL
          rw [if_neg (fun h => by rw [M.out] at h; cases h.2)]
        have HX := Lib.hid hx
        clear hx
        go_enter Tryd.func91, Tryd.ntmps91
        go_upto_region 1 with (fail)
        rw [HW0.out]
        clear HW0
        go_wp2_with (go_at_call 115; refine (plainName_any _ _ hs).mono ?_; rintro e w3 ⟨rfl, hw3⟩; rw [← hw3]; clear hw3)
        have hl1 := set_same (j := 0) HL.out (.string ⟨(plainL s.data.toList).toArray⟩)
        have hl2 := set_same (j := 1) hl1 (.int .i64 0)
        have hl3 := set_same (j := 2) hl2 (.bool false)
        rw [HX.out]
        exact close_guess (g := w.heap.size) (x := ⟨⟨(plainL s.data.toList).toArray⟩, 0, false⟩) hl3 rfl rfl (((HB0.out.setCell (Nat.le_refl _) _).setCell (Nat.le_refl _) _).setCell (Nat.le_refl _) _)
end Go.Proofs.YtnmnmkdmnohbmaaDoor
