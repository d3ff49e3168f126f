/- Helper text: the walk over grow of the statements' lists: each list's first elements stand. Conditions: none. -/
import Derived.Test.YtnmnmkdmnohbmaaGreatDoorPackI
namespace Go.Proofs.YtnmnmkdmnohbmaaGreatDoor
open Go Go.RowKit
attribute [local go_sem] run_store_float

def grownB : ByteArray := ⟨#[103, 114, 111, 119, 110]⟩
theorem ent_get {es : List Ent} {K : Nat} (h : K < es.length) : ∃ hb ho p n c, es[K]? = some ⟨hb, ho, p, n, c⟩ := by
  obtain ⟨e, he⟩ : ∃ e, es[K]? = some e := ⟨_, List.getElem?_eq_getElem h⟩
  obtain ⟨hb, ho, p, n, c⟩ := e
  exact ⟨hb, ho, p, n, c, he⟩
theorem zero_one {z : Array Value} {n : Nat} (h : ∀ u ∈ z, u.oneCell' = true) : ∀ u ∈ (Builtin.zeroCells z n).toList, u.oneCell' = true := by
  intro u hu
  rw [Array.mem_toList_iff] at hu
  unfold Builtin.zeroCells at hu
  simp only [Array.mem_map, Array.mem_range] at hu
  obtain ⟨i, hi, rfl⟩ := hu
  have hz : 0 < z.size := by
    rcases Nat.eq_zero_or_pos z.size with h0 | h0
    · rw [h0] at hi; omega
    · exact h0
  have hlt := Nat.mod_lt i hz
  rw [getElem!_pos z _ hlt]
  exact h _ (Array.getElem_mem hlt)
def GrowPost (lim : Nat → Option Nat) (w : World) (e : Ending) (w' : World) : Prop := e = .returned (.tuple #[]) ∧ Keep lim w w'
/-- What a round reads: the row's pointer, the list's header. -/
theorem row_fact {bad : Nat → Prop} {lim : Nat → Option Nat} {w W : World} {p : Option Addr} {es : List Ent} (h : ∀ j x, (es.map Ent.ptr)[j]? = some x → ∃ g, p = some ⟨g, 0, none⟩ ∧ ¬ bad g ∧ g < w.heap.size ∧ w.cell? ⟨g, j, none⟩ = some x) (hk : Keep lim w W) (hl : ∀ b, ¬ bad b → lim b = none)
    {K : Nat} {e : Ent} (he : es[K]? = some e) : ∃ g, p = some ⟨g, 0, none⟩ ∧ W.cell? ⟨g, K, none⟩ = some (.pointer (some ⟨e.hb, e.ho, none⟩)) := by
  obtain ⟨g, h1, h2, _, h4⟩ := h K e.ptr (by rw [List.getElem?_map, he]; rfl)
  exact ⟨g, h1, hk.cell h4 (fun m hm => by rw [hl g h2] at hm; cases hm)⟩

set_option maxRecDepth 100000 in
set_option maxHeartbeats 4000000 in
theorem grow_any (w : World) (H : Nat) (s0 s1 s2 s3 : Value) (e0 e1 e2 e3 : List Ent) (hF : Four w e0 e1 e2 e3) (hH : Held4 (Bad e0 e1 e2 e3) w H s0 s1 s2 s3 e0 e1 e2 e3)
    (l0 : e0.length ≤ 1000000000) (l1 : e1.length ≤ 1000000000) (l2 : e2.length ≤ 1000000000) (l3 : e3.length ≤ 1000000000)
    (n0 : ∀ e ∈ e0, e.n ≤ 1000000000) (n1 : ∀ e ∈ e1, e.n ≤ 1000000000) (n2 : ∀ e ∈ e2, e.n ≤ 1000000000) (n3 : ∀ e ∈ e3, e.n ≤ 1000000000) :
    Calls Tryz.prog 34 #[.pointer (some ⟨H, 0, none⟩)] w (GrowPost (lim4 e0 e1 e2 e3) w) := by
  have hlim := hF.lim
  have LN := Lib.hid (show ∀ b, ¬ Bad e0 e1 e2 e3 b → lim4 e0 e1 e2 e3 b = none from fun b h => Four.limNone (w := w) h)
  have HO := hH.off
  obtain ⟨hblk, hoff, ⟨p0, c0, rfl, r0⟩, ⟨p1, c1, rfl, r1⟩, ⟨p2, c2, rfl, r2⟩, ⟨p3, c3, rfl, r3⟩⟩ := hH
  have HBL := Lib.hid hblk
  have HOF := Lib.hid hoff
  have R0 := Lib.hid r0
  have N0 := Lib.hid n0
  have A0 := Lib.hid hF.a0
  have R1 := Lib.hid r1
  have N1 := Lib.hid n1
  have A1 := Lib.hid hF.a1
  have R2 := Lib.hid r2
  have N2 := Lib.hid n2
  have A2 := Lib.hid hF.a2
  have R3 := Lib.hid r3
  have N3 := Lib.hid n3
  have A3 := Lib.hid hF.a3
  obtain ⟨m0, m1, m2, m3⟩ := hlim
  have L0 := Lib.hid m0
  have L1 := Lib.hid m1
  have L2 := Lib.hid m2
  have L3 := Lib.hid m3
  simp only [List.length_map] at HBL
  generalize lim4 e0 e1 e2 e3 = lim at *
  generalize Bad e0 e1 e2 e3 = bad at *
  have HC := Lib.hid (show ∀ W, Keep lim w W → W.cell? ⟨H, 0, none⟩ = some (.slice p0 e0.length c0) ∧ W.cell? ⟨H, 1, none⟩ = some (.slice p1 e1.length c1) ∧ W.cell? ⟨H, 2, none⟩ = some (.slice p2 e2.length c2) ∧ W.cell? ⟨H, 3, none⟩ = some (.slice p3 e3.length c3) from fun W hk => by
    have hb := (hk.block H (Array.getElem?_eq_some_iff.1 HBL.out).1 (LN.out H HOF.out)).trans HBL.out
    simp [World.cell?, hb])
  have hk := Keep.refl lim w
  have HK := Lib.hid hk
  clear hF hblk hoff r0 r1 r2 r3 n0 n1 n2 n3 m0 m1 m2 m3 HO
  obtain ⟨h0, h1, h2, h3⟩ := HC.out _ HK.out
  clear hk
  go_enter Tryz.func34, Tryz.ntmps34
  go_wp2_with fail
  clear h0 h1 h2 h3
  go_loopw [19] (fun ii wr => ∃ K : Nat, K ≤ e0.length ∧ ii = .int .i64 K ∧ Hid (Keep lim w wr)) (fun ii _ => e0.length - (intOf ii).toNat)
  case atStart => exact ⟨0, by omega, rfl, HK⟩
  case round =>
    obtain ⟨K, hK, rfl, hk⟩ := hrel
    by_cases hlt : K < e0.length
    · obtain ⟨hb, ho, p, n, c, he⟩ := ent_get hlt
      obtain ⟨g, rfl, hrow⟩ := row_fact R0.out hk.out LN.out he
      have hE := A0.out _ (List.mem_of_getElem? he)
      have hn := N0.out _ (List.mem_of_getElem? he)
      have hL := L0.out _ (List.mem_of_getElem? he)
      simp only at hrow hn
      have HHD := Lib.hid (show ∀ W, Keep lim w W → W.cell? ⟨hb, ho, none⟩ = some (.slice p n c) ∧ Loose lim w.heap.size W 27 8 (.slice p n c) n from fun W hk => ⟨(hE.keep hk hL).1, (hE.keep hk hL).loose hL⟩)
      have hhd : wr.cell? ⟨hb, ho, none⟩ = some (.slice p n c) := (hE.keep hk.out hL).1
      clear hE hL he
      go_wp2_with fail
      clear hrow hhd
      go_loopw [4, 26] (fun lv ii wr2 => ∃ j : Nat, j ≤ 16 ∧ ii = .int .i64 j ∧ Hid (Keep lim w wr2) ∧ Hid (Loose lim w.heap.size wr2 27 8 lv (n + j))) (fun _ ii _ => 16 - (intOf ii).toNat)
      case atStart => exact ⟨0, by omega, rfl, hk, Lib.hid (HHD.out _ hk.out).2⟩
      case round =>
        obtain ⟨j, hj, rfl, hk2, hlo⟩ := hrel
        by_cases hlt2 : j < 16
        · go_upto_region 6 with (fail)
          go_step
          iterate 3
            refine wpList_plain rfl (fun K' hK' => ?_)
            go_step
            refine hK' _ _ ?_
            clear hK' K'
          have hgb := Below.alloc (Below.refl wr.heap.size wr) (Nat.le_refl _) (.cells (List.toArray (vcells 0 false 0 0 grownB ⟨#[]⟩ none 0 0 none 0 0).toList) 27)
          have hnew := cellsAt_alloc wr (List.toArray (vcells 0 false 0 0 grownB ⟨#[]⟩ none 0 0 none 0 0).toList) 27 (0, 0)
          refine wpList_plain rfl (fun K' hK' => ?_)
          refine wp_append_l (P := Tryz.prog) _ (hk2.out.grow hgb) (.tmp 28) (.tmp 30) 24 rfl 27 (.agg (vcells 0 false 0 0 ⟨#[]⟩ ⟨#[]⟩ none 0 0 none 0 0)) 8 112 Tryz.underlying24 (by kernel_rfl) rfl (by decide) _ (n + j) rfl (hlo.out.grow hgb) ⟨wr.heap.size, 0, none⟩ 1 1 (vcells 0 false 0 0 grownB ⟨#[]⟩ none 0 0 none 0 0).toList rfl (by decide) rfl ?c1 ?c2 ?c3 ?c4 ?_
          case c1 =>
            intro m u hu
            rw [addr_add]
            exact hnew m u (by simpa using hu)
          case c2 =>
            intro u hu
            simp at hu
            rcases hu with rfl | rfl | rfl | rfl | rfl | rfl | rfl | rfl <;> rfl
          case c3 => unfold maxLen; omega
          case c4 => omega
          intro v' w' hlo' hk'
          refine hK' _ _ ?_
          have HL' := Lib.hid hlo'
          have HK' := Lib.hid hk'
          clear hK' K' hgb hnew hlo' hk' hlo hk2
          go_wp2_with fail
          go_roundw
          case rel => exact ⟨j + 1, by omega, by go_num, HK', HL'⟩
          case measure => simp [intOf]; omega
        · obtain rfl : j = 16 := by omega
          obtain ⟨hh, hlo2⟩ := HHD.out _ hk2.out
          have HLO := Lib.hid hlo2
          clear hlo2 hlo hlt2 hj
          go_upto_region 8 with (fail)
          go_step
          iterate 3
            refine wpList_plain rfl (fun K' hK' => ?_)
            go_step
            refine hK' _ _ ?_
            clear hK' K'
          refine wpList_plain rfl (fun K' hK' => ?_)
          refine wp_make_l (P := Tryz.prog) _ hk2.out (.tmp 35) (.const (.int .i64 64)) 24 3 rfl 27 (.agg (vcells 0 false 0 0 ⟨#[]⟩ ⟨#[]⟩ none 0 0 none 0 0)) 8 112 Tryz.underlying24 Tryz.underlying3 (by kernel_rfl) rfl (by decide) (by decide) (by decide) _ n rfl HLO.out 64 rfl (by decide) (by decide) ?c2 ?c3 ?c4 ?_
          case c2 =>
            refine zero_one (fun u hu => ?_)
            simp [Value.cells, vcells] at hu
            rcases hu with rfl | rfl | rfl | rfl | rfl | rfl | rfl | rfl <;> rfl
          case c3 => unfold maxLen; omega
          case c4 => omega
          intro v' w' hk'
          refine hK' _ _ ?_
          have HK' := Lib.hid hk'
          clear hK' K' hk' hk2 hh HLO
          go_wp2_with fail
          go_roundw
          case rel => exact ⟨K + 1, by omega, by go_num, HK'⟩
          case measure => simp [intOf]; omega
    · obtain rfl : K = e0.length := by omega
      have HK := hk
      clear hk hlt hK
      obtain ⟨h0, h1, h2, h3⟩ := HC.out _ HK.out
      go_wp2_with fail
      clear h0 h1 h2 h3
      go_loopw [43] (fun ii wr => ∃ K : Nat, K ≤ e1.length ∧ ii = .int .i64 K ∧ Hid (Keep lim w wr)) (fun ii _ => e1.length - (intOf ii).toNat)
      case atStart => exact ⟨0, by omega, rfl, HK⟩
      case round =>
        obtain ⟨K, hK, rfl, hk⟩ := hrel
        by_cases hlt : K < e1.length
        · obtain ⟨hb, ho, p, n, c, he⟩ := ent_get hlt
          obtain ⟨g, rfl, hrow⟩ := row_fact R1.out hk.out LN.out he
          have hE := A1.out _ (List.mem_of_getElem? he)
          have hn := N1.out _ (List.mem_of_getElem? he)
          have hL := L1.out _ (List.mem_of_getElem? he)
          simp only at hrow hn
          have HHD := Lib.hid (show ∀ W, Keep lim w W → W.cell? ⟨hb, ho, none⟩ = some (.slice p n c) ∧ Loose lim w.heap.size W 63 9 (.slice p n c) n from fun W hk => ⟨(hE.keep hk hL).1, (hE.keep hk hL).loose hL⟩)
          have hhd : wr.cell? ⟨hb, ho, none⟩ = some (.slice p n c) := (hE.keep hk.out hL).1
          clear hE hL he
          go_wp2_with fail
          clear hrow hhd
          go_loopw [7, 50] (fun lv ii wr2 => ∃ j : Nat, j ≤ 16 ∧ ii = .int .i64 j ∧ Hid (Keep lim w wr2) ∧ Hid (Loose lim w.heap.size wr2 63 9 lv (n + j))) (fun _ ii _ => 16 - (intOf ii).toNat)
          case atStart => exact ⟨0, by omega, rfl, hk, Lib.hid (HHD.out _ hk.out).2⟩
          case round =>
            obtain ⟨j, hj, rfl, hk2, hlo⟩ := hrel
            by_cases hlt2 : j < 16
            · go_upto_region 16 with (fail)
              go_step
              iterate 3
                refine wpList_plain rfl (fun K' hK' => ?_)
                go_step
                refine hK' _ _ ?_
                clear hK' K'
              have hgb := Below.alloc (Below.refl wr.heap.size wr) (Nat.le_refl _) (.cells (List.toArray (#[Value.string grownB] ++ vcells 0 false 0 0 ⟨#[]⟩ ⟨#[]⟩ none 0 0 none 0 0).toList) 63)
              have hnew := cellsAt_alloc wr (List.toArray (#[Value.string grownB] ++ vcells 0 false 0 0 ⟨#[]⟩ ⟨#[]⟩ none 0 0 none 0 0).toList) 63 (0, 0)
              refine wpList_plain rfl (fun K' hK' => ?_)
              refine wp_append_l (P := Tryz.prog) _ (hk2.out.grow hgb) (.tmp 52) (.tmp 54) 25 rfl 63 (.agg (#[Value.string ⟨#[]⟩] ++ vcells 0 false 0 0 ⟨#[]⟩ ⟨#[]⟩ none 0 0 none 0 0)) 9 128 Tryz.underlying25 (by kernel_rfl) rfl (by decide) _ (n + j) rfl (hlo.out.grow hgb) ⟨wr.heap.size, 0, none⟩ 1 1 (#[Value.string grownB] ++ vcells 0 false 0 0 ⟨#[]⟩ ⟨#[]⟩ none 0 0 none 0 0).toList rfl (by decide) rfl ?c1 ?c2 ?c3 ?c4 ?_
              case c1 =>
                intro m u hu
                rw [addr_add]
                exact hnew m u (by simpa using hu)
              case c2 =>
                intro u hu
                simp [vcells] at hu
                rcases hu with rfl | rfl | rfl | rfl | rfl | rfl | rfl | rfl | rfl <;> rfl
              case c3 => unfold maxLen; omega
              case c4 => omega
              intro v' w' hlo' hk'
              refine hK' _ _ ?_
              have HL' := Lib.hid hlo'
              have HK' := Lib.hid hk'
              clear hK' K' hgb hnew hlo' hk' hlo hk2
              go_wp2_with fail
              go_roundw
              case rel => exact ⟨j + 1, by omega, by go_num, HK', HL'⟩
              case measure => simp [intOf]; omega
            · obtain rfl : j = 16 := by omega
              obtain ⟨hh, hlo2⟩ := HHD.out _ hk2.out
              have HLO := Lib.hid hlo2
              clear hlo2 hlo hlt2 hj
              go_upto_region 18 with (fail)
              go_step
              iterate 3
                refine wpList_plain rfl (fun K' hK' => ?_)
                go_step
                refine hK' _ _ ?_
                clear hK' K'
              refine wpList_plain rfl (fun K' hK' => ?_)
              refine wp_make_l (P := Tryz.prog) _ hk2.out (.tmp 59) (.const (.int .i64 64)) 25 3 rfl 63 (.agg (#[Value.string ⟨#[]⟩] ++ vcells 0 false 0 0 ⟨#[]⟩ ⟨#[]⟩ none 0 0 none 0 0)) 9 128 Tryz.underlying25 Tryz.underlying3 (by kernel_rfl) rfl (by decide) (by decide) (by decide) _ n rfl HLO.out 64 rfl (by decide) (by decide) ?c2 ?c3 ?c4 ?_
              case c2 =>
                refine zero_one (fun u hu => ?_)
                simp [Value.cells, vcells] at hu
                rcases hu with rfl | rfl | rfl | rfl | rfl | rfl | rfl | rfl | rfl <;> rfl
              case c3 => unfold maxLen; omega
              case c4 => omega
              intro v' w' hk'
              refine hK' _ _ ?_
              have HK' := Lib.hid hk'
              clear hK' K' hk' hk2 hh HLO
              go_wp2_with fail
              go_roundw
              case rel => exact ⟨K + 1, by omega, by go_num, HK'⟩
              case measure => simp [intOf]; omega
        · obtain rfl : K = e1.length := by omega
          have HK := hk
          clear hk hlt hK
          obtain ⟨h0, h1, h2, h3⟩ := HC.out _ HK.out
          go_wp2_with fail
          clear h0 h1 h2 h3
          go_loopw [67] (fun ii wr => ∃ K : Nat, K ≤ e2.length ∧ ii = .int .i64 K ∧ Hid (Keep lim w wr)) (fun ii _ => e2.length - (intOf ii).toNat)
          case atStart => exact ⟨0, by omega, rfl, HK⟩
          case round =>
            obtain ⟨K, hK, rfl, hk⟩ := hrel
            by_cases hlt : K < e2.length
            · obtain ⟨hb, ho, p, n, c, he⟩ := ent_get hlt
              obtain ⟨g, rfl, hrow⟩ := row_fact R2.out hk.out LN.out he
              have hE := A2.out _ (List.mem_of_getElem? he)
              have hn := N2.out _ (List.mem_of_getElem? he)
              have hL := L2.out _ (List.mem_of_getElem? he)
              simp only at hrow hn
              have HHD := Lib.hid (show ∀ W, Keep lim w W → W.cell? ⟨hb, ho, none⟩ = some (.slice p n c) ∧ Loose lim w.heap.size W 69 3 (.slice p n c) n from fun W hk => ⟨(hE.keep hk hL).1, (hE.keep hk hL).loose hL⟩)
              have hhd : wr.cell? ⟨hb, ho, none⟩ = some (.slice p n c) := (hE.keep hk.out hL).1
              clear hE hL he
              go_wp2_with fail
              clear hrow hhd
              go_loopw [10, 74] (fun lv ii wr2 => ∃ j : Nat, j ≤ 16 ∧ ii = .int .i64 j ∧ Hid (Keep lim w wr2) ∧ Hid (Loose lim w.heap.size wr2 69 3 lv (n + j))) (fun _ ii _ => 16 - (intOf ii).toNat)
              case atStart => exact ⟨0, by omega, rfl, hk, Lib.hid (HHD.out _ hk.out).2⟩
              case round =>
                obtain ⟨j, hj, rfl, hk2, hlo⟩ := hrel
                by_cases hlt2 : j < 16
                · go_upto_region 26 with (fail)
                  go_step
                  iterate 3
                    refine wpList_plain rfl (fun K' hK' => ?_)
                    go_step
                    refine hK' _ _ ?_
                    clear hK' K'
                  have hgb := Below.alloc (Below.refl wr.heap.size wr) (Nat.le_refl _) (.cells (List.toArray [.string grownB, .int .i64 0, .bool false]) 69)
                  have hnew := cellsAt_alloc wr (List.toArray [.string grownB, .int .i64 0, .bool false]) 69 (0, 0)
                  refine wpList_plain rfl (fun K' hK' => ?_)
                  refine wp_append_l (P := Tryz.prog) _ (hk2.out.grow hgb) (.tmp 76) (.tmp 78) 30 rfl 69 (.agg #[.string ⟨#[]⟩, .int .i64 0, .bool false]) 3 32 Tryz.underlying30 (by kernel_rfl) rfl (by decide) _ (n + j) rfl (hlo.out.grow hgb) ⟨wr.heap.size, 0, none⟩ 1 1 [.string grownB, .int .i64 0, .bool false] rfl (by decide) rfl ?c1 ?c2 ?c3 ?c4 ?_
                  case c1 =>
                    intro m u hu
                    rw [addr_add]
                    exact hnew m u (by simpa using hu)
                  case c2 =>
                    intro u hu
                    simp at hu
                    rcases hu with rfl | rfl | rfl <;> rfl
                  case c3 => unfold maxLen; omega
                  case c4 => omega
                  intro v' w' hlo' hk'
                  refine hK' _ _ ?_
                  have HL' := Lib.hid hlo'
                  have HK' := Lib.hid hk'
                  clear hK' K' hgb hnew hlo' hk' hlo hk2
                  go_wp2_with fail
                  go_roundw
                  case rel => exact ⟨j + 1, by omega, by go_num, HK', HL'⟩
                  case measure => simp [intOf]; omega
                · obtain rfl : j = 16 := by omega
                  obtain ⟨hh, hlo2⟩ := HHD.out _ hk2.out
                  have HLO := Lib.hid hlo2
                  clear hlo2 hlo hlt2 hj
                  go_upto_region 28 with (fail)
                  go_step
                  iterate 3
                    refine wpList_plain rfl (fun K' hK' => ?_)
                    go_step
                    refine hK' _ _ ?_
                    clear hK' K'
                  refine wpList_plain rfl (fun K' hK' => ?_)
                  refine wp_make_l (P := Tryz.prog) _ hk2.out (.tmp 83) (.const (.int .i64 64)) 30 3 rfl 69 (.agg #[.string ⟨#[]⟩, .int .i64 0, .bool false]) 3 32 Tryz.underlying30 Tryz.underlying3 (by kernel_rfl) rfl (by decide) (by decide) (by decide) _ n rfl HLO.out 64 rfl (by decide) (by decide) ?c2 ?c3 ?c4 ?_
                  case c2 =>
                    refine zero_one (fun u hu => ?_)
                    simp [Value.cells] at hu
                    rcases hu with rfl | rfl | rfl <;> rfl
                  case c3 => unfold maxLen; omega
                  case c4 => omega
                  intro v' w' hk'
                  refine hK' _ _ ?_
                  have HK' := Lib.hid hk'
                  clear hK' K' hk' hk2 hh HLO
                  go_wp2_with fail
                  go_roundw
                  case rel => exact ⟨K + 1, by omega, by go_num, HK'⟩
                  case measure => simp [intOf]; omega
            · obtain rfl : K = e2.length := by omega
              have HK := hk
              clear hk hlt hK
              obtain ⟨h0, h1, h2, h3⟩ := HC.out _ HK.out
              go_wp2_with fail
              clear h0 h1 h2 h3
              go_loopw [91] (fun ii wr => ∃ K : Nat, K ≤ e3.length ∧ ii = .int .i64 K ∧ Hid (Keep lim w wr)) (fun ii _ => e3.length - (intOf ii).toNat)
              case atStart => exact ⟨0, by omega, rfl, HK⟩
              case round =>
                obtain ⟨K, hK, rfl, hk⟩ := hrel
                by_cases hlt : K < e3.length
                · obtain ⟨hb, ho, p, n, c, he⟩ := ent_get hlt
                  obtain ⟨g, rfl, hrow⟩ := row_fact R3.out hk.out LN.out he
                  have hE := A3.out _ (List.mem_of_getElem? he)
                  have hn := N3.out _ (List.mem_of_getElem? he)
                  have hL := L3.out _ (List.mem_of_getElem? he)
                  simp only at hrow hn
                  have HHD := Lib.hid (show ∀ W, Keep lim w W → W.cell? ⟨hb, ho, none⟩ = some (.slice p n c) ∧ Loose lim w.heap.size W 44 2 (.slice p n c) n from fun W hk => ⟨(hE.keep hk hL).1, (hE.keep hk hL).loose hL⟩)
                  have hhd : wr.cell? ⟨hb, ho, none⟩ = some (.slice p n c) := (hE.keep hk.out hL).1
                  clear hE hL he
                  go_wp2_with fail
                  clear hrow hhd
                  go_loopw [13, 98] (fun lv ii wr2 => ∃ j : Nat, j ≤ 16 ∧ ii = .int .i64 j ∧ Hid (Keep lim w wr2) ∧ Hid (Loose lim w.heap.size wr2 44 2 lv (n + j))) (fun _ ii _ => 16 - (intOf ii).toNat)
                  case atStart => exact ⟨0, by omega, rfl, hk, Lib.hid (HHD.out _ hk.out).2⟩
                  case round =>
                    obtain ⟨j, hj, rfl, hk2, hlo⟩ := hrel
                    by_cases hlt2 : j < 16
                    · go_upto_region 36 with (fail)
                      go_step
                      iterate 3
                        refine wpList_plain rfl (fun K' hK' => ?_)
                        go_step
                        refine hK' _ _ ?_
                        clear hK' K'
                      have hgb := Below.alloc (Below.refl wr.heap.size wr) (Nat.le_refl _) (.cells (List.toArray [.int .i64 (-1), .int .i64 0]) 44)
                      have hnew := cellsAt_alloc wr (List.toArray [.int .i64 (-1), .int .i64 0]) 44 (0, 0)
                      refine wpList_plain rfl (fun K' hK' => ?_)
                      refine wp_append_l (P := Tryz.prog) _ (hk2.out.grow hgb) (.tmp 100) (.tmp 102) 40 rfl 44 (.agg #[.int .i64 0, .int .i64 0]) 2 16 Tryz.underlying40 (by kernel_rfl) rfl (by decide) _ (n + j) rfl (hlo.out.grow hgb) ⟨wr.heap.size, 0, none⟩ 1 1 [.int .i64 (-1), .int .i64 0] rfl (by decide) rfl ?c1 ?c2 ?c3 ?c4 ?_
                      case c1 =>
                        intro m u hu
                        rw [addr_add]
                        exact hnew m u (by simpa using hu)
                      case c2 =>
                        intro u hu
                        simp at hu
                        rcases hu with rfl | rfl <;> rfl
                      case c3 => unfold maxLen; omega
                      case c4 => omega
                      intro v' w' hlo' hk'
                      refine hK' _ _ ?_
                      have HL' := Lib.hid hlo'
                      have HK' := Lib.hid hk'
                      clear hK' K' hgb hnew hlo' hk' hlo hk2
                      go_wp2_with fail
                      go_roundw
                      case rel => exact ⟨j + 1, by omega, by go_num, HK', HL'⟩
                      case measure => simp [intOf]; omega
                    · obtain rfl : j = 16 := by omega
                      obtain ⟨hh, hlo2⟩ := HHD.out _ hk2.out
                      have HLO := Lib.hid hlo2
                      clear hlo2 hlo hlt2 hj
                      go_upto_region 38 with (fail)
                      go_step
                      iterate 3
                        refine wpList_plain rfl (fun K' hK' => ?_)
                        go_step
                        refine hK' _ _ ?_
                        clear hK' K'
                      refine wpList_plain rfl (fun K' hK' => ?_)
                      refine wp_make_l (P := Tryz.prog) _ hk2.out (.tmp 107) (.const (.int .i64 64)) 40 3 rfl 44 (.agg #[.int .i64 0, .int .i64 0]) 2 16 Tryz.underlying40 Tryz.underlying3 (by kernel_rfl) rfl (by decide) (by decide) (by decide) _ n rfl HLO.out 64 rfl (by decide) (by decide) ?c2 ?c3 ?c4 ?_
                      case c2 =>
                        refine zero_one (fun u hu => ?_)
                        simp [Value.cells] at hu
                        rcases hu with rfl | rfl <;> rfl
                      case c3 => unfold maxLen; omega
                      case c4 => omega
                      intro v' w' hk'
                      refine hK' _ _ ?_
                      have HK' := Lib.hid hk'
                      clear hK' K' hk' hk2 hh HLO
                      go_wp2_with fail
                      go_roundw
                      case rel => exact ⟨K + 1, by omega, by go_num, HK'⟩
                      case measure => simp [intOf]; omega
                · obtain rfl : K = e3.length := by omega
                  have HK := hk
                  clear hk hlt hK
                  obtain ⟨h0, h1, h2, h3⟩ := HC.out _ HK.out
                  clear HC
                  go_wp2_with fail
                  refine bodyPost_ret (results_none rfl _ _ _) rfl ?_
                  exact ⟨rfl, HK.out⟩
end Go.Proofs.YtnmnmkdmnohbmaaGreatDoor
