/- Helper text: the walk over whole of the statements' lists: every list holds its own marks. Conditions: none. -/
import Derived.Test.YtnmnmkdmnohbmaaGreatDoorWriteW
namespace Go.Proofs.YtnmnmkdmnohbmaaGreatDoor
open Go Go.RowKit
attribute [local go_sem] run_store_float

theorem beq_self (l : List UInt8) : (l == l) = true := by simp
set_option maxRecDepth 100000 in
set_option maxHeartbeats 4000000 in
theorem whole_any (w : World) (H : Nat) (s0 s1 s2 s3 : Value) (e0 e1 e2 e3 : List Ent) (hF : Four w e0 e1 e2 e3) (hH : Held4 (Bad e0 e1 e2 e3) w H s0 s1 s2 s3 e0 e1 e2 e3)
    (l0 : e0.length ≤ 1000000000) (l1 : e1.length ≤ 1000000000) (l2 : e2.length ≤ 1000000000) (l3 : e3.length ≤ 1000000000)
    (n0 : ∀ e ∈ e0, e.n ≤ 1000000000) (n1 : ∀ e ∈ e1, e.n ≤ 1000000000) (n2 : ∀ e ∈ e2, e.n ≤ 1000000000) (n3 : ∀ e ∈ e3, e.n ≤ 1000000000)
    (m0 : Marks w e0 8 4 mkS) (m1 : Marks w e1 9 0 mkS) (m2 : Marks w e2 3 0 mkS) (m3 : Marks w e3 2 0 mkP) (htab : Lib.TabIs Tryz.prog w "internal/strconv.uint64pow10" .u64 Lib.pow10Tab) :
    Calls Tryz.prog 35 #[.pointer (some ⟨H, 0, none⟩)] w (RetB (.bool true) w) := by
  have N0 := Lib.hid n0
  have M0 := Lib.hid m0
  obtain ⟨p0, c0, rfl⟩ := hH.r0.len
  have N1 := Lib.hid n1
  have M1 := Lib.hid m1
  obtain ⟨p1, c1, rfl⟩ := hH.r1.len
  have N2 := Lib.hid n2
  have M2 := Lib.hid m2
  obtain ⟨p2, c2, rfl⟩ := hH.r2.len
  have N3 := Lib.hid n3
  have M3 := Lib.hid m3
  obtain ⟨p3, c3, rfl⟩ := hH.r3.len
  generalize Bad e0 e1 e2 e3 = bad at *
  have HTAB := Lib.hid (Lib.tabBelow_of_tabIs htab)
  have HF := Lib.hid hF
  have HH := Lib.hid hH
  have HC := Lib.hid (show ∀ W, Below w.heap.size w W → W.cell? ⟨H, 0, none⟩ = some (.slice p0 e0.length c0) ∧ W.cell? ⟨H, 1, none⟩ = some (.slice p1 e1.length c1) ∧ W.cell? ⟨H, 2, none⟩ = some (.slice p2 e2.length c2) ∧ W.cell? ⟨H, 3, none⟩ = some (.slice p3 e3.length c3) from fun W hk => by
    have hb := (hk.block H (Array.getElem?_eq_some_iff.1 hH.block).1).trans hH.block
    simp [World.cell?, hb])
  have HB := Lib.hid (Below.refl w.heap.size w)
  clear hF hH n0 n1 n2 n3 m0 m1 m2 m3 htab
  obtain ⟨h0, h1, h2, h3⟩ := HC.out _ HB.out
  go_enter Tryz.func35, Tryz.ntmps35
  go_wp2_with fail
  clear h0 h1 h2 h3
  go_loopw [20] (fun ii wr => ∃ K : Nat, K ≤ e0.length ∧ ii = .int .i64 K ∧ Hid (Below w.heap.size w wr)) (fun ii _ => e0.length - (intOf ii).toNat)
  case atStart => exact ⟨0, by omega, rfl, HB⟩
  case round =>
    obtain ⟨K, hK, rfl, hw⟩ := hrel
    by_cases hlt : K < e0.length
    · obtain ⟨hb, ho, p, n, c, he⟩ := ent_get hlt
      obtain ⟨g, rfl, hrow⟩ := row_fact2 HH.out.r0 (fun b hb' _ => hw.out.block b hb') he
      have hn := N0.out _ (List.mem_of_getElem? he)
      have hhd : wr.cell? ⟨hb, ho, none⟩ = some (.slice p n c) := ((HF.out.below hw.out).a0 _ (List.mem_of_getElem? he)).1
      simp only at hrow hn
      have HE := Lib.hid he
      clear he
      go_wp2_with fail
      clear hrow hhd
      go_loopw [29] (fun ii wr2 => ∃ i : Nat, i ≤ n ∧ ii = .int .i64 i ∧ Hid (Below w.heap.size w wr2)) (fun ii _ => n - (intOf ii).toNat)
      case atStart => exact ⟨0, by omega, rfl, hw⟩
      case round =>
        obtain ⟨i, hi, rfl, hw2⟩ := hrel
        have hent := (HF.out.below hw2.out).a0 _ (List.mem_of_getElem? HE.out)
        have hhd : wr.cell? ⟨hb, ho, none⟩ = some (.slice p n c) := hent.1
        by_cases hlt2 : i < n
        · obtain ⟨g0, rfl, hg0, _, _⟩ := ent_block hent hlt2 4 (by decide)
          have hhb := hent.hb_lt
          simp only at hhb
          have hmk : wr.cell? ⟨g0, i * 8 + 4, none⟩ = some (mkS K i) := (M0.out.moved (fun b hb' => hw2.out.block b (blks_lt HF.out.a0 b hb'))) K i _ g0 HE.out rfl hlt2
          try simp only [Nat.add_zero] at hmk
          unfold mkS at hmk
          clear hent
          have HT := Lib.hid (show ∀ W, Below wr.heap.size wr W → Calls Tryz.prog 60 #[.int .i64 K, .int .i64 i] W (RetB (.string (markB K i)) W) from fun W hW => mark_any K i (by unfold inI; omega) (by unfold inI; omega) W (HTAB.out W (hw2.out.trans (hW.mono hw2.out.size))))
          have dz := beq_self (markB K i).toList
          go_upto_region 7 with (fail)
          refine wp_region_plan_below 10 [(0, [0, 1, 2, 3, 4, 5, 6, 7, 8]), (1, [9]), (2, [10])] (by kernel_rfl) (by kernel_rfl) (fun _ _ _ _ h => h) ?_
          simp only [wpSegs, pickOps, List.getElem?_toArray, List.getElem?_cons_zero, List.getElem?_cons_succ]
          have kc := cell_cls wr
          iterate 9 (go_big_quiet_step (fail))
          refine wpQuiet_nil ?_
          clear kc
          refine wpListC_plain rfl (fun K' hK' => ?_)
          go_step
          refine (HT.out _ (Below.drew (Below.refl _ _))).mono ?_
          rintro e w1 ⟨rfl, hb1⟩
          have hbw1 := (Below.drew (Below.refl wr.heap.size wr)).trans hb1
          refine hK' _ _ (cls_of_below hbw1) ?_
          clear hK' K'
          refine wpListC_nil ?_
          have hw3 := Lib.hid (hw2.out.trans (hbw1.mono hw2.out.size))
          clear hb1 hbw1 hhd hmk
          go_wp2_with fail
          go_roundw
          case rel => exact ⟨i + 1, by omega, by go_num, hw3⟩
          case measure => simp [intOf]; omega
        · obtain rfl : i = n := by omega
          clear hlt2 hi hhd hent
          go_wp2_with fail
          go_roundw
          case rel => exact ⟨K + 1, by omega, by go_num, hw2⟩
          case measure => simp [intOf]; omega
    · obtain rfl : K = e0.length := by omega
      have HB := hw
      clear hw hlt hK
      obtain ⟨h0, h1, h2, h3⟩ := HC.out _ HB.out
      go_wp2_with fail
      clear h0 h1 h2 h3
      go_loopw [50] (fun ii wr => ∃ K : Nat, K ≤ e1.length ∧ ii = .int .i64 K ∧ Hid (Below w.heap.size w wr)) (fun ii _ => e1.length - (intOf ii).toNat)
      case atStart => exact ⟨0, by omega, rfl, HB⟩
      case round =>
        obtain ⟨K, hK, rfl, hw⟩ := hrel
        by_cases hlt : K < e1.length
        · obtain ⟨hb, ho, p, n, c, he⟩ := ent_get hlt
          obtain ⟨g, rfl, hrow⟩ := row_fact2 HH.out.r1 (fun b hb' _ => hw.out.block b hb') he
          have hn := N1.out _ (List.mem_of_getElem? he)
          have hhd : wr.cell? ⟨hb, ho, none⟩ = some (.slice p n c) := ((HF.out.below hw.out).a1 _ (List.mem_of_getElem? he)).1
          simp only at hrow hn
          have HE := Lib.hid he
          clear he
          go_wp2_with fail
          clear hrow hhd
          go_loopw [59] (fun ii wr2 => ∃ i : Nat, i ≤ n ∧ ii = .int .i64 i ∧ Hid (Below w.heap.size w wr2)) (fun ii _ => n - (intOf ii).toNat)
          case atStart => exact ⟨0, by omega, rfl, hw⟩
          case round =>
            obtain ⟨i, hi, rfl, hw2⟩ := hrel
            have hent := (HF.out.below hw2.out).a1 _ (List.mem_of_getElem? HE.out)
            have hhd : wr.cell? ⟨hb, ho, none⟩ = some (.slice p n c) := hent.1
            by_cases hlt2 : i < n
            · obtain ⟨g0, rfl, hg0, _, _⟩ := ent_block hent hlt2 0 (by decide)
              have hhb := hent.hb_lt
              simp only at hhb
              have hmk : wr.cell? ⟨g0, i * 9 + 0, none⟩ = some (mkS K i) := (M1.out.moved (fun b hb' => hw2.out.block b (blks_lt HF.out.a1 b hb'))) K i _ g0 HE.out rfl hlt2
              try simp only [Nat.add_zero] at hmk
              unfold mkS at hmk
              clear hent
              have HT := Lib.hid (show ∀ W, Below wr.heap.size wr W → Calls Tryz.prog 60 #[.int .i64 K, .int .i64 i] W (RetB (.string (markB K i)) W) from fun W hW => mark_any K i (by unfold inI; omega) (by unfold inI; omega) W (HTAB.out W (hw2.out.trans (hW.mono hw2.out.size))))
              have dz := beq_self (markB K i).toList
              go_upto_region 17 with (fail)
              refine wp_region_plan_below 10 [(0, [0, 1, 2, 3, 4, 5, 6, 7, 8]), (1, [9]), (2, [10])] (by kernel_rfl) (by kernel_rfl) (fun _ _ _ _ h => h) ?_
              simp only [wpSegs, pickOps, List.getElem?_toArray, List.getElem?_cons_zero, List.getElem?_cons_succ]
              have kc := cell_cls wr
              iterate 9 (go_big_quiet_step (fail))
              refine wpQuiet_nil ?_
              clear kc
              refine wpListC_plain rfl (fun K' hK' => ?_)
              go_step
              refine (HT.out _ (Below.drew (Below.refl _ _))).mono ?_
              rintro e w1 ⟨rfl, hb1⟩
              have hbw1 := (Below.drew (Below.refl wr.heap.size wr)).trans hb1
              refine hK' _ _ (cls_of_below hbw1) ?_
              clear hK' K'
              refine wpListC_nil ?_
              have hw3 := Lib.hid (hw2.out.trans (hbw1.mono hw2.out.size))
              clear hb1 hbw1 hhd hmk
              go_wp2_with fail
              go_roundw
              case rel => exact ⟨i + 1, by omega, by go_num, hw3⟩
              case measure => simp [intOf]; omega
            · obtain rfl : i = n := by omega
              clear hlt2 hi hhd hent
              go_wp2_with fail
              go_roundw
              case rel => exact ⟨K + 1, by omega, by go_num, hw2⟩
              case measure => simp [intOf]; omega
        · obtain rfl : K = e1.length := by omega
          have HB := hw
          clear hw hlt hK
          obtain ⟨h0, h1, h2, h3⟩ := HC.out _ HB.out
          go_wp2_with fail
          clear h0 h1 h2 h3
          go_loopw [80] (fun ii wr => ∃ K : Nat, K ≤ e2.length ∧ ii = .int .i64 K ∧ Hid (Below w.heap.size w wr)) (fun ii _ => e2.length - (intOf ii).toNat)
          case atStart => exact ⟨0, by omega, rfl, HB⟩
          case round =>
            obtain ⟨K, hK, rfl, hw⟩ := hrel
            by_cases hlt : K < e2.length
            · obtain ⟨hb, ho, p, n, c, he⟩ := ent_get hlt
              obtain ⟨g, rfl, hrow⟩ := row_fact2 HH.out.r2 (fun b hb' _ => hw.out.block b hb') he
              have hn := N2.out _ (List.mem_of_getElem? he)
              have hhd : wr.cell? ⟨hb, ho, none⟩ = some (.slice p n c) := ((HF.out.below hw.out).a2 _ (List.mem_of_getElem? he)).1
              simp only at hrow hn
              have HE := Lib.hid he
              clear he
              go_wp2_with fail
              clear hrow hhd
              go_loopw [89] (fun ii wr2 => ∃ i : Nat, i ≤ n ∧ ii = .int .i64 i ∧ Hid (Below w.heap.size w wr2)) (fun ii _ => n - (intOf ii).toNat)
              case atStart => exact ⟨0, by omega, rfl, hw⟩
              case round =>
                obtain ⟨i, hi, rfl, hw2⟩ := hrel
                have hent := (HF.out.below hw2.out).a2 _ (List.mem_of_getElem? HE.out)
                have hhd : wr.cell? ⟨hb, ho, none⟩ = some (.slice p n c) := hent.1
                by_cases hlt2 : i < n
                · obtain ⟨g0, rfl, hg0, _, _⟩ := ent_block hent hlt2 0 (by decide)
                  have hhb := hent.hb_lt
                  simp only at hhb
                  have hmk : wr.cell? ⟨g0, i * 3 + 0, none⟩ = some (mkS K i) := (M2.out.moved (fun b hb' => hw2.out.block b (blks_lt HF.out.a2 b hb'))) K i _ g0 HE.out rfl hlt2
                  try simp only [Nat.add_zero] at hmk
                  unfold mkS at hmk
                  clear hent
                  have HT := Lib.hid (show ∀ W, Below wr.heap.size wr W → Calls Tryz.prog 60 #[.int .i64 K, .int .i64 i] W (RetB (.string (markB K i)) W) from fun W hW => mark_any K i (by unfold inI; omega) (by unfold inI; omega) W (HTAB.out W (hw2.out.trans (hW.mono hw2.out.size))))
                  have dz := beq_self (markB K i).toList
                  go_upto_region 27 with (fail)
                  refine wp_region_plan_below 10 [(0, [0, 1, 2, 3, 4, 5, 6, 7, 8]), (1, [9]), (2, [10])] (by kernel_rfl) (by kernel_rfl) (fun _ _ _ _ h => h) ?_
                  simp only [wpSegs, pickOps, List.getElem?_toArray, List.getElem?_cons_zero, List.getElem?_cons_succ]
                  have kc := cell_cls wr
                  iterate 9 (go_big_quiet_step (fail))
                  refine wpQuiet_nil ?_
                  clear kc
                  refine wpListC_plain rfl (fun K' hK' => ?_)
                  go_step
                  refine (HT.out _ (Below.drew (Below.refl _ _))).mono ?_
                  rintro e w1 ⟨rfl, hb1⟩
                  have hbw1 := (Below.drew (Below.refl wr.heap.size wr)).trans hb1
                  refine hK' _ _ (cls_of_below hbw1) ?_
                  clear hK' K'
                  refine wpListC_nil ?_
                  have hw3 := Lib.hid (hw2.out.trans (hbw1.mono hw2.out.size))
                  clear hb1 hbw1 hhd hmk
                  go_wp2_with fail
                  go_roundw
                  case rel => exact ⟨i + 1, by omega, by go_num, hw3⟩
                  case measure => simp [intOf]; omega
                · obtain rfl : i = n := by omega
                  clear hlt2 hi hhd hent
                  go_wp2_with fail
                  go_roundw
                  case rel => exact ⟨K + 1, by omega, by go_num, hw2⟩
                  case measure => simp [intOf]; omega
            · obtain rfl : K = e2.length := by omega
              have HB := hw
              clear hw hlt hK
              obtain ⟨h0, h1, h2, h3⟩ := HC.out _ HB.out
              go_wp2_with fail
              clear h0 h1 h2 h3
              go_loopw [110] (fun ii wr => ∃ K : Nat, K ≤ e3.length ∧ ii = .int .i64 K ∧ Hid (Below w.heap.size w wr)) (fun ii _ => e3.length - (intOf ii).toNat)
              case atStart => exact ⟨0, by omega, rfl, HB⟩
              case round =>
                obtain ⟨K, hK, rfl, hw⟩ := hrel
                by_cases hlt : K < e3.length
                · obtain ⟨hb, ho, p, n, c, he⟩ := ent_get hlt
                  obtain ⟨g, rfl, hrow⟩ := row_fact2 HH.out.r3 (fun b hb' _ => hw.out.block b hb') he
                  have hn := N3.out _ (List.mem_of_getElem? he)
                  have hhd : wr.cell? ⟨hb, ho, none⟩ = some (.slice p n c) := ((HF.out.below hw.out).a3 _ (List.mem_of_getElem? he)).1
                  simp only at hrow hn
                  have HE := Lib.hid he
                  clear he
                  go_wp2_with fail
                  clear hrow hhd
                  go_loopw [119] (fun ii wr2 => ∃ i : Nat, i ≤ n ∧ ii = .int .i64 i ∧ Hid (Below w.heap.size w wr2)) (fun ii _ => n - (intOf ii).toNat)
                  case atStart => exact ⟨0, by omega, rfl, hw⟩
                  case round =>
                    obtain ⟨i, hi, rfl, hw2⟩ := hrel
                    have hent := (HF.out.below hw2.out).a3 _ (List.mem_of_getElem? HE.out)
                    have hhd : wr.cell? ⟨hb, ho, none⟩ = some (.slice p n c) := hent.1
                    by_cases hlt2 : i < n
                    · obtain ⟨g0, rfl, hg0, _, _⟩ := ent_block hent hlt2 0 (by decide)
                      have hhb := hent.hb_lt
                      simp only at hhb
                      have hmk : wr.cell? ⟨g0, i * 2 + 0, none⟩ = some (mkP K i) := (M3.out.moved (fun b hb' => hw2.out.block b (blks_lt HF.out.a3 b hb'))) K i _ g0 HE.out rfl hlt2
                      try simp only [Nat.add_zero] at hmk
                      unfold mkP at hmk
                      clear hent
                      have hwr : (IntKind.i64.wrap ((K : Int) * 1048576) : Int) = (K : Int) * 1048576 := IntWalk.i64_in _ (by omega)
                      have hwr2 : (IntKind.i64.wrap ((K : Int) * 1048576 + i) : Int) = (K : Int) * 1048576 + i := IntWalk.i64_in _ (by omega)
                      have hwr3 : (IntKind.i64.wrap ((K : Int) * 1048576 + i + 1) : Int) = (K : Int) * 1048576 + i + 1 := IntWalk.i64_in _ (by omega)
                      go_wp2_with fail
                      refine ⟨⟨i + 1, by omega, by go_num, hw2⟩, ?_⟩
                      simp [intOf]; omega
                    · obtain rfl : i = n := by omega
                      clear hlt2 hi hhd hent
                      go_wp2_with fail
                      go_roundw
                      case rel => exact ⟨K + 1, by omega, by go_num, hw2⟩
                      case measure => simp [intOf]; omega
                · obtain rfl : K = e3.length := by omega
                  have HB := hw
                  clear hw hlt hK
                  obtain ⟨h0, h1, h2, h3⟩ := HC.out _ HB.out
                  clear HC
                  go_wp2_with fail
                  go_ret
                  exact ⟨rfl, HB.out⟩
set_option maxRecDepth 100000 in
set_option maxHeartbeats 1000000 in
theorem apart_full (w : World) (H B0 : Nat) (s0 s1 s2 s3 : Value) (e0 e1 e2 e3 : List Ent) (hF : Four w e0 e1 e2 e3) (hH : Held4 (Bad e0 e1 e2 e3) w H s0 s1 s2 s3 e0 e1 e2 e3)
    (l0 : e0.length ≤ 1000000000) (l1 : e1.length ≤ 1000000000) (l2 : e2.length ≤ 1000000000) (l3 : e3.length ≤ 1000000000)
    (n0 : ∀ e ∈ e0, e.n ≤ 1000000000) (n1 : ∀ e ∈ e1, e.n ≤ 1000000000) (n2 : ∀ e ∈ e2, e.n ≤ 1000000000) (n3 : ∀ e ∈ e3, e.n ≤ 1000000000)
    (hB : B0 ≤ w.heap.size) (hlow : ∀ b, Bad e0 e1 e2 e3 b → B0 ≤ b) (htab : ∀ W, Below B0 w W → Lib.TabIs Tryz.prog W "internal/strconv.uint64pow10" .u64 Lib.pow10Tab) :
    Calls Tryz.prog 17 #[.pointer (some ⟨H, 0, none⟩)] w (fun e w' => e = .returned (.bool true) ∧ Below B0 w w' ∧ ∀ b, b < w.heap.size → ¬ Bad e0 e1 e2 e3 b → w'.heap[b]? = w.heap[b]?) := by
  have HW := Lib.hid (write_any w H B0 s0 s1 s2 s3 e0 e1 e2 e3 hF hH l0 l1 l2 l3 n0 n1 n2 n3 hB hlow htab)
  have HG := Lib.hid (show ∀ w1 w2, WritePost e0 e1 e2 e3 (Bad e0 e1 e2 e3) w (.returned (.tuple #[])) w1 → Keep (lim4 e0 e1 e2 e3) w1 w2 → Calls Tryz.prog 35 #[.pointer (some ⟨H, 0, none⟩)] w2 (RetB (.bool true) w2) ∧ Below B0 w w2 ∧ w.heap.size ≤ w2.heap.size ∧ (∀ b, b < w.heap.size → ¬ Bad e0 e1 e2 e3 b → w2.heap[b]? = w.heap[b]?) from fun w1 w2 h1 h2 => by
    obtain ⟨k0, k1, k2, k3⟩ := h1.four.lim
    have hb1 := h1.moved.below hB hlow
    have hk : ∀ b, b < w1.heap.size → ¬ Bad e0 e1 e2 e3 b → w2.heap[b]? = w1.heap[b]? := fun b hb hbad => h2.block b hb (Four.limNone (w := w) hbad)
    have hb2 : Below B0 w1 w2 := ⟨h2.os, h2.tape, h2.output, h2.size, fun b hb => hk b (Nat.lt_of_lt_of_le (Nat.lt_of_lt_of_le hb hB) h1.moved.size) (fun hbad => by have := hlow b hbad; omega)⟩
    exact ⟨whole_any w2 H s0 s1 s2 s3 e0 e1 e2 e3 (h1.four.keep h2) ((hH.moved h1.moved.block h1.moved.size).moved hk h2.size) l0 l1 l2 l3 n0 n1 n2 n3 (h1.m0.keep h2 k0 (by decide)) (h1.m1.keep h2 k1 (by decide)) (h1.m2.keep h2 k2 (by decide)) (h1.m3.keep h2 k3 (by decide)) (htab _ (hb1.trans hb2)), hb1.trans hb2, Nat.le_trans h1.moved.size h2.size, fun b hb hbad => (hk b (Nat.lt_of_lt_of_le hb h1.moved.size) hbad).trans (h1.moved.block b hb hbad)⟩)
  have HK := Lib.hid (show ∀ w1, WritePost e0 e1 e2 e3 (Bad e0 e1 e2 e3) w (.returned (.tuple #[])) w1 → Calls Tryz.prog 34 #[.pointer (some ⟨H, 0, none⟩)] w1 (GrowPost (lim4 e0 e1 e2 e3) w1) from fun w1 h1 =>
    grow_any w1 H s0 s1 s2 s3 e0 e1 e2 e3 h1.four (hH.moved h1.moved.block h1.moved.size) l0 l1 l2 l3 n0 n1 n2 n3)
  have HBB := Lib.hid hB
  clear hF hH n0 n1 n2 n3 hB hlow htab l0 l1 l2 l3
  unfold GrowPost at HK
  have tk := trivial
  have tk2 := trivial
  go_enter Tryz.func17, Tryz.ntmps17
  go_wp2_with (first
    | (go_at_call 33; clear tk; refine HW.out.mono ?_; intro e w1 h1; obtain rfl := h1.end'; have H1 := Lib.hid h1; clear h1)
    | (go_at_call 34; clear tk2; refine (HK.out w1 H1.out).mono ?_; rintro e w2 ⟨rfl, h2⟩; have H2 := Lib.hid (HG.out w1 w2 H1.out h2); clear h2)
    | (go_at_call 35; refine H2.out.1.mono ?_; rintro e w3 ⟨rfl, hb3⟩; have H3 := Lib.hid hb3; clear hb3))
  go_ret
  exact ⟨rfl, H2.out.2.1.trans (H3.out.mono (Nat.le_trans HBB.out H2.out.2.1.size)), fun b hb hbad => (H3.out.block b (Nat.lt_of_lt_of_le hb H2.out.2.2.1)).trans (H2.out.2.2.2 b hb hbad)⟩
theorem apart_any (w : World) (H B0 : Nat) (s0 s1 s2 s3 : Value) (e0 e1 e2 e3 : List Ent) (hF : Four w e0 e1 e2 e3) (hH : Held4 (Bad e0 e1 e2 e3) w H s0 s1 s2 s3 e0 e1 e2 e3)
    (l0 : e0.length ≤ 1000000000) (l1 : e1.length ≤ 1000000000) (l2 : e2.length ≤ 1000000000) (l3 : e3.length ≤ 1000000000)
    (n0 : ∀ e ∈ e0, e.n ≤ 1000000000) (n1 : ∀ e ∈ e1, e.n ≤ 1000000000) (n2 : ∀ e ∈ e2, e.n ≤ 1000000000) (n3 : ∀ e ∈ e3, e.n ≤ 1000000000)
    (hB : B0 ≤ w.heap.size) (hlow : ∀ b, Bad e0 e1 e2 e3 b → B0 ≤ b) (htab : ∀ W, Below B0 w W → Lib.TabIs Tryz.prog W "internal/strconv.uint64pow10" .u64 Lib.pow10Tab) :
    Calls Tryz.prog 17 #[.pointer (some ⟨H, 0, none⟩)] w (fun e w' => e = .returned (.bool true) ∧ Below B0 w w') :=
  (apart_full w H B0 s0 s1 s2 s3 e0 e1 e2 e3 hF hH l0 l1 l2 l3 n0 n1 n2 n3 hB hlow htab).mono fun _ _ h => ⟨h.1, h.2.1⟩
end Go.Proofs.YtnmnmkdmnohbmaaGreatDoor
