/- Helper text: the walk over write of the statements' lists: a mark of its own stands in every element. Conditions: none. -/
import Derived.Test.YtnmnmkdmnohbmaaGreatDoorGrow
import Derived.Test.YtnmnmkdmnohbmaaGreatDoorPackK
namespace Go.Proofs.YtnmnmkdmnohbmaaGreatDoor
open Go Go.RowKit
attribute [local go_sem] run_store_float

def mkS (k i : Nat) : Value := .string (markB k i)
def mkP (k i : Nat) : Value := .int .i64 ((k : Int) * 1048576 + i + 1)
structure WritePost (e0 e1 e2 e3 : List Ent) (bad : Nat → Prop) (w : World) (e : Ending) (w' : World) : Prop where
  end' : e = .returned (.tuple #[])
  four : Four w' e0 e1 e2 e3
  m0 : Marks w' e0 8 4 mkS
  m1 : Marks w' e1 9 0 mkS
  m2 : Marks w' e2 3 0 mkS
  m3 : Marks w' e3 2 0 mkP
  moved : Moved bad w w'
/-- What a round reads: the row's pointer. -/
theorem row_fact2 {bad : Nat → Prop} {w W : World} {p : Option Addr} {es : List Ent} {c : Nat} (h : RowOf bad w (.slice p es.length c) (es.map Ent.ptr)) (hm : ∀ b, b < w.heap.size → ¬ bad b → W.heap[b]? = w.heap[b]?)
    {K : Nat} {e : Ent} (he : es[K]? = some e) : ∃ g, p = some ⟨g, 0, none⟩ ∧ W.cell? ⟨g, K, none⟩ = some (.pointer (some ⟨e.hb, e.ho, none⟩)) := by
  obtain ⟨p', c', e1, h⟩ := h
  obtain ⟨g, h1, h2, h3, h4⟩ := h K e.ptr (by rw [List.getElem?_map, he]; rfl)
  simp only [Value.slice.injEq] at e1
  obtain ⟨rfl, _, _⟩ := e1
  exact ⟨g, h1, (World.cell?_of_block (a := ⟨g, K, none⟩) (hm g h3 h2)).trans h4⟩
/-- What a round within a list meets. -/
theorem ent_block {w : World} {T z : Nat} {hb ho n c i : Nat} {p : Option Addr} (h : EntAt w T z ⟨hb, ho, p, n, c⟩) (hi : i < n) (mo : Nat) (hz : mo < z) :
    ∃ g, p = some ⟨g, 0, none⟩ ∧ g < w.heap.size ∧ (∃ u, w.cell? ⟨g, i * z + mo, none⟩ = some u) ∧ w.frozen? ⟨g, i * z + mo, none⟩ = false := by
  rcases h.2 with ⟨h1, _⟩ | ⟨g, cur, h1, h2, h3, h4, _⟩
  · simp only at h1; omega
  · have hlt : i * z + mo < cur.size := by
      simp only at h3 h4
      rw [h3]
      have := Nat.mul_le_mul_right z (show i + 1 ≤ c by omega)
      rw [Nat.add_mul] at this
      omega
    exact ⟨g, h1, (Array.getElem?_eq_some_iff.1 h2).1, ⟨cur[i * z + mo], by simp [World.cell?, h2, hlt]⟩, by simp [World.frozen?, h2]⟩
theorem RowOf.len {bad : Nat → Prop} {w : World} {s : Value} {es : List Ent} (h : RowOf bad w s (es.map Ent.ptr)) : ∃ p c, s = .slice p es.length c := by
  obtain ⟨p, c, h1, _⟩ := h
  exact ⟨p, c, by rw [h1, List.length_map]⟩

set_option maxRecDepth 100000 in
set_option maxHeartbeats 4000000 in
theorem write_any (w : World) (H B0 : Nat) (s0 s1 s2 s3 : Value) (e0 e1 e2 e3 : List Ent) (hF : Four w e0 e1 e2 e3) (hH : Held4 (Bad e0 e1 e2 e3) w H s0 s1 s2 s3 e0 e1 e2 e3)
    (l0 : e0.length ≤ 1000000000) (l1 : e1.length ≤ 1000000000) (l2 : e2.length ≤ 1000000000) (l3 : e3.length ≤ 1000000000)
    (n0 : ∀ e ∈ e0, e.n ≤ 1000000000) (n1 : ∀ e ∈ e1, e.n ≤ 1000000000) (n2 : ∀ e ∈ e2, e.n ≤ 1000000000) (n3 : ∀ e ∈ e3, e.n ≤ 1000000000)
    (hB : B0 ≤ w.heap.size) (hlow : ∀ b, Bad e0 e1 e2 e3 b → B0 ≤ b) (htab : ∀ W, Below B0 w W → Lib.TabIs Tryz.prog W "internal/strconv.uint64pow10" .u64 Lib.pow10Tab) :
    Calls Tryz.prog 33 #[.pointer (some ⟨H, 0, none⟩)] w (WritePost e0 e1 e2 e3 (Bad e0 e1 e2 e3) w) := by
  have ND := Lib.hid hF.nd
  have BAD0 := Lib.hid (show ∀ b, b ∈ blks e0 → Bad e0 e1 e2 e3 b from fun b hb => by unfold Bad; simp [hb])
  have HD0 := Lib.hid (show ∀ e ∈ e0, Clr e0 8 4 e ∧ Clr e1 9 0 e ∧ Clr e2 3 0 e ∧ Clr e3 2 0 e from fun e he => hF.hd e (by simp [he]))
  have N0 := Lib.hid n0
  obtain ⟨p0, c0, rfl⟩ := hH.r0.len
  have BAD1 := Lib.hid (show ∀ b, b ∈ blks e1 → Bad e0 e1 e2 e3 b from fun b hb => by unfold Bad; simp [hb])
  have HD1 := Lib.hid (show ∀ e ∈ e1, Clr e0 8 4 e ∧ Clr e1 9 0 e ∧ Clr e2 3 0 e ∧ Clr e3 2 0 e from fun e he => hF.hd e (by simp [he]))
  have N1 := Lib.hid n1
  obtain ⟨p1, c1, rfl⟩ := hH.r1.len
  have BAD2 := Lib.hid (show ∀ b, b ∈ blks e2 → Bad e0 e1 e2 e3 b from fun b hb => by unfold Bad; simp [hb])
  have HD2 := Lib.hid (show ∀ e ∈ e2, Clr e0 8 4 e ∧ Clr e1 9 0 e ∧ Clr e2 3 0 e ∧ Clr e3 2 0 e from fun e he => hF.hd e (by simp [he]))
  have N2 := Lib.hid n2
  obtain ⟨p2, c2, rfl⟩ := hH.r2.len
  have BAD3 := Lib.hid (show ∀ b, b ∈ blks e3 → Bad e0 e1 e2 e3 b from fun b hb => by unfold Bad; simp [hb])
  have HD3 := Lib.hid (show ∀ e ∈ e3, Clr e0 8 4 e ∧ Clr e1 9 0 e ∧ Clr e2 3 0 e ∧ Clr e3 2 0 e from fun e he => hF.hd e (by simp [he]))
  have N3 := Lib.hid n3
  obtain ⟨p3, c3, rfl⟩ := hH.r3.len
  generalize Bad e0 e1 e2 e3 = bad at *
  have HLOW := Lib.hid hlow
  have HTAB := Lib.hid htab
  have HF0 := Lib.hid hF
  have HH0 := Lib.hid hH
  have HM0 := Lib.hid (show Moved bad w w from ⟨rfl, rfl, rfl, Nat.le_refl _, fun _ _ _ => rfl⟩)
  have HBB := Lib.hid hB
  have HC := Lib.hid (show ∀ W, Held4 bad W H (.slice p0 e0.length c0) (.slice p1 e1.length c1) (.slice p2 e2.length c2) (.slice p3 e3.length c3) e0 e1 e2 e3 → W.cell? ⟨H, 0, none⟩ = some (.slice p0 e0.length c0) ∧ W.cell? ⟨H, 1, none⟩ = some (.slice p1 e1.length c1) ∧ W.cell? ⟨H, 2, none⟩ = some (.slice p2 e2.length c2) ∧ W.cell? ⟨H, 3, none⟩ = some (.slice p3 e3.length c3) from fun W hk => by
    have hb := hk.block
    simp [World.cell?, hb])
  clear hF hH n0 n1 n2 n3 hB hlow htab
  obtain ⟨h0, h1, h2, h3⟩ := HC.out _ HH0.out
  go_enter Tryz.func33, Tryz.ntmps33
  go_wp2_with fail
  clear h0 h1 h2 h3
  go_loopw [19] (fun ii wr => ∃ K : Nat, K ≤ e0.length ∧ ii = .int .i64 K ∧ Hid (Wrote w wr e0 27 8 4 mkS K 0)) (fun ii _ => e0.length - (intOf ii).toNat)
  case atStart => exact ⟨0, by omega, rfl, Lib.hid (Wrote.start HF0.out.a0)⟩
  case round =>
    obtain ⟨K, hK, rfl, hw⟩ := hrel
    by_cases hlt : K < e0.length
    · obtain ⟨hb, ho, p, n, c, he⟩ := ent_get hlt
      obtain ⟨g, rfl, hrow⟩ := row_fact2 HH0.out.r0 (fun b hb' hbad => hw.out.moved.block b hb' (fun hx => hbad (BAD0.out b hx))) he
      have hn := N0.out _ (List.mem_of_getElem? he)
      have hhd : wr.cell? ⟨hb, ho, none⟩ = some (.slice p n c) := (hw.out.rows _ (List.mem_of_getElem? he)).1
      simp only at hrow hn
      have HE := Lib.hid he
      clear he
      go_wp2_with fail
      clear hrow hhd
      go_loopw [28] (fun ii wr2 => ∃ i : Nat, i ≤ n ∧ ii = .int .i64 i ∧ Hid (Wrote w wr2 e0 27 8 4 mkS K i)) (fun ii _ => n - (intOf ii).toNat)
      case atStart => exact ⟨0, by omega, rfl, hw⟩
      case round =>
        obtain ⟨i, hi, rfl, hw2⟩ := hrel
        have hent := hw2.out.rows _ (List.mem_of_getElem? HE.out)
        have hhd : wr.cell? ⟨hb, ho, none⟩ = some (.slice p n c) := hent.1
        by_cases hlt2 : i < n
        · obtain ⟨g0, rfl, hg0, ⟨uo, hcu⟩, hfz⟩ := ent_block hent hlt2 4 (by decide)
          have hhb := hent.hb_lt
          simp only at hhb
          have HENT := Lib.hid hent
          have HT := Lib.hid (show ∀ W, Below wr.heap.size wr W → Calls Tryz.prog 60 #[.int .i64 K, .int .i64 i] W (RetB (.string (markB K i)) W) from fun W hW => mark_any K i (by unfold inI; omega) (by unfold inI; omega) W
            (HTAB.out W (((HM0.out.below HBB.out HLOW.out).trans (hw2.out.moved.below (Nat.le_trans HBB.out HM0.out.size) (fun b hb => HLOW.out b (BAD0.out b hb)))).trans (hW.mono (Nat.le_trans (Nat.le_trans HBB.out HM0.out.size) hw2.out.moved.size)))))
          clear hcu hfz hent
          go_upto_region 6 with (fail)
          refine wp_region_plan_below 7 [(0, [0, 1, 2, 3, 4, 5]), (1, [6]), (2, [7, 8, 9])] (by kernel_rfl) (by kernel_rfl) (fun _ _ _ _ h => h) ?_
          simp only [wpSegs, pickOps, List.getElem?_toArray, List.getElem?_cons_zero, List.getElem?_cons_succ]
          have kc := cell_cls wr
          iterate 6 (go_big_quiet_step (fail))
          refine wpQuiet_nil ?_
          clear kc
          refine wpListC_plain rfl (fun K' hK' => ?_)
          go_step
          refine (HT.out _ (Below.drew (Below.refl _ _))).mono ?_
          rintro e w1 ⟨rfl, hb1⟩
          have hbw1 := (Below.drew (Below.refl wr.heap.size wr)).trans hb1
          refine hK' _ _ (cls_of_below hbw1) ?_
          clear hK' K'
          refine wpListC_nil ?_
          have hw3 := Lib.hid (hw2.out.grow hbw1 (blks_lt HF0.out.a0) (fun e he => (HF0.out.a0 e he).hb_lt))
          have hent := hw3.out.rows _ (List.mem_of_getElem? HE.out)
          obtain ⟨g1, eg, hg1, ⟨uo, hcu⟩, hfz⟩ := ent_block hent hlt2 4 (by decide)
          cases eg
          have HS := Lib.hid (hw3.out.step (by have nd := ND.out; simp only [List.nodup_append] at nd; exact nd.1.1.1) (by decide) (fun e he => ((HD0.out e he).1).safe HF0.out.a0) HE.out rfl hlt2)
          have HM := Lib.hid (show mkS K i = .string (markB K i) from rfl)
          clear hent hb1 hbw1 hhd
          try simp only [Nat.add_zero] at hcu hfz
          go_wp2_with fail
          go_roundw
          case rel =>
            refine ⟨i + 1, by omega, by go_num, ?_⟩
            have := HS.out
            rw [HM.out] at this
            exact Lib.hid this
          case measure => simp [intOf]; omega
        · obtain rfl : i = n := by omega
          have HW4 := Lib.hid (hw2.out.next HE.out (Nat.le_refl _))
          clear hw2 hlt2 hi hhd hent
          go_wp2_with fail
          go_roundw
          case rel => exact ⟨K + 1, by omega, by go_num, HW4⟩
          case measure => simp [intOf]; omega
    · obtain rfl : K = e0.length := by omega
      obtain ⟨w0_, rfl⟩ : ∃ w0_ : World, w0_ = wr := ⟨_, rfl⟩
      have HF1 := Lib.hid (HF0.out.w0 hw.out)
      have HH1 := Lib.hid (HH0.out.moved (fun b hb hbad => hw.out.moved.block b hb (fun hx => hbad (BAD0.out b hx))) hw.out.moved.size)
      have HM1 := Lib.hid (HM0.out.trans (hw.out.moved.mono (fun b _ hb => BAD0.out b hb)))
      have MK0 := Lib.hid hw.out.marks
      have HBQ := Lib.hid HM1.out.size
      clear hw hlt hK
      obtain ⟨h0, h1, h2, h3⟩ := HC.out _ HH1.out
      go_wp2_with fail
      clear h0 h1 h2 h3
      go_loopw [47] (fun ii wr => ∃ K : Nat, K ≤ e1.length ∧ ii = .int .i64 K ∧ Hid (Wrote w0_ wr e1 63 9 0 mkS K 0)) (fun ii _ => e1.length - (intOf ii).toNat)
      case atStart => exact ⟨0, by omega, rfl, Lib.hid (Wrote.start HF1.out.a1)⟩
      case round =>
        obtain ⟨K, hK, rfl, hw⟩ := hrel
        by_cases hlt : K < e1.length
        · obtain ⟨hb, ho, p, n, c, he⟩ := ent_get hlt
          obtain ⟨g, rfl, hrow⟩ := row_fact2 HH1.out.r1 (fun b hb' hbad => hw.out.moved.block b hb' (fun hx => hbad (BAD1.out b hx))) he
          have hn := N1.out _ (List.mem_of_getElem? he)
          have hhd : wr.cell? ⟨hb, ho, none⟩ = some (.slice p n c) := (hw.out.rows _ (List.mem_of_getElem? he)).1
          simp only at hrow hn
          have HE := Lib.hid he
          clear he
          go_wp2_with fail
          clear hrow hhd
          go_loopw [56] (fun ii wr2 => ∃ i : Nat, i ≤ n ∧ ii = .int .i64 i ∧ Hid (Wrote w0_ wr2 e1 63 9 0 mkS K i)) (fun ii _ => n - (intOf ii).toNat)
          case atStart => exact ⟨0, by omega, rfl, hw⟩
          case round =>
            obtain ⟨i, hi, rfl, hw2⟩ := hrel
            have hent := hw2.out.rows _ (List.mem_of_getElem? HE.out)
            have hhd : wr.cell? ⟨hb, ho, none⟩ = some (.slice p n c) := hent.1
            by_cases hlt2 : i < n
            · obtain ⟨g0, rfl, hg0, ⟨uo, hcu⟩, hfz⟩ := ent_block hent hlt2 0 (by decide)
              have hhb := hent.hb_lt
              simp only at hhb
              have HENT := Lib.hid hent
              have HT := Lib.hid (show ∀ W, Below wr.heap.size wr W → Calls Tryz.prog 60 #[.int .i64 K, .int .i64 i] W (RetB (.string (markB K i)) W) from fun W hW => mark_any K i (by unfold inI; omega) (by unfold inI; omega) W
                (HTAB.out W (((HM1.out.below HBB.out HLOW.out).trans (hw2.out.moved.below (Nat.le_trans HBB.out HM1.out.size) (fun b hb => HLOW.out b (BAD1.out b hb)))).trans (hW.mono (Nat.le_trans (Nat.le_trans HBB.out HM1.out.size) hw2.out.moved.size)))))
              clear hcu hfz hent
              go_upto_region 15 with (fail)
              refine wp_region_plan_below 7 [(0, [0, 1, 2, 3, 4, 5]), (1, [6]), (2, [7, 8, 9])] (by kernel_rfl) (by kernel_rfl) (fun _ _ _ _ h => h) ?_
              simp only [wpSegs, pickOps, List.getElem?_toArray, List.getElem?_cons_zero, List.getElem?_cons_succ]
              have kc := cell_cls wr
              iterate 6 (go_big_quiet_step (fail))
              refine wpQuiet_nil ?_
              clear kc
              refine wpListC_plain rfl (fun K' hK' => ?_)
              go_step
              refine (HT.out _ (Below.drew (Below.refl _ _))).mono ?_
              rintro e w1 ⟨rfl, hb1⟩
              have hbw1 := (Below.drew (Below.refl wr.heap.size wr)).trans hb1
              refine hK' _ _ (cls_of_below hbw1) ?_
              clear hK' K'
              refine wpListC_nil ?_
              have hw3 := Lib.hid (hw2.out.grow hbw1 (blks_lt HF1.out.a1) (fun e he => (HF1.out.a1 e he).hb_lt))
              have hent := hw3.out.rows _ (List.mem_of_getElem? HE.out)
              obtain ⟨g1, eg, hg1, ⟨uo, hcu⟩, hfz⟩ := ent_block hent hlt2 0 (by decide)
              cases eg
              have HS := Lib.hid (hw3.out.step (by have nd := ND.out; simp only [List.nodup_append] at nd; exact nd.1.1.2.1) (by decide) (fun e he => ((HD1.out e he).2.1).safe HF1.out.a1) HE.out rfl hlt2)
              have HM := Lib.hid (show mkS K i = .string (markB K i) from rfl)
              clear hent hb1 hbw1 hhd
              try simp only [Nat.add_zero] at hcu hfz
              go_wp2_with fail
              go_roundw
              case rel =>
                refine ⟨i + 1, by omega, by go_num, ?_⟩
                have := HS.out
                rw [HM.out] at this
                exact Lib.hid this
              case measure => simp [intOf]; omega
            · obtain rfl : i = n := by omega
              have HW4 := Lib.hid (hw2.out.next HE.out (Nat.le_refl _))
              clear hw2 hlt2 hi hhd hent
              go_wp2_with fail
              go_roundw
              case rel => exact ⟨K + 1, by omega, by go_num, HW4⟩
              case measure => simp [intOf]; omega
        · obtain rfl : K = e1.length := by omega
          obtain ⟨w1_, rfl⟩ : ∃ w1_ : World, w1_ = wr := ⟨_, rfl⟩
          have HF2 := Lib.hid (HF1.out.w1 hw.out)
          have HH2 := Lib.hid (HH1.out.moved (fun b hb hbad => hw.out.moved.block b hb (fun hx => hbad (BAD1.out b hx))) hw.out.moved.size)
          have HM2 := Lib.hid (HM1.out.trans (hw.out.moved.mono (fun b _ hb => BAD1.out b hb)))
          have MK1 := Lib.hid hw.out.marks
          have MK0 := Lib.hid (MK0.out.wrote HF1.out.a0 hw.out (fun b h1 h2 => by
            have nd := ND.out
            simp only [List.nodup_append, List.mem_append] at nd
            exact nd.1.1.2.2 b h1 b h2 rfl))
          have HBQ := Lib.hid HM2.out.size
          clear hw hlt hK
          obtain ⟨h0, h1, h2, h3⟩ := HC.out _ HH2.out
          go_wp2_with fail
          clear h0 h1 h2 h3
          go_loopw [75] (fun ii wr => ∃ K : Nat, K ≤ e2.length ∧ ii = .int .i64 K ∧ Hid (Wrote w1_ wr e2 69 3 0 mkS K 0)) (fun ii _ => e2.length - (intOf ii).toNat)
          case atStart => exact ⟨0, by omega, rfl, Lib.hid (Wrote.start HF2.out.a2)⟩
          case round =>
            obtain ⟨K, hK, rfl, hw⟩ := hrel
            by_cases hlt : K < e2.length
            · obtain ⟨hb, ho, p, n, c, he⟩ := ent_get hlt
              obtain ⟨g, rfl, hrow⟩ := row_fact2 HH2.out.r2 (fun b hb' hbad => hw.out.moved.block b hb' (fun hx => hbad (BAD2.out b hx))) he
              have hn := N2.out _ (List.mem_of_getElem? he)
              have hhd : wr.cell? ⟨hb, ho, none⟩ = some (.slice p n c) := (hw.out.rows _ (List.mem_of_getElem? he)).1
              simp only at hrow hn
              have HE := Lib.hid he
              clear he
              go_wp2_with fail
              clear hrow hhd
              go_loopw [84] (fun ii wr2 => ∃ i : Nat, i ≤ n ∧ ii = .int .i64 i ∧ Hid (Wrote w1_ wr2 e2 69 3 0 mkS K i)) (fun ii _ => n - (intOf ii).toNat)
              case atStart => exact ⟨0, by omega, rfl, hw⟩
              case round =>
                obtain ⟨i, hi, rfl, hw2⟩ := hrel
                have hent := hw2.out.rows _ (List.mem_of_getElem? HE.out)
                have hhd : wr.cell? ⟨hb, ho, none⟩ = some (.slice p n c) := hent.1
                by_cases hlt2 : i < n
                · obtain ⟨g0, rfl, hg0, ⟨uo, hcu⟩, hfz⟩ := ent_block hent hlt2 0 (by decide)
                  have hhb := hent.hb_lt
                  simp only at hhb
                  have HENT := Lib.hid hent
                  have HT := Lib.hid (show ∀ W, Below wr.heap.size wr W → Calls Tryz.prog 60 #[.int .i64 K, .int .i64 i] W (RetB (.string (markB K i)) W) from fun W hW => mark_any K i (by unfold inI; omega) (by unfold inI; omega) W
                    (HTAB.out W (((HM2.out.below HBB.out HLOW.out).trans (hw2.out.moved.below (Nat.le_trans HBB.out HM2.out.size) (fun b hb => HLOW.out b (BAD2.out b hb)))).trans (hW.mono (Nat.le_trans (Nat.le_trans HBB.out HM2.out.size) hw2.out.moved.size)))))
                  clear hcu hfz hent
                  go_upto_region 24 with (fail)
                  refine wp_region_plan_below 7 [(0, [0, 1, 2, 3, 4, 5]), (1, [6]), (2, [7, 8, 9])] (by kernel_rfl) (by kernel_rfl) (fun _ _ _ _ h => h) ?_
                  simp only [wpSegs, pickOps, List.getElem?_toArray, List.getElem?_cons_zero, List.getElem?_cons_succ]
                  have kc := cell_cls wr
                  iterate 6 (go_big_quiet_step (fail))
                  refine wpQuiet_nil ?_
                  clear kc
                  refine wpListC_plain rfl (fun K' hK' => ?_)
                  go_step
                  refine (HT.out _ (Below.drew (Below.refl _ _))).mono ?_
                  rintro e w1 ⟨rfl, hb1⟩
                  have hbw1 := (Below.drew (Below.refl wr.heap.size wr)).trans hb1
                  refine hK' _ _ (cls_of_below hbw1) ?_
                  clear hK' K'
                  refine wpListC_nil ?_
                  have hw3 := Lib.hid (hw2.out.grow hbw1 (blks_lt HF2.out.a2) (fun e he => (HF2.out.a2 e he).hb_lt))
                  have hent := hw3.out.rows _ (List.mem_of_getElem? HE.out)
                  obtain ⟨g1, eg, hg1, ⟨uo, hcu⟩, hfz⟩ := ent_block hent hlt2 0 (by decide)
                  cases eg
                  have HS := Lib.hid (hw3.out.step (by have nd := ND.out; simp only [List.nodup_append] at nd; exact nd.1.2.1) (by decide) (fun e he => ((HD2.out e he).2.2.1).safe HF2.out.a2) HE.out rfl hlt2)
                  have HM := Lib.hid (show mkS K i = .string (markB K i) from rfl)
                  clear hent hb1 hbw1 hhd
                  try simp only [Nat.add_zero] at hcu hfz
                  go_wp2_with fail
                  go_roundw
                  case rel =>
                    refine ⟨i + 1, by omega, by go_num, ?_⟩
                    have := HS.out
                    rw [HM.out] at this
                    exact Lib.hid this
                  case measure => simp [intOf]; omega
                · obtain rfl : i = n := by omega
                  have HW4 := Lib.hid (hw2.out.next HE.out (Nat.le_refl _))
                  clear hw2 hlt2 hi hhd hent
                  go_wp2_with fail
                  go_roundw
                  case rel => exact ⟨K + 1, by omega, by go_num, HW4⟩
                  case measure => simp [intOf]; omega
            · obtain rfl : K = e2.length := by omega
              obtain ⟨w2_, rfl⟩ : ∃ w2_ : World, w2_ = wr := ⟨_, rfl⟩
              have HF3 := Lib.hid (HF2.out.w2 hw.out)
              have HH3 := Lib.hid (HH2.out.moved (fun b hb hbad => hw.out.moved.block b hb (fun hx => hbad (BAD2.out b hx))) hw.out.moved.size)
              have HM3 := Lib.hid (HM2.out.trans (hw.out.moved.mono (fun b _ hb => BAD2.out b hb)))
              have MK2 := Lib.hid hw.out.marks
              have MK0 := Lib.hid (MK0.out.wrote HF2.out.a0 hw.out (fun b h1 h2 => by
                have nd := ND.out
                simp only [List.nodup_append, List.mem_append] at nd
                exact nd.1.2.2 b (.inl h1) b h2 rfl))
              have MK1 := Lib.hid (MK1.out.wrote HF2.out.a1 hw.out (fun b h1 h2 => by
                have nd := ND.out
                simp only [List.nodup_append, List.mem_append] at nd
                exact nd.1.2.2 b (.inr h1) b h2 rfl))
              have HBQ := Lib.hid HM3.out.size
              clear hw hlt hK
              obtain ⟨h0, h1, h2, h3⟩ := HC.out _ HH3.out
              go_wp2_with fail
              clear h0 h1 h2 h3
              go_loopw [103] (fun ii wr => ∃ K : Nat, K ≤ e3.length ∧ ii = .int .i64 K ∧ Hid (Wrote w2_ wr e3 44 2 0 mkP K 0)) (fun ii _ => e3.length - (intOf ii).toNat)
              case atStart => exact ⟨0, by omega, rfl, Lib.hid (Wrote.start HF3.out.a3)⟩
              case round =>
                obtain ⟨K, hK, rfl, hw⟩ := hrel
                by_cases hlt : K < e3.length
                · obtain ⟨hb, ho, p, n, c, he⟩ := ent_get hlt
                  obtain ⟨g, rfl, hrow⟩ := row_fact2 HH3.out.r3 (fun b hb' hbad => hw.out.moved.block b hb' (fun hx => hbad (BAD3.out b hx))) he
                  have hn := N3.out _ (List.mem_of_getElem? he)
                  have hhd : wr.cell? ⟨hb, ho, none⟩ = some (.slice p n c) := (hw.out.rows _ (List.mem_of_getElem? he)).1
                  simp only at hrow hn
                  have HE := Lib.hid he
                  clear he
                  go_wp2_with fail
                  clear hrow hhd
                  go_loopw [112] (fun ii wr2 => ∃ i : Nat, i ≤ n ∧ ii = .int .i64 i ∧ Hid (Wrote w2_ wr2 e3 44 2 0 mkP K i)) (fun ii _ => n - (intOf ii).toNat)
                  case atStart => exact ⟨0, by omega, rfl, hw⟩
                  case round =>
                    obtain ⟨i, hi, rfl, hw2⟩ := hrel
                    have hent := hw2.out.rows _ (List.mem_of_getElem? HE.out)
                    have hhd : wr.cell? ⟨hb, ho, none⟩ = some (.slice p n c) := hent.1
                    by_cases hlt2 : i < n
                    · obtain ⟨g0, rfl, hg0, ⟨uo, hcu⟩, hfz⟩ := ent_block hent hlt2 0 (by decide)
                      have hhb := hent.hb_lt
                      simp only at hhb
                      clear hent
                      have HS := Lib.hid (hw2.out.step (by have nd := ND.out; simp only [List.nodup_append] at nd; exact nd.2.1) (by decide) (fun e he => ((HD3.out e he).2.2.2).safe HF3.out.a3) HE.out rfl hlt2)
                      have HM := Lib.hid (show mkP K i = .int .i64 ((K : Int) * 1048576 + i + 1) from rfl)
                      have hwr : (IntKind.i64.wrap ((K : Int) * 1048576) : Int) = (K : Int) * 1048576 := IntWalk.i64_in _ (by omega)
                      have hwr2 : (IntKind.i64.wrap ((K : Int) * 1048576 + i) : Int) = (K : Int) * 1048576 + i := IntWalk.i64_in _ (by omega)
                      have hwr3 : (IntKind.i64.wrap ((K : Int) * 1048576 + i + 1) : Int) = (K : Int) * 1048576 + i + 1 := IntWalk.i64_in _ (by omega)
                      simp only [Nat.add_zero] at hcu hfz
                      go_wp2_with fail
                      refine ⟨⟨i + 1, by omega, by go_num, ?_⟩, ?_⟩
                      · have := HS.out
                        rw [HM.out] at this
                        exact Lib.hid this
                      · simp [intOf]; omega
                    · obtain rfl : i = n := by omega
                      have HW4 := Lib.hid (hw2.out.next HE.out (Nat.le_refl _))
                      clear hw2 hlt2 hi hhd hent
                      go_wp2_with fail
                      go_roundw
                      case rel => exact ⟨K + 1, by omega, by go_num, HW4⟩
                      case measure => simp [intOf]; omega
                · obtain rfl : K = e3.length := by omega
                  obtain ⟨w3_, rfl⟩ : ∃ w3_ : World, w3_ = wr := ⟨_, rfl⟩
                  have HF4 := Lib.hid (HF3.out.w3 hw.out)
                  have HH4 := Lib.hid (HH3.out.moved (fun b hb hbad => hw.out.moved.block b hb (fun hx => hbad (BAD3.out b hx))) hw.out.moved.size)
                  have HM4 := Lib.hid (HM3.out.trans (hw.out.moved.mono (fun b _ hb => BAD3.out b hb)))
                  have MK3 := Lib.hid hw.out.marks
                  have MK0 := Lib.hid (MK0.out.wrote HF3.out.a0 hw.out (fun b h1 h2 => by
                    have nd := ND.out
                    simp only [List.nodup_append, List.mem_append] at nd
                    exact nd.2.2 b (.inl (.inl h1)) b h2 rfl))
                  have MK1 := Lib.hid (MK1.out.wrote HF3.out.a1 hw.out (fun b h1 h2 => by
                    have nd := ND.out
                    simp only [List.nodup_append, List.mem_append] at nd
                    exact nd.2.2 b (.inl (.inr h1)) b h2 rfl))
                  have MK2 := Lib.hid (MK2.out.wrote HF3.out.a2 hw.out (fun b h1 h2 => by
                    have nd := ND.out
                    simp only [List.nodup_append, List.mem_append] at nd
                    exact nd.2.2 b (.inr h1) b h2 rfl))
                  have HBQ := Lib.hid HM4.out.size
                  clear hw hlt hK
                  obtain ⟨h0, h1, h2, h3⟩ := HC.out _ HH4.out
                  clear HC
                  go_wp2_with fail
                  refine bodyPost_ret (results_none rfl _ _ _) rfl ?_
                  exact ⟨rfl, HF4.out, MK0.out, MK1.out, MK2.out, MK3.out, HM4.out⟩
end Go.Proofs.YtnmnmkdmnohbmaaGreatDoor
