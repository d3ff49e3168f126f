/- inFaults: whether a list of faults holds one that stands as another one. Conditions: none. -/
import Derived.Test.YtnmnmkdmnohbmaaTreeFaults
namespace Go.Proofs.Ytnmnmkdmnohbmaa
open Go.RowKit

theorem cmpF_zero {x y : Fl} : cmpF x y = 0 ↔ x.k = y.k ∧ x.pos = y.pos ∧ cmpP x.path y.path = 0 := by
  obtain ⟨k, p, q⟩ := x
  obtain ⟨k2, p2, q2⟩ := y
  unfold cmpF
  dsimp only
  by_cases h : k = k2
  · subst h
    rw [if_pos (cmpI_zero.2 rfl)]
    by_cases h2 : p = p2
    · subst h2
      rw [if_pos ((lexL_refl_eq (fun _ _ => cmpPos1_zero)).2 rfl)]
      simp
    · have h3 : ¬ lexL cmpPos1 p p2 = 0 := fun e => h2 ((lexL_refl_eq (fun _ _ => cmpPos1_zero)).1 e)
      rw [if_neg h3]
      simp [h2, h3]
  · have : ¬ cmpI k k2 = 0 := fun e => h (cmpI_zero.1 e)
    rw [if_neg this]
    simp [h, this]

set_option maxRecDepth 100000 in
set_option maxHeartbeats 4000000 in
theorem inFaults_any (l : List LF) (x : LF) (p : Option Addr) (c : Nat) (w : World) (hl : FsAt w.heap.size w p l) (hx : LOk w.heap.size w x) (ll : l.length ≤ big) :
    Calls Try.prog 54 #[.slice p l.length c, .agg x.cells] w (fun e w' => ∃ r : Bool, e = .returned (.bool r) ∧ (r = true ↔ ∃ z ∈ l, cmpF z.f x.f = 0) ∧ Below w.heap.size w w') := by
  obtain ⟨⟨xk, xpos, xpath⟩, xp, xq⟩ := x
  obtain ⟨⟨px, cx, e1, hpx, lx⟩, qx, dx, e2, hqx, mx⟩ := hx
  dsimp only at *
  subst e1 e2
  unfold big at ll lx mx
  obtain ⟨W0, hW0⟩ : ∃ W0, w.alloc (.cells #[.int .i64 xk, .slice px xpos.length cx, .slice qx xpath.length dx] 91) = W0 := ⟨_, rfl⟩
  have hb0 : Below w.heap.size w W0 := by rw [← hW0]; exact (Below.refl _ _).alloc (Nat.le_refl _) _
  have hs0 : W0.heap.size = w.heap.size + 1 := by rw [← hW0]; simp
  have hX : W0.heap[w.heap.size]? = some (.cells #[.int .i64 xk, .slice px xpos.length cx, .slice qx xpath.length dx] 91 (0, 0)) := by rw [← hW0]; exact heap_new w _
  have HXC : Hid (∀ w1, Below W0.heap.size W0 w1 → w1.cell? ⟨w.heap.size, 0, none⟩ = some (.int .i64 xk) ∧ w1.cell? ⟨w.heap.size, 1, none⟩ = some (.slice px xpos.length cx) ∧ w1.cell? ⟨w.heap.size, 2, none⟩ = some (.slice qx xpath.length dx)) := Lib.hid (fun w1 hg => by
    have h1 := (hg.block _ (by omega)).trans hX
    exact ⟨by simp [World.cell?, h1], by simp [World.cell?, h1], by simp [World.cell?, h1]⟩)
  have HB0 := Lib.hid hb0
  have HS0 := Lib.hid hs0
  have HL := Lib.hid ((hl.below hb0).up hb0.size)
  have HPX := Lib.hid ((hpx.below hb0).up hb0.size)
  have HQX := Lib.hid ((hqx.below hb0).up hb0.size)
  clear hb0 hs0 hX hl hpx hqx
  go_enter Try.func54, Try.ntmps54
  go_wp2
  try rw [hW0]
  clear hW0
  go_loopw [11] (fun i wr => ∃ k : Nat, k ≤ l.length ∧ i = .int .i64 k ∧ Hid (∀ (i : Nat) z, i < k → l[i]? = some z → ¬ cmpF z.f ⟨xk, xpos, xpath⟩ = 0) ∧ Hid (Below W0.heap.size W0 wr)) (fun i _ => l.length - (intOf i).toNat)
  case atStart => exact ⟨0, Nat.zero_le _, rfl, Lib.hid (fun _ _ h => absurd h (by omega)), Lib.hid (Below.refl _ _)⟩
  case round =>
    obtain ⟨k, hka, rfl, hcmp, HBwr⟩ := hrel
    by_cases h1 : k < l.length
    · obtain ⟨z, hz⟩ : ∃ z, l[k]? = some z := ⟨l[k], by simp [h1]⟩
      obtain ⟨b, o, rfl, hB, a1, a2, a3, okz⟩ := (HL.out.below HBwr.out).get hz
      have HZ := Lib.hid hz
      have hwb : b < wr.heap.size := Nat.lt_of_lt_of_le hB HBwr.out.size
      obtain ⟨⟨zk, zpos, zpath⟩, zp, zq⟩ := z
      obtain ⟨⟨pz, cz, e1, hpz, lz⟩, qz, dz, e2, hqz, mz⟩ := okz
      dsimp only at *
      subst e1 e2
      unfold big at lz mz
      obtain ⟨g0, g1, g2⟩ := HXC.out wr HBwr.out
      have hwx : w.heap.size < wr.heap.size := by have := HBwr.out.size; have := HS0.out; omega
      obtain ⟨W1, hW1⟩ : ∃ W1, wr.alloc (.cells #[.int .i64 zk, .slice pz zpos.length cz, .slice qz zpath.length dz] 91) = W1 := ⟨_, rfl⟩
      have hb1 : Below wr.heap.size wr W1 := by rw [← hW1]; exact (Below.refl _ _).alloc (Nat.le_refl _) _
      have hs1 : W1.heap.size = wr.heap.size + 1 := by rw [← hW1]; simp
      have hZ : W1.heap[wr.heap.size]? = some (.cells #[.int .i64 zk, .slice pz zpos.length cz, .slice qz zpath.length dz] 91 (0, 0)) := by rw [← hW1]; exact heap_new wr _
      have HZC : Hid (∀ w1, Below W1.heap.size W1 w1 → w1.cell? ⟨wr.heap.size, 0, none⟩ = some (.int .i64 zk) ∧ w1.cell? ⟨wr.heap.size, 1, none⟩ = some (.slice pz zpos.length cz) ∧ w1.cell? ⟨wr.heap.size, 2, none⟩ = some (.slice qz zpath.length dz) ∧ wr.heap.size < w1.heap.size ∧ w.heap.size < w1.heap.size ∧ w1.cell? ⟨w.heap.size, 0, none⟩ = some (.int .i64 xk) ∧ w1.cell? ⟨w.heap.size, 1, none⟩ = some (.slice px xpos.length cx) ∧ w1.cell? ⟨w.heap.size, 2, none⟩ = some (.slice qx xpath.length dx)) := Lib.hid (fun w1 hg => by
        have h1 := (hg.block _ (by omega)).trans hZ
        have hbx : Below wr.heap.size wr w1 := hb1.trans (hg.mono (by omega))
        have hsz := hg.size
        exact ⟨by simp [World.cell?, h1], by simp [World.cell?, h1], by simp [World.cell?, h1], by omega, by omega, (hbx.cell (p := ⟨w.heap.size, _, none⟩) hwx).trans g0, (hbx.cell (p := ⟨w.heap.size, _, none⟩) hwx).trans g1, (hbx.cell (p := ⟨w.heap.size, _, none⟩) hwx).trans g2⟩)
      have HBW1 := Lib.hid (HBwr.out.trans (hb1.mono HBwr.out.size))
      have HPZ := Lib.hid (hpz.below (hb1.mono HBwr.out.size))
      have HQZ := Lib.hid (hqz.below (hb1.mono HBwr.out.size))
      have HS1 := Lib.hid hs1
      clear hz hZ hb1 hs1 hpz hqz g0 g1 g2 hwx
      go_upto_region 4 with (fail)
      try rw [hW1]
      clear hW1 a1 a2 a3 hwb
      obtain ⟨z0, z1, z2, zs, xs, y0, y1, y2⟩ := HZC.out W1 (Below.refl _ _)
      have hcz : cmpF ⟨zk, zpos, zpath⟩ ⟨xk, xpos, xpath⟩ = 0 ↔ zk = xk ∧ zpos = xpos ∧ cmpP zpath xpath = 0 := cmpF_zero
      have HCZ := Lib.hid hcz
      clear hcz
      have HNEXT : Hid (∀ Wn, Below W1.heap.size W1 Wn → ¬ (zk = xk ∧ zpos = xpos ∧ cmpP zpath xpath = 0) → Hid (∀ (i : Nat) z, i < k + 1 → l[i]? = some z → ¬ cmpF z.f ⟨xk, xpos, xpath⟩ = 0) ∧ Hid (Below W0.heap.size W0 Wn)) := Lib.hid (fun Wn hg hn => ⟨Lib.hid (fun i z hi hzi => by
        by_cases hik : i = k
        · subst hik
          rw [HZ.out] at hzi
          cases hzi
          exact fun e => hn (HCZ.out.1 e)
        · exact hcmp.out i z (by omega) hzi), Lib.hid (HBW1.out.trans (hg.mono HBW1.out.size))⟩)
      by_cases hk : zk = xk
      · subst hk
        by_cases hlen : zpos.length = xpos.length
        · have hq : ((zpos.length : Int) == (xpos.length : Int)) = true := by simp [hlen]
          have hq2 : decide ((zpos.length : Int) = (xpos.length : Int)) = true := decide_eq_true (by omega)
          have HLEN := Lib.hid hlen
          clear hlen
          have C1 := Lib.hid (Compare_g zpath xpath qz qx dz dx W1 (HQZ.out.up HBW1.out.size) ((HQX.out.below HBW1.out).up HBW1.out.size) (by unfold maxLen; omega) (by unfold maxLen; omega))
          obtain ⟨r, hr⟩ : ∃ r, cmpP zpath xpath = r := ⟨_, rfl⟩
          rw [hr] at C1 HCZ HNEXT
          clear hr
          by_cases hr0 : r = 0
          · subst hr0
            go_wp2_with (go_at_call 21; refine C1.out.mono ?_; rintro e w2 ⟨rfl, hg2⟩; have hbb := hg2.below; obtain ⟨s0, s1, s2, ss, st, t0, t1, t2⟩ := HZC.out w2 hbb; have HB2 := Lib.hid hbb; clear hg2 hbb z0 z1 z2 zs xs y0 y1 y2)
            go_loopw [7, 40] (fun sm i wj => ∃ j : Nat, j ≤ zpos.length ∧ i = .int .i64 j ∧ ∃ m : Bool, sm = .bool m ∧ Hid (m = true ↔ zpos.take j = xpos.take j) ∧ Hid (Below w2.heap.size w2 wj)) (fun _ i _ => zpos.length - (intOf i).toNat)
            case atStart => exact ⟨0, Nat.zero_le _, rfl, true, rfl, Lib.hid (by simp), Lib.hid (Below.refl _ _)⟩
            case round =>
              obtain ⟨j, hj, rfl, m, rfl, hm, HBj⟩ := hrel
              clear s0 s1 s2 ss st t0 t1 t2
              by_cases h2 : j < zpos.length
              · obtain ⟨⟨za, zb⟩, hz⟩ : ∃ u, zpos[j]? = some u := ⟨zpos[j], by simp [h2]⟩
                have h3 : j < xpos.length := by have := HLEN.out; omega
                obtain ⟨⟨xa, xb⟩, hx⟩ : ∃ u, xpos[j]? = some u := ⟨xpos[j], by simp [h3]⟩
                have hb1j : Below W1.heap.size W1 wr := HB2.out.trans (HBj.out.mono HB2.out.size)
                have hb0j : Below W0.heap.size W0 wr := HBW1.out.trans (hb1j.mono HBW1.out.size)
                obtain ⟨s0, s1, s2, ss, st, t0, t1, t2⟩ := HZC.out wr hb1j
                rcases HPZ.out with h0 | ⟨bz, oz, rfl, hBz, hcz⟩
                · subst h0; simp at h2
                rcases HPX.out with h0 | ⟨bx, ox, rfl, hBx, hcx⟩
                · subst h0; simp at h3
                obtain ⟨c1, c2⟩ := hcz j _ hz
                obtain ⟨d1, d2⟩ := hcx j _ hx
                have c1 := (hb1j.cell (p := ⟨bz, oz + j * 2, none⟩) (Nat.lt_of_lt_of_le hBz HBW1.out.size)).trans c1
                have c2 := (hb1j.cell (p := ⟨bz, oz + j * 2 + 1, none⟩) (Nat.lt_of_lt_of_le hBz HBW1.out.size)).trans c2
                have d1 := (hb0j.cell (p := ⟨bx, ox + j * 2, none⟩) hBx).trans d1
                have d2 := (hb0j.cell (p := ⟨bx, ox + j * 2 + 1, none⟩) hBx).trans d2
                have hzj : bz < wr.heap.size := Nat.lt_of_lt_of_le hBz hb0j.size
                have hxj : bx < wr.heap.size := Nat.lt_of_lt_of_le hBx hb0j.size
                dsimp only at c1 c2 d1 d2
                have HNX : Hid (zpos.take (j + 1) = xpos.take (j + 1) ↔ zpos.take j = xpos.take j ∧ (za, zb) = (xa, xb)) := Lib.hid (by
                  rw [List.take_add_one, List.take_add_one, hz, hx]
                  constructor
                  · intro e
                    have h := List.append_inj' e rfl
                    exact ⟨h.1, by simpa using h.2⟩
                  · rintro ⟨h, h2⟩
                    rw [h, h2])
                clear hcz hcx hz hx hb1j hb0j s0 s2 t0 t2 hBz hBx
                cases m
                · go_wp2
                  refine wp_region_plan_below 14 [(0, [0, 1, 2, 3, 4, 5, 6, 7, 8, 9, 10, 11, 12, 13]), (2, [14])] (by kernel_rfl) (by kernel_rfl) (fun _ _ _ _ h => h) ?_
                  simp only [wpSegs, pickOps, List.getElem?_toArray, List.getElem?_cons_zero, List.getElem?_cons_succ]
                  have kc := cell_cls wr
                  iterate 14 (go_big_quiet_step (fail))
                  refine wpQuiet_nil ?_
                  clear kc
                  go_wp2
                  go_roundw
                  case rel => exact ⟨j + 1, by omega, by go_num, false, rfl, Lib.hid (by rw [HNX.out, ← hm.out]; simp), Lib.hid (HBj.out.trans ((Below.drew (Below.refl _ wr)).mono HBj.out.size))⟩
                  case measure => simp [intOf]; omega
                · by_cases he : za = xa ∧ zb = xb
                  · obtain ⟨rfl, rfl⟩ := he
                    go_wp2
                    refine wp_region_plan_below 14 [(0, [0, 1, 2, 3, 4, 5, 6, 7, 8, 9, 10, 11, 12, 13]), (2, [14])] (by kernel_rfl) (by kernel_rfl) (fun _ _ _ _ h => h) ?_
                    simp only [wpSegs, pickOps, List.getElem?_toArray, List.getElem?_cons_zero, List.getElem?_cons_succ]
                    have kc := cell_cls wr
                    iterate 14 (go_big_quiet_step (fail))
                    refine wpQuiet_nil ?_
                    clear kc
                    go_wp2
                    go_roundw
                    case rel => exact ⟨j + 1, by omega, by go_num, true, rfl, Lib.hid (by rw [HNX.out, ← hm.out]; simp), Lib.hid (HBj.out.trans ((Below.drew (Below.refl _ wr)).mono HBj.out.size))⟩
                    case measure => simp [intOf]; omega
                  · have HE := Lib.hid he
                    clear he
                    by_cases g1 : za = xa
                    · have g2 : ¬ zb = xb := fun h => HE.out ⟨g1, h⟩
                      subst g1
                      go_wp2
                      refine wp_region_plan_below 14 [(0, [0, 1, 2, 3, 4, 5, 6, 7, 8, 9, 10, 11, 12, 13]), (2, [14])] (by kernel_rfl) (by kernel_rfl) (fun _ _ _ _ h => h) ?_
                      simp only [wpSegs, pickOps, List.getElem?_toArray, List.getElem?_cons_zero, List.getElem?_cons_succ]
                      have kc := cell_cls wr
                      iterate 14 (go_big_quiet_step (fail))
                      refine wpQuiet_nil ?_
                      clear kc
                      go_wp2
                      go_roundw
                      case rel => exact ⟨j + 1, by omega, by go_num, false, rfl, Lib.hid (by rw [HNX.out]; simp only [Bool.false_eq_true, false_iff, Prod.mk.injEq]; exact fun e => HE.out e.2), Lib.hid (HBj.out.trans ((Below.drew (Below.refl _ wr)).mono HBj.out.size))⟩
                      case measure => simp [intOf]; omega
                    · skip
                      go_wp2
                      refine wp_region_plan_below 14 [(0, [0, 1, 2, 3, 4, 5, 6, 7, 8, 9, 10, 11, 12, 13]), (2, [14])] (by kernel_rfl) (by kernel_rfl) (fun _ _ _ _ h => h) ?_
                      simp only [wpSegs, pickOps, List.getElem?_toArray, List.getElem?_cons_zero, List.getElem?_cons_succ]
                      have kc := cell_cls wr
                      iterate 14 (go_big_quiet_step (fail))
                      refine wpQuiet_nil ?_
                      clear kc
                      go_wp2
                      go_roundw
                      case rel => exact ⟨j + 1, by omega, by go_num, false, rfl, Lib.hid (by rw [HNX.out]; simp only [Bool.false_eq_true, false_iff, Prod.mk.injEq]; exact fun e => HE.out e.2), Lib.hid (HBj.out.trans ((Below.drew (Below.refl _ wr)).mono HBj.out.size))⟩
                      case measure => simp [intOf]; omega
              · have HM : Hid (m = true ↔ zpos = xpos) := Lib.hid (by
                  have h := hm.out
                  have := HLEN.out
                  rwa [List.take_of_length_le (by omega), List.take_of_length_le (by omega)] at h)
                have HBk : Hid (Below W1.heap.size W1 wr) := Lib.hid (HB2.out.trans (HBj.out.mono HB2.out.size))
                cases m
                · go_wp2
                  go_roundw
                  case rel => exact ⟨k + 1, by omega, by go_num, HNEXT.out _ HBk.out (fun e => by have := HM.out.2 e.2.1; cases this)⟩
                  case measure => simp [intOf]; omega
                · have HIN : Hid (∃ z ∈ l, cmpF z.f ⟨zk, xpos, xpath⟩ = 0) := Lib.hid ⟨_, List.mem_of_getElem? HZ.out, HCZ.out.2 (by have h := HM.out.1 (by first | rfl | trivial); simp [h])⟩
                  go_wp2
                  go_ret
                  exact .inr ⟨rfl, HIN.out, HB0.out.trans ((HBW1.out.trans (HBk.out.mono HBW1.out.size)).mono HB0.out.size)⟩
          · have hr' : (r == 0) = false := by simp [hr0]
            have hr2 : decide (r = 0) = false := decide_eq_false hr0
            go_wp2_with (go_at_call 21; refine C1.out.mono ?_; rintro e w2 ⟨rfl, hg2⟩; have hbb := hg2.below; have HB2 := Lib.hid hbb; clear hg2 hbb)
            go_roundw
            case rel => exact ⟨k + 1, by omega, by go_num, HNEXT.out _ HB2.out (fun e => hr0 e.2.2)⟩
            case measure => simp [intOf]; omega
        · have hq : ((zpos.length : Int) == (xpos.length : Int)) = false := by simp; omega
          have hq2 : decide ((zpos.length : Int) = (xpos.length : Int)) = false := decide_eq_false (by omega)
          have HLEN := Lib.hid hlen
          clear hlen
          go_wp2
          go_roundw
          case rel => exact ⟨k + 1, by omega, by go_num, HNEXT.out _ (Below.refl _ _) (fun e => HLEN.out (by rw [e.2.1]))⟩
          case measure => simp [intOf]; omega
      · have hk' : (zk == xk) = false := by simp [hk]
        have hk2 : decide (zk = xk) = false := decide_eq_false hk
        go_wp2
        go_roundw
        case rel => exact ⟨k + 1, by omega, by go_num, HNEXT.out _ (Below.refl _ _) (fun e => hk e.1)⟩
        case measure => simp [intOf]; omega
    · have HALL : Hid (¬ ∃ z ∈ l, cmpF z.f ⟨xk, xpos, xpath⟩ = 0) := Lib.hid (by
        rintro ⟨z, hz, he⟩
        obtain ⟨i, hi⟩ := List.getElem?_of_mem hz
        exact hcmp.out i z (by have := (List.getElem?_eq_some_iff.1 hi).1; omega) hi he)
      go_wp2
      go_ret
      exact ⟨false, rfl, by
        constructor
        · intro h; cases h
        · exact fun h => absurd h HALL.out, HB0.out.trans (HBwr.out.mono HB0.out.size)⟩
end Go.Proofs.Ytnmnmkdmnohbmaa
