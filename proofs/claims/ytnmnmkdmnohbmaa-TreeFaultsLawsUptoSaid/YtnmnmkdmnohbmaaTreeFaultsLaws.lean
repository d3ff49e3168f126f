/- TreeFaultsLaws: the walk: the union hangs on no order, is its own union, holds all and nothing else, and rises. Conditions: none. -/
import Derived.Test.YtnmnmkdmnohbmaaUnionLaw
namespace Go.Proofs.Ytnmnmkdmnohbmaa
open Go.RowKit

/-- The step "x", and the fault that the statement begins with. -/
abbrev stX : St := ⟨{ data := #[120] }, 0, false⟩
abbrev oneX (g : Nat) : LF := ⟨⟨7, [], [stX]⟩, .slice none 0 0, .slice (some ⟨g, 0, none⟩) 1 1⟩

theorem oneX_union (g : Nat) (l : List LF) (h : ∀ z ∈ l, z = oneX g) (hn : l ≠ []) : IsUnion [⟨7, [], [stX]⟩] l := by
  refine ⟨List.pairwise_singleton _ _, fun a ha => ?_, fun z hz => ?_⟩
  · obtain rfl : a = _ := by simpa using ha
    obtain ⟨z, hz⟩ := List.exists_mem_of_ne_nil l hn
    exact ⟨z, hz, by rw [h z hz]; rfl⟩
  · exact ⟨_, List.mem_singleton.2 rfl, by rw [h z hz]; exact cmpF_ord.refl _⟩

theorem SameF_of {l l' : List LF} (he : l.map LF.f = l'.map LF.f) {w : World} {v v' : Value} (ha : ArgF w v l) (hb : ArgF w v' l') (la : l.length ≤ big) (lb : l'.length ≤ big) :
    Calls Try.prog 52 #[v, v'] w (RetB (.bool true) w) := by
  obtain ⟨p, c, rfl, _, ha⟩ := ha
  obtain ⟨q, d, rfl, _, hb⟩ := hb
  refine (SameFaults_any l l' p q c d w ha hb la lb).mono ?_
  rintro e w' ⟨r, rfl, hr, hb⟩
  have : r = true := hr.2 he
  subst this
  exact ⟨rfl, hb⟩

theorem In_of {l : List LF} {w : World} {v : Value} (hl : ArgF w v l) (x : LF) (hx : LOk w.heap.size w x) (ll : l.length ≤ big) :
    Calls Try.prog 54 #[v, .agg x.cells] w (fun e w' => ∃ r : Bool, e = .returned (.bool r) ∧ (r = true ↔ ∃ z ∈ l, cmpF z.f x.f = 0) ∧ Below w.heap.size w w') := by
  obtain ⟨p, c, rfl, _, ha⟩ := hl
  exact inFaults_any l x p c w ha hx ll

theorem meas2 {a n : Nat} {x y : Int} (h : a + 1 < n) (hx : x = (a : Int) + 1 + 1) (hy : y = (a : Int) + 1) : n - (intOf (.int .i64 x)).toNat < n - (intOf (.int .i64 y)).toNat := by
  subst hx hy
  simp only [intOf]
  omega

theorem two_args {w : World} {v v' : Value} {l l' : List LF} (h : ArgF w v l) (h' : ArgF w v' l') : ∀ x ∈ [(v, l), (v', l')], ArgF w x.1 x.2 := fun x hx => by
  simp only [List.mem_cons, List.not_mem_nil, or_false] at hx
  rcases hx with rfl | rfl
  · exact h
  · exact h'

set_option maxRecDepth 100000 in
set_option maxHeartbeats 4000000 in
theorem TreeFaultsLaws_walk (l0 l1 : List LF) (v0 v1 : Value) (w : World) (a0 : ArgF w v0 l0) (a1 : ArgF w v1 l1) (hsum : l0.length + l1.length ≤ 1048576) :
    Calls Try.prog 13 #[v0, v1] w (RetB (.bool true) w) := by
  obtain ⟨q0, d0, rfl, hd0, hF0⟩ := id a0
  obtain ⟨q1, d1, rfl, hd1, hF1⟩ := id a1
  have A0 := Lib.hid a0
  have A1 := Lib.hid a1
  clear a0 a1 hF0 hF1 hd0 hd1
  obtain ⟨wa, hwa⟩ : ∃ wa, (w.alloc (.cells #[.string { data := #[120] }, .int .i64 0, .bool false] 53)).alloc (.cells #[.int .i64 7, .slice none 0 0, .slice (some ⟨w.heap.size, 0, none⟩) 1 1] 91) = wa := ⟨_, rfl⟩
  have hba : Below w.heap.size w wa := by rw [← hwa]; exact ((Below.refl _ _).alloc (Nat.le_refl _) _).alloc (by simp) _
  have hPa : wa.heap[w.heap.size]? = some (.cells #[.string { data := #[120] }, .int .i64 0, .bool false] 53 (0, 0)) := by
    rw [← hwa, Below.heap_alloc _ _ _ (by simp)]
    exact heap_new w _
  have hFa : wa.heap[w.heap.size + 1]? = some (.cells #[.int .i64 7, .slice none 0 0, .slice (some ⟨w.heap.size, 0, none⟩) 1 1] 91 (0, 0)) := by
    have := heap_new (w.alloc (.cells #[.string { data := #[120] }, .int .i64 0, .bool false] 53)) (.cells #[.int .i64 7, .slice none 0 0, .slice (some ⟨w.heap.size, 0, none⟩) 1 1] 91)
    rw [World.size_alloc] at this
    rwa [← hwa]
  have hsa : wa.heap.size = w.heap.size + 1 + 1 := by rw [← hwa]; simp
  have hok1 : LOk wa.heap.size wa (oneX w.heap.size) := by
    refine ⟨⟨_, _, rfl, .inl rfl, by simp⟩, _, _, rfl, .inr ⟨w.heap.size, 0, rfl, by omega, fun i s hs => ?_⟩, by simp [big]⟩
    have : i = 0 := by
      have := (List.getElem?_eq_some_iff.1 hs).1
      simp at this
      exact this
    subst this
    obtain rfl : s = stX := by simpa using hs.symm
    exact ⟨by simp [World.cell?, hPa], by simp [World.cell?, hPa], by simp [World.cell?, hPa]⟩
  have hone : ArgF wa (.slice (some ⟨w.heap.size + 1, 0, none⟩) 1 1) [oneX w.heap.size] := by
    refine ⟨_, 1, rfl, by simp, .inr ⟨w.heap.size + 1, 0, rfl, by omega, fun i s hs => ?_⟩, fun z hz => by rw [List.mem_singleton.1 hz]; exact hok1⟩
    have : i = 0 := by
      have := (List.getElem?_eq_some_iff.1 hs).1
      simp at this
      exact this
    subst this
    obtain rfl : s = oneX w.heap.size := by simpa using hs.symm
    exact ⟨by simp [World.cell?, hFa], by simp [World.cell?, hFa], by simp [World.cell?, hFa]⟩
  have C1 := Lib.hid (Faults_of [(.slice (some ⟨w.heap.size + 1, 0, none⟩) 1 1, [oneX w.heap.size])] #[.slice (some ⟨w.heap.size + 1, 0, none⟩) 1 1] rfl wa (fun x hx => by
    obtain rfl := List.mem_singleton.1 hx
    exact hone) (by simp [big]) (by simp [big, cat]) 1 rfl)
  have HFA := Lib.hid hFa
  have HPA := Lib.hid hPa
  have HBA := Lib.hid hba
  have HSA := Lib.hid hsa
  have HOK1 := Lib.hid hok1
  clear hFa hPa hba hsa hok1 hone
  go_enter Try.func13, Try.ntmps13
  go_wp2_with (go_at_call 50; refine C1.out.mono ?_; rintro e w1 ⟨p1, c1, r, rfl, hu, hF, hrl, hb1⟩; have HU := Lib.hid hu; have HF := Lib.hid hF; have HB1 := Lib.hid hb1; clear hu hF hb1 hrl)
  have hr1 : r.map LF.f = [⟨7, [], [stX]⟩] := HU.out.unique (oneX_union w.heap.size _ (by simp [cat]) (by simp [cat])) (fun _ => Iff.rfl)
  obtain ⟨x', rfl⟩ := List.length_eq_one_iff.1 (show r.length = 1 by have := congrArg List.length hr1; simpa using this)
  have hx' : x'.f = ⟨7, [], [stX]⟩ := by simpa using hr1
  obtain ⟨b1, o1, rfl, hB1, k0, k1, k2, okx⟩ := HF.out.get (i := 0) rfl
  have hb1w : Below w.heap.size w w1 := HBA.out.trans (HB1.out.mono HBA.out.size)
  have hF1 := (HB1.out.block _ (by have := HSA.out; omega)).trans HFA.out
  have m0 : w1.cell? ⟨w.heap.size + 1, 0, none⟩ = some (.int .i64 7) := by simp [World.cell?, hF1]
  have m1 : w1.cell? ⟨w.heap.size + 1, 1, none⟩ = some (.slice none 0 0) := by simp [World.cell?, hF1]
  have m2 : w1.cell? ⟨w.heap.size + 1, 2, none⟩ = some (.slice (some ⟨w.heap.size, 0, none⟩) 1 1) := by simp [World.cell?, hF1]
  have hok := (HOK1.out.below HB1.out).mono HB1.out.size
  have C2 : Hid (∀ W, Below w1.heap.size w1 W → Calls Try.prog 51 #[.agg x'.cells, .agg (oneX w.heap.size).cells] W (RetB (.bool true) W)) := Lib.hid (fun W h => by
    refine (SameFault_any x' (oneX w.heap.size) w1.heap.size W (okx.below h) (hok.below h) h.size).mono ?_
    rintro e w' ⟨r, rfl, hr, hb⟩
    have : r = true := hr.2 hx'
    subst this
    exact ⟨rfl, hb⟩)
  have hwb : b1 < w1.heap.size := hB1
  have hwl : w.heap.size + 1 < w1.heap.size := by have := HB1.out.size; have := HSA.out; omega
  obtain ⟨⟨xk, xpos, xpath⟩, xp, xq⟩ := x'
  dsimp only at k0 k1 k2
  dsimp only [LF.cells, oneX] at C2
  rw [Nat.zero_mul, Nat.add_zero] at k0 k1 k2
  have HBW1 := Lib.hid hb1w
  clear hr1 hx' hF1 hok okx HF HU C1 hb1w hB1
  simp only [List.length_cons, List.length_nil, Nat.zero_add]
  have kc := cell_cls w1
  refine wp_region_plan_below 13 [(0, [0, 1, 2, 3, 4, 5, 6, 7, 8, 9]), (1, [10]), (0, [11, 12])] (by kernel_rfl) (by kernel_rfl) (fun _ _ _ _ h => h) ?_
  simp only [wpSegs, pickOps, List.getElem?_toArray, List.getElem?_cons_zero, List.getElem?_cons_succ]
  iterate 10 (go_big_quiet_step (fail))
  refine wpQuiet_nil ?_
  clear kc
  refine wpListC_want (by rfl) (fun K hK => ?_)
  go_step
  refine (C2.out _ (Below.drew (Below.refl _ _))).mono ?_
  rintro e w2 ⟨rfl, hb2⟩
  have hb2' : Below w1.heap.size w1 w2 := (Below.drew (Below.refl _ _)).trans hb2
  refine hK _ _ (cls_of_below hb2') ?_
  clear hK K
  refine wpListC_nil ?_
  iterate 2 (go_big_quiet_step (fail))
  refine wpQuiet_nil ?_
  have hbw2 : Below w.heap.size w w2 := HBW1.out.trans (hb2'.mono HBW1.out.size)
  have HBW2 := Lib.hid hbw2
  have B0 := Lib.hid (A0.out.below hbw2)
  have B1 := Lib.hid (A1.out.below hbw2)
  clear hb2 hb2' hbw2 m0 m1 m2 k0 k1 k2 hwb hwl C2 HB1 HBA HFA HPA HSA HOK1 HBW1 A0 A1
  have CU : Hid (∀ W, Below w2.heap.size w2 W → _) := Lib.hid (fun W h => FaultsL_of [(.slice q0 l0.length d0, l0), (.slice q1 l1.length d1, l1)] #[.slice q0 l0.length d0, .slice q1 l1.length d1] rfl W (fun x hx => by
    simp only [List.mem_cons, List.not_mem_nil, or_false] at hx
    rcases hx with rfl | rfl
    · exact B0.out.below h
    · exact B1.out.below h) (by simp [big]) (by simp [big, cat]; omega) 2 rfl)
  have CV : Hid (∀ W, Below w2.heap.size w2 W → _) := Lib.hid (fun W h => FaultsL_of [(.slice q1 l1.length d1, l1), (.slice q0 l0.length d0, l0)] #[.slice q1 l1.length d1, .slice q0 l0.length d0] rfl W (fun x hx => by
    simp only [List.mem_cons, List.not_mem_nil, or_false] at hx
    rcases hx with rfl | rfl
    · exact B1.out.below h
    · exact B0.out.below h) (by simp [big]) (by simp [big, cat]; omega) 2 rfl)
  have CX : Hid (∀ W, Below w2.heap.size w2 W → _) := Lib.hid (fun W h => FaultsL_of [(.slice q0 l0.length d0, l0)] #[.slice q0 l0.length d0] rfl W (fun x hx => by
    obtain rfl := List.mem_singleton.1 hx
    exact B0.out.below h) (by simp [big]) (by simp [big, cat]; omega) 1 rfl)
  have CY : Hid (∀ W, Below w2.heap.size w2 W → _) := Lib.hid (fun W h => FaultsL_of [(.slice q1 l1.length d1, l1)] #[.slice q1 l1.length d1] rfl W (fun x hx => by
    obtain rfl := List.mem_singleton.1 hx
    exact B1.out.below h) (by simp [big]) (by simp [big, cat]; omega) 1 rfl)
  go_upto_region 6 with (go_at_call 50; refine (CU.out _ (Below.refl _ _)).mono ?_; rintro e w3 ⟨p3, c3, u, rfl, hu, hF, hrl, hb⟩; have HU := Lib.hid (show IsUnion (u.map LF.f) (l0 ++ l1) by simpa [cat] using hu); have AU := Lib.hid hF; have HUL := Lib.hid (show u.length ≤ l0.length + l1.length by simpa [cat] using hrl); have HB3 := Lib.hid hb; clear hu hF hb hrl)
  have tk1 := trivial
  have tk2 := trivial
  have tk3 := trivial
  have tk4 := trivial
  have tk5 := trivial
  have tk6 := trivial
  have tk7 := trivial
  have tk8 := trivial
  go_upto_region 8 with (first
    | (go_at_call 50; first
      | (clear tk1; refine (CV.out _ HB3.out).mono ?_; rintro e w4 ⟨p4, c4, v4, rfl, hu, hF, hrl, hb⟩; have HE4 := Lib.hid (HU.out.eqv (show IsUnion (v4.map LF.f) (l1 ++ l0) by simpa [cat] using hu) (SameC.comm l1 l0)); have A4 := Lib.hid hF; have AU4 := Lib.hid (AU.out.below hb); have HL4 := Lib.hid (show v4.length ≤ l1.length + l0.length by simpa [cat] using hrl); have HB4 := Lib.hid (HB3.out.trans (hb.mono HB3.out.size)); clear hu hF hrl hb)
      | (clear tk3; refine (FaultsL_of [(.slice p3 u.length c3, u), (.slice q0 l0.length d0, l0)] #[.slice p3 u.length c3, .slice q0 l0.length d0] rfl w5 (two_args AU5.out (B0.out.below HB5.out)) (by simp [big]) (by have := HUL.out; simp [big, cat]; omega) 2 rfl).mono ?_; rintro e w6 ⟨p6, c6, v6, rfl, hu, hF, hrl, hb⟩; have HE6 := Lib.hid (HU.out.eqv (show IsUnion (v6.map LF.f) (u ++ l0) by simpa [cat] using hu) ((HU.out.same.append (SameC.refl l0)).trans (SameC.absorb l0 l1))); have A6 := Lib.hid hF; have AU6 := Lib.hid (AU5.out.below hb); have HL6 := Lib.hid (show v6.length ≤ u.length + l0.length by simpa [cat] using hrl); have HB6 := Lib.hid (HB5.out.trans (hb.mono HB5.out.size)); clear hu hF hrl hb)
      | (clear tk5; refine (CX.out _ HB7.out).mono ?_; rintro e w8 ⟨p8, c8, v8, rfl, hu, hF, hrl, hb⟩; have HX8 := Lib.hid (IsUnion.same (show IsUnion (v8.map LF.f) l0 by simpa [cat] using hu)); have A8 := Lib.hid hF; have AU8 := Lib.hid (AU7.out.below hb); have HL8 := Lib.hid (show v8.length ≤ l0.length by simpa [cat] using hrl); have HB8 := Lib.hid (HB7.out.trans (hb.mono HB7.out.size)); clear hu hF hrl hb)
      | (clear tk6; refine (CY.out _ HB8.out).mono ?_; rintro e w9 ⟨p9, c9, v9, rfl, hu, hF, hrl, hb⟩; have HX9 := Lib.hid (IsUnion.same (show IsUnion (v9.map LF.f) l1 by simpa [cat] using hu)); have A9 := Lib.hid hF; have A89 := Lib.hid (A8.out.below hb); have AU9 := Lib.hid (AU8.out.below hb); have HL9 := Lib.hid (show v9.length ≤ l1.length by simpa [cat] using hrl); have HB9 := Lib.hid (HB8.out.trans (hb.mono HB8.out.size)); clear hu hF hrl hb)
      | (clear tk7; refine (FaultsL_of [(.slice p8 v8.length c8, v8), (.slice p9 v9.length c9, v9)] #[.slice p8 v8.length c8, .slice p9 v9.length c9] rfl w9 (two_args A89.out A9.out) (by simp [big]) (by have := HL8.out; have := HL9.out; simp [big, cat]; omega) 2 rfl).mono ?_; rintro e w10 ⟨p10, c10, v10, rfl, hu, hF, hrl, hb⟩; have HE10 := Lib.hid (HU.out.eqv (show IsUnion (v10.map LF.f) (v8 ++ v9) by simpa [cat] using hu) (HX8.out.append HX9.out)); have A10 := Lib.hid hF; have AU10 := Lib.hid (AU9.out.below hb); have HL10 := Lib.hid (show v10.length ≤ v8.length + v9.length by simpa [cat] using hrl); have HB10 := Lib.hid (HB9.out.trans (hb.mono HB9.out.size)); clear hu hF hrl hb))
    | (go_at_call 52; first
      | (clear tk2; refine (SameF_of HE4.out AU4.out A4.out (by have := HUL.out; unfold big; omega) (by have := HL4.out; unfold big; omega)).mono ?_; rintro e w5 ⟨rfl, hb⟩; have AU5 := Lib.hid (AU4.out.below hb); have HB5 := Lib.hid (HB4.out.trans (hb.mono HB4.out.size)); clear hb)
      | (clear tk4; refine (SameF_of HE6.out AU6.out A6.out (by have := HUL.out; unfold big; omega) (by have := HL6.out; have := HUL.out; unfold big; omega)).mono ?_; rintro e w7 ⟨rfl, hb⟩; have AU7 := Lib.hid (AU6.out.below hb); have HB7 := Lib.hid (HB6.out.trans (hb.mono HB6.out.size)); clear hb)
      | (clear tk8; refine (SameF_of HE10.out AU10.out A10.out (by have := HUL.out; unfold big; omega) (by have := HL10.out; have := HL8.out; have := HL9.out; unfold big; omega)).mono ?_; rintro e w11 ⟨rfl, hb⟩; have AU11 := Lib.hid (AU10.out.below hb); have HB11 := Lib.hid (HB10.out.trans (hb.mono HB10.out.size)); clear hb)))
  clear CU CV CX CY HE4 A4 AU4 HL4 HB4 AU5 HB5 HE6 A6 AU6 HL6 HB6 AU7 HB7 HX8 A8 AU8 HL8 HB8 HX9 A9 A89 AU9 HL9 HB9 HE10 A10 AU10 HL10 HB10 AU HB3
  have X0 := Lib.hid (B0.out.below HB11.out)
  have X1 := Lib.hid (B1.out.below HB11.out)
  have HW11 := Lib.hid (HBW2.out.trans (HB11.out.mono HBW2.out.size))
  clear B0 B1 HB11 HBW2
  go_wp2
  go_loopw [69] (fun i wr => ∃ k : Nat, k ≤ l0.length ∧ i = .int .i64 k ∧ Hid (Below w11.heap.size w11 wr)) (fun i _ => l0.length - (intOf i).toNat)
  case atStart => exact ⟨0, Nat.zero_le _, rfl, Lib.hid (Below.refl _ _)⟩
  case round =>
    obtain ⟨k, hka, rfl, HBwr⟩ := hrel
    by_cases h1 : k < l0.length
    · skip
      obtain ⟨z, hz⟩ : ∃ z, l0[k]? = some z := ⟨l0[k], by simp [h1]⟩
      have hFz : FsAt w11.heap.size w11 q0 l0 := by
        obtain ⟨q', c', e1, _, h⟩ := X0.out
        cases e1
        exact h
      obtain ⟨b, o, rfl, hB, a1, a2, a3, okz⟩ := (hFz.below HBwr.out).get hz
      have HZ := Lib.hid hz
      have hwb : b < wr.heap.size := Nat.lt_of_lt_of_le hB HBwr.out.size
      have HOKZ := Lib.hid (hFz.2 _ (List.mem_of_getElem? hz))
      obtain ⟨⟨zk, zpos, zpath⟩, zp, zq⟩ := z
      obtain ⟨⟨pz, cz, e1, hpz, lz⟩, qz, dz, e2, hqz, mz⟩ := okz
      dsimp only at *
      subst e1 e2
      obtain ⟨W1, hW1⟩ : ∃ W1, wr.alloc (.cells #[.int .i64 zk, .slice pz zpos.length cz, .slice qz zpath.length dz] 91) = W1 := ⟨_, rfl⟩
      have hb1 : Below wr.heap.size wr W1 := by rw [← hW1]; exact (Below.refl _ _).alloc (Nat.le_refl _) _
      have hs1 : W1.heap.size = wr.heap.size + 1 := by rw [← hW1]; simp
      have hZ : W1.heap[wr.heap.size]? = some (.cells #[.int .i64 zk, .slice pz zpos.length cz, .slice qz zpath.length dz] 91 (0, 0)) := by rw [← hW1]; exact heap_new wr _
      have HZC : Hid (∀ w1, Below W1.heap.size W1 w1 → w1.cell? ⟨wr.heap.size, 0, none⟩ = some (.int .i64 zk) ∧ w1.cell? ⟨wr.heap.size, 1, none⟩ = some (.slice pz zpos.length cz) ∧ w1.cell? ⟨wr.heap.size, 2, none⟩ = some (.slice qz zpath.length dz) ∧ wr.heap.size < w1.heap.size) := Lib.hid (fun w1 hg => by
        have h1 := (hg.block _ (by omega)).trans hZ
        have hsz := hg.size
        exact ⟨by simp [World.cell?, h1], by simp [World.cell?, h1], by simp [World.cell?, h1], by omega⟩)
      have HBW1 := Lib.hid (HBwr.out.trans (hb1.mono HBwr.out.size))
      clear hz hZ hb1 hs1 hpz hqz lz mz hFz hB
      have CI : Hid (∀ W, Below W1.heap.size W1 W → Calls Try.prog 54 #[.slice p3 u.length c3, .agg #[.int .i64 zk, .slice pz zpos.length cz, .slice qz zpath.length dz]] W (RetB (.bool true) W)) := Lib.hid (fun W hg => by
        have hb := HBW1.out.trans (hg.mono HBW1.out.size)
        refine (In_of (AU11.out.below hb) ⟨⟨zk, zpos, zpath⟩, .slice pz zpos.length cz, .slice qz zpath.length dz⟩ ((HOKZ.out.below hb).mono hb.size) (by have := HUL.out; unfold big; omega)).mono ?_
        rintro e w' ⟨r, rfl, hr, hb⟩
        have : r = true := hr.2 (HU.out.has (List.mem_append.2 (.inl (List.mem_of_getElem? HZ.out))))
        subst this
        exact ⟨rfl, hb⟩)
      go_upto_region 11 with (fail)
      try rw [hW1]
      clear hW1 a1 a2 a3 hwb
      obtain ⟨z0, z1, z2, zs⟩ := HZC.out W1 (Below.refl _ _)
      go_wp2_with (go_at_call 54; refine (CI.out _ (Below.refl _ _)).mono ?_; rintro e w4 ⟨rfl, hb⟩; have HB4 := Lib.hid (HBW1.out.trans (hb.mono HBW1.out.size)); clear hb)
      go_roundw
      case rel => exact ⟨k + 1, by omega, by go_num, HB4⟩
      case measure => simp [intOf]; omega
    · have HBwr0 := HBwr
      clear HBwr
      go_wp2
      go_loopw [80] (fun i wr => ∃ k : Nat, k ≤ l1.length ∧ i = .int .i64 k ∧ Hid (Below w11.heap.size w11 wr)) (fun i _ => l1.length - (intOf i).toNat)
      case atStart => exact ⟨0, Nat.zero_le _, rfl, HBwr0⟩
      case round =>
        obtain ⟨k, hka, rfl, HBwr⟩ := hrel
        by_cases h1 : k < l1.length
        · skip
          obtain ⟨z, hz⟩ : ∃ z, l1[k]? = some z := ⟨l1[k], by simp [h1]⟩
          have hFz : FsAt w11.heap.size w11 q1 l1 := by
            obtain ⟨q', c', e1, _, h⟩ := X1.out
            cases e1
            exact h
          obtain ⟨b, o, rfl, hB, a1, a2, a3, okz⟩ := (hFz.below HBwr.out).get hz
          have HZ := Lib.hid hz
          have hwb : b < wr.heap.size := Nat.lt_of_lt_of_le hB HBwr.out.size
          have HOKZ := Lib.hid (hFz.2 _ (List.mem_of_getElem? hz))
          obtain ⟨⟨zk, zpos, zpath⟩, zp, zq⟩ := z
          obtain ⟨⟨pz, cz, e1, hpz, lz⟩, qz, dz, e2, hqz, mz⟩ := okz
          dsimp only at *
          subst e1 e2
          obtain ⟨W1, hW1⟩ : ∃ W1, wr.alloc (.cells #[.int .i64 zk, .slice pz zpos.length cz, .slice qz zpath.length dz] 91) = W1 := ⟨_, rfl⟩
          have hb1 : Below wr.heap.size wr W1 := by rw [← hW1]; exact (Below.refl _ _).alloc (Nat.le_refl _) _
          have hs1 : W1.heap.size = wr.heap.size + 1 := by rw [← hW1]; simp
          have hZ : W1.heap[wr.heap.size]? = some (.cells #[.int .i64 zk, .slice pz zpos.length cz, .slice qz zpath.length dz] 91 (0, 0)) := by rw [← hW1]; exact heap_new wr _
          have HZC : Hid (∀ w1, Below W1.heap.size W1 w1 → w1.cell? ⟨wr.heap.size, 0, none⟩ = some (.int .i64 zk) ∧ w1.cell? ⟨wr.heap.size, 1, none⟩ = some (.slice pz zpos.length cz) ∧ w1.cell? ⟨wr.heap.size, 2, none⟩ = some (.slice qz zpath.length dz) ∧ wr.heap.size < w1.heap.size) := Lib.hid (fun w1 hg => by
            have h1 := (hg.block _ (by omega)).trans hZ
            have hsz := hg.size
            exact ⟨by simp [World.cell?, h1], by simp [World.cell?, h1], by simp [World.cell?, h1], by omega⟩)
          have HBW1 := Lib.hid (HBwr.out.trans (hb1.mono HBwr.out.size))
          clear hz hZ hb1 hs1 hpz hqz lz mz hFz hB
          have CI : Hid (∀ W, Below W1.heap.size W1 W → Calls Try.prog 54 #[.slice p3 u.length c3, .agg #[.int .i64 zk, .slice pz zpos.length cz, .slice qz zpath.length dz]] W (RetB (.bool true) W)) := Lib.hid (fun W hg => by
            have hb := HBW1.out.trans (hg.mono HBW1.out.size)
            refine (In_of (AU11.out.below hb) ⟨⟨zk, zpos, zpath⟩, .slice pz zpos.length cz, .slice qz zpath.length dz⟩ ((HOKZ.out.below hb).mono hb.size) (by have := HUL.out; unfold big; omega)).mono ?_
            rintro e w' ⟨r, rfl, hr, hb⟩
            have : r = true := hr.2 (HU.out.has (List.mem_append.2 (.inr (List.mem_of_getElem? HZ.out))))
            subst this
            exact ⟨rfl, hb⟩)
          go_upto_region 17 with (fail)
          try rw [hW1]
          clear hW1 a1 a2 a3 hwb
          obtain ⟨z0, z1, z2, zs⟩ := HZC.out W1 (Below.refl _ _)
          go_wp2_with (go_at_call 54; refine (CI.out _ (Below.refl _ _)).mono ?_; rintro e w4 ⟨rfl, hb⟩; have HB4 := Lib.hid (HBW1.out.trans (hb.mono HBW1.out.size)); clear hb)
          go_roundw
          case rel => exact ⟨k + 1, by omega, by go_num, HB4⟩
          case measure => simp [intOf]; omega
        · have HBwr1 := HBwr
          clear HBwr
          go_wp2
          go_loopw [91] (fun i wr => ∃ k : Nat, k ≤ u.length ∧ i = .int .i64 k ∧ Hid (Below w11.heap.size w11 wr)) (fun i _ => u.length - (intOf i).toNat)
          case atStart => exact ⟨0, Nat.zero_le _, rfl, HBwr1⟩
          case round =>
            obtain ⟨k, hka, rfl, HBwr⟩ := hrel
            by_cases h1 : k < u.length
            · skip
              obtain ⟨z, hz⟩ : ∃ z, u[k]? = some z := ⟨u[k], by simp [h1]⟩
              have hFz : FsAt w11.heap.size w11 p3 u := by
                obtain ⟨q', c', e1, _, h⟩ := AU11.out
                cases e1
                exact h
              obtain ⟨b, o, rfl, hB, a1, a2, a3, okz⟩ := (hFz.below HBwr.out).get hz
              have HZ := Lib.hid hz
              have hwb : b < wr.heap.size := Nat.lt_of_lt_of_le hB HBwr.out.size
              have HOKZ := Lib.hid (hFz.2 _ (List.mem_of_getElem? hz))
              obtain ⟨⟨zk, zpos, zpath⟩, zp, zq⟩ := z
              obtain ⟨⟨pz, cz, e1, hpz, lz⟩, qz, dz, e2, hqz, mz⟩ := okz
              dsimp only at *
              subst e1 e2
              obtain ⟨W1, hW1⟩ : ∃ W1, wr.alloc (.cells #[.int .i64 zk, .slice pz zpos.length cz, .slice qz zpath.length dz] 91) = W1 := ⟨_, rfl⟩
              have hb1 : Below wr.heap.size wr W1 := by rw [← hW1]; exact (Below.refl _ _).alloc (Nat.le_refl _) _
              have hs1 : W1.heap.size = wr.heap.size + 1 := by rw [← hW1]; simp
              have hZ : W1.heap[wr.heap.size]? = some (.cells #[.int .i64 zk, .slice pz zpos.length cz, .slice qz zpath.length dz] 91 (0, 0)) := by rw [← hW1]; exact heap_new wr _
              have HZC : Hid (∀ w1, Below W1.heap.size W1 w1 → w1.cell? ⟨wr.heap.size, 0, none⟩ = some (.int .i64 zk) ∧ w1.cell? ⟨wr.heap.size, 1, none⟩ = some (.slice pz zpos.length cz) ∧ w1.cell? ⟨wr.heap.size, 2, none⟩ = some (.slice qz zpath.length dz) ∧ wr.heap.size < w1.heap.size) := Lib.hid (fun w1 hg => by
                have h1 := (hg.block _ (by omega)).trans hZ
                have hsz := hg.size
                exact ⟨by simp [World.cell?, h1], by simp [World.cell?, h1], by simp [World.cell?, h1], by omega⟩)
              have HBW1 := Lib.hid (HBwr.out.trans (hb1.mono HBwr.out.size))
              clear hz hZ hb1 hs1 hpz hqz lz mz hFz hB
              go_upto_region 23 with (fail)
              try rw [hW1]
              clear hW1 a1 a2 a3 hwb
              obtain ⟨z0, z1, z2, zs⟩ := HZC.out W1 (Below.refl _ _)
              have HIN := Lib.hid (HU.out.from_ (List.mem_of_getElem? HZ.out))
              have CI0 := Lib.hid (fun (W : World) (hg : Below W1.heap.size W1 W) => In_of (X0.out.below (HBW1.out.trans (hg.mono HBW1.out.size))) ⟨⟨zk, zpos, zpath⟩, .slice pz zpos.length cz, .slice qz zpath.length dz⟩ ((HOKZ.out.below (HBW1.out.trans (hg.mono HBW1.out.size))).mono (HBW1.out.trans (hg.mono HBW1.out.size)).size) (by unfold big; omega))
              have CI1 := Lib.hid (fun (W : World) (hg : Below W1.heap.size W1 W) => In_of (X1.out.below (HBW1.out.trans (hg.mono HBW1.out.size))) ⟨⟨zk, zpos, zpath⟩, .slice pz zpos.length cz, .slice qz zpath.length dz⟩ ((HOKZ.out.below (HBW1.out.trans (hg.mono HBW1.out.size))).mono (HBW1.out.trans (hg.mono HBW1.out.size)).size) (by unfold big; omega))
              dsimp only [LF.cells] at CI0 CI1
              by_cases hin : ∃ z' ∈ l0, cmpF z'.f ⟨zk, zpos, zpath⟩ = 0
              · have HIN0 := Lib.hid hin
                clear hin
                go_upto_region 25 with (go_at_call 54; refine (CI0.out _ (Below.refl _ _)).mono ?_; rintro e w4 ⟨r, rfl, hr, hb⟩; obtain rfl : r = true := hr.2 HIN0.out; have HBq := Lib.hid hb; clear hr hb)
                clear z0 z1 z2 zs CI0 CI1 HIN HIN0
                have HBQ := Lib.hid (HBW1.out.trans (HBq.out.mono HBW1.out.size))
                obtain ⟨z0, z1, z2, zs⟩ := HZC.out w4 HBq.out
                obtain rfl | ⟨j, rfl⟩ : k = 0 ∨ ∃ j, k = j + 1 := by
                  cases k with
                  | zero => exact .inl rfl
                  | succ j => exact .inr ⟨j, rfl⟩
                · skip
                  refine wp_region_plan_below 22 [(0, [0, 1, 2, 3, 4, 5, 6, 7, 8, 9, 10, 11, 12, 13, 14, 15, 16, 17, 18]), (1, [19]), (0, [20, 21])] (by kernel_rfl) (by kernel_rfl) (fun _ _ _ _ h => h) ?_
                  simp only [wpSegs, pickOps, List.getElem?_toArray, List.getElem?_cons_zero, List.getElem?_cons_succ]
                  have kc := cell_cls w4
                  iterate 19 (go_big_quiet_step (fail))
                  refine wpQuiet_nil ?_
                  clear kc
                  refine wpListC_skip (by rfl) ?_
                  simp only [Act.put, List.setIfInBounds_toArray, List.set_cons_succ, List.set_cons_zero]
                  refine wpListC_nil ?_
                  iterate 2 (go_big_quiet_step (fail))
                  refine wpQuiet_nil ?_
                  go_wp2
                  go_roundw
                  case rel => exact ⟨1, by omega, by go_num, Lib.hid (HBQ.out.trans ((Below.drew (Below.refl _ w4)).mono HBQ.out.size))⟩
                  case measure => simp [intOf]; omega
                · have hj1 : j < u.length := by omega
                  have H1 := Lib.hid h1
                  have hul := HUL.out
                  have hwj : wrap64 (j : Int) = j := IntWalk.wrap64_in _ ⟨by omega, by omega⟩
                  have hwj2 : wrap64 ((j : Int) + 1 + 1) = (j : Int) + 1 + 1 := IntWalk.wrap64_in _ ⟨by omega, by omega⟩
                  clear hul
                  obtain ⟨y, hy⟩ : ∃ y, u[j]? = some y := ⟨u[j], by simp [show j < u.length by omega]⟩
                  have hFu : FsAt w11.heap.size w11 (some ⟨b, o, none⟩) u := by
                    obtain ⟨q', c', e1, _, h⟩ := AU11.out
                    cases e1
                    exact h
                  obtain ⟨b', o', e0, hB', a1, a2, a3, oky⟩ := (hFu.below HBQ.out).get hy
                  cases e0
                  have HRISE := Lib.hid (HU.out.rise hy HZ.out)
                  have hgt : decide (zk < y.f.k) = false := decide_eq_false (by have := HRISE.out.1; dsimp only at this; omega)
                  have C3 : Hid (∀ W, Below w4.heap.size w4 W → Calls Try.prog 51 #[.agg y.cells, .agg #[.int .i64 zk, .slice pz zpos.length cz, .slice qz zpath.length dz]] W (RetB (.bool false) W)) := Lib.hid (fun W h => by
                    have hb := HBQ.out.trans (h.mono HBQ.out.size)
                    refine (SameFault_any y ⟨⟨zk, zpos, zpath⟩, .slice pz zpos.length cz, .slice qz zpath.length dz⟩ w11.heap.size W (oky.below (h.mono HBQ.out.size)) (HOKZ.out.below hb) hb.size).mono ?_
                    rintro e w' ⟨r, rfl, hr, hb⟩
                    obtain rfl : r = false := by
                      cases r
                      · rfl
                      · exact absurd (hr.1 rfl) HRISE.out.2
                    exact ⟨rfl, hb⟩)
                  have hwb : b < w4.heap.size := Nat.lt_of_lt_of_le hB' HBQ.out.size
                  obtain ⟨⟨yk, ypos, ypath⟩, yp, yq⟩ := y
                  obtain ⟨⟨py, cy, e1, _⟩, qy, dy, e2, _⟩ := oky
                  dsimp only at *
                  subst e1 e2
                  dsimp only [LF.cells] at C3
                  clear hy hFu hB' HRISE
                  refine wp_region_plan_below 22 [(0, [0, 1, 2, 3, 4, 5, 6, 7, 8, 9, 10, 11, 12, 13, 14, 15, 16, 17, 18]), (1, [19]), (0, [20, 21])] (by kernel_rfl) (by kernel_rfl) (fun _ _ _ _ h => h) ?_
                  simp only [wpSegs, pickOps, List.getElem?_toArray, List.getElem?_cons_zero, List.getElem?_cons_succ]
                  have kc := cell_cls w4
                  iterate 19 (go_big_quiet_step (fail))
                  refine wpQuiet_nil ?_
                  clear kc
                  refine wpListC_want (by rfl) (fun K hK => ?_)
                  go_step
                  refine (C3.out _ (Below.drew (Below.refl _ _))).mono ?_
                  rintro e w6 ⟨rfl, hb⟩
                  have hb' : Below w4.heap.size w4 w6 := (Below.drew (Below.refl _ _)).trans hb
                  refine hK _ _ (cls_of_below hb') ?_
                  clear hK K
                  refine wpListC_nil ?_
                  have HB6 := Lib.hid (HBQ.out.trans (hb'.mono HBQ.out.size))
                  clear hb hb'
                  iterate 2 (go_big_quiet_step (fail))
                  refine wpQuiet_nil ?_
                  go_wp2
                  go_roundw
                  case rel => exact ⟨j + 1 + 1, H1.out, by go_num, HB6⟩
                  case measure => exact meas2 H1.out (by first | rfl | exact hwj2 | (simp; done)) (by first | rfl | (simp; done))
              · have HIN0 := Lib.hid hin
                have HIN1 : Hid (∃ z' ∈ l1, cmpF z'.f ⟨zk, zpos, zpath⟩ = 0) := Lib.hid (by
                  obtain ⟨z', hz', e⟩ := HIN.out
                  rcases List.mem_append.1 hz' with hz' | hz'
                  · exact absurd ⟨z', hz', e⟩ hin
                  · exact ⟨z', hz', e⟩)
                clear hin
                have tk1 := trivial
                have tk2 := trivial
                go_upto_region 25 with (go_at_call 54; first
                  | (clear tk1; refine (CI0.out _ (Below.refl _ _)).mono ?_; rintro e w4 ⟨r, rfl, hr, hb⟩; obtain rfl : r = false := (by cases r; rfl; exact absurd (hr.1 rfl) HIN0.out); obtain ⟨z0', z1', z2', zs'⟩ := HZC.out w4 hb; have HB4 := Lib.hid hb; clear hr hb)
                  | (clear tk2; refine (CI1.out _ HB4.out).mono ?_; rintro e w5 ⟨r, rfl, hr, hb⟩; obtain rfl : r = true := hr.2 HIN1.out; have HBq := Lib.hid (HB4.out.trans (hb.mono HB4.out.size)); clear hr hb z0' z1' z2' zs'))
                clear z0 z1 z2 zs CI0 CI1 HIN HIN0
                have HBQ := Lib.hid (HBW1.out.trans (HBq.out.mono HBW1.out.size))
                obtain ⟨z0, z1, z2, zs⟩ := HZC.out w5 HBq.out
                obtain rfl | ⟨j, rfl⟩ : k = 0 ∨ ∃ j, k = j + 1 := by
                  cases k with
                  | zero => exact .inl rfl
                  | succ j => exact .inr ⟨j, rfl⟩
                · skip
                  refine wp_region_plan_below 22 [(0, [0, 1, 2, 3, 4, 5, 6, 7, 8, 9, 10, 11, 12, 13, 14, 15, 16, 17, 18]), (1, [19]), (0, [20, 21])] (by kernel_rfl) (by kernel_rfl) (fun _ _ _ _ h => h) ?_
                  simp only [wpSegs, pickOps, List.getElem?_toArray, List.getElem?_cons_zero, List.getElem?_cons_succ]
                  have kc := cell_cls w5
                  iterate 19 (go_big_quiet_step (fail))
                  refine wpQuiet_nil ?_
                  clear kc
                  refine wpListC_skip (by rfl) ?_
                  simp only [Act.put, List.setIfInBounds_toArray, List.set_cons_succ, List.set_cons_zero]
                  refine wpListC_nil ?_
                  iterate 2 (go_big_quiet_step (fail))
                  refine wpQuiet_nil ?_
                  go_wp2
                  go_roundw
                  case rel => exact ⟨1, by omega, by go_num, Lib.hid (HBQ.out.trans ((Below.drew (Below.refl _ w5)).mono HBQ.out.size))⟩
                  case measure => simp [intOf]; omega
                · have hj1 : j < u.length := by omega
                  have H1 := Lib.hid h1
                  have hul := HUL.out
                  have hwj : wrap64 (j : Int) = j := IntWalk.wrap64_in _ ⟨by omega, by omega⟩
                  have hwj2 : wrap64 ((j : Int) + 1 + 1) = (j : Int) + 1 + 1 := IntWalk.wrap64_in _ ⟨by omega, by omega⟩
                  clear hul
                  obtain ⟨y, hy⟩ : ∃ y, u[j]? = some y := ⟨u[j], by simp [show j < u.length by omega]⟩
                  have hFu : FsAt w11.heap.size w11 (some ⟨b, o, none⟩) u := by
                    obtain ⟨q', c', e1, _, h⟩ := AU11.out
                    cases e1
                    exact h
                  obtain ⟨b', o', e0, hB', a1, a2, a3, oky⟩ := (hFu.below HBQ.out).get hy
                  cases e0
                  have HRISE := Lib.hid (HU.out.rise hy HZ.out)
                  have hgt : decide (zk < y.f.k) = false := decide_eq_false (by have := HRISE.out.1; dsimp only at this; omega)
                  have C3 : Hid (∀ W, Below w5.heap.size w5 W → Calls Try.prog 51 #[.agg y.cells, .agg #[.int .i64 zk, .slice pz zpos.length cz, .slice qz zpath.length dz]] W (RetB (.bool false) W)) := Lib.hid (fun W h => by
                    have hb := HBQ.out.trans (h.mono HBQ.out.size)
                    refine (SameFault_any y ⟨⟨zk, zpos, zpath⟩, .slice pz zpos.length cz, .slice qz zpath.length dz⟩ w11.heap.size W (oky.below (h.mono HBQ.out.size)) (HOKZ.out.below hb) hb.size).mono ?_
                    rintro e w' ⟨r, rfl, hr, hb⟩
                    obtain rfl : r = false := by
                      cases r
                      · rfl
                      · exact absurd (hr.1 rfl) HRISE.out.2
                    exact ⟨rfl, hb⟩)
                  have hwb : b < w5.heap.size := Nat.lt_of_lt_of_le hB' HBQ.out.size
                  obtain ⟨⟨yk, ypos, ypath⟩, yp, yq⟩ := y
                  obtain ⟨⟨py, cy, e1, _⟩, qy, dy, e2, _⟩ := oky
                  dsimp only at *
                  subst e1 e2
                  dsimp only [LF.cells] at C3
                  clear hy hFu hB' HRISE
                  refine wp_region_plan_below 22 [(0, [0, 1, 2, 3, 4, 5, 6, 7, 8, 9, 10, 11, 12, 13, 14, 15, 16, 17, 18]), (1, [19]), (0, [20, 21])] (by kernel_rfl) (by kernel_rfl) (fun _ _ _ _ h => h) ?_
                  simp only [wpSegs, pickOps, List.getElem?_toArray, List.getElem?_cons_zero, List.getElem?_cons_succ]
                  have kc := cell_cls w5
                  iterate 19 (go_big_quiet_step (fail))
                  refine wpQuiet_nil ?_
                  clear kc
                  refine wpListC_want (by rfl) (fun K hK => ?_)
                  go_step
                  refine (C3.out _ (Below.drew (Below.refl _ _))).mono ?_
                  rintro e w6 ⟨rfl, hb⟩
                  have hb' : Below w5.heap.size w5 w6 := (Below.drew (Below.refl _ _)).trans hb
                  refine hK _ _ (cls_of_below hb') ?_
                  clear hK K
                  refine wpListC_nil ?_
                  have HB6 := Lib.hid (HBQ.out.trans (hb'.mono HBQ.out.size))
                  clear hb hb'
                  iterate 2 (go_big_quiet_step (fail))
                  refine wpQuiet_nil ?_
                  go_wp2
                  go_roundw
                  case rel => exact ⟨j + 1 + 1, H1.out, by go_num, HB6⟩
                  case measure => exact meas2 H1.out (by first | rfl | exact hwj2 | (simp; done)) (by first | rfl | (simp; done))
            · go_wp2
              go_ret
              exact ⟨rfl, HW11.out.trans (HBwr.out.mono HW11.out.size)⟩
end Go.Proofs.Ytnmnmkdmnohbmaa
