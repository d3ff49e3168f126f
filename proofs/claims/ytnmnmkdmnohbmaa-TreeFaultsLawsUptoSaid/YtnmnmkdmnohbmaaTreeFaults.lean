/- TreeFaults: the walk: the statement answers true of any three lists of faults that are not too long. Conditions: none. -/
import Derived.Test.YtnmnmkdmnohbmaaFltLaw
namespace Go.Proofs.Ytnmnmkdmnohbmaa
open Go.RowKit

/-- A list of faults as an argument. -/
def ArgF (w : World) (v : Value) (l : List LF) : Prop := ∃ q c, v = .slice q l.length c ∧ l.length ≤ c ∧ FsAt w.heap.size w q l
theorem ArgF.below {w w' : World} {v : Value} {l : List LF} (h : ArgF w v l) (hb : Below w.heap.size w w') : ArgF w' v l := by
  obtain ⟨q, c, h1, h2, h3⟩ := h
  exact ⟨q, c, h1, h2, (h3.below hb).up hb.size⟩

theorem lsAt_new {W : World} {L : List (Value × List LF)} {vs : Array Value} (hvs : vs.toList = L.map (·.1)) (hL : ∀ x ∈ L, ArgF W x.1 x.2) :
    LsAt (W.alloc (.cells vs 85)).heap.size (W.alloc (.cells vs 85)) (some ⟨W.heap.size, 0, none⟩) L := by
  have hb : Below W.heap.size W (W.alloc (.cells vs 85)) := (Below.refl _ _).alloc (Nat.le_refl _) _
  refine ⟨.inr ⟨W.heap.size, 0, rfl, by simp, fun i x hx => ?_⟩, fun x hx => ?_⟩
  · have h := cellsAt_alloc W vs 85 (0, 0)
    have hi : vs[i]? = some x.1 := by
      rw [← Array.getElem?_toList, hvs, List.getElem?_map, hx]
      rfl
    exact h i _ hi
  · obtain ⟨q, c, h1, h2, h3⟩ := (hL x hx).below hb
    exact ⟨q, c, h1, h2, h3⟩

theorem Faults_of (L : List (Value × List LF)) (vs : Array Value) (hvs : vs.toList = L.map (·.1)) (W : World) (hL : ∀ x ∈ L, ArgF W x.1 x.2) (hlen : L.length ≤ big) (hcat : (cat L).length ≤ big) (m : Nat) (hm : m = L.length) :
    Calls Try.prog 50 #[.slice (some ⟨W.heap.size, 0, none⟩) m m] (W.alloc (.cells vs 85)) (fun e w' => ∃ p' c' r, e = .returned (.slice p' (List.length r) c') ∧ IsUnion (r.map LF.f) (cat L) ∧ FsAt w'.heap.size w' p' r ∧ List.length r ≤ big ∧ Below W.heap.size W w') := by
  subst hm
  refine (Faults_any L _ L.length _ (lsAt_new hvs hL) hlen hcat).mono ?_
  rintro e w' ⟨p', c', r, S, rfl, hp, hs, hr, hF, hb, _⟩
  refine ⟨p', c', r, rfl, by rw [hr]; exact union_prog hp hs, hF, ?_, ((Below.refl _ _).alloc (Nat.le_refl _) _).trans (hb.mono (by simp))⟩
  have h := congrArg List.length hr
  simp only [List.length_map] at h
  have := dedP_len S S.length
  have := hp.length_eq
  omega

theorem Ref_of (L : List (Value × List LF)) (vs : Array Value) (hvs : vs.toList = L.map (·.1)) (W : World) (hL : ∀ x ∈ L, ArgF W x.1 x.2) (hlen : L.length ≤ big) (hcat : (cat L).length ≤ big) (m : Nat) (hm : m = L.length) :
    Calls Try.prog 53 #[.slice (some ⟨W.heap.size, 0, none⟩) m m] (W.alloc (.cells vs 85)) (fun e w' => ∃ p' c' r, e = .returned (.slice p' (List.length r) c') ∧ IsUnion (r.map LF.f) (cat L) ∧ FsAt w'.heap.size w' p' r ∧ List.length r ≤ big ∧ Below W.heap.size W w') := by
  subst hm
  refine (refFaults_any L _ L.length _ (lsAt_new hvs hL) hlen hcat).mono ?_
  rintro e w' ⟨p', c', r, rfl, hr, hF, hb⟩
  refine ⟨p', c', ordL cF (List.length r) r, rfl, union_ref hr, hF, ?_, ((Below.refl _ _).alloc (Nat.le_refl _) _).trans (hb.mono (by simp))⟩
  have h := congrArg List.length hr
  simp only [List.length_map] at h
  have := ordL_len cF (List.length r) r
  omega

theorem Same_of {l l' : List LF} {L : List (Value × List LF)} (h : IsUnion (l.map LF.f) (cat L)) (h' : IsUnion (l'.map LF.f) (cat L)) (p q : Option Addr) (c d : Nat) (w : World) (ha : FsAt w.heap.size w p l) (hb : FsAt w.heap.size w q l') (la : l.length ≤ big) (lb : l'.length ≤ big) :
    Calls Try.prog 52 #[.slice p l.length c, .slice q l'.length d] w (RetB (.bool true) w) := by
  refine (SameFaults_any l l' p q c d w ha hb la lb).mono ?_
  rintro e w' ⟨r, rfl, hr, hb⟩
  have : r = true := hr.2 (h.unique h' (fun _ => Iff.rfl))
  subst this
  exact ⟨rfl, hb⟩

/-- The fault that the statement begins with. -/
abbrev oneF (g : Nat) : LF := ⟨⟨7, [(1, 2)], []⟩, .slice (some ⟨g, 0, none⟩) 1 1, .slice none 0 0⟩

theorem one_clean : cleanF ⟨7, [(1, 2)], []⟩ = ⟨7, [(1, 2)], []⟩ := rfl
theorem one_union (g : Nat) (l : List LF) (h : ∀ z ∈ l, z = oneF g) (hn : l ≠ []) : IsUnion [⟨7, [(1, 2)], []⟩] l := by
  refine ⟨List.pairwise_singleton _ _, fun a ha => ?_, fun z hz => ?_⟩
  · obtain rfl : a = _ := by simpa using ha
    obtain ⟨z, hz⟩ := List.exists_mem_of_ne_nil l hn
    exact ⟨z, hz, by rw [h z hz]; rfl⟩
  · exact ⟨_, List.mem_singleton.2 rfl, by rw [h z hz]; exact cmpF_ord.refl _⟩

set_option maxRecDepth 100000 in
set_option maxHeartbeats 4000000 in
theorem TreeFaults_walk (l0 l1 l2 : List LF) (v0 v1 v2 : Value) (w : World) (a0 : ArgF w v0 l0) (a1 : ArgF w v1 l1) (a2 : ArgF w v2 l2) (hsum : l0.length + l1.length + l2.length ≤ 1048576) :
    Calls Try.prog 12 #[v0, v1, v2] w (RetB (.bool true) w) := by
  obtain ⟨q0, d0, rfl, hd0, hF0⟩ := id a0
  obtain ⟨q1, d1, rfl, hd1, hF1⟩ := id a1
  obtain ⟨q2, d2, rfl, hd2, hF2⟩ := id a2
  have A0 := Lib.hid a0
  have A1 := Lib.hid a1
  have A2 := Lib.hid a2
  clear a0 a1 a2 hF0 hF1 hF2 hd0 hd1 hd2
  obtain ⟨wa, hwa⟩ : ∃ wa, (w.alloc (.cells #[.int .i64 1, .int .i64 2] 88)).alloc (.cells #[.int .i64 7, .slice (some ⟨w.heap.size, 0, none⟩) 1 1, .slice none 0 0] 91) = wa := ⟨_, rfl⟩
  have hba : Below w.heap.size w wa := by rw [← hwa]; exact ((Below.refl _ _).alloc (Nat.le_refl _) _).alloc (by simp) _
  have hPa : wa.heap[w.heap.size]? = some (.cells #[.int .i64 1, .int .i64 2] 88 (0, 0)) := by
    rw [← hwa, Below.heap_alloc _ _ _ (by simp)]
    exact heap_new w _
  have hFa : wa.heap[w.heap.size + 1]? = some (.cells #[.int .i64 7, .slice (some ⟨w.heap.size, 0, none⟩) 1 1, .slice none 0 0] 91 (0, 0)) := by
    have := heap_new (w.alloc (.cells #[.int .i64 1, .int .i64 2] 88)) (.cells #[.int .i64 7, .slice (some ⟨w.heap.size, 0, none⟩) 1 1, .slice none 0 0] 91)
    rw [World.size_alloc] at this
    rwa [← hwa]
  have hsa : wa.heap.size = w.heap.size + 1 + 1 := by rw [← hwa]; simp
  have hok1 : LOk wa.heap.size wa (oneF w.heap.size) := by
    refine ⟨⟨_, _, rfl, .inr ⟨w.heap.size, 0, rfl, by omega, fun i s hs => ?_⟩, by simp [big]⟩, _, _, rfl, .inl rfl, by simp⟩
    have : i = 0 := by
      have := (List.getElem?_eq_some_iff.1 hs).1
      simp at this
      exact this
    subst this
    obtain rfl : s = (1, 2) := by simpa using hs.symm
    exact ⟨by simp [World.cell?, hPa], by simp [World.cell?, hPa]⟩
  have hone : ArgF wa (.slice (some ⟨w.heap.size + 1, 0, none⟩) 1 1) [oneF w.heap.size] := by
    refine ⟨_, 1, rfl, by simp, .inr ⟨w.heap.size + 1, 0, rfl, by omega, fun i s hs => ?_⟩, fun z hz => by rw [List.mem_singleton.1 hz]; exact hok1⟩
    have : i = 0 := by
      have := (List.getElem?_eq_some_iff.1 hs).1
      simp at this
      exact this
    subst this
    obtain rfl : s = oneF w.heap.size := by simpa using hs.symm
    exact ⟨by simp [World.cell?, hFa], by simp [World.cell?, hFa], by simp [World.cell?, hFa]⟩
  have C1 := Lib.hid (Faults_of [(.slice (some ⟨w.heap.size + 1, 0, none⟩) 1 1, [oneF w.heap.size]), (.slice (some ⟨w.heap.size + 1, 0, none⟩) 1 1, [oneF w.heap.size])] #[.slice (some ⟨w.heap.size + 1, 0, none⟩) 1 1, .slice (some ⟨w.heap.size + 1, 0, none⟩) 1 1] rfl wa (fun x hx => by
    simp only [List.mem_cons, List.not_mem_nil, or_false, or_self] at hx
    subst hx
    exact hone) (by simp [big]) (by simp [big, cat]) 2 rfl)
  have HFA := Lib.hid hFa
  have HPA := Lib.hid hPa
  have HBA := Lib.hid hba
  have HSA := Lib.hid hsa
  have HOK1 := Lib.hid hok1
  clear hFa hPa hba hsa hok1 hone
  go_enter Try.func12, Try.ntmps12
  go_wp2_with (go_at_call 50; refine C1.out.mono ?_; rintro e w1 ⟨p1, c1, r, rfl, hu, hF, hrl, hb1⟩; have HU := Lib.hid hu; have HF := Lib.hid hF; have HB1 := Lib.hid hb1; clear hu hF hb1 hrl)
  have hr1 : r.map LF.f = [⟨7, [(1, 2)], []⟩] := HU.out.unique (one_union w.heap.size _ (by simp [cat]) (by simp [cat])) (fun _ => Iff.rfl)
  obtain ⟨x', rfl⟩ := List.length_eq_one_iff.1 (show r.length = 1 by have := congrArg List.length hr1; simpa using this)
  have hx' : x'.f = ⟨7, [(1, 2)], []⟩ := by simpa using hr1
  obtain ⟨b1, o1, rfl, hB1, k0, k1, k2, okx⟩ := HF.out.get (i := 0) rfl
  have hb1w : Below w.heap.size w w1 := HBA.out.trans (HB1.out.mono HBA.out.size)
  have hF1 := (HB1.out.block _ (by have := HSA.out; omega)).trans HFA.out
  have m0 : w1.cell? ⟨w.heap.size + 1, 0, none⟩ = some (.int .i64 7) := by simp [World.cell?, hF1]
  have m1 : w1.cell? ⟨w.heap.size + 1, 1, none⟩ = some (.slice (some ⟨w.heap.size, 0, none⟩) 1 1) := by simp [World.cell?, hF1]
  have m2 : w1.cell? ⟨w.heap.size + 1, 2, none⟩ = some (.slice none 0 0) := by simp [World.cell?, hF1]
  have hok := (HOK1.out.below HB1.out).mono HB1.out.size
  have C2 : Hid (∀ W, Below w1.heap.size w1 W → Calls Try.prog 51 #[.agg x'.cells, .agg (oneF w.heap.size).cells] W (RetB (.bool true) W)) := Lib.hid (fun W h => by
    refine (SameFault_any x' (oneF w.heap.size) w1.heap.size W (okx.below h) (hok.below h) h.size).mono ?_
    rintro e w' ⟨r, rfl, hr, hb⟩
    have : r = true := hr.2 hx'
    subst this
    exact ⟨rfl, hb⟩)
  have hwb : b1 < w1.heap.size := hB1
  have hwl : w.heap.size + 1 < w1.heap.size := by have := HB1.out.size; have := HSA.out; omega
  obtain ⟨⟨xk, xpos, xpath⟩, xp, xq⟩ := x'
  dsimp only at k0 k1 k2
  dsimp only [LF.cells, oneF] at C2
  rw [Nat.zero_mul, Nat.add_zero] at k0 k1 k2
  have HBW1 := Lib.hid hb1w
  clear hr1 hx' hF1 hok okx HF HU C1 hb1w hB1
  simp only [List.length_cons, List.length_nil, Nat.zero_add]
  have kc := cell_cls w1
  refine wp_region_plan_below 13 [(0, [0, 1, 2, 3, 4, 5, 6, 7, 8, 9]), (1, [10]), (0, [11, 12])] (by kernel_rfl) (by kernel_rfl) (fun _ _ _ _ h => h) ?_
  simp only [wpSegs, pickOps, List.getElem?_toArray, List.getElem?_cons_zero, List.getElem?_cons_succ]
  iterate 10 (go_big_quiet_step (fail))
  refine wpQuiet_nil ?_
  clear kc
  refine wpListC_want (by rfl) (fun K hK => ?_)
  go_step
  refine (C2.out _ (Below.drew (Below.refl _ _))).mono ?_
  rintro e w2 ⟨rfl, hb2⟩
  have hb2' : Below w1.heap.size w1 w2 := (Below.drew (Below.refl _ _)).trans hb2
  refine hK _ _ (cls_of_below hb2') ?_
  clear hK K
  refine wpListC_nil ?_
  iterate 2 (go_big_quiet_step (fail))
  refine wpQuiet_nil ?_
  have hbw2 : Below w.heap.size w w2 := HBW1.out.trans (hb2'.mono HBW1.out.size)
  have HBW2 := Lib.hid hbw2
  clear hb2 hb2' hbw2 m0 m1 m2 k0 k1 k2 hwb hwl C2 HB1 HBA HFA HPA HSA HOK1 HBW1
  have CF3 : Hid (∀ W, Below w2.heap.size w2 W → _) := Lib.hid (fun W h => Faults_of [(.slice q0 l0.length d0, l0), (.slice q1 l1.length d1, l1), (.slice q2 l2.length d2, l2)] #[.slice q0 l0.length d0, .slice q1 l1.length d1, .slice q2 l2.length d2] rfl W (fun x hx => by
    have hb := HBW2.out.trans (h.mono HBW2.out.size)
    simp only [List.mem_cons, List.not_mem_nil, or_false] at hx
    rcases hx with rfl | rfl | rfl
    · exact A0.out.below hb
    · exact A1.out.below hb
    · exact A2.out.below hb) (by simp [big]) (by simp [big, cat]; omega) 3 rfl)
  have CR3 : Hid (∀ W, Below w2.heap.size w2 W → _) := Lib.hid (fun W h => Ref_of [(.slice q0 l0.length d0, l0), (.slice q1 l1.length d1, l1), (.slice q2 l2.length d2, l2)] #[.slice q0 l0.length d0, .slice q1 l1.length d1, .slice q2 l2.length d2] rfl W (fun x hx => by
    have hb := HBW2.out.trans (h.mono HBW2.out.size)
    simp only [List.mem_cons, List.not_mem_nil, or_false] at hx
    rcases hx with rfl | rfl | rfl
    · exact A0.out.below hb
    · exact A1.out.below hb
    · exact A2.out.below hb) (by simp [big]) (by simp [big, cat]; omega) 3 rfl)
  have CF1 : Hid (∀ W, Below w2.heap.size w2 W → _) := Lib.hid (fun W h => Faults_of [(.slice q2 l2.length d2, l2)] #[.slice q2 l2.length d2] rfl W (fun x hx => by
    have hb := HBW2.out.trans (h.mono HBW2.out.size)
    obtain rfl := List.mem_singleton.1 hx
    exact A2.out.below hb) (by simp [big]) (by simp [big, cat]; omega) 1 rfl)
  have CR1 : Hid (∀ W, Below w2.heap.size w2 W → _) := Lib.hid (fun W h => Ref_of [(.slice q2 l2.length d2, l2)] #[.slice q2 l2.length d2] rfl W (fun x hx => by
    have hb := HBW2.out.trans (h.mono HBW2.out.size)
    obtain rfl := List.mem_singleton.1 hx
    exact A2.out.below hb) (by simp [big]) (by simp [big, cat]; omega) 1 rfl)
  have CF0 : Hid (∀ W, Calls Try.prog 50 #[.slice none 0 0] W (fun e w' => ∃ p' c', e = .returned (.slice p' 0 c') ∧ Below W.heap.size W w')) := Lib.hid (fun W => by
    refine (Faults_any [] none 0 W ⟨.inl rfl, fun x hx => by cases hx⟩ (by simp) (by simp [cat])).mono ?_
    rintro e w' ⟨p', c', r, S, rfl, hp, _, hr, _, hb, _⟩
    have : S = [] := hp.eq_nil
    subst this
    have h := congrArg List.length hr
    simp [dedP] at h
    subst h
    exact ⟨p', c', rfl, hb⟩)
  have k1 := trivial
  have k2 := trivial
  have k3 := trivial
  have k4 := trivial
  have k5 := trivial
  have k6 := trivial
  have k7 := trivial
  go_wp2_with (first
    | (go_at_call 50; first
      | (clear k1; refine (CF3.out _ (Below.refl _ _)).mono ?_; rintro e w3 ⟨p3, c3, r3, rfl, hu, hF, hrl, hb⟩; have HU3 := Lib.hid hu; have HF3 := Lib.hid hF; have HL3 := Lib.hid hrl; have HB3 := Lib.hid hb; clear hu hF hb hrl)
      | (clear k2; refine (CF1.out _ (HB5.out)).mono ?_; rintro e w6 ⟨p6, c6, r6, rfl, hu, hF, hrl, hb⟩; have HU6 := Lib.hid hu; have HF6 := Lib.hid hF; have HL6 := Lib.hid hrl; have HB6 := Lib.hid (HB5.out.trans (hb.mono HB5.out.size)); have hbS6 := hb.size; have HBS6 := Lib.hid hbS6; clear hu hF hb hrl hbS6)
      | (clear k3; refine (CF0.out _).mono ?_; rintro e w9 ⟨p9, c9, rfl, hb⟩; have HB9 := Lib.hid (HB8.out.trans (hb.mono HB8.out.size)); clear hb))
    | (go_at_call 53; first
      | (clear k4; refine (CR3.out _ HB3.out).mono ?_; rintro e w4 ⟨p4, c4, r4, rfl, hu, hF, hrl, hb⟩; have HU4 := Lib.hid hu; have HF4 := Lib.hid hF; have HL4 := Lib.hid hrl; have HB4 := Lib.hid hb; clear hu hF hb hrl)
      | (clear k5; refine (CR1.out _ HB6.out).mono ?_; rintro e w7 ⟨p7, c7, r7, rfl, hu, hF, hrl, hb⟩; have HU7 := Lib.hid hu; have HF7 := Lib.hid hF; have HL7 := Lib.hid hrl; have HB7 := Lib.hid hb; clear hu hF hb hrl))
    | (go_at_call 52; first
      | (clear k6; refine (Same_of HU3.out HU4.out p3 p4 c3 c4 w4 ((HF3.out.below HB4.out).up HB4.out.size) HF4.out HL3.out HL4.out).mono ?_; rintro e w5 ⟨rfl, hb⟩; have HB5 := Lib.hid ((HB3.out.trans (HB4.out.mono HB3.out.size)).trans (hb.mono (Nat.le_trans HB3.out.size HB4.out.size))); clear hb)
      | (clear k7; refine (Same_of HU6.out HU7.out p6 p7 c6 c7 w7 ((HF6.out.below HB7.out).up HB7.out.size) HF7.out HL6.out HL7.out).mono ?_; rintro e w8 ⟨rfl, hb⟩; have HB8 := Lib.hid ((HB6.out.trans (HB7.out.mono HB6.out.size)).trans (hb.mono (Nat.le_trans HB6.out.size HB7.out.size))); clear hb)))
  go_ret
  exact ⟨rfl, HBW2.out.trans (HB9.out.mono HBW2.out.size)⟩
end Go.Proofs.Ytnmnmkdmnohbmaa
