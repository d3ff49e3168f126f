/- A range over a table of lists under places: the entries in order. Conditions: none. -/
import Derived.Test.YtnmnmkdmnohbmaaKTab
import Derived.OwnWalkIn
namespace Go.Proofs.Ytnmnmkdmnohbmaa
open Go.RowKit Go.Maps
attribute [local go_sem] run_store_float

theorem kall_any (p : Option Addr) (w : World) : Calls Try.prog 19 #[.pointer p] w (fun e w' => e = .returned (.func (.func 55) #[] #[.pointer (some ⟨w.heap.size, 0, none⟩)]) ∧ w' = w.alloc (.cells #[.pointer p] 97)) := by
  go_enter Try.func19, Try.ntmps19
  have hmf : ∀ (fn : Fn) (first cap : Array Value) (w : World), (Instr.makeFunc fn first cap).run Try.prog w = .ok (.func fn first cap) w := fun _ _ _ _ => rfl
  go_wp2
  go_ret
  exact ⟨rfl, rfl⟩

/-- Blocks of cells stand, but for some. -/
structure KeepC (S : Nat → Prop) (w w' : World) : Prop where
  size : w.heap.size ≤ w'.heap.size
  cells : ∀ k cur e fz, w.heap[k]? = some (.cells cur e fz) → ¬ S k → w'.heap[k]? = some (.cells cur e fz)

theorem KeepC.trans {S : Nat → Prop} {a b c : World} (h : KeepC S a b) (k : KeepC S b c) : KeepC S a c := ⟨Nat.le_trans h.size k.size, fun i cur e fz hi hs => k.cells i cur e fz (h.cells i cur e fz hi hs) hs⟩
theorem KeepC.of_below {S : Nat → Prop} {a b : World} (h : Below a.heap.size a b) : KeepC S a b := ⟨h.size, fun i cur e fz hi _ => (h.block i (Array.getElem?_eq_some_iff.1 hi).1).trans hi⟩
theorem KeepC.put {S : Nat → Prop} (W : World) (l : Nat) (o o' : Obj) (h : W.heap[l]? = some o) (hc : o.isCells = false) : KeepC S W (W.putObj l o') := by
  have hg := grownBy_putObj' W l o'
  refine ⟨hg.size, fun i cur e fz hi _ => (hg.block i (Array.getElem?_eq_some_iff.1 hi).1 (fun e1 => ?_)).trans hi⟩
  cases e1
  rw [h] at hi
  cases hi
  cases hc

abbrev KElt := { x : Int × Value // (0 ≤ x.1 ∧ x.1 < 65536) ∧ ∃ g m, x.2 = .slice (some ⟨g, 0, none⟩) m m ∧ 1 ≤ m ∧ m ≤ 2 }
def kenc (x : KElt) : Array Value := #[.agg (pcells x.1.1), x.1.2]

/-- The cells of a row of three-cell keys. -/
theorem row3 {w : World} {B : Nat} {v : Value} {ks : List Int} (h : w.ownsRow B 32 3 v ks.length (pcs ks)) (hl : 0 < ks.length) :
    ∃ g cap, ∃ cur : Array Value, v = .slice (some ⟨g, 0, none⟩) ks.length cap ∧ ks.length ≤ cap ∧ cap ≤ maxLen ∧ w.heap[g]? = some (.cells cur 32 (0, 0)) ∧ ∀ (j : Nat) (u : Value), (pcs ks)[j]? = some u → cur[j]? = some u := by
  rcases h.2 with ⟨_, h0⟩ | ⟨g, cap, cur, hv, hb, hh, hn', hc, hs, ht⟩
  · omega
  · refine ⟨g, cap, cur, hv, hn', hc, hh, fun j u hu => ?_⟩
    rw [← ht, List.getElem?_take] at hu
    split at hu
    · simpa using hu
    · cases hu

theorem pcs_length (ks : List Int) : (pcs ks).length = ks.length * 3 := by
  induction ks with
  | nil => rfl
  | cons a r ih =>
    show ((pcells a).toList ++ pcs r).length = _
    rw [List.length_append, ih]
    simp
    omega

theorem pcs_at : ∀ (ks : List Int) (j : Nat) (k : Int) (o : Nat) (u : Value), ks[j]? = some k → (pcells k)[o]? = some u → (pcs ks)[j * 3 + o]? = some u
  | [], _, _, _, _, h, _ => by simp at h
  | a :: t, 0, k, o, u, h, hu => by
    obtain rfl : a = k := by simpa using h
    have ho := (Array.getElem?_eq_some_iff.1 hu).1
    simp only [pcs, List.flatMap_cons, Nat.zero_mul, Nat.zero_add]
    rw [List.getElem?_append_left (by simpa using ho)]
    simpa using hu
  | a :: t, j + 1, k, o, u, h, hu => by
    have := pcs_at t j k o u (by simpa using h) hu
    simp only [pcs, List.flatMap_cons] at this ⊢
    rw [List.getElem?_append_right (by simp; omega)]
    rw [← this]
    congr 1
    simp; omega

set_option maxRecDepth 100000 in
set_option maxHeartbeats 4000000 in
theorem kall_stops (n : Nat) {w : World} {B T bm : Nat} {kv vv : Value} {D : DataW Unit} {ks : List Int} {sl : List Value} (h : IsKT w B T bm kv vv D ks sl) (hl : 0 < ks.length) (Bv : Nat) (hBv : Bv < w.heap.size) (hb : CellsAt w Bv 0 #[.pointer (some ⟨T, 0, none⟩)]) (S : Nat → Prop) (hS : ∀ g, S g → g < w.heap.size) :
    SeqStopsK Fence.wide n Try.prog 55 #[.pointer (some ⟨Bv, 0, none⟩)] kenc (KeepC S) (fun xs => xs.map (·.1) = ks.zip sl) (fun pre => pre.map (·.1) <+: ks.zip sl) ks.length w := by
  intro l J Jx W hW hJ hJx hY h0
  have a0 : W.cell? ⟨Bv, 0, none⟩ = some (.pointer (some ⟨T, 0, none⟩)) := hb.below hW hBv 0 _ rfl
  have hBW : Bv < W.heap.size := Nat.lt_of_lt_of_le hBv hW.size
  have hT := h.below hW
  obtain ⟨c0, c1, c2, f1, f2, hTl⟩ := hT.facts
  obtain ⟨gk, capk, curk, rfl, hk1, hk2, hkh, hkc⟩ := row3 hT.keys hl
  obtain ⟨gv, capv, rfl, hv1, hv2, _, hgv, _, hvc⟩ := row1 hT.vals hl
  have few := hT.few
  have hcK : ∀ (j : Nat) (u : Value), (pcs ks)[j]? = some u → W.cell? ((⟨gk, 0, none⟩ : Addr).add j) = some u := fun j u hu => by
    rw [addr_add]
    simp only [World.cell?, hkh, Nat.zero_add]
    exact hkc j u hu
  have hcV : ∀ w1, Below W.heap.size W w1 → ∀ (j : Nat) (u : Value), sl[j]? = some u → w1.cell? ((⟨gv, 0, none⟩ : Addr).add j) = some u := fun w1 hb1 j u hu => by
    rw [addr_add, Nat.zero_add]
    exact (hb1.cell (p := ⟨gv, j, none⟩) hgv).trans (hvc j u hu)
  have h1k : ∀ u ∈ pcs ks, u.oneCell' = true := fun u hu => by
    obtain ⟨k, _, hk⟩ := List.mem_flatMap.1 hu
    simp at hk
    rcases hk with rfl | rfl | rfl <;> rfl
  have h1v : ∀ u ∈ sl, u.oneCell' = true := fun u hu => by
    obtain ⟨g, m, cur, rfl, _⟩ := h.ok u hu
    rfl
  have hsl := h.slen
  have hrange := h.range
  have hokk := h.ok
  obtain ⟨i0, hi, hz0, hz1, hz2⟩ := info_parts (show (Try.prog.info? 32).map (fun i => (i.zero, i.size, i.bytes)) = some (some (.agg #[.int .i8 0, .int .i8 0, .bool false]), 3, 3) by kernel_rfl)
  obtain ⟨i1, hi1, hy0, hy1, hy2⟩ := info_parts (show (Try.prog.info? 33).map (fun i => (i.zero, i.size, i.bytes)) = some (some (.slice none 0 0), 1, 24) by kernel_rfl)
  have HKC := Lib.hid hcK
  have HVC := Lib.hid hcV
  have H1K := Lib.hid h1k
  have H1V := Lib.hid h1v
  have HJ := Lib.hid hJ
  have HJX := Lib.hid hJx
  have HY := Lib.hid hY
  have H0 := Lib.hid h0
  have HR := Lib.hid hrange
  have HOK := Lib.hid hokk
  have HSL := Lib.hid hsl
  have HW := Lib.hid hW
  have HS := Lib.hid hS
  clear hcK hcV h1k h1v hJ hJx hY h0 hT h hb f1 f2 hk2 hkh hkc hvc hrange hokk hsl hS hW
  have tk := trivial
  have tk2 := trivial
  refine callsIn_of_wp Try.func55 rfl trivial ?_ rfl
  simp only [Try.ntmps55, List.size_toArray, List.length_cons, List.length_nil, Nat.reduceAdd, Nat.reduceSub, Array.replicate_succ, Array.replicate_zero, List.push_toArray, List.append_toArray, List.nil_append, List.cons_append]
  gi_wp2_with (gi_at_builtin; first
    | (clear tk; refine wpListIn_append_own W rfl _ _ 25 rfl W.heap.size 32 i0 _ 3 3 Try.underlying25 hi hz0 hz1 hz2 rfl (by decide) (.slice none 0 0) 0 [] rfl (World.ownsRow_nil _ _ _ _) ⟨gk, 0, none⟩ ks.length capk (pcs ks) rfl (pcs_length ks) HKC.out H1K.out (by unfold maxLen; omega) (by omega) (Nat.le_refl _) ?_; intro u3 w1 hr1 hg1 _; simp only [Nat.zero_add, List.nil_append] at hr1; obtain ⟨p3, c3, rfl⟩ := row_slice hr1; have hb1 : Below W.heap.size W w1 := ⟨hg1.os, hg1.tape, hg1.output, hg1.size, fun k hk => hg1.block k hk (by simp [Value.ownBlock])⟩; have a0' := (hb1.cell (p := ⟨Bv, 0, none⟩) hBW).trans a0; have c2' := (hb1.cell (p := ⟨T, 2, none⟩) hTl).trans c2)
    | (clear tk2; refine wpListIn_append_own w1 rfl _ _ 26 rfl W.heap.size 33 i1 _ 1 24 Try.underlying26 hi1 hy0 hy1 hy2 rfl (by decide) (.slice none 0 0) 0 [] rfl (World.ownsRow_nil _ _ _ _) ⟨gv, 0, none⟩ ks.length capv sl rfl (by have := HSL.out; omega) (HVC.out w1 hb1) H1V.out (by unfold maxLen; omega) (by omega) hb1.size ?_; intro u4 w2 hr2 hg2 _; simp only [Nat.zero_add, List.nil_append] at hr2; obtain ⟨p4, c4, rfl⟩ := row_slice hr2))
  have hg2' : Below W.heap.size W w2 := hb1.trans ⟨hg2.os, hg2.tape, hg2.output, hg2.size, fun k hk => hg2.block k (Nat.lt_of_lt_of_le hk hb1.size) (by simp [Value.ownBlock])⟩
  have hr1' := hr1.kept hg2 (by cases (Value.slice p3 ks.length c3).ownBlock <;> simp [Value.ownBlock])
  have hJ2 := alloc_abides HJ.out H0.out hg2'
  obtain ⟨g3, cap3, cur3, e3, hk31, hk32, hh3, hc3⟩ := row3 hr1' hl
  have hg3 := (hr1'.lt g3 (by rw [e3]; rfl)).1
  obtain ⟨rfl, rfl⟩ : p3 = some ⟨g3, 0, none⟩ ∧ c3 = cap3 := by cases e3; exact ⟨rfl, rfl⟩
  obtain ⟨g4, cur4, rfl, hh4, hk41, hk42, hc4⟩ : ∃ g4, ∃ cur4 : Array Value, p4 = some ⟨g4, 0, none⟩ ∧ w2.heap[g4]? = some (.cells cur4 33 (0, 0)) ∧ ks.length ≤ c4 ∧ c4 ≤ maxLen ∧ ∀ (j : Nat) (u : Value), sl[j]? = some u → cur4[j]? = some u := by
    rcases hr2.2 with ⟨_, e0⟩ | ⟨g, cap, cur, hv, hb, hh, hn', hc, hs, ht⟩
    · omega
    · cases hv
      refine ⟨g, cur, rfl, hh, hn', hc, fun j u hu => ?_⟩
      rw [← ht, List.getElem?_take] at hu
      split at hu
      · simpa using hu
      · cases hu
  have hg4 := (hr2.lt g4 rfl).1
  have HJ2 := Lib.hid hJ2
  have HB2 := Lib.hid hg2'
  have HH3 := Lib.hid hh3
  have HH4 := Lib.hid hh4
  have HC3 := Lib.hid hc3
  have HC4 := Lib.hid hc4
  have nS3 : ¬ S g3 := fun e => by have := HS.out g3 e; have := HW.out.size; omega
  have nS4 : ¬ S g4 := fun e => by have := HS.out g4 e; have := HW.out.size; omega
  have NS3 := Lib.hid nS3
  have NS4 := Lib.hid nS4
  unfold maxLen at hk32 hk42
  clear hJ2 hg2' hh3 hh4 hc3 hc4 e3 hr1 hr1' hr2 hg1 hg2 hb1 a0' c2' a0 c0 c1 c2 nS3 nS4 hi hz0 hz1 hz2 hi1 hy0 hy1 hy2 HKC HVC H1K H1V
  gi_loopw [21] (fun ii wr => ∃ j : Nat, j ≤ ks.length ∧ ii = .int .i64 j ∧ ∃ pre : List KElt, Hid (pre.map (·.1) = (ks.zip sl).take j) ∧ Hid (J pre wr) ∧ KeepC S w2 wr) (fun ii _ => ks.length - (intOf ii).toNat)
  case atStart => exact ⟨0, by omega, rfl, [], Lib.hid rfl, HJ2, KeepC.of_below (Below.refl _ _)⟩
  case round =>
    obtain ⟨j, hj, rfl, pre, hpre, hJp, hkeep⟩ := hrel
    by_cases h1 : j < ks.length
    · obtain ⟨k, hk⟩ : ∃ k, ks[j]? = some k := ⟨_, List.getElem?_eq_getElem h1⟩
      obtain ⟨u, hu⟩ : ∃ u, sl[j]? = some u := ⟨_, List.getElem?_eq_getElem (by have := HSL.out; omega)⟩
      have hu0 := HC4.out j u hu
      obtain ⟨g, m, curm, rfl, m1, m2, _⟩ := HOK.out u (List.mem_of_getElem? hu)
      have hrk := HR.out k (List.mem_of_getElem? hk)
      have hb3 := hkeep.cells g3 _ _ _ HH3.out NS3.out
      have hb4 := hkeep.cells g4 _ _ _ HH4.out NS4.out
      have q0 : wr.cell? ⟨g3, j * 3, none⟩ = some (.int .i8 (kR k)) := by simp only [World.cell?, hb3]; exact HC3.out _ _ (pcs_at ks j k 0 _ hk rfl)
      have q1 : wr.cell? ⟨g3, j * 3 + 1, none⟩ = some (.int .i8 (kC k)) := by simp only [World.cell?, hb3]; exact HC3.out _ _ (pcs_at ks j k 1 _ hk rfl)
      have q2 : wr.cell? ⟨g3, j * 3 + 2, none⟩ = some (.bool (kF k)) := by simp only [World.cell?, hb3]; exact HC3.out _ _ (pcs_at ks j k 2 _ hk rfl)
      have hlt4 := (Array.getElem?_eq_some_iff.1 hb4).1
      obtain ⟨W1, hW1⟩ : ∃ W1, wr.alloc (.cells #[.int .i8 (kR k), .int .i8 (kC k), .bool (kF k)] 32) = W1 := ⟨_, rfl⟩
      have hbW : Below wr.heap.size wr W1 := by rw [← hW1]; exact (Below.refl _ _).alloc (Nat.le_refl _) _
      have hcW : CellsAt W1 wr.heap.size 0 (pcells k) := by rw [← hW1]; exact cellsAt_alloc _ _ _ _
      have d0 : W1.cell? ⟨wr.heap.size, 0, none⟩ = some (.int .i8 (kR k)) := hcW 0 _ rfl
      have d1 : W1.cell? ⟨wr.heap.size, 1, none⟩ = some (.int .i8 (kC k)) := hcW 1 _ rfl
      have d2 : W1.cell? ⟨wr.heap.size, 2, none⟩ = some (.bool (kF k)) := hcW 2 _ rfl
      have v0 : W1.cell? ⟨g4, j, none⟩ = some (.slice (some ⟨g, 0, none⟩) m m) := (hbW.cell (p := ⟨g4, j, none⟩) hlt4).trans (by simp only [World.cell?, hb4]; exact hu0)
      have hbd := hbW.trans (Below.drew (Below.refl wr.heap.size W1) |>.mono (Nat.le_refl _))
      have hJ1 := alloc_abides HJ.out hJp.out hbd
      have hlen : pre.length < ks.length := by
        have := congrArg List.length hpre.out
        rw [List.length_map, List.length_take, List.length_zip] at this
        have := HSL.out
        omega
      obtain ⟨fn, tmps, assign, body, hy, hR⟩ := HY.out pre ⟨(k, .slice (some ⟨g, 0, none⟩) m m), hrk, g, m, rfl, m1, m2⟩ _ hJ1 hlen
      have HP := Lib.hid (hR.mono (fun e W' h => (show ∃ bb : Bool, e = .returned (.bool bb) ∧ (bb = true → J (pre ++ [⟨(k, .slice (some ⟨g, 0, none⟩) m m), hrk, g, m, rfl, m1, m2⟩]) W' ∧ KeepC S W1.drew W') ∧ (bb = false → Jx (pre ++ [⟨(k, .slice (some ⟨g, 0, none⟩) m m), hrk, g, m, rfl, m1, m2⟩]) W') by
        rcases h with ⟨rfl, hj, hk⟩ | ⟨rfl, hj⟩
        · exact ⟨true, rfl, (fun _ => ⟨hj, hk⟩), (fun h => by cases h)⟩
        · exact ⟨false, rfl, (fun h => by cases h), fun _ => hj⟩)))
      dsimp only [kenc, pcells] at hy
      have hz : (ks.zip sl)[j]? = some (k, .slice (some ⟨g, 0, none⟩) m m) := by rw [List.getElem?_zip_eq_some]; exact ⟨hk, hu⟩
      have HZ := Lib.hid hz
      clear hz
      have HK := Lib.hid hk
      have HU := Lib.hid hu
      have hmx : Try.prog.follows .mixedOrders = true := by kernel_rfl
      have hl4 : g4 < W1.heap.size := Nat.lt_of_lt_of_le hlt4 hbW.size
      have hlW : wr.heap.size < W1.heap.size := by rw [← hW1]; simp
      have HKD := Lib.hid (hkeep.trans (KeepC.of_below hbd))
      clear hR hk hu hu0 hb3 hb4 hcW hbW hbd hJ1 hlt4
      gi_wp2
      gi_region_with_o (refine ⟨fun h => by first | cases h | (simp [Fence.wide] at h), ?_⟩; refine HP.out.mono ?_; rintro e W3 ⟨bb, rfl, hP⟩)
      all_goals
        have HPX := Lib.hid hP
        clear hP
        cases bb
        · gi_wp2
          refine bodyPost_ret (results_none rfl _ _ _) rfl ?_
          refine ⟨⟨_, rfl⟩, .inr ⟨_, ?_, HPX.out.2 (by first | rfl | trivial)⟩⟩
          have h : (ks.zip sl).take (j + 1) <+: ks.zip sl := List.take_prefix _ _
          rw [List.take_add_one, HZ.out, ← hpre.out] at h
          rw [List.map_append]
          exact h
        · gi_wp2
          go_roundw
          case rel =>
            refine ⟨j + 1, by omega, by go_num, _, Lib.hid ?_, Lib.hid (HPX.out.1 (by first | rfl | trivial)).1, HKD.out.trans (HPX.out.1 (by first | rfl | trivial)).2⟩
            rw [List.map_append, hpre.out, List.take_add_one, HZ.out]
            rfl
          case measure => simp [intOf]; omega
    · have hall := hpre.out
      rw [List.take_of_length_le (by rw [List.length_zip]; have := HSL.out; omega)] at hall
      have HALL := Lib.hid hall
      clear hall
      gi_wp2
      go_end0
      exact ⟨⟨_, rfl⟩, .inl ⟨_, HALL.out, hJp.out⟩⟩
end Go.Proofs.Ytnmnmkdmnohbmaa
