/- TreeWalkGets: the walk over the law. Conditions: none. -/
import Derived.Test.YtnmnmkdmnohbmaaDoorPackH
import Derived.Test.YtnmnmkdmnohbmaaDoorKnown
namespace Go.Proofs.YtnmnmkdmnohbmaaDoor
open Go Go.RowKit Go.Shelf
attribute [local go_sem] run_store_float Oper.semAt_some undef

theorem three_boxes (w : World) (E : Int) : ∃ W4, ((w.alloc (.cells #[.int .i64 E] 30)).alloc (.cells #[.int .i64 0] 3)).alloc (.cells #[.int .i64 0] 3) = W4 ∧ Below w.heap.size w W4 ∧ W4.heap.size = w.heap.size + 3 ∧
    Boxed W4 w.heap.size 30 (.int .i64 E) ∧ Boxed W4 (w.heap.size + 1) 3 (.int .i64 0) ∧ Boxed W4 (w.heap.size + 1 + 1) 3 (.int .i64 0) := by
  refine ⟨_, rfl, (((Below.refl _ _).alloc (Nat.le_refl _) _).alloc (by simp) _).alloc (by simp; omega) _, by simp, ((Boxed.new w _ _).alloc _).alloc _, ?_, ?_⟩
  · have := Boxed.new (w.alloc (.cells #[.int .i64 E] 30)) 3 (.int .i64 0)
    rw [World.size_alloc] at this
    exact this.alloc _
  · have := Boxed.new ((w.alloc (.cells #[.int .i64 E] 30)).alloc (.cells #[.int .i64 0] 3)) 3 (.int .i64 0)
    rw [World.size_alloc, World.size_alloc] at this
    exact this

theorem wg_shape {B : Nat} {w : World} {v : V} {cs : Array Value} (h : IsV B w v cs) : ∃ k b i f t ty p n c q m d, cs = vcells k b i f t ty p n c q m d := by
  obtain ⟨k, b, i, f, t, ty, its, fs⟩ := v
  obtain ⟨p, c, q, d, rfl, _⟩ := h
  exact ⟨_, _, _, _, _, _, _, _, _, _, _, _, rfl⟩
/-- What the boxes hold between two rounds. -/
def Wg (s3 n0 : Nat) (cs : Array Value) (E : Int) (v : V) (W5 : World) (pre : List Wp) (W : World) : Prop :=
  ((((∃ n d : Int, (Boxed W (s3 + 1) 3 (.int .i64 n) ∧ Boxed W (s3 + 1 + 1) 3 (.int .i64 d)) ∧ (pre.map Wp.pv <+: partsV [] v → n = pre.length ∧ d = lastLen (pre.map Wp.pv))) ∧
    Boxed W s3 30 (.int .i64 E)) ∧ Boxed W (n0 + 1) 4 (.bool false)) ∧ W.heap[n0]? = some (.cells cs 27 (0, 0))) ∧ Below n0 W5 W
theorem wg_own {s3 n0 B : Nat} {cs : Array Value} {E : Int} {v : V} {W5 : World} (h5 : n0 ≤ W5.heap.size) (hB : n0 ≤ B) : OwnFrom B (Wg s3 n0 cs E v W5) :=
  OwnFrom.and (OwnFrom.and (OwnFrom.and (OwnFrom.and (fun s A B' row hs hg hr => by
    obtain ⟨n, d, ⟨h1, h2⟩, h3⟩ := hs
    exact ⟨n, d, ⟨cells_own () A B' row h1 hg hr, cells_own () A B' row h2 hg hr⟩, h3⟩) (Own.from (boxed_own _ _ _) _)) (Own.from (boxed_own _ _ _) _)) (fun _ => cells_own ())) (ownFrom_below h5 hB)

theorem still_set {X : Nat → Prop} {B g o : Nat} {W : World} {u : Value} (hX : ¬ X g) (hB : g < B) : Still X B W (W.setCell ⟨g, o, none⟩ u) :=
  ⟨rfl, rfl, rfl, by simp [World.setCell], fun k hk _ => Below.heap_setCell _ _ _ _ (fun e => by
    obtain rfl : k = g := e
    rcases hk with hk | hk
    · exact hX hk
    · omega)⟩
theorem lastLen_le {v : V} {pre : List (List St × V)} (h : pre <+: partsV [] v) : lastLen pre ≤ szV v := by
  unfold lastLen
  cases hg : pre.getLast? with
  | none => simp
  | some x =>
    have hm : x ∈ pre := List.mem_of_getLast? hg
    have := parts_path _ v (Nat.le_refl _) x (h.subset hm)
    simp only
    omega
/-- What a prefix of the parts says of the next one. -/
theorem wg_key {v : V} {pre : List (List St × V)} {path : List St} {u : V} (h : pre ++ [(path, u)] <+: partsV [] v) :
    path.length ≤ lastLen pre + 1 ∧ lastLen pre ≤ szV v ∧ (pre.length = 0 ↔ path.length = 0) ∧ pre.length < (partsV [] v).length ∧ ((sndV v).2 = 0 → getV v path = some u) := by
  have hp : pre <+: partsV [] v := (List.prefix_append _ _).trans h
  refine ⟨walk_rises v h, lastLen_le hp, ?_, ?_, fun hs => ?_⟩
  · have := walk_root v h
    simpa [List.length_eq_zero_iff] using this
  · have := h.length_le
    simp at this
    omega
  · exact get_part _ v (Nat.le_refl _) hs (path, u) (h.subset (by simp))
theorem wg_ar (P L m : Nat) (q1 : m ≤ L + 1) (hL : L ≤ 100000) (hP : P ≤ 100000) (q3 : P = 0 ↔ m = 0) : wrap64 ((P : Int) + 1) = P + 1 ∧ ¬ (wrap64 ((L : Int) + 1) < m) ∧ ((P : Int) == 0) = ((m : Int) == 0) := by
  refine ⟨by unfold wrap64; omega, by unfold wrap64; omega, ?_⟩
  by_cases h : m = 0
  · have := q3.2 h
    simp [h, this]
  · have : P ≠ 0 := fun e => h (q3.1 e)
    simp only [beq_eq_false_iff_ne.2 (show ((P : Int)) ≠ 0 by omega), beq_eq_false_iff_ne.2 (show ((m : Int)) ≠ 0 by omega)]
theorem wg_next {s3 n0 : Nat} {cs : Array Value} {E : Int} {v : V} {W5 V U : World} {pre : List Wp} {x : Wp} (h : Wg s3 n0 cs E v W5 pre V) (h3 : n0 + 2 ≤ s3) (hs : W5.heap.size = s3 + 3 + 1) (hU : Below V.heap.size V U) (n' : Int)
    (hn : ((pre ++ [x]).map Wp.pv <+: partsV [] v) → n' = pre.length + 1) :
    Still (fun k => k < n0 ∨ k = s3 + 3) W5.heap.size V ((U.setCell ⟨s3 + 1 + 1, 0, none⟩ (.int .i64 x.path.length)).setCell ⟨s3 + 1, 0, none⟩ (.int .i64 n')) ∧ Wg s3 n0 cs E v W5 (pre ++ [x]) ((U.setCell ⟨s3 + 1 + 1, 0, none⟩ (.int .i64 x.path.length)).setCell ⟨s3 + 1, 0, none⟩ (.int .i64 n')) := by
  obtain ⟨⟨⟨⟨⟨n, d, ⟨h1, h2⟩, h3'⟩, hE⟩, hr⟩, hv⟩, hB⟩ := h
  have k1 : Boxed U (s3 + 1) 3 (.int .i64 n) := (hU.block _ h1.lt).trans h1
  have k2 : Boxed U (s3 + 1 + 1) 3 (.int .i64 d) := (hU.block _ h2.lt).trans h2
  have kE : Boxed U s3 30 (.int .i64 E) := (hU.block _ hE.lt).trans hE
  have kr : Boxed U (n0 + 1) 4 (.bool false) := (hU.block _ hr.lt).trans hr
  have kv := (hU.block _ (Array.getElem?_eq_some_iff.1 hv).1).trans hv
  have hBU : Below n0 W5 U := hB.trans (hU.mono (Nat.le_trans (by omega : n0 ≤ W5.heap.size) hB.size))
  refine ⟨((Still.of_below hU).trans (still_set (by omega) (by omega))).trans (still_set (by omega) (by omega)), ⟨⟨⟨⟨n', x.path.length, ⟨(k1.other (by omega) _).set _, (k2.set _).other (by omega) _⟩, fun hp => ⟨by rw [hn hp]; simp, ?_⟩⟩, (kE.other (by omega) _).other (by omega) _⟩, (kr.other (by omega) _).other (by omega) _⟩, ?_⟩, ?_⟩
  · rw [List.map_append]
    simp only [List.map_cons, List.map_nil]
    rw [lastLen_snoc]
    rfl
  · rw [Below.heap_setCell _ _ _ _ (by simp; omega), Below.heap_setCell _ _ _ _ (by simp; omega)]
    exact kv
  · exact (hBU.setCell (p := ⟨s3 + 1 + 1, 0, none⟩) (by show n0 ≤ s3 + 1 + 1; omega) _).setCell (p := ⟨s3 + 1, 0, none⟩) (by show n0 ≤ s3 + 1; omega) _

set_option maxRecDepth 100000 in
set_option maxHeartbeats 4000000 in
theorem TreeWalkGets_walk (v : V) (cs : Array Value) (w : World) (hv : IsV w.heap.size w v cs) (hsh : shV v) (hT : TabsIn w) :
    Calls Tryd.prog 6 #[.agg cs] w (RetB (.bool true) w) := by
  have HV := Lib.hid hv
  have HSH := Lib.hid hsh
  have HT := Lib.hid hT
  obtain ⟨k, b, i, f, t, ty, its, fs⟩ := v
  obtain ⟨p, c, q, d, rfl, _, _, _, _⟩ := hv
  clear hsh hT
  obtain ⟨W0, hW0, hb0, hs0, hc0, hr0⟩ : ∃ W0, (w.alloc (.cells (vcells k b i f t ty p its.length c q fs.length d) 27)).alloc (.cells #[.bool false] 4) = W0 ∧ Below w.heap.size w W0 ∧ W0.heap.size = w.heap.size + 2 ∧ W0.heap[w.heap.size]? = some (.cells (vcells k b i f t ty p its.length c q fs.length d) 27 (0, 0)) ∧ Boxed W0 (w.heap.size + 1) 4 (.bool false) := by
    refine ⟨_, rfl, ((Below.refl _ _).alloc (Nat.le_refl _) _).alloc (by simp) _, by simp, (Below.heap_alloc _ _ _ (by simp)).trans (heap_new w _), ?_⟩
    have := Boxed.new (w.alloc (.cells (vcells k b i f t ty p its.length c q fs.length d) 27)) 4 (.bool false)
    rwa [World.size_alloc] at this
  have HB0 := Lib.hid hb0
  have HC0 := Lib.hid hc0
  have HR0 := Lib.hid hr0
  have hl0 : w.heap.size < W0.heap.size := by omega
  have hl1 : w.heap.size + 1 < W0.heap.size := by omega
  clear hb0 hc0 hr0
  have hnf : ∀ (fn : Fn) (x y : Array Value) (W : World), (binOp .eql 70 (.func fn x y) .nilFunc).run Tryd.prog W = .ok (.bool false) W := fun _ _ _ _ => rfl
  refine (callsIn_wide (n := 20)).1 ?_
  refine callsIn_of_wp_marks Tryd.func6 rfl trivial ?_ rfl
  simp only [Tryd.ntmps6, List.size_toArray, List.length_cons, List.length_nil, Nat.reduceAdd, Nat.reduceSub, Array.replicate_succ, Array.replicate_zero, List.push_toArray, List.append_toArray, List.nil_append, List.cons_append]
  have tk := trivial
  have tk2 := trivial
  by_cases hz : 100000 < sizeR (V.mk k b i f t ty its fs) 100000
  · have dz : decide (100000 < sizeR (V.mk k b i f t ty its fs) 100000) = true := by simp [hz]
    gi_wp2_with (first
      | (refine ⟨trivial, ?_⟩; gi_at_call 32; clear tk; refine (callsIn_wide.2 (known_any _)).mono ?_; rintro e w1 ⟨rfl, hb1⟩; obtain ⟨a0, a1, a2, a3, a4, a5, a6, a7⟩ := (block_of_cells ((hb1.block _ hl0).trans HC0.out)).all0; have HB1 := Lib.hid hb1; clear hb1)
      | (refine ⟨trivial, ?_⟩; gi_at_call 13; clear tk2; refine (callsIn_wide.2 (Size_any _ (V.mk k b i f t ty its fs) (Nat.le_refl _) _ _ 100000 (HV.out.on (HB0.out.trans (HB1.out.mono HB0.out.size))) (by decide) (by decide))).mono ?_; rintro e w2 ⟨rfl, hb2⟩; have hB2 := HB1.out.trans (hb2.mono HB1.out.size); have hbx : Boxed w2 (w.heap.size + 1) 4 (.bool false) := (hB2.block _ hl1).trans HR0.out; have cbx := hbx.cell; have fbx := hbx.frozen; have HBX := Lib.hid hbx; have HB2 := Lib.hid hB2; clear hb2 hB2 hbx))
    have hx1 := HBX.out.set (.bool true)
    have hbw : Below w.heap.size w (w2.setCell ⟨w.heap.size + 1, 0, none⟩ (.bool true)) := (HB0.out.trans (HB2.out.mono HB0.out.size)).setCell (p := ⟨w.heap.size + 1, 0, none⟩) (by show w.heap.size ≤ w.heap.size + 1; omega) _
    generalize w2.setCell ⟨w.heap.size + 1, 0, none⟩ (.bool true) = w9 at *
    have d1 := hx1.cell
    refine ⟨.bool true, ?_, rfl, hbw⟩
    simp [results, Tryd.results6, go_sem, d1]
  · have hsv : szV (V.mk k b i f t ty its fs) ≤ 100000 := by have := sizeR_eq (V.mk k b i f t ty its fs) 100000 (by omega); omega
    have dz : decide (100000 < sizeR (V.mk k b i f t ty its fs) 100000) = false := by simp; omega
    have HSV := Lib.hid hsv
    clear hz hsv
    have tk3 := trivial
    have tk4 := trivial
    have HSO := Lib.hid (show ∀ w4, Below w.heap.size w w4 → Calls Tryd.prog 12 #[.agg (vcells k b i f t ty p its.length c q fs.length d)] w4 (SndP (V.mk k b i f t ty its fs) w4) from fun w4 hb => Sound_any _ (V.mk k b i f t ty its fs) (Nat.le_refl _) _ w4 (HV.out.on hb) (by have := HSV.out; omega) HSH.out (HT.out.on hb))
    unfold SndP at HSO
    have hce : ∃ E, (sndV (V.mk k b i f t ty its fs)).2 = E := ⟨_, rfl⟩
    obtain ⟨E, hE⟩ := hce
    rw [hE] at HSO
    have HE := Lib.hid hE
    clear hE
    gi_wp2_with (first
      | (refine ⟨trivial, ?_⟩; gi_at_call 32; clear tk; refine (callsIn_wide.2 (known_any _)).mono ?_; rintro e w1 ⟨rfl, hb1⟩; obtain ⟨a0, a1, a2, a3, a4, a5, a6, a7⟩ := (block_of_cells ((hb1.block _ hl0).trans HC0.out)).all0; have HB1 := Lib.hid hb1; clear hb1)
      | (refine ⟨trivial, ?_⟩; gi_at_call 13; clear tk2; refine (callsIn_wide.2 (Size_any _ (V.mk k b i f t ty its fs) (Nat.le_refl _) _ _ 100000 (HV.out.on (HB0.out.trans (HB1.out.mono HB0.out.size))) (by decide) (by decide))).mono ?_; rintro e w2 ⟨rfl, hb2⟩; have hB2 := HB1.out.trans (hb2.mono HB1.out.size); clear a0 a1 a2 a3 a4 a5 a6 a7; obtain ⟨a0, a1, a2, a3, a4, a5, a6, a7⟩ := (block_of_cells ((hB2.block _ hl0).trans HC0.out)).all0; have HB2 := Lib.hid hB2; clear hb2 hB2)
      | (refine ⟨trivial, ?_⟩; gi_at_call 12; go_loud (clear tk3; refine (callsIn_wide.2 (HSO.out _ (HB0.out.trans (HB2.out.mono HB0.out.size)))).mono ?_; rintro e w3 ⟨sv3, rfl, _, hb3⟩; have hB3 := HB2.out.trans (hb3.mono HB2.out.size); clear a0 a1 a2 a3 a4 a5 a6 a7; obtain ⟨W4, hW4, hb4, hs4, hE4, hn4, hd4⟩ := three_boxes w3 E; have hv4 := (hb4.block _ (Nat.lt_of_lt_of_le hl0 hB3.size)).trans ((hB3.block _ hl0).trans HC0.out); subst hW4; obtain ⟨a0, a1, a2, a3, a4, a5, a6, a7⟩ := (block_of_cells hv4).all0; have HB3 := Lib.hid hB3; have HV4 := Lib.hid hv4; have hsz3 : w.heap.size + 2 ≤ w3.heap.size := (by have := hB3.size; omega); clear hb3 hB3 hb4 hE4 hn4 hd4 hv4))
      | (refine ⟨trivial, ?_⟩; gi_at_call 33; clear tk4; refine (callsIn_wide.2 (Walk_any _ _)).mono ?_; rintro e wk ⟨rfl, rfl⟩))
    obtain ⟨W4, hW4, hb4, hs4, hE4, hn4, hd4⟩ := three_boxes w3 E
    have hv4 := HV4.out
    clear HV4
    rw [hW4] at hv4 ⊢
    clear hW4 a0 a1 a2 a3 a4 a5 a6 a7
    have hc4 : CellsAt W4 w.heap.size 0 (vcells k b i f t ty p its.length c q fs.length d) := block_of_cells hv4
    have hz4 : w.heap.size + 2 ≤ w3.heap.size := hsz3
    have hB4 : Below w.heap.size w W4 := HB0.out.trans (HB3.out.trans (hb4.mono HB3.out.size) |>.mono HB0.out.size)
    have hr4 : Boxed W4 (w.heap.size + 1) 4 (.bool false) := (hb4.block _ (by omega)).trans ((HB3.out.block _ hl1).trans HR0.out)
    obtain ⟨W5, hW5, hb5, hs5, hc5⟩ : ∃ W5, W4.alloc (.cells #[.int .i64 k, .bool b, .int .i64 i, .float .f64 f, .string t, .string ty, .slice p its.length c, .slice q fs.length d] 27) = W5 ∧ Below W4.heap.size W4 W5 ∧ W5.heap.size = W4.heap.size + 1 ∧ CellsAt W5 W4.heap.size 0 (vcells k b i f t ty p its.length c q fs.length d) := ⟨_, rfl, (Below.refl _ _).alloc (Nat.le_refl _) _, by simp, cellsAt_alloc _ _ _ _⟩
    rw [hW5]
    clear hW5
    have hB5 := hB4.trans (hb5.mono hB4.size)
    have hT := walk_tells _ (.mk k b i f t ty its fs) (Nat.le_refl _) 19 w.heap.size W4.heap.size (vcells k b i f t ty p its.length c q fs.length d) W5 (by omega) hB5.size hc5 (HV.out.below hB5 (Nat.le_refl _)) (by have := HSV.out; omega)
    have HTELL := Lib.hid hT
    have hI0 : Wg w3.heap.size w.heap.size (vcells k b i f t ty p its.length c q fs.length d) E (.mk k b i f t ty its fs) W5 [] W5 :=
      ⟨⟨⟨⟨⟨0, 0, ⟨(hb5.block _ (by omega)).trans hn4, (hb5.block _ (by omega)).trans hd4⟩, fun _ => ⟨rfl, rfl⟩⟩, (hb5.block _ (by omega)).trans hE4⟩, (hb5.block _ (by omega)).trans hr4⟩, (hb5.block _ (by omega)).trans hv4⟩, Below.refl _ _⟩
    have HI0 := Lib.hid hI0
    have HB5 := Lib.hid hB5
    rw [hs4] at hs5 HTELL
    clear hb5 hb4 hT hI0 hB5 hB4 hc5 hr4 hv4 hc4 hn4 hd4 hE4 HB0 HC0 HR0 HB1 HB2 HB3 hs4 HSO
    refine wpIn_range_out rfl (by decide) (gf := 74) (lb := #[.pointer (some ⟨w3.heap.size + 3, 0, none⟩)]) rfl trivial (enters_of Tryd.func74 (by kernel_rfl) rfl) HTELL.out
      (fun k hk => by rcases hk with hk | hk <;> omega) (Below.refl _ _) (fun _ => rfl)
      (Wg w3.heap.size w.heap.size (vcells k b i f t ty p its.length c q fs.length d) E (.mk k b i f t ty its fs) W5)
      (fun cc pre V => cc = .ret ∧ ¬ (pre.map Wp.pv <+: partsV [] (.mk k b i f t ty its fs)))
      (wg_own HB5.out.size HB5.out.size) (fun cc s A B row hs hg hr => hs) HI0.out
      (fun x a' V => (WOk w.heap.size (szV (.mk k b i f t ty its fs)) x V ∧ w.heap.size ≤ V.heap.size) ∧ ∃ B3, V.heap[B3]? = some (.cells x.cs 27 (0, 0)) ∧ a' = { tmps := #[.agg (vcells k b i f t ty p its.length c q fs.length d), .pointer (some ⟨w.heap.size, 0, none⟩), .pointer (some ⟨w.heap.size + 1, 0, none⟩), sv3, .pointer (some ⟨w3.heap.size, 0, none⟩), .pointer (some ⟨w3.heap.size + 1, 0, none⟩), .pointer (some ⟨w3.heap.size + 1 + 1, 0, none⟩), .func (.func 74) #[] #[.pointer (some ⟨w3.heap.size + 3, 0, none⟩)], x.sv, .pointer (some ⟨B3, 0, none⟩), undef, undef, .bool true, .bool false, .agg (vcells k b i f t ty p its.length c q fs.length d), .int .i64 (sizeR (.mk k b i f t ty its fs) 100000), .bool false, .tuple #[sv3, .int .i64 E], .agg (vcells k b i f t ty p its.length c q fs.length d), .tuple #[sv3, .int .i64 E], sv3, .int .i64 E, .agg (vcells k b i f t ty p its.length c q fs.length d), .func (.func 74) #[] #[.pointer (some ⟨w3.heap.size + 3, 0, none⟩)], .func (.func 74) #[] #[.pointer (some ⟨w3.heap.size + 3, 0, none⟩)], .bool false, .func (.func 74) #[] #[.pointer (some ⟨w3.heap.size + 3, 0, none⟩)], x.sv, .agg x.cs, undef, undef, undef, undef, undef, undef, undef, undef, undef, undef, undef, undef, undef, undef, undef, undef, undef, undef, undef, undef, undef, undef, undef, undef, undef, undef, undef, undef, undef, undef, undef, undef, undef, undef, undef, undef, undef, undef, undef], defers := [] })
      ?hAx ?assign ?body ?done ?stop
    case hAx =>
      rintro x a' _ A B row ⟨h1, B3, h3, h4⟩ hg hr
      exact ⟨wok_own x HB5.out.size () A B row h1 hg hr, B3, cells_own () A B row h3 hg hr, h4⟩
    case assign =>
      rintro l pre ⟨zsv, zpath, zu, zcs⟩ V K hI hok hK
      have hok0 := hok
      obtain ⟨hok1, hok2, hok3⟩ := hok
      dsimp only at hok1 hok2 hok3
      obtain ⟨zk, zb, zi, zf, zt, zty, zits, zfs⟩ := zu
      obtain ⟨zp, zc, zq, zd, hcs, _⟩ := hok3
      subst hcs
      dsimp only [wEnc]
      have HI := Lib.hid hI
      clear hI
      gi_wp2
      have hbA : Below V.heap.size V (V.alloc (.cells #[.int .i64 zk, .bool zb, .int .i64 zi, .float .f64 zf, .string zt, .string zty, .slice zp zits.length zc, .slice zq zfs.length zd] 27)) := (Below.refl _ _).alloc (Nat.le_refl _) _
      have hnV : w.heap.size ≤ V.heap.size := Nat.le_trans HB5.out.size HI.out.2.size
      refine hK _ _ (Still.of_below hbA) (ownFrom_grow (wg_own HB5.out.size HB5.out.size) HI.out hbA) ⟨⟨⟨hok0.1, hok0.2.1.kept (grown_of_below hbA none) (by cases zsv.ownBlock <;> simp), hok0.2.2.below (hbA.mono hnV) (Nat.le_refl _)⟩, Nat.le_trans hnV hbA.size⟩, V.heap.size, heap_new _ _, rfl⟩
    case body =>
      rintro l pre ⟨zsv, zpath, zu, zcs⟩ a' V hl hrl hI ⟨⟨⟨hok1, hok2, hok3⟩, hnV⟩, B3, bZ, rfl⟩
      dsimp only at hok1 hok2 hok3 bZ
      have hI0 := hI
      obtain ⟨⟨⟨⟨⟨n, dp, ⟨hn, hd⟩, hnd⟩, hE⟩, hr⟩, hvb⟩, hB⟩ := hI
      have HI := Lib.hid hI0
      clear hI0
      obtain ⟨pp, pc, rfl, hpl, hcm, hst⟩ := row_steps hok2
      have HZV := Lib.hid (hok3.below (Below.refl _ _) hnV)
      have HST := Lib.hid hst
      have hvV := HV.out.below (HB5.out.trans hB) (Nat.le_trans HB5.out.size hB.size)
      have HVV := Lib.hid hvV
      have HND := Lib.hid hnd
      have HB := Lib.hid hB
      have HN := Lib.hid hn
      have HD := Lib.hid hd
      have HE4 := Lib.hid hE
      have HRT := Lib.hid hr
      have HVB := Lib.hid hvb
      have HBZ := Lib.hid bZ
      have lz : B3 < V.heap.size := (Array.getElem?_eq_some_iff.1 bZ).1
      have ln := hn.lt
      have ld := hd.lt
      have lE := hE.lt
      have lr := hr.lt
      have lv : w.heap.size < V.heap.size := (Array.getElem?_eq_some_iff.1 hvb).1
      obtain ⟨zk, zb, zi, zf, zt, zty, zp, zn, zc, zq, zm, zd, rfl⟩ := wg_shape hok3
      obtain ⟨a0, a1, a2, a3, a4, a5, a6, a7⟩ := (block_of_cells hvb).all0
      clear hok2 hok3 hst hvV hnd hB hn hd hE hr hvb bZ
      unfold maxLen at hcm
      have hlm : zpath.length ≤ 1000000 := by have := HSV.out; have := szV_pos zu; omega
      have HGET := Lib.hid (Get_any (.mk k b i f t ty its fs) zpath _ pp pc V HVV.out HST.out (by unfold maxLen; omega) (by have := HSV.out; omega))
      unfold GetPost at HGET
      obtain ⟨go, hgo⟩ : ∃ go, (getV (.mk k b i f t ty its fs) zpath).getD V0 = go := ⟨_, rfl⟩
      obtain ⟨bo, hbo⟩ : ∃ bo, (getV (.mk k b i f t ty its fs) zpath).isSome = bo := ⟨_, rfl⟩
      rw [hgo, hbo] at HGET
      have HGO := Lib.hid hgo
      have HBO := Lib.hid hbo
      clear hgo hbo
      obtain ⟨be, hbe⟩ : ∃ be, eqV go zu = be := ⟨_, rfl⟩
      have HBE := Lib.hid hbe
      obtain ⟨m, hm⟩ : ∃ m, zpath.length = m := ⟨_, rfl⟩
      rw [hm] at HGET hlm ⊢
      have HM := Lib.hid hm
      clear hbe hm hpl
      have tk := trivial
      have tk2 := trivial
      have hkey : (pre ++ [({ sv := .slice pp m pc, path := zpath, u := zu, cs := vcells zk zb zi zf zt zty zp zn zc zq zm zd } : Wp)]).map Wp.pv <+: partsV [] (YtnmnmkdmnohbmaaDoor.V.mk k b i f t ty its fs) → (wrap64 (n + 1) = pre.length + 1 ∧ ¬ (wrap64 (dp + 1) < m) ∧ (n == 0) = ((m : Int) == 0)) ∧ (E = 0 → bo = true ∧ be = true) := by
        intro hp
        rw [List.map_append] at hp
        have hp' : pre.map Wp.pv ++ [(zpath, zu)] <+: partsV [] (YtnmnmkdmnohbmaaDoor.V.mk k b i f t ty its fs) := hp
        obtain ⟨q1, q2, q3, q4, q5⟩ := wg_key hp'
        obtain ⟨rfl, rfl⟩ := HND.out ((List.prefix_append _ _).trans hp')
        have hc := parts_len _ (YtnmnmkdmnohbmaaDoor.V.mk k b i f t ty its fs) (Nat.le_refl _) []
        have hsv := HSV.out
        rw [List.length_map] at q3 q4
        rw [HM.out] at q1 q3
        have hcs := cntV_le (YtnmnmkdmnohbmaaDoor.V.mk k b i f t ty its fs)
        refine ⟨wg_ar _ _ _ q1 (Nat.le_trans q2 hsv) (Nat.le_trans (Nat.le_of_lt q4) (Nat.le_trans (Nat.le_of_eq hc) (Nat.le_trans hcs hsv))) q3, fun h0 => ?_⟩
        · have hg := q5 (by rw [HE.out]; exact h0)
          have h1 := HBO.out
          have h2 := HGO.out
          have h3 := HBE.out
          rw [hg] at h1 h2
          simp at h1 h2
          exact ⟨h1, by rw [← h3, ← h2]; exact eqV_refl _⟩
      have HKEY := Lib.hid hkey
      clear hkey
      obtain ⟨bE, hbE⟩ : ∃ bE, (E == 0) = bE := ⟨_, rfl⟩
      have HEQ := Lib.hid (fun (cg cz : Array Value) (W : World) (h1 : IsV W.heap.size W go cg) (h2 : IsV W.heap.size W zu cz) => Equal_any _ go (Nat.le_refl _) zu cg cz W h1 h2)
      rw [HBE.out] at HEQ
      have HW6 : Hid (∀ w6 gc, Below V.heap.size V w6 → ∃ W6, w6.alloc (.cells gc 27) = W6 ∧ Below V.heap.size V W6 ∧ Below w6.heap.size w6 W6 ∧ Boxed W6 w3.heap.size 30 (.int .i64 E) ∧ Boxed W6 (w3.heap.size + 1) 3 (.int .i64 n) ∧ Boxed W6 (w3.heap.size + 1 + 1) 3 (.int .i64 dp) ∧ Boxed W6 (w.heap.size + 1) 4 (.bool false) ∧
          CellsAt W6 B3 0 (vcells zk zb zi zf zt zty zp zn zc zq zm zd) ∧ CellsAt W6 w6.heap.size 0 gc) := Lib.hid (fun w6 gc hb6 => by
        have hA := hb6.alloc hb6.size (.cells gc 27)
        exact ⟨_, rfl, hA, (Below.refl _ _).alloc (Nat.le_refl _) _, (hA.block _ lE).trans HE4.out, (hA.block _ ln).trans HN.out, (hA.block _ ld).trans HD.out, (hA.block _ lr).trans HRT.out, block_of_cells ((hA.block _ lz).trans HBZ.out), cellsAt_alloc _ _ _ _⟩)
      rcases bE with _ | _
      · gi_wp2_with (first | (refine ⟨trivial, ?_⟩; gi_at_call 20; go_loud (clear tk; refine (CallsIn.inRound l (callsIn_wide.2 HGET.out)).mono ?_; rintro e w6 ⟨cg, bg, rfl, hown, -, hlow, hb6⟩; have hiv := hown.isV (fun z hz => (hlow z hz).2); obtain ⟨gk, gb, gi, gf, gt, gty, gp, gn, gc, gq, gm, gd, rfl⟩ := wg_shape hiv; obtain ⟨W6, hW6, hA, hA6, hE6, hn6, hd6, hr6, hz6, hg6⟩ := HW6.out w6 (vcells gk gb gi gf gt gty gp gn gc gq gm gd) hb6; have HA := Lib.hid hA; subst hW6; clear a0 a1 a2 a3 a4 a5 a6 a7 hown hlow hb6 hA hA6 hz6 hg6; have c0 := hE6.cell; have c1 := hn6.cell; have c2 := hd6.cell; have c3 := hr6.cell; have f1 := hn6.frozen; have f2 := hd6.frozen; have f3 := hr6.frozen; have HN6 := Lib.hid hn6; have HD6 := Lib.hid hd6; have HR6 := Lib.hid hr6; have HE6 := Lib.hid hE6; clear hn6 hd6 hr6 hE6 hiv)) | refine ⟨trivial, ?_⟩)
        · rename_i hq1 hq2
          exact ⟨(Still.of_below HA.out).trans (still_set (by omega) (by omega)), rfl, fun hp => absurd hq2 (Int.not_lt.2 (HKEY.out hp).1.2.1)⟩
        · have hx := wg_next (x := ⟨.slice pp m pc, zpath, zu, vcells zk zb zi zf zt zty zp zn zc zq zm zd⟩) HI.out hz4 hs5 HA.out _ (fun hp => (HKEY.out hp).1.1)
          dsimp only at hx
          rw [HM.out] at hx
          exact hx
        · rename_i hq1
          exact ⟨(Still.of_below HA.out).trans (still_set (by omega) (by omega)), rfl, fun hp => hq1 (HKEY.out hp).1.2.2⟩
      · have hE0 : E = 0 := by simpa using hbE
        have HE0 := Lib.hid hE0
        clear hE0
        rcases bo with _ | _
        · gi_wp2_with (first | (refine ⟨trivial, ?_⟩; gi_at_call 20; go_loud (clear tk; refine (CallsIn.inRound l (callsIn_wide.2 HGET.out)).mono ?_; rintro e w6 ⟨cg, bg, rfl, hown, -, hlow, hb6⟩; have hiv := hown.isV (fun z hz => (hlow z hz).2); obtain ⟨gk, gb, gi, gf, gt, gty, gp, gn, gc, gq, gm, gd, rfl⟩ := wg_shape hiv; obtain ⟨W6, hW6, hA, hA6, hE6, hn6, hd6, hr6, hz6, hg6⟩ := HW6.out w6 (vcells gk gb gi gf gt gty gp gn gc gq gm gd) hb6; have HA := Lib.hid hA; subst hW6; clear a0 a1 a2 a3 a4 a5 a6 a7 hown hlow hb6 hA hA6 hz6 hg6; have c0 := hE6.cell; have c1 := hn6.cell; have c2 := hd6.cell; have c3 := hr6.cell; have f1 := hn6.frozen; have f2 := hd6.frozen; have f3 := hr6.frozen; have HN6 := Lib.hid hn6; have HD6 := Lib.hid hd6; have HR6 := Lib.hid hr6; have HE6 := Lib.hid hE6; clear hn6 hd6 hr6 hE6 hiv)) | refine ⟨trivial, ?_⟩)
          exact ⟨(Still.of_below HA.out).trans (still_set (by omega) (by omega)), rfl, fun hp => absurd ((HKEY.out hp).2 HE0.out).1 (by decide)⟩
        · rcases be with _ | _
          · gi_wp2_with (first | (refine ⟨trivial, ?_⟩; gi_at_call 20; go_loud (clear tk; refine (CallsIn.inRound l (callsIn_wide.2 HGET.out)).mono ?_; rintro e w6 ⟨cg, bg, rfl, hown, -, hlow, hb6⟩; have hiv := hown.isV (fun z hz => (hlow z hz).2); have HIV := Lib.hid hiv; obtain ⟨gk, gb, gi, gf, gt, gty, gp, gn, gc, gq, gm, gd, rfl⟩ := wg_shape hiv; obtain ⟨W6, hW6, hA, hA6, hE6, hn6, hd6, hr6, hz6, hg6⟩ := HW6.out w6 (vcells gk gb gi gf gt gty gp gn gc gq gm gd) hb6; have HA := Lib.hid hA; subst hW6; clear a0 a1 a2 a3 a4 a5 a6 a7 hown hlow hb6; obtain ⟨d0, d1, d2, d3, d4, d5, d6, d7⟩ := hz6.all0; obtain ⟨g0, g1, g2, g3, g4, g5, g6, g7⟩ := hg6.all0; have HA6 := Lib.hid hA6; clear hA hA6 hz6 hg6; have c0 := hE6.cell; have c1 := hn6.cell; have c2 := hd6.cell; have c3 := hr6.cell; have f1 := hn6.frozen; have f2 := hd6.frozen; have f3 := hr6.frozen; have HN6 := Lib.hid hn6; have HD6 := Lib.hid hd6; have HR6 := Lib.hid hr6; have HE6 := Lib.hid hE6; clear hn6 hd6 hr6 hE6 hiv)) | (refine ⟨trivial, ?_⟩; gi_at_call 34; go_loud (clear tk2; refine (CallsIn.inRound l (callsIn_wide.2 (HEQ.out _ _ _ (HIV.out.on HA6.out) (HZV.out.on HA.out)))).mono ?_; rintro e w7 ⟨rfl, hb7⟩; clear c0 c1 c2 c3 f1 f2 f3 d0 d1 d2 d3 d4 d5 d6 d7 g0 g1 g2 g3 g4 g5 g6 g7; have hb7' := HA.out.trans (hb7.mono HA.out.size); have hn7 := (hb7.block _ HN6.out.lt).trans HN6.out; have hd7 := (hb7.block _ HD6.out.lt).trans HD6.out; have hr7 := (hb7.block _ HR6.out.lt).trans HR6.out; have c1 := Boxed.cell hn7; have c2 := Boxed.cell hd7; have c3 := Boxed.cell hr7; have f1 := Boxed.frozen hn7; have f2 := Boxed.frozen hd7; have f3 := Boxed.frozen hr7; have HB7 := Lib.hid hb7'; clear hb7 hb7' hn7 hd7 hr7)) | refine ⟨trivial, ?_⟩)
            exact ⟨(Still.of_below HB7.out).trans (still_set (by omega) (by omega)), rfl, fun hp => absurd ((HKEY.out hp).2 HE0.out).2 (by decide)⟩
          · gi_wp2_with (first | (refine ⟨trivial, ?_⟩; gi_at_call 20; go_loud (clear tk; refine (CallsIn.inRound l (callsIn_wide.2 HGET.out)).mono ?_; rintro e w6 ⟨cg, bg, rfl, hown, -, hlow, hb6⟩; have hiv := hown.isV (fun z hz => (hlow z hz).2); have HIV := Lib.hid hiv; obtain ⟨gk, gb, gi, gf, gt, gty, gp, gn, gc, gq, gm, gd, rfl⟩ := wg_shape hiv; obtain ⟨W6, hW6, hA, hA6, hE6, hn6, hd6, hr6, hz6, hg6⟩ := HW6.out w6 (vcells gk gb gi gf gt gty gp gn gc gq gm gd) hb6; have HA := Lib.hid hA; subst hW6; clear a0 a1 a2 a3 a4 a5 a6 a7 hown hlow hb6; obtain ⟨d0, d1, d2, d3, d4, d5, d6, d7⟩ := hz6.all0; obtain ⟨g0, g1, g2, g3, g4, g5, g6, g7⟩ := hg6.all0; have HA6 := Lib.hid hA6; clear hA hA6 hz6 hg6; have c0 := hE6.cell; have c1 := hn6.cell; have c2 := hd6.cell; have c3 := hr6.cell; have f1 := hn6.frozen; have f2 := hd6.frozen; have f3 := hr6.frozen; have HN6 := Lib.hid hn6; have HD6 := Lib.hid hd6; have HR6 := Lib.hid hr6; have HE6 := Lib.hid hE6; clear hn6 hd6 hr6 hE6 hiv)) | (refine ⟨trivial, ?_⟩; gi_at_call 34; go_loud (clear tk2; refine (CallsIn.inRound l (callsIn_wide.2 (HEQ.out _ _ _ (HIV.out.on HA6.out) (HZV.out.on HA.out)))).mono ?_; rintro e w7 ⟨rfl, hb7⟩; clear c0 c1 c2 c3 f1 f2 f3 d0 d1 d2 d3 d4 d5 d6 d7 g0 g1 g2 g3 g4 g5 g6 g7; have hb7' := HA.out.trans (hb7.mono HA.out.size); have hn7 := (hb7.block _ HN6.out.lt).trans HN6.out; have hd7 := (hb7.block _ HD6.out.lt).trans HD6.out; have hr7 := (hb7.block _ HR6.out.lt).trans HR6.out; have c1 := Boxed.cell hn7; have c2 := Boxed.cell hd7; have c3 := Boxed.cell hr7; have f1 := Boxed.frozen hn7; have f2 := Boxed.frozen hd7; have f3 := Boxed.frozen hr7; have HB7 := Lib.hid hb7'; clear hb7 hb7' hn7 hd7 hr7)) | refine ⟨trivial, ?_⟩)
            · rename_i hq1 hq2
              exact ⟨(Still.of_below HB7.out).trans (still_set (by omega) (by omega)), rfl, fun hp => absurd hq2 (Int.not_lt.2 (HKEY.out hp).1.2.1)⟩
            · have hx := wg_next (x := ⟨.slice pp m pc, zpath, zu, vcells zk zb zi zf zt zty zp zn zc zq zm zd⟩) HI.out hz4 hs5 HB7.out _ (fun hp => (HKEY.out hp).1.1)
              dsimp only at hx
              rw [HM.out] at hx
              exact hx
            · rename_i hq1
              exact ⟨(Still.of_below HB7.out).trans (still_set (by omega) (by omega)), rfl, fun hp => hq1 (HKEY.out hp).1.2.2⟩
    case done =>
      rintro D xs W hD hS hI hK
      have HI := Lib.hid hI
      obtain ⟨⟨⟨⟨⟨n, dp, ⟨hn, hd⟩, hnd⟩, hE⟩, hr⟩, hvb⟩, hB⟩ := hI
      obtain ⟨rfl, _⟩ := hnd (by rw [hS]; exact List.prefix_rfl)
      have hlen : xs.length = cntV (.mk k b i f t ty its fs) := by
        have := congrArg List.length hS
        rw [List.length_map, parts_len _ _ (Nat.le_refl _)] at this
        exact this
      have hmx : Tryd.prog.follows .mixedOrders = true := by kernel_rfl
      have hBW := HB5.out.trans hB
      have hvW := HV.out.below (hBW.trans ((Below.drew (Below.refl W.heap.size W)).mono hBW.size)) hBW.size
      have HC := Lib.hid (show Calls Tryd.prog 35 #[.agg (vcells k b i f t ty p its.length c q fs.length d)] W.drew (RetB (.int .i64 xs.length) W.drew) from by rw [hlen]; exact Count_any _ (.mk k b i f t ty its fs) (Nat.le_refl _) _ W.drew hvW (by have := HSV.out; omega))
      obtain ⟨a0, a1, a2, a3, a4, a5, a6, a7⟩ := (block_of_cells hvb).all0
      have c1 := hn.cell
      have c3 := hr.cell
      have f3 := hr.frozen
      have lr := hr.lt
      have HR := Lib.hid hr
      have HBW := Lib.hid hBW
      have HK := Lib.hid hK
      have HL := Lib.hid hlen
      have hl2 : w.heap.size < W.heap.size := (Array.getElem?_eq_some_iff.1 hvb).1
      have hln := hn.lt
      clear hn hd hE hr hvb hB hnd hBW hvW hK hlen
      obtain ⟨nx, hnx⟩ : ∃ nx, xs.length = nx := ⟨_, rfl⟩
      rw [hnx] at HC c1
      clear hnx HL hS
      gi_wp2_with (fail)
      refine wpIn_noexit ?_
      refine wpIn_wide.2 ?_
      have kc := cell_cls W
      refine wp_region_plan_below 4 [(0, [0, 1]), (1, [2]), (0, [3]), (2, [4])] hmx (by kernel_rfl) (fun _ _ _ _ h => h) ?_
      simp only [wpSegs, pickOps, List.getElem?_toArray, List.getElem?_cons_zero, List.getElem?_cons_succ]
      iterate 2 (go_big_quiet_step (fail))
      refine wpQuiet_nil ?_
      clear kc
      refine wpListC_want (by rfl) (fun K hK => ?_)
      go_step
      refine HC.out.mono ?_
      rintro e w6 ⟨rfl, hb6⟩
      refine hK _ _ (cls_of_below (Below.drew (Below.refl W.heap.size W) |>.trans hb6)) ?_
      clear hK K
      have hbd : Below W.heap.size W w6 := Below.drew (Below.refl W.heap.size W) |>.trans hb6
      have hr6 : Boxed w6 (w.heap.size + 1) 4 (.bool false) := (hbd.block _ lr).trans HR.out
      have c6 := hr6.cell
      have f6 := hr6.frozen
      have HBD := Lib.hid hbd
      have HR6 := Lib.hid hr6
      clear hb6 hbd hr6 a0 a1 a2 a3 a4 a5 a6 a7 c1 c3 f3
      refine wpListC_nil ?_
      go_big_quiet_step (fail)
      refine wpQuiet_nil ?_
      go_wp2_with fail
      gi_wp2
      have hne : D ≠ w.heap.size + 1 := by have := HB5.out.size; omega
      have hKD : (w6.setCell ⟨w.heap.size + 1, 0, none⟩ (.bool true)).heap[D]? = some (.deferred (some [])) := (Below.heap_setCell _ _ _ _ (by show D ≠ w.heap.size + 1; exact hne)).trans ((HBD.out.block _ (Array.getElem?_eq_some_iff.1 HK.out).1).trans HK.out)
      have hpo : Below (w.heap.size + 2) (w6.setCell ⟨w.heap.size + 1, 0, none⟩ (.bool true)) ((w6.setCell ⟨w.heap.size + 1, 0, none⟩ (.bool true)).putObj D (.deferred none)) :=
        ⟨rfl, rfl, rfl, by simp, fun k hk => World.putObj_heap_other (fun e => by have := HB5.out.size; omega)⟩
      have hfin := ((HBW.out.trans (HBD.out.mono HBW.out.size)).setCell (p := ⟨w.heap.size + 1, 0, none⟩) (by show w.heap.size ≤ w.heap.size + 1; omega) (.bool true)).trans (hpo.mono (by omega))
      have hbz : Boxed ((w6.setCell ⟨w.heap.size + 1, 0, none⟩ (.bool true)).putObj D (.deferred none)) (w.heap.size + 1) 4 (.bool true) :=
        (hpo.block (w.heap.size + 1) (by omega)).trans (HR6.out.set (.bool true))
      have hbc2 := hbz.cell
      refine ⟨by simp, .inl ⟨_, _, rfl, run_takeDeferred hKD, ?_⟩⟩
      refine ⟨.bool true, ?_, rfl, hfin⟩
      simp [results, Tryd.results6, go_sem, hbc2]
    case stop =>
      rintro D cc pre V hD hpre ⟨_, h⟩ _
      exact absurd hpre h
end Go.Proofs.YtnmnmkdmnohbmaaDoor
