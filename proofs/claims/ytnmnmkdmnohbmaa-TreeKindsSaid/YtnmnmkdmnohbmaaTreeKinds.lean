/- TreeKinds: the walk: the statement answers true of any two lists of small numbers. Conditions: none. -/
import Derived.Test.YtnmnmkdmnohbmaaKindS
import Derived.Test.YtnmnmkdmnohbmaaOpenU
import Derived.Test.YtnmnmkdmnohbmaaRound
import Derived.RangeFuncNested
import Derived.RangeFuncBox
import Derived.Laws.StructEq
namespace Go.Proofs.Ytnmnmkdmnohbmaa
open Go Go.RowKit Go.Maps Go.Shelf

theorem placed_far (w : World) : Calls Try.prog 15 #[.int .i64 131072] w (RetB (.agg (pcells 0)) w) := by
  have := placed_any 131072 w
  rwa [p_far] at this

theorem KeepC.set {S : Nat → Prop} (W : World) {g : Nat} (hg : S g) (j : Nat) (u : Value) : KeepC S W (W.setCell ⟨g, j, none⟩ u) :=
  ⟨by simp [World.setCell], fun k cur e fz hk hs => (Below.heap_setCell _ _ _ _ (fun e1 => hs (by rw [e1]; exact hg))).trans hk⟩

theorem cell_wrote {w : World} {g : Nat} {cur : Array Value} {e : TypeId} {fz : Nat × Nat} {z : Value} (h : w.heap[g]? = some (.cells cur e fz)) (hz : cur[0]? = some z) (u : Value) : (w.setCell ⟨g, 0, none⟩ u).cell? ⟨g, 0, none⟩ = some u ∧ g < (w.setCell ⟨g, 0, none⟩ u).heap.size := by
  have hs := heap_setCell_same (j := 0) h u
  have := (Array.getElem?_eq_some_iff.1 hz).1
  refine ⟨?_, (Array.getElem?_eq_some_iff.1 hs).1⟩
  simp only [World.cell?, hs]
  exact Array.getElem?_setIfInBounds_self_of_lt this

theorem places_ne {a b : Int} (ha : 0 ≤ a) (ha' : a < 65536) (hb : 0 ≤ b) (hb' : b < 65536) (h : a ≠ b) : ¬ kR a = kR b ∨ (kR a = kR b ∧ ¬ kC a = kC b) := by
  by_cases h1 : kR a = kR b
  · refine .inr ⟨h1, fun h2 => h ?_⟩
    unfold kR at h1
    unfold kC at h2
    rw [wrap8, wrap8] at h1 h2
    split at h1 <;> split at h1 <;> split at h2 <;> split at h2 <;> omega
  · exact .inl h1

theorem not_prefix {l : List (Int × Int)} {sl : List Value} {pre : List KElt} {x : KElt} {n : Nat} {r : Int × Int} (hn : pre.length = n) (hr : l[n]? = some r) (h : x.1.1 ≠ r.1) : ¬ ((pre ++ [x]).map (fun (x : KElt) => (x.1 : Int × Value)) <+: (l.map (fun (r : Int × Int) => r.1)).zip sl) := by
  rintro ⟨t, ht⟩
  have hz : ((l.map (fun (r : Int × Int) => r.1)).zip sl)[n]? = some x.1 := by
    rw [← ht, List.map_append, List.append_assoc, List.getElem?_append_right (by simp [hn])]
    simp [hn]
  obtain ⟨k, v, hx⟩ : ∃ k v, x.1 = (k, v) := ⟨_, _, rfl⟩
  rw [hx, List.getElem?_zip_eq_some] at hz
  have := hz.1
  rw [List.getElem?_map, hr] at this
  rw [hx] at h
  simp at this
  exact h this.symm

theorem wpIn_noexit {F : Fence} {n : Nat} {P : Program} {c : Code} {K : Act → World → Prop} {Q : Exit → Act → World → Prop} {a : Act} {w : World} (h : c.wpIn F n P (Exit.then K (fun _ _ _ => False)) a w) : c.wpIn F n P (Exit.then K Q) a w :=
  wpIn_mono h (fun e a w h => by cases e <;> first | exact h | exact h.elim)

attribute [local go_sem] Oper.semAt_some

set_option maxRecDepth 100000 in
set_option maxHeartbeats 4000000 in
theorem TreeKinds_walk (l0 l1 : List Int) (p0 p1 : Option Addr) (c0 c1 : Nat) (w : World) (h0 : NumsAt w.heap.size w p0 l0) (h1 : NumsAt w.heap.size w p1 l1) (hl0 : l0.length ≤ c0) (hm0 : c0 ≤ maxLen) (hl1 : l1.length ≤ c1) (hm1 : c1 ≤ maxLen) :
    Calls Try.prog 4 #[.slice p0 l0.length c0, .slice p1 l1.length c1] w (RetB (.bool true) w) := by
  unfold maxLen at hm0 hm1
  have H0 := Lib.hid h0
  have H1 := Lib.hid h1
  clear h0 h1
  obtain ⟨wA, hA⟩ : ∃ wA, (w.alloc (.cells #[.bool false] 4)).alloc (.cells #[.map none, .slice none 0 0, .slice none 0 0] 28) = wA := ⟨_, rfl⟩
  have sA : wA.heap.size = w.heap.size + 1 + 1 := by rw [← hA]; simp
  have tA : wA.heap[w.heap.size + 1]? = some (.cells #[.map none, .slice none 0 0, .slice none 0 0] 28 (0, 0)) := by rw [← hA]; have := heap_new (w.alloc (.cells #[.bool false] 4)) (.cells #[.map none, .slice none 0 0, .slice none 0 0] 28); rwa [World.size_alloc] at this
  have FIRST : Hid (∀ w1, Below wA.heap.size wA w1 → Calls Try.prog 14 #[.pointer (some ⟨w.heap.size + 1, 0, none⟩), .agg (pcells 0), .slice (some ⟨w1.heap.size, 0, none⟩) 1 1] (w1.alloc (.cells #[.int .i64 9] 3)) (fun e w' => ∃ bm, KPutPost (w1.alloc (.cells #[.int .i64 9] 3)) (w.heap.size + 1) (w.heap.size + 1) bm (.slice none 0 0) (.slice none 0 0) true [0] [.slice (some ⟨w1.heap.size, 0, none⟩) 1 1] e w')) := Lib.hid (fun w1 hb1 => by
    have hs := hb1.size
    refine KPut_first ?_ (by omega) 0 (by omega) (by omega) w1.heap.size 1 ⟨w1.heap.size, 1, _, rfl, by omega, by omega, heap_new _ _, rfl, by omega, ?_, fun j hj => ?_⟩ (by simp; omega)
    · rw [Below.heap_alloc _ _ _ (by omega)]
      exact (hb1.block _ (by omega)).trans tA
    · rintro (e | e | e)
      · omega
      · cases e
      · cases e
    · obtain rfl : j = 0 := by omega
      exact ⟨9, rfl⟩)
  have bA : wA.heap[w.heap.size]? = some (.cells #[.bool false] 4 (0, 0)) := by
    rw [← hA, Below.heap_alloc _ _ _ (by simp)]
    exact heap_new w _
  have hwA : Below w.heap.size w wA := by rw [← hA]; exact ((Below.refl _ _).alloc (Nat.le_refl _) _).alloc (by simp) _
  have SA := Lib.hid sA
  have BA := Lib.hid bA
  have HWA := Lib.hid hwA
  clear sA tA bA hwA
  have tk1 := trivial
  have tk2 := trivial
  refine (callsIn_wide (n := 5)).1 ?_
  refine callsIn_of_wp_marks Try.func4 rfl trivial ?_ rfl
  simp only [Try.ntmps4, List.size_toArray, List.length_cons, List.length_nil, Nat.reduceAdd, Nat.reduceSub, Array.replicate_succ, Array.replicate_zero, List.push_toArray, List.append_toArray, List.nil_append, List.cons_append]
  gi_wp2_with (refine ⟨trivial, ?_⟩; first
    | (clear tk1; gi_at_call 15; refine (callsIn_wide.2 (placed_far _)).mono ?_; rintro _ w1 ⟨rfl, hb1⟩)
    | (clear tk2; gi_at_call 14; refine (callsIn_wide.2 (FIRST.out _ hb1)).mono ?_; rintro _ w4 ⟨bm, hP⟩; have HP := Lib.hid hP; obtain ⟨rfl, -⟩ := hP))
  obtain ⟨kv, vv, D, hK⟩ := KS.start SA.out BA.out HWA.out hb1 HP.out
  obtain ⟨W0, hW0⟩ : ∃ W0, ((w4.alloc (.cells #[.int .i64 0, .int .i64 1] 36)).alloc (.cells #[.slice (some ⟨w4.heap.size, 0, none⟩) 1 1] 37)) = W0 := ⟨_, rfl⟩
  rw [hW0] at hK ⊢
  clear hW0 HP FIRST SA BA HWA hb1 hA
  generalize w4.heap.size + 1 = L at hK ⊢
  have HK := Lib.hid hK
  clear hK
  gi_loopw [7] (fun ii wr => ∃ j : Nat, j ≤ l0.length ∧ ii = .int .i64 j ∧ ∃ kv vv lv D l sl, Hid (KS w wr (w.heap.size + 1) L bm kv vv lv D l sl)) (fun ii _ => l0.length - (intOf ii).toNat)
  case atStart => exact ⟨0, by omega, rfl, _, _, _, _, _, _, HK⟩
  case round =>
    obtain ⟨j, hj, rfl, kv, vv, lv, D, l, sl, hK⟩ := hrel
    by_cases hjl : j < l0.length
    · obtain ⟨k, hk⟩ : ∃ k, l0[j]? = some k := ⟨_, List.getElem?_eq_getElem hjl⟩
      have hkr := H0.out.2 k (List.mem_of_getElem? hk)
      obtain ⟨b, o, rfl, hb, hc⟩ : ∃ b o, p0 = some ⟨b, o, none⟩ ∧ b < w.heap.size ∧ ∀ i k, l0[i]? = some k → w.cell? ⟨b, o + i, none⟩ = some (.int .u16 k) := by
        rcases H0.out.1 with h | h
        · rw [h] at hjl; simp at hjl
        · exact h
      have q0 := (hK.out.below.cell (p := ⟨b, o + j, none⟩) hb).trans (hc j k hk)
      have lc : wr.cell? ⟨L, 0, none⟩ = some lv := by simp [World.cell?, hK.out.lcell]
      obtain ⟨pl, cl, rfl⟩ := row_slice hK.out.row
      obtain ⟨f, hf⟩ : ∃ f, (!l.any (fun r => r.1 == k)) = f := ⟨_, rfl⟩
      have C1 := rPut_any hK.out.row hK.out.pos (by have := hK.out.len; omega) k j
      have C3 : ∀ w2, Below wr.heap.size wr w2 → _ := fun w2 h => hK.out.putAny h k (j : Int) hkr.1 hkr.2
      rw [hf] at C1
      simp only [hf] at C3
      have HC1 := Lib.hid C1
      have HC3 := Lib.hid C3
      have wk : wrap64 k = k := IntWalk.wrap64_in _ ⟨by omega, by omega⟩
      clear C1 C3 hc hk hkr hf
      gi_wp2_with (refine ⟨trivial, ?_⟩; first
        | (gi_at_call 16; refine (callsIn_wide.2 HC1.out).mono ?_; rintro _ w1 ⟨v', rfl, hrow, hb1⟩; obtain ⟨p', c', rfl⟩ := row_slice hrow)
        | (gi_at_call 15; refine (callsIn_wide.2 (placed_any _ _)).mono ?_; rintro _ w2 ⟨rfl, hb2⟩)
        | (gi_at_call 14; refine (callsIn_wide.2 (HC3.out _ (hb1.trans (hb2.mono hb1.size)))).mono ?_; rintro _ w4 ⟨sl', hP⟩; have HP := Lib.hid hP; have hL := hK.out.putL ((hb1.trans (hb2.mono hb1.size)).alloc (Nat.le_trans hb1.size hb2.size) _) hP; obtain ⟨rfl, -⟩ := hP; obtain ⟨lc4, lf4, ll4⟩ := hL))
      have hb3 := hb2.alloc hb2.size (.cells #[.int .i64 j, .int .i64 j] 3)
      obtain ⟨kv', vv', D', hN⟩ := KS.put hK.out (hrow.kept (grown_of_below hb3 none) (by cases (Value.slice p' (putR l k j).length c').ownBlock <;> simp)) (hb1.trans (hb3.mono hb1.size)) HP.out
      exact ⟨⟨j + 1, by omega, by go_num, _, _, _, _, _, _, Lib.hid hN⟩, by simp [intOf]; omega⟩
    · gi_wp2
      clear hjl hj H0 hl0 hm0
      gi_loopw [11] (fun ii wr => ∃ j : Nat, j ≤ l1.length ∧ ii = .int .i64 j ∧ ∃ kv vv lv D l sl, Hid (KS w wr (w.heap.size + 1) L bm kv vv lv D l sl)) (fun ii _ => l1.length - (intOf ii).toNat)
      case atStart => exact ⟨0, by omega, rfl, _, _, _, _, _, _, hK⟩
      case round =>
        clear hK kv vv lv D l sl
        obtain ⟨j, hj, rfl, kv, vv, lv, D, l, sl, hK⟩ := hrel
        by_cases hjl : j < l1.length
        · obtain ⟨k, hk⟩ : ∃ k, l1[j]? = some k := ⟨_, List.getElem?_eq_getElem hjl⟩
          have hkr := H1.out.2 k (List.mem_of_getElem? hk)
          obtain ⟨b, o, rfl, hb, hc⟩ : ∃ b o, p1 = some ⟨b, o, none⟩ ∧ b < w.heap.size ∧ ∀ i k, l1[i]? = some k → w.cell? ⟨b, o + i, none⟩ = some (.int .u16 k) := by
            rcases H1.out.1 with h | h
            · rw [h] at hjl; simp at hjl
            · exact h
          have q0 := (hK.out.below.cell (p := ⟨b, o + j, none⟩) hb).trans (hc j k hk)
          have lc : wr.cell? ⟨L, 0, none⟩ = some lv := by simp [World.cell?, hK.out.lcell]
          obtain ⟨pl, cl, rfl⟩ := row_slice hK.out.row
          have C1 := GetRow_any hK.out.row hK.out.pos (by have := hK.out.len; omega) k
          have wk : wrap64 k = k := IntWalk.wrap64_in _ ⟨by omega, by omega⟩
          cases hp : posI (l.map (·.1)) k with
          | none =>
            rw [hK.out.anyOf k, hp] at C1
            simp only [Option.isSome_none] at C1
            have HC1 := Lib.hid C1
            have HC3 : Hid (∀ w2, Below wr.heap.size wr w2 → _) := Lib.hid fun w2 h => hK.out.getNone h k hkr.1 hkr.2 hp
            clear C1 hc hk hkr hp
            gi_wp2_with (refine ⟨trivial, ?_⟩; first
              | (gi_at_call 17; refine (callsIn_wide.2 HC1.out).mono ?_; rintro _ w1 ⟨⟨x, rfl⟩, rfl⟩)
              | (gi_at_call 15; refine (callsIn_wide.2 (placed_any _ _)).mono ?_; rintro _ w2 ⟨rfl, hb2⟩)
              | (gi_at_call 18; refine (callsIn_wide.2 (HC3.out _ hb2)).mono ?_; rintro _ w3 ⟨rfl, hb3⟩))
            exact ⟨⟨j + 1, by omega, by go_num, _, _, _, _, _, _, Lib.hid (hK.out.grow (hb2.trans (hb3.mono hb2.size)))⟩, by simp [intOf]; omega⟩
          | some i =>
            obtain ⟨g, m, cur, z, hu, m1, m2, hg, hz, hBg⟩ := hK.out.found hp
            rw [hK.out.anyOf k, hp] at C1
            simp only [Option.isSome_some] at C1
            have HC1 := Lib.hid C1
            have HC3 : Hid (∀ w2, Below wr.heap.size wr w2 → _) := Lib.hid fun w2 h => hK.out.getSome h k hkr.1 hkr.2 hp hu
            have HC4 : Hid (∀ w3 w4, Below wr.heap.size wr w3 → Below (w3.setCell ⟨g, 0, none⟩ (.int .i64 (wrap64 (-7 - j)))).heap.size (w3.setCell ⟨g, 0, none⟩ (.int .i64 (wrap64 (-7 - j)))) w4 → _) := Lib.hid fun w3 w4 h h' => ((hK.out.grow h).write ((h.block g (Array.getElem?_eq_some_iff.1 hg).1).trans hg) hBg _).getSome h' k hkr.1 hkr.2 hp hu
            have HG := Lib.hid hg
            have HZ := Lib.hid hz
            clear C1 hc hk hkr hp hu hg hz
            have tkA := trivial
            have tkB := trivial
            have tkC := trivial
            have tkD := trivial
            gi_wp2_with (refine ⟨trivial, ?_⟩; first
              | (gi_at_call 17; refine (callsIn_wide.2 HC1.out).mono ?_; rintro _ w1 ⟨⟨x, rfl⟩, rfl⟩)
              | (gi_at_call 15; first
                  | (clear tkA; refine (callsIn_wide.2 (placed_any _ _)).mono ?_; rintro _ w2 ⟨rfl, hb2⟩)
                  | (clear tkB; refine (callsIn_wide.2 (placed_any _ _)).mono ?_; rintro _ w4 ⟨rfl, hb4⟩))
              | (gi_at_call 18; first
                  | (clear tkC; refine (callsIn_wide.2 (HC3.out _ hb2)).mono ?_; rintro _ w3 ⟨rfl, hb3⟩; have hb23 := hb2.trans (hb3.mono hb2.size); have hg3 := (hb23.block g (Array.getElem?_eq_some_iff.1 HG.out).1).trans HG.out; have gc3 : w3.cell? ⟨g, 0, none⟩ = some (.int .i64 z) := (by simp [World.cell?, hg3, HZ.out]); have gf3 : w3.frozen? ⟨g, 0, none⟩ = false := (by simp [World.frozen?, hg3]); have gl3 := (Array.getElem?_eq_some_iff.1 hg3).1)
                  | (clear tkD; refine (callsIn_wide.2 (HC4.out _ _ hb23 hb4)).mono ?_; rintro _ w5 ⟨rfl, hb5⟩; have hcw := cell_wrote hg3 HZ.out (.int .i64 (wrap64 (-7 - j))); have gc5 : w5.cell? ⟨g, 0, none⟩ = some (.int .i64 (wrap64 (-7 - j))) := (hb5.cell (p := ⟨g, 0, none⟩) (Nat.lt_of_lt_of_le hcw.2 hb4.size)).trans ((hb4.cell (p := ⟨g, 0, none⟩) hcw.2).trans hcw.1))))
            exact ⟨⟨j + 1, by omega, by go_num, _, _, _, _, _, _, Lib.hid (((hK.out.grow hb23).write hg3 hBg _).grow (hb4.trans (hb5.mono hb4.size)))⟩, by simp [intOf]; omega⟩
        · have heqf : ∀ (f : Fn) (x y : Array Value) (w : World), (binOp BinOp.eql 46 (.func f x y) Value.nilFunc).run Try.prog w = .ok (.bool false) w := fun _ _ _ _ => by first | rfl | kernel_rfl | simp [binOp, go_sem]
          gi_wp2_with (refine ⟨trivial, ?_⟩; gi_at_call 19; refine (callsIn_wide.2 (kall_any _ _)).mono ?_; rintro _ w5 ⟨rfl, rfl⟩)
          have bN0 := Boxed.new wr 3 (.int .i64 0)
          have bN := bN0.alloc (.cells #[.pointer (some ⟨w.heap.size + 1, 0, none⟩)] 97)
          have hcv := cellsAt_alloc (wr.alloc (.cells #[.int .i64 0] 3)) #[.pointer (some ⟨w.heap.size + 1, 0, none⟩)] 97 (0, 0)
          rw [World.size_alloc] at hcv
          have hB0 : Below wr.heap.size wr ((wr.alloc (.cells #[.int .i64 0] 3)).alloc (.cells #[.pointer (some ⟨w.heap.size + 1, 0, none⟩)] 97)) := ((Below.refl _ _).alloc (Nat.le_refl _) _).alloc (by simp) _
          have hsW : ((wr.alloc (.cells #[.int .i64 0] 3)).alloc (.cells #[.pointer (some ⟨w.heap.size + 1, 0, none⟩)] 97)).heap.size = wr.heap.size + 1 + 1 := by simp
          obtain ⟨W0, hW0⟩ : ∃ W0, ((wr.alloc (.cells #[.int .i64 0] 3)).alloc (.cells #[.pointer (some ⟨w.heap.size + 1, 0, none⟩)] 97)) = W0 := ⟨_, rfl⟩
          rw [hW0] at bN hcv hB0 hsW ⊢
          clear hW0 bN0 heqf
          have hKW := hK.out.grow hB0
          have hlen := hK.out.len
          have hposl := hK.out.pos
          show Code.wpIn _ _ _ _ _ { tmps := ?T0, defers := [] } _
          refine wpIn_rangeFunc_ownH rfl (by decide) (gf := 55) (lb := #[.pointer (some ⟨wr.heap.size + 1, 0, none⟩)]) rfl trivial (enters_of Try.func55 (by kernel_rfl) rfl)
            (kall_stops 4 hKW.tab (by simpa using hposl) (wr.heap.size + 1) (by omega) hcv (fun g => g = wr.heap.size) (fun g e => by omega)) KeepC.trans (fun W l o o' _ h hc _ => KeepC.put W l o o' h hc) (Below.refl _ _) (fun _ => rfl)
            (fun (pre : List KElt) W => Boxed W wr.heap.size 3 (.int .i64 pre.length) ∧ Below wr.heap.size W0 W)
            (fun (_ : Code) (pre : List KElt) (_ : World) => ¬ (pre.map (fun (x : KElt) => (x.1 : Int × Value)) <+: (l.map (fun (r : Int × Int) => r.1)).zip sl))
            (OwnFrom.and (Own.from (boxed_own _ _ _) _) (ownFrom_below hB0.size hB0.size))
            (by intro c s A B row hs _ _; exact hs)
            ⟨bN, Below.refl _ _⟩
            (fun x a' W => ∃ Bx, wr.heap.size < Bx ∧ W.heap[Bx]? = some (.cells (pcells x.1.1) 32 (0, 0)) ∧ a' = { tmps := ((((?T0 : Array Value).setIfInBounds 127 (.agg (pcells x.1.1))).setIfInBounds 128 x.1.2).setIfInBounds 21 (.pointer (some ⟨Bx, 0, none⟩))).setIfInBounds 22 x.1.2, defers := [] })
            ?hAx ?assign ?body ?done ?stop
          case hAx =>
            rintro x a' _ A B row ⟨Bx, h1, h2, h3⟩ hg hr
            refine ⟨Bx, h1, (hg.block Bx (Array.getElem?_eq_some_iff.1 h2).1 (fun e => ?_)).trans h2, h3⟩
            obtain ⟨_, o, ho, hc⟩ := hr Bx e.symm
            rw [h2] at ho
            cases ho
            cases hc
          case assign =>
            rintro l' pre x W K ⟨hbx, hB⟩ hK2
            obtain ⟨⟨a, u⟩, hx⟩ := x
            have hx' := hx
            obtain ⟨hr, g, m, he, m1, m2⟩ := hx'
            dsimp only at he hr
            subst he
            dsimp only [kenc]
            gi_wp2
            exact hK2 _ _ ((KeepsOthers.alloc _ _).from _) (KeepC.of_below ((Below.refl _ W).alloc (Nat.le_refl _) _)) ⟨hbx.alloc _, hB.alloc (by have := hB.size; omega) _⟩ ⟨W.heap.size, hbx.lt, heap_new _ _, rfl⟩
          case body =>
            rintro l' pre x a' W hl hrl ⟨hbx, hB⟩ ⟨Bx, hBx, bX, rfl⟩ hplen
            obtain ⟨⟨a, u⟩, hx⟩ := x
            have hx' := hx
            obtain ⟨hr, g, m, he, m1, m2⟩ := hx'
            dsimp only at he hr bX
            subst he
            have hKX := hK.out.grow (hB0.trans hB)
            have hst := hK.out.below
            obtain ⟨gr, capr, rfl, hc1, hc2, _, hgr, hcs⟩ := rows_cells hKX.row hposl
            rw [List.length_map] at hplen
            obtain ⟨⟨rk, rv⟩, hrv⟩ : ∃ r, l[pre.length]? = some r := ⟨_, List.getElem?_eq_getElem hplen⟩
            have q0 := (hcs _ _ hrv).1
            dsimp only at q0
            have lc : W.cell? ⟨L, 0, none⟩ = some (.slice (some ⟨gr, 0, none⟩) l.length capr) := by simp [World.cell?, hKX.lcell]
            have hbc := hbx.cell
            have hbf := hbx.frozen
            have hbl := hbx.lt
            have bc : W.cell? ⟨w.heap.size, 0, none⟩ = some (.bool false) := by simp [World.cell?, hKX.bcell]
            have bf : W.frozen? ⟨w.heap.size, 0, none⟩ = false := by simp [World.frozen?, hKX.bcell]
            have d0 : W.cell? ⟨Bx, 0, none⟩ = some (.int .i8 (kR a)) := by simp [World.cell?, bX]
            have d1 : W.cell? ⟨Bx, 1, none⟩ = some (.int .i8 (kC a)) := by simp [World.cell?, bX]
            have d2 : W.cell? ⟨Bx, 2, none⟩ = some (.bool (kF a)) := by simp [World.cell?, bX]
            have hBl : Bx < W.heap.size := (Array.getElem?_eq_some_iff.1 bX).1
            have hwl : w.heap.size < W.heap.size := hKX.ltb
            have hLl : L < W.heap.size := hKX.ltL
            have hmx : Try.prog.follows .mixedOrders = true := by kernel_rfl
            have HX : Hid (∀ w1, Below W.heap.size W w1 → KeepsFrom W0.heap.size W w1) := Lib.hid (fun w1 hbw => ⟨hbw.size, fun k o _ hk _ => (hbw.block k (Array.getElem?_eq_some_iff.1 hk).1).trans hk⟩)
            have HBX := Lib.hid hbx
            have HBB := Lib.hid hB
            have hK0 := hKX.tab
            clear hbx hB hKX hcs
            generalize hn : pre.length = n at *
            have hge : decide ((l.length : Int) ≤ (n : Int)) = false := decide_eq_false (by omega)
            have hge2 : decide (l.length ≤ n) = false := decide_eq_false (by omega)
            have hm0 : decide ((m : Int) = 0) = false := decide_eq_false (by omega)
            simp only [List.setIfInBounds_toArray, List.set_cons_succ, List.set_cons_zero]
            gi_wp2
            have kc := cell_cls W
            refine wpR_region_plan_below 19 [(0, [0, 1, 2, 3, 4, 5, 6, 7, 8, 9, 10]), (1, [11]), (0, [12, 13, 14, 15, 16, 17, 18])] hmx (by kernel_rfl) (by kernel_rfl) (fun _ _ h => h) (fun _ _ _ _ h => h) ?_
            simp only [wpSegs, pickOps, List.getElem?_toArray, List.getElem?_cons_zero, List.getElem?_cons_succ]
            iterate 11 (go_big_quiet_step (fail))
            refine wpQuiet_nil ?_
            clear kc
            refine wpListC_want (by rfl) (fun K hK => ?_)
            go_step
            refine (placed_any _ _).mono ?_
            rintro e wX ⟨rfl, hbX⟩
            have hbw : Below W.heap.size W wX := (Below.drew (Below.refl _ W)).trans hbX
            refine hK _ _ (cls_of_below hbw) ?_
            clear hK K
            refine wpListC_nil ?_
            have hbc1 := (hbw.cell (p := ⟨wr.heap.size, 0, none⟩) hbl).trans hbc
            have hbf1 : wX.frozen? ⟨wr.heap.size, 0, none⟩ = false := (World.frozen?_of_block (hbw.block _ hbl)).trans hbf
            have bc1 := (hbw.cell (p := ⟨w.heap.size, 0, none⟩) hwl).trans bc
            have bf1 : wX.frozen? ⟨w.heap.size, 0, none⟩ = false := (World.frozen?_of_block (hbw.block _ hwl)).trans bf
            have hbl1 := Nat.lt_of_lt_of_le hbl hbw.size
            have hwl1 := Nat.lt_of_lt_of_le hwl hbw.size
            have HBW := Lib.hid hbw
            have hkr := hK0.range rk (List.mem_map.2 ⟨_, List.mem_of_getElem? hrv, rfl⟩)
            have HRV := Lib.hid hrv
            clear hbw hbX bX q0 lc hbc hbf bc bf d0 d1 d2 hgr hK0 hrv
            by_cases hak : a = rk
            · subst hak
              iterate 7 (go_big_quiet_step (fail))
              refine wpQuiet_nil ?_
              gi_wp2
              refine ⟨(HX.out _ HBW.out).trans ((KeepsOthers.setCell _ _ _).from _), (KeepC.of_below HBW.out).trans (KeepC.set (S := fun g => g = wr.heap.size) _ rfl _ _), ?_, (HBB.out.trans (HBW.out.mono (by omega))).setCell (p := ⟨wr.heap.size, 0, none⟩) (Nat.le_refl _) _⟩
              have hx1 : Boxed wX wr.heap.size 3 (.int .i64 n) := (HBW.out.block _ hbl).trans HBX.out
              rw [List.length_append, List.length_singleton, hn, Int.natCast_add]
              exact hx1.set _
            · have hnp := not_prefix (x := ⟨(a, .slice (some ⟨g, 0, none⟩) m m), hx⟩) (sl := sl) hn HRV.out hak
              have HNP := Lib.hid hnp
              clear hnp
              rcases places_ne hr.1 hr.2 hkr.1 hkr.2 hak with hR | ⟨hR, hC⟩
              · iterate 7 (go_big_quiet_step (fail))
                refine wpQuiet_nil ?_
                gi_wp2
                exact ⟨(HX.out _ HBW.out).trans ((KeepsOthers.setCell _ _ _).from _), HNP.out⟩
              · iterate 7 (go_big_quiet_step (fail))
                refine wpQuiet_nil ?_
                gi_wp2
                exact ⟨(HX.out _ HBW.out).trans ((KeepsOthers.setCell _ _ _).from _), HNP.out⟩
          case stop =>
            rintro D c pre W _ hp h _
            exact absurd hp h
          case done =>
            rintro Dd xs W hD hS ⟨hbx, hB⟩ hKd
            have hnl : xs.length = l.length := by
              have h1 := congrArg List.length hS
              have h2 := hK.out.tab.slen
              rw [List.length_map] at h2
              rw [List.length_map, List.length_zip, List.length_map] at h1
              omega
            rw [hnl] at hbx
            have hKX := hK.out.grow (hB0.trans hB)
            have hmx : Try.prog.follows .mixedOrders = true := by kernel_rfl
            gi_wp2
            refine wpIn_noexit ?_
            refine wpIn_wide.2 ?_
            obtain ⟨pl, cl, rfl⟩ := row_slice hKX.row
            have lc : W.cell? ⟨L, 0, none⟩ = some (.slice pl l.length cl) := by simp [World.cell?, hKX.lcell]
            have hbc := hbx.cell
            have hbl := hbx.lt
            have hLl : L < W.heap.size := hKX.ltL
            have hwl : w.heap.size < W.heap.size := hKX.ltb
            have bc : W.drew.cell? ⟨w.heap.size, 0, none⟩ = some (.bool false) := by show W.cell? _ = _; simp [World.cell?, hKX.bcell]
            have bf : W.drew.frozen? ⟨w.heap.size, 0, none⟩ = false := by show W.frozen? _ = _; simp [World.frozen?, hKX.bcell]
            have HL : Calls Try.prog 20 #[.pointer (some ⟨w.heap.size + 1, 0, none⟩)] W.drew (RetS (.int .i64 l.length) W.drew) := by simpa using KLen_any (hKX.tab.below (Below.drew (Below.refl _ W)))
            have HL' := Lib.hid HL
            have HKX := Lib.hid hKX
            have HKd := Lib.hid hKd
            clear HL hKX hbx hKd
            have kc := cell_cls W
            refine wp_region_plan_below 9 [(0, [0, 1, 2, 3, 4, 6]), (1, [5]), (0, [7, 8]), (2, [9])] hmx (by kernel_rfl) (fun _ _ _ _ h => h) ?_
            simp only [wpSegs, pickOps, List.getElem?_toArray, List.getElem?_cons_zero, List.getElem?_cons_succ]
            iterate 6 (go_big_quiet_step (fail))
            refine wpQuiet_nil ?_
            clear kc
            refine wpListC_want (by rfl) (fun K hK => ?_)
            go_step
            refine HL'.out.mono ?_
            rintro e w6 ⟨rfl, rfl⟩
            refine hK _ _ (cls_drew W) ?_
            clear hK K
            refine wpListC_nil ?_
            iterate 2 (go_big_quiet_step (fail))
            refine wpQuiet_nil ?_
            go_wp2_with fail
            gi_wp2
            have hw0 : w.heap.size ≤ W0.heap.size := by have := hK.out.ltb; have := hB0.size; omega
            have hK' : (W.setCell ⟨w.heap.size, 0, none⟩ (.bool true)).drew.heap[Dd]? = some (.deferred (some [])) := (Below.heap_setCell _ _ _ _ (by show Dd ≠ w.heap.size; have := hK.out.ltb; have := hB0.size; omega)).trans HKd.out
            have hfin := (((HKX.out.below.setCell (p := ⟨w.heap.size, 0, none⟩) (Nat.le_refl _) (.bool true)).trans (Below.drew (Below.refl _ _)))).trans (belowK_b (w := W0) (o' := .deferred none) hw0 _ Dd _ hD hK' rfl rfl)
            have hb0 : Boxed W w.heap.size 4 (.bool false) := HKX.out.bcell
            have hbx' : Boxed (W.setCell ⟨w.heap.size, 0, none⟩ (.bool true)).drew w.heap.size 4 (.bool true) := hb0.set (.bool true)
            have hbz : Boxed ((W.setCell ⟨w.heap.size, 0, none⟩ (.bool true)).drew.putObj Dd (.deferred none)) w.heap.size 4 (.bool true) :=
              ((belowK_b (n₀ := w.heap.size + 1) (w := W0) (o' := .deferred none) (by have := hK.out.ltb; have := hB0.size; omega) _ Dd _ hD hK' rfl rfl).block w.heap.size (Nat.lt_succ_self _)).trans hbx'
            have hbc2 := hbz.cell
            refine ⟨by simp, .inl ⟨_, _, rfl, run_takeDeferred hK', ?_⟩⟩
            refine ⟨.bool true, ?_, rfl, hfin⟩
            simp [results, Try.results4, go_sem, hbc2]
end Go.Proofs.Ytnmnmkdmnohbmaa
