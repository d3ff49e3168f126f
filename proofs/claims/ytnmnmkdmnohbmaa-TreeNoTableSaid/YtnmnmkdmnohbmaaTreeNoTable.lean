/- TreeNoTable: the walk: the statement answers true of any text and any two numbers. Conditions: none. -/
import Derived.Test.YtnmnmkdmnohbmaaTabl
namespace Go.Proofs.Ytnmnmkdmnohbmaa
open Go.RowKit Go.Maps

theorem new_some (w : World) : Calls Try.prog 32 #[] w (fun e w' => ∃ T bm, e = .returned (.pointer (some ⟨T, 0, none⟩)) ∧ IsTab w' w.heap.size T bm (.slice none 0 0) (.slice none 0 0) (.map []) [] [] ∧ Below w.heap.size w w') :=
  (new_any w).mono fun _ _ ⟨h1, h2, h3⟩ => ⟨_, _, h1, h2, h3⟩

theorem PutPost.below {w w' : World} {B T bm : Nat} {kv vv : Value} {D : DataW Unit} {ks ks' : List ByteArray} {vs vs' : List Int} {e : Ending} {f : Bool} (h : IsTab w B T bm kv vv D ks vs) (hp : PutPost w B T bm kv vv f ks' vs' e w') (hB : B ≤ w.heap.size) : Below B w w' := by
  obtain ⟨_, _, _, _, _, hm, _⟩ := hp
  refine hm.below hB ?_
  rintro k (rfl | rfl | e | e)
  · exact h.geT
  · exact h.gem
  · exact (h.keys.lt _ e).1
  · exact (h.vals.1.lt _ e).1

set_option maxRecDepth 100000 in
set_option maxHeartbeats 2000000 in
theorem TreeNoTable_walk (s : ByteArray) (v i : Int) (w : World) (hs : s.size ≤ maxLen) (hv : (Lit.int .i64 v).wf = true) :
    Calls Try.prog 7 #[.string s, .int .i64 v, .int .i64 i] w (RetB (.bool true) w) := by
  have P1 := Lib.hid (fun (w : World) (B T bm : Nat) (kv vv : Value) (D : DataW Unit) (h : IsTab w B T bm kv vv D [] []) (hB : B ≤ w.heap.size) => Put_new h s v hs rfl (by decide) hv hB)
  have P2 := Lib.hid (fun (w : World) (B T bm : Nat) (kv vv : Value) (D : DataW Unit) (h : IsTab w B T bm kv vv D ([] ++ [s]) ([] ++ [v])) => Put_old h s v hs (i := 0) (by simp [pos]) hv)
  clear hs hv
  have tk1 := trivial
  have tk2 := trivial
  have tk3 := trivial
  have tk4 := trivial
  have tk5 := trivial
  have tk6 := trivial
  refine (callsIn_wide (n := 5)).1 ?_
  refine callsIn_of_wp_marks Try.func7 rfl trivial ?_ rfl
  simp only [Try.ntmps7, List.size_toArray, List.length_cons, List.length_nil, Nat.reduceAdd, Nat.reduceSub, Array.replicate_succ, Array.replicate_zero, List.push_toArray, List.append_toArray, List.nil_append, List.cons_append]
  have heqf : ∀ (f : Fn) (x y : Array Value) (w : World), (binOp BinOp.eql 78 (.func f x y) Value.nilFunc).run Try.prog w = .ok (.bool false) w := fun _ _ _ _ => by first | rfl | kernel_rfl | simp [binOp, go_sem]
  gi_wp2_with (refine ⟨trivial, ?_⟩; first
    | (gi_at_call 32; clear tk1; refine (callsIn_wide.2 (new_some _)).mono ?_; rintro _ w1 ⟨T, bm, rfl, ht1, hb1⟩)
    | (gi_at_call 33; first
        | (clear tk2; refine (callsIn_wide.2 (P1.out _ _ _ _ _ _ _ ht1 hb1.size)).mono ?_; rintro _ w2 hp1; obtain ⟨rfl, kv, vv, D, ht2, hm2, -, -⟩ := id hp1)
        | (clear tk3; refine (callsIn_wide.2 (P2.out _ _ _ _ _ _ _ ht2)).mono ?_; rintro _ w3 hp2; obtain ⟨rfl, kv', vv', D', ht3, hm3, -, -⟩ := id hp2)
        | (clear tk4; refine (callsIn_wide.2 (put_nil _ _ _)).mono ?_; rintro _ w4 ⟨rfl, rfl⟩))
    | (gi_at_call 34; first
        | (clear tk5; refine (callsIn_wide.2 (Len_any ht3)).mono ?_; rintro _ w4 ⟨rfl, rfl⟩)
        | (clear tk6; refine (callsIn_wide.2 (len_nil_any _)).mono ?_; rintro _ w4 ⟨rfl, rfl⟩))
    | (gi_at_call 35; refine (callsIn_wide.2 (drop_nil _ _)).mono ?_; rintro _ w4 ⟨rfl, rfl⟩)
    | (gi_at_call 36; refine (callsIn_wide.2 (keys_nil _)).mono ?_; rintro _ w4 ⟨rfl, rfl⟩)
    | (gi_at_call 37; refine (callsIn_wide.2 (get_nil _ _)).mono ?_; rintro _ w4 ⟨rfl, rfl⟩)
    | (gi_at_call 38; refine (callsIn_wide.2 (at_nil _ _)).mono ?_; rintro _ w4 ⟨rfl, rfl⟩)
    | (gi_at_call 39; refine (callsIn_wide.2 (all_any _ _)).mono ?_; rintro _ w5 ⟨rfl, rfl⟩))
  have szA : (w.alloc (.cells #[.bool false] 4)).heap.size = w.heap.size + 1 := by simp
  have b2 := hp1.below ht1 hb1.size
  have b3 := hp2.below ht2 (Nat.le_trans hb1.size b2.size)
  have bA : Below (w.heap.size + 1) (w.alloc (.cells #[.bool false] 4)) w3 := by
    rw [szA] at hb1 b2 b3
    exact (hb1.trans b2).trans b3
  have bx0 := Boxed.new w 4 (.bool false)
  have bx3 : Boxed w3 w.heap.size 4 (.bool false) := (bA.block w.heap.size (by omega)).trans bx0
  have bw3 : Below w.heap.size w w3 := ((Below.refl _ _).alloc (Nat.le_refl _) _).trans (bA.mono (by omega))
  clear hp1 hp2 ht1 ht2 ht3 hm2 hm3 hb1 b2 b3 bA bx0 szA heqf P1 P2
  have bx := bx3.alloc (.cells #[.pointer none] 68)
  have hB0 : Below w.heap.size w (w3.alloc (.cells #[.pointer none] 68)) := bw3.alloc bw3.size _
  have hcv := cellsAt_alloc w3 #[.pointer none] 68 (0, 0)
  have hlt : w3.heap.size < (w3.alloc (.cells #[.pointer none] 68)).heap.size := by simp
  obtain ⟨W0, hW0⟩ : ∃ W0, w3.alloc (.cells #[.pointer none] 68) = W0 := ⟨_, rfl⟩
  rw [hW0] at bx hB0 hcv hlt ⊢
  clear hW0 bx3
  refine wpIn_rangeFunc_ownH rfl (by decide) (gf := 69) (lb := #[.pointer (some ⟨w3.heap.size, 0, none⟩)]) rfl trivial (enters_of Try.func69 (by kernel_rfl) rfl)
      (all_stops 4 w.heap.size w3.heap.size W0 (fun x => nomatch x) hlt hcv) belowK_t (belowK_b hB0.size) (Below.refl _ _) (fun x => nomatch x)
      (fun _ W => Boxed W w.heap.size 4 (.bool false) ∧ Below w.heap.size W0 W)
      (fun _ _ _ => False)
      (OwnFrom.and (Own.from (boxed_own _ _ _) _) (ownFrom_below hB0.size hB0.size))
      (fun _ _ _ _ _ hs _ _ => hs)
      ⟨bx, Below.refl _ _⟩
      (fun _ _ _ => False)
      ?hAx ?assign ?body ?done ?stop
  case hAx => rintro x; exact x.elim
  case assign => rintro l pre x; exact x.elim
  case body => rintro l pre x; exact x.elim
  case stop =>
    rintro D c pre W _ _ h _
    exact h.elim
  case done =>
    rintro D xs W hD hS ⟨hbx, hB⟩ hK
    have hbc := hbx.cell
    have hbf := hbx.frozen
    gi_wp2
    have hBl : w.heap.size < W0.heap.size := Nat.lt_of_le_of_lt bw3.size hlt
    have hK' : (W.setCell ⟨w.heap.size, 0, none⟩ (.bool true)).heap[D]? = some (.deferred (some [])) := (Below.heap_setCell _ _ _ _ (by show D ≠ w.heap.size; omega)).trans hK
    have hfin := ((hB0.trans hB).setCell (p := ⟨w.heap.size, 0, none⟩) (Nat.le_refl _) (.bool true)).trans (belowK_b (w := W0) (o' := .deferred none) hB0.size _ D _ hD hK' rfl rfl)
    have hbx' := hbx.set (.bool true)
    have hbz : Boxed ((W.setCell ⟨w.heap.size, 0, none⟩ (.bool true)).putObj D (.deferred none)) w.heap.size 4 (.bool true) :=
      ((belowK_b (n₀ := w.heap.size + 1) (w := W0) (o' := .deferred none) hBl _ D _ hD hK' rfl rfl).block w.heap.size (Nat.lt_succ_self _)).trans hbx'
    have hbc2 := hbz.cell
    refine ⟨by simp, .inl ⟨_, _, rfl, run_takeDeferred hK', ?_⟩⟩
    refine ⟨.bool true, ?_, rfl, hfin⟩
    simp [results, Try.results7, go_sem, hbc2]
end Go.Proofs.Ytnmnmkdmnohbmaa
