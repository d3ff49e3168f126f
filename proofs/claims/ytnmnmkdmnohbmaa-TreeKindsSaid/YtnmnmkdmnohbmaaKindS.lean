/- What stands at the heads of TreeKinds' loops, and its steps. Conditions: none. -/
import Derived.Test.YtnmnmkdmnohbmaaKinds
namespace Go.Proofs.Ytnmnmkdmnohbmaa
open Go.RowKit Go.Maps

theorem ownsRow_lower {w : World} {B B' : Nat} {e : TypeId} {sz n : Nat} {v : Value} {xs : List Value} (h : w.ownsRow B e sz v n xs) (hB : B' ≤ B) : w.ownsRow B' e sz v n xs := by
  obtain ⟨hl, h2⟩ := h
  refine ⟨hl, ?_⟩
  rcases h2 with h2 | ⟨g, cap, cur, hv, hb, hr⟩
  · exact .inl h2
  · exact .inr ⟨g, cap, cur, hv, by omega, hr⟩

theorem ownsRow_cells {w : World} {B : Nat} {e : TypeId} {sz n g : Nat} {v : Value} {xs : List Value} (h : w.ownsRow B e sz v n xs) (hg : v.ownBlock = some g) : ∃ cur, w.heap[g]? = some (.cells cur e (0, 0)) := by
  rcases h.2 with ⟨rfl, _⟩ | ⟨g', cap, cur, rfl, _, hh, _⟩
  · cases hg
  · cases hg
    exact ⟨cur, hh⟩

theorem ownsRow_moved {w w' : World} {B : Nat} {e : TypeId} {sz n : Nat} {v : Value} {xs : List Value} {S : Nat → Prop} (h : w.ownsRow B e sz v n xs) (M : Moved S w w') (hS : ∀ g, v.ownBlock = some g → ¬ S g) : w'.ownsRow B e sz v n xs := by
  obtain ⟨hl, h2⟩ := h
  refine ⟨hl, ?_⟩
  rcases h2 with h2 | ⟨g, cap, cur, rfl, hb, hh, hr⟩
  · exact .inl h2
  · exact .inr ⟨g, cap, cur, rfl, hb, (M.block g (Array.getElem?_eq_some_iff.1 hh).1 (hS g rfl)).trans hh, hr⟩

theorem IsKT.setOther {w : World} {B T bm : Nat} {kv vv : Value} {D : DataW Unit} {ks : List Int} {sl : List Value} (h : IsKT w B T bm kv vv D ks sl) {g : Nat} {cur : Array Value} {e : TypeId} {fz : Nat × Nat} (hg : w.heap[g]? = some (.cells cur e fz))
    (e0 : e ≠ 28) (e1 : e ≠ 32) (e2 : e ≠ 33) (e3 : e ≠ 3) (j : Nat) (u : Value) : IsKT (w.setCell ⟨g, j, none⟩ u) B T bm kv vv D ks sl := by
  have hap := h.apart hg e0 e1 e2
  have hgr := grown_setCell w ⟨g, j, none⟩ u
  refine ⟨?_, h.map.kept hgr (fun e => hap (.inr (.inl (Option.some.inj e).symm))), h.keys.kept hgr (.inr fun e => hap (.inr (.inr (.inl e)))), h.vals.kept hgr (.inr fun e => hap (.inr (.inr (.inr e)))), fun u hu => ?_, h.range, h.has, h.ix, h.geT, h.gem, h.d1, h.d2, h.d3, h.d4, h.few⟩
  · exact (hgr.block T h.facts.2.2.2.2.2 (fun e => hap (.inl (Option.some.inj e).symm))).trans h.block
  · obtain ⟨g', m, c', h1, h2, h3, h4, h5, h6, h7, h8⟩ := h.ok u hu
    refine ⟨g', m, c', h1, h2, h3, (Below.heap_setCell _ _ _ _ ?_).trans h4, h5, h6, h7, h8⟩
    show g' ≠ g
    rintro rfl
    rw [h4] at hg
    cases hg
    exact e3 rfl

/-- What stands at the heads of the loops. -/
structure KS (w0 W : World) (T L bm : Nat) (kv vv lv : Value) (D : DataW Unit) (l : List (Int × Int)) (sl : List Value) : Prop where
  tab : IsKT W w0.heap.size T bm kv vv D (l.map (·.1)) sl
  nd : (l.map (·.1)).Nodup
  pos : 0 < l.length
  row : W.ownsRow w0.heap.size 36 2 lv l.length (rowsC l)
  lcell : W.heap[L]? = some (.cells #[lv] 37 (0, 0))
  bcell : W.heap[w0.heap.size]? = some (.cells #[.bool false] 4 (0, 0))
  below : Below w0.heap.size w0 W
  geL : w0.heap.size ≤ L

theorem KS.len {w0 W : World} {T L bm : Nat} {kv vv lv : Value} {D : DataW Unit} {l : List (Int × Int)} {sl : List Value} (h : KS w0 W T L bm kv vv lv D l sl) : l.length ≤ 65536 := by
  have := nodup_bound 65536 _ h.nd (fun k hk => h.tab.range k hk)
  simpa using this

theorem KS.ltb {w0 W : World} {T L bm : Nat} {kv vv lv : Value} {D : DataW Unit} {l : List (Int × Int)} {sl : List Value} (h : KS w0 W T L bm kv vv lv D l sl) : w0.heap.size < W.heap.size := (Array.getElem?_eq_some_iff.1 h.bcell).1
theorem KS.ltL {w0 W : World} {T L bm : Nat} {kv vv lv : Value} {D : DataW Unit} {l : List (Int × Int)} {sl : List Value} (h : KS w0 W T L bm kv vv lv D l sl) : L < W.heap.size := (Array.getElem?_eq_some_iff.1 h.lcell).1

theorem KS.grow {w0 W W' : World} {T L bm : Nat} {kv vv lv : Value} {D : DataW Unit} {l : List (Int × Int)} {sl : List Value} (h : KS w0 W T L bm kv vv lv D l sl) (hb : Below W.heap.size W W') : KS w0 W' T L bm kv vv lv D l sl :=
  ⟨h.tab.below hb, h.nd, h.pos, h.row.kept (grown_of_below hb none) (by cases lv.ownBlock <;> simp), (hb.block L h.ltL).trans h.lcell, (hb.block _ h.ltb).trans h.bcell, h.below.trans (hb.mono (Nat.le_of_lt h.ltb)), h.geL⟩

theorem KS.write {w0 W : World} {T L bm : Nat} {kv vv lv : Value} {D : DataW Unit} {l : List (Int × Int)} {sl : List Value} (h : KS w0 W T L bm kv vv lv D l sl) {g : Nat} {cur : Array Value} (hg : W.heap[g]? = some (.cells cur 3 (0, 0))) (hB : w0.heap.size ≤ g) (z : Int) : KS w0 (W.setCell ⟨g, 0, none⟩ (.int .i64 z)) T L bm kv vv lv D l sl := by
  have nL : L ≠ g := by rintro rfl; rw [h.lcell] at hg; cases hg
  have nb : w0.heap.size ≠ g := by rintro e; rw [← e, h.bcell] at hg; cases hg
  refine ⟨h.tab.write hg z, h.nd, h.pos, h.row.kept (grown_setCell W ⟨g, 0, none⟩ _) (.inr fun e => ?_), (Below.heap_setCell _ _ _ _ nL).trans h.lcell, (Below.heap_setCell _ _ _ _ nb).trans h.bcell, h.below.setCell (p := ⟨g, 0, none⟩) hB _, h.geL⟩
  obtain ⟨c', hc'⟩ := ownsRow_cells h.row e
  rw [hc'] at hg
  cases hg

theorem KS.put {w0 wr w3 w4 : World} {T L bm : Nat} {kv vv lv v' : Value} {D : DataW Unit} {l : List (Int × Int)} {sl sl' : List Value} {k z : Int} {fresh : Bool} {e : Ending} (h : KS w0 wr T L bm kv vv lv D l sl)
    (hrow : w3.ownsRow wr.heap.size 36 2 v' (putR l k z).length (rowsC (putR l k z))) (hb : Below wr.heap.size wr w3)
    (hP : KPutPost w3 w0.heap.size T bm kv vv fresh (if (l.map (·.1)).any (fun t => t == k) then l.map (·.1) else l.map (·.1) ++ [k]) sl' e w4) :
    ∃ kv' vv' D', KS w0 (w4.setCell ⟨L, 0, none⟩ v') T L bm kv' vv' v' D' (putR l k z) sl' := by
  have h3 := h.grow hb
  obtain ⟨-, kv', vv', D', ht, M, -, -⟩ := hP
  have ek : (if (l.map (·.1)).any (fun t => t == k) then l.map (·.1) else l.map (·.1) ++ [k]) = (putR l k z).map (·.1) := by rw [putR_fst, any_fst]
  have nd4 : ((putR l k z).map (·.1)).Nodup := by
    rw [← ek]
    split
    · exact h.nd
    · rename_i hn
      refine nodup_snoc h.nd (fun hm => hn (List.any_eq_true.2 ⟨k, hm, by simp⟩))
  rw [ek] at ht
  have l4 : w4.heap[L]? = some (.cells #[lv] 37 (0, 0)) := (M.block L h3.ltL (h3.tab.apart h3.lcell (by decide) (by decide) (by decide))).trans h3.lcell
  have b4 : w4.heap[w0.heap.size]? = some (.cells #[.bool false] 4 (0, 0)) := (M.block _ h3.ltb (h3.tab.apart h3.bcell (by decide) (by decide) (by decide))).trans h3.bcell
  have r4 := ownsRow_moved (ownsRow_lower hrow (Nat.le_of_lt h.ltb)) M (fun g hg => by
    obtain ⟨c, hc⟩ := ownsRow_cells hrow hg
    exact h3.tab.apart hc (by decide) (by decide) (by decide))
  have hbw : Below w0.heap.size w3 w4 := by
    refine M.below (Nat.le_of_lt h3.ltb) ?_
    rintro g (rfl | rfl | e | e)
    · exact h.tab.geT
    · exact h.tab.gem
    · exact (h3.tab.keys.lt _ e).1
    · exact (h3.tab.vals.lt _ e).1
  have nb : w0.heap.size ≠ L := by intro e; rw [e, l4] at b4; cases b4
  refine ⟨kv', vv', D', ht.setOther l4 (by decide) (by decide) (by decide) (by decide) 0 _, nd4, ?_, r4.kept (grown_setCell w4 ⟨L, 0, none⟩ _) (.inr fun e => ?_), heap_setCell_same l4 _, (Below.heap_setCell _ _ _ _ nb).trans b4, ((h3.below.trans hbw).setCell (p := ⟨L, 0, none⟩) h.geL _), h.geL⟩
  · have := h.pos
    simp only [putR, List.length_append, List.length_map]
    omega
  · obtain ⟨c', hc'⟩ := ownsRow_cells r4 e
    rw [hc'] at l4
    cases l4

/-- The list's own cell behind Put. -/
theorem KS.putL {w0 wr w3 w4 : World} {T L bm : Nat} {kv vv lv : Value} {D : DataW Unit} {l : List (Int × Int)} {sl sl' : List Value} {ks' : List Int} {fresh : Bool} {e : Ending} (h : KS w0 wr T L bm kv vv lv D l sl) (hb : Below wr.heap.size wr w3)
    (hP : KPutPost w3 w0.heap.size T bm kv vv fresh ks' sl' e w4) : w4.cell? ⟨L, 0, none⟩ = some lv ∧ w4.frozen? ⟨L, 0, none⟩ = false ∧ L < w4.heap.size := by
  have h3 := h.grow hb
  obtain ⟨-, kv', vv', D', ht, M, -, -⟩ := hP
  have l4 : w4.heap[L]? = some (.cells #[lv] 37 (0, 0)) := (M.block L h3.ltL (h3.tab.apart h3.lcell (by decide) (by decide) (by decide))).trans h3.lcell
  exact ⟨by simp [World.cell?, l4], by simp [World.frozen?, l4], (Array.getElem?_eq_some_iff.1 l4).1⟩

/-- Put of a list, whether its key stands there or not. -/
theorem KPut_any {w : World} {B T bm : Nat} {kv vv : Value} {D : DataW Unit} {ks : List Int} {sl : List Value} (h : IsKT w B T bm kv vv D ks sl) (hlen : ks.length ≤ 65536) (k : Int) (k0 : 0 ≤ k) (k1 : k < 65536) (g m : Nat) (hu : ValOk w B (fun g => g = T ∨ kv.ownBlock = some g ∨ vv.ownBlock = some g) (.slice (some ⟨g, 0, none⟩) m m)) (hB : B ≤ w.heap.size) :
    Calls Try.prog 14 #[.pointer (some ⟨T, 0, none⟩), .agg (pcells k), .slice (some ⟨g, 0, none⟩) m m] w (fun e w' => ∃ sl', KPutPost w B T bm kv vv (!(ks.any (fun t => t == k))) (if ks.any (fun t => t == k) then ks else ks ++ [k]) sl' e w') := by
  cases hp : posI ks k with
  | none =>
    have ha := posI_any ks k
    rw [hp] at ha
    rw [← ha]
    exact (KPut_new h k k0 k1 g m hu hp (by omega) hB).mono fun _ _ h => ⟨_, h⟩
  | some i =>
    have ha := posI_any ks k
    rw [hp] at ha
    rw [← ha]
    exact (KPut_old h k k0 k1 g m hu hp hB).mono fun _ _ h => ⟨_, h⟩

theorem IsKT.lower {w : World} {B B' T bm : Nat} {kv vv : Value} {D : DataW Unit} {ks : List Int} {sl : List Value} (h : IsKT w B T bm kv vv D ks sl) (hB : B' ≤ B) : IsKT w B' T bm kv vv D ks sl :=
  ⟨h.block, h.map, ownsRow_lower h.keys hB, ownsRow_lower h.vals hB, fun u hu => by
    obtain ⟨g, m, cur, h1, h2, h3, h4, h5, h6, h7⟩ := h.ok u hu
    exact ⟨g, m, cur, h1, h2, h3, h4, h5, by omega, h7⟩, h.range, h.has, h.ix, Nat.le_trans hB h.geT, Nat.le_trans hB h.gem, h.d1, h.d2, h.d3, h.d4, h.few⟩

/-- Ahead of the first loop. -/
theorem KS.start {w wA w1 w4 : World} {bm : Nat} {u : Value} {e : Ending} (sA : wA.heap.size = w.heap.size + 1 + 1) (bA : wA.heap[w.heap.size]? = some (.cells #[.bool false] 4 (0, 0))) (hw : Below w.heap.size w wA) (hb1 : Below wA.heap.size wA w1)
    (hP : KPutPost (w1.alloc (.cells #[.int .i64 9] 3)) (w.heap.size + 1) (w.heap.size + 1) bm (.slice none 0 0) (.slice none 0 0) true [0] [u] e w4) :
    ∃ kv vv D, KS w ((w4.alloc (.cells #[.int .i64 0, .int .i64 1] 36)).alloc (.cells #[.slice (some ⟨w4.heap.size, 0, none⟩) 1 1] 37)) (w.heap.size + 1) (w4.heap.size + 1) bm kv vv (.slice (some ⟨w4.heap.size, 0, none⟩) 1 1) D [(0, 1)] [u] := by
  obtain ⟨-, kv, vv, D, ht, M, -, -⟩ := hP
  have hs1 := hb1.size
  have hb3 : Below wA.heap.size wA (w1.alloc (.cells #[.int .i64 9] 3)) := hb1.alloc hs1 _
  have hbm := ht.gem
  have b4 : w4.heap[w.heap.size]? = some (.cells #[.bool false] 4 (0, 0)) := by
    rw [M.block _ (by have := hb3.size; omega) (by rintro (e | e | e | e) <;> first | omega | cases e), hb3.block _ (by omega)]
    exact bA
  have l4 : w.heap.size < w4.heap.size := (Array.getElem?_eq_some_iff.1 b4).1
  have hM : Below w.heap.size (w1.alloc (.cells #[.int .i64 9] 3)) w4 := by
    refine M.below (by have := hb3.size; omega) ?_
    rintro g (e | e | e | e)
    · omega
    · omega
    · cases e
    · cases e
  have h4 : Below w.heap.size w w4 := (hw.trans (hb3.mono (by omega))).trans hM
  have hX : Below w4.heap.size w4 ((w4.alloc (.cells #[.int .i64 0, .int .i64 1] 36)).alloc (.cells #[.slice (some ⟨w4.heap.size, 0, none⟩) 1 1] 37)) := ((Below.refl _ _).alloc (Nat.le_refl _) _).alloc (by simp) _
  refine ⟨kv, vv, D, (ht.below hX).lower (by omega), by simp, by simp, ⟨by simp [rowsC], .inr ⟨w4.heap.size, 1, #[.int .i64 0, .int .i64 1], rfl, by omega, ?_, by simp, by unfold maxLen; omega, by simp, by simp [rowsC]⟩⟩, ?_, (hX.block _ l4).trans b4, h4.trans (hX.mono (by omega)), by omega⟩
  · rw [Below.heap_alloc _ _ _ (by simp)]
    exact heap_new w4 _
  · have := heap_new (w4.alloc (.cells #[.int .i64 0, .int .i64 1] 36)) (.cells #[.slice (some ⟨w4.heap.size, 0, none⟩) 1 1] 37)
    rwa [World.size_alloc] at this

/-- The fresh list of two numbers. -/
theorem KS.valOk {w0 W : World} {T L bm : Nat} {kv vv lv : Value} {D : DataW Unit} {l : List (Int × Int)} {sl : List Value} (h : KS w0 W T L bm kv vv lv D l sl) (z : Int) :
    ValOk (W.alloc (.cells #[.int .i64 z, .int .i64 z] 3)) w0.heap.size (fun g => g = T ∨ kv.ownBlock = some g ∨ vv.ownBlock = some g) (.slice (some ⟨W.heap.size, 0, none⟩) 2 2) := by
  refine ⟨W.heap.size, 2, _, rfl, by omega, by omega, heap_new W _, rfl, Nat.le_of_lt h.ltb, ?_, fun j hj => ?_⟩
  · rintro (e | e | e)
    · have := h.tab.facts.2.2.2.2.2; omega
    · have := (h.tab.keys.lt _ e).2; omega
    · have := (h.tab.vals.lt _ e).2; omega
  · have : j = 0 ∨ j = 1 := by omega
    rcases this with rfl | rfl
    · exact ⟨z, rfl⟩
    · exact ⟨z, rfl⟩

/-- Put of the fresh list, behind the reference's Put and the key. -/
theorem KS.putAny {w0 wr w2 : World} {T L bm : Nat} {kv vv lv : Value} {D : DataW Unit} {l : List (Int × Int)} {sl : List Value} (h : KS w0 wr T L bm kv vv lv D l sl) (hb : Below wr.heap.size wr w2) (k z : Int) (k0 : 0 ≤ k) (k1 : k < 65536) :
    Calls Try.prog 14 #[.pointer (some ⟨T, 0, none⟩), .agg (pcells k), .slice (some ⟨w2.heap.size, 0, none⟩) 2 2] (w2.alloc (.cells #[.int .i64 z, .int .i64 z] 3)) (fun e w' => ∃ sl', KPutPost (w2.alloc (.cells #[.int .i64 z, .int .i64 z] 3)) w0.heap.size T bm kv vv (!(l.any (fun r => r.1 == k))) (if (l.map (·.1)).any (fun t => t == k) then l.map (·.1) else l.map (·.1) ++ [k]) sl' e w') := by
  have h2 := h.grow hb
  have h3 := h2.grow ((Below.refl _ _).alloc (Nat.le_refl _) (.cells #[.int .i64 z, .int .i64 z] 3))
  have := KPut_any h3.tab (by simpa using h3.len) k k0 k1 _ 2 (h2.valOk z) (Nat.le_of_lt h3.ltb)
  rw [any_fst] at this ⊢
  exact this

theorem KS.getNone {w0 W W2 : World} {T L bm : Nat} {kv vv lv : Value} {D : DataW Unit} {l : List (Int × Int)} {sl : List Value} (h : KS w0 W T L bm kv vv lv D l sl) (hb : Below W.heap.size W W2) (k : Int) (k0 : 0 ≤ k) (k1 : k < 65536) (hp : posI (l.map (·.1)) k = none) :
    Calls Try.prog 18 #[.pointer (some ⟨T, 0, none⟩), .agg (pcells k)] W2 (RetB (.tuple #[.slice none 0 0, .bool false]) W2) := by
  have := KGet_any (h.grow hb).tab k k0 k1
  rw [hp] at this
  exact this
theorem KS.getSome {w0 W W2 : World} {T L bm : Nat} {kv vv lv u : Value} {D : DataW Unit} {l : List (Int × Int)} {sl : List Value} (h : KS w0 W T L bm kv vv lv D l sl) (hb : Below W.heap.size W W2) (k : Int) (k0 : 0 ≤ k) (k1 : k < 65536) {i : Nat} (hp : posI (l.map (·.1)) k = some i) (hu : sl[i]? = some u) :
    Calls Try.prog 18 #[.pointer (some ⟨T, 0, none⟩), .agg (pcells k)] W2 (RetB (.tuple #[u, .bool true]) W2) := by
  have := KGet_any (h.grow hb).tab k k0 k1
  rw [hp] at this
  simpa [hu] using this
theorem KS.anyOf {w0 W : World} {T L bm : Nat} {kv vv lv : Value} {D : DataW Unit} {l : List (Int × Int)} {sl : List Value} (_ : KS w0 W T L bm kv vv lv D l sl) (k : Int) : l.any (fun r => r.1 == k) = (posI (l.map (·.1)) k).isSome := by
  rw [posI_any, any_fst]
theorem KS.found {w0 W : World} {T L bm : Nat} {kv vv lv : Value} {D : DataW Unit} {l : List (Int × Int)} {sl : List Value} (h : KS w0 W T L bm kv vv lv D l sl) {k : Int} {i : Nat} (hp : posI (l.map (·.1)) k = some i) :
    ∃ g m cur z, sl[i]? = some (.slice (some ⟨g, 0, none⟩) m m) ∧ 1 ≤ m ∧ m ≤ 2 ∧ W.heap[g]? = some (.cells cur 3 (0, 0)) ∧ cur[0]? = some (.int .i64 z) ∧ w0.heap.size ≤ g := by
  have hi : i < (l.map (·.1)).length := by
    unfold posI at hp
    rw [List.findIdx?_eq_some_iff_getElem] at hp
    exact hp.1
  obtain ⟨u, hu⟩ : ∃ u, sl[i]? = some u := ⟨_, List.getElem?_eq_getElem (by have := h.tab.slen; omega)⟩
  obtain ⟨g, m, cur, rfl, m1, m2, h4, h5, h6, h7, h8⟩ := h.tab.ok u (List.mem_of_getElem? hu)
  obtain ⟨z, hz⟩ := h8 0 (by omega)
  exact ⟨g, m, cur, z, hu, m1, m2, h4, hz, h6⟩
end Go.Proofs.Ytnmnmkdmnohbmaa
