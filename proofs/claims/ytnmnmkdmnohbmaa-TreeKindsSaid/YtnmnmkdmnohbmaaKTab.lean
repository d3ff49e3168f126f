/- A table of lists under places: what its blocks hold; Len, Get, Put. Conditions: none. -/
import Derived.Test.YtnmnmkdmnohbmaaPlace
import Derived.Test.YtnmnmkdmnohbmaaPaired
namespace Go.Proofs.Ytnmnmkdmnohbmaa
open Go.RowKit Go.Maps
attribute [local go_sem] run_store_float

def posI (ks : List Int) (k : Int) : Option Nat := ks.findIdx? (fun t => t == k)

def pcs (ks : List Int) : List Value := ks.flatMap (fun k => (pcells k).toList)

/-- A list that is laid in: a row of one or two numbers. -/
def ValOk (w : World) (B : Nat) (no : Nat → Prop) (u : Value) : Prop :=
  ∃ g m cur, u = .slice (some ⟨g, 0, none⟩) m m ∧ 1 ≤ m ∧ m ≤ 2 ∧ w.heap[g]? = some (.cells cur 3 (0, 0)) ∧ cur.size = m ∧ B ≤ g ∧ ¬ no g ∧ ∀ j, j < m → ∃ z, cur[j]? = some (.int .i64 z)

theorem ValOk.kept {w w' : World} {B : Nat} {no no' : Nat → Prop} {u : Value} {row : Option Nat} (h : ValOk w B no u) (hg : w.grownBy w' row) (hr : ∀ g, row = some g → no g) (hn : ∀ g, g < w.heap.size → no' g → no g) : ValOk w' B no' u := by
  obtain ⟨g, m, cur, h1, h2, h3, h4, h5, h6, h7, h8⟩ := h
  have hlt := (Array.getElem?_eq_some_iff.1 h4).1
  exact ⟨g, m, cur, h1, h2, h3, (hg.block g hlt (fun e => h7 (hr g e.symm))).trans h4, h5, h6, fun e => h7 (hn g hlt e), h8⟩

structure IsKT (w : World) (B T bm : Nat) (kv vv : Value) (D : DataW Unit) (ks : List Int) (sl : List Value) : Prop where
  block : w.heap[T]? = some (.cells #[.map (some bm), kv, vv] 28 (0, 0))
  map : w.ownsMap Try.prog 32 (plainElem Try.prog 3) bm ks.length D
  keys : w.ownsRow B 32 3 kv ks.length (pcs ks)
  vals : w.ownsRow B 33 1 vv ks.length sl
  ok : ∀ u ∈ sl, ValOk w B (fun g => g = T ∨ kv.ownBlock = some g ∨ vv.ownBlock = some g) u
  range : ∀ k ∈ ks, 0 ≤ k ∧ k < 65536
  has : ∀ k : Int, 0 ≤ k → k < 65536 → Maps.has D (pk k) = (posI ks k).isSome
  ix : ∀ (k : Int) (i : Nat), 0 ≤ k → k < 65536 → posI ks k = some i → D.atKey (pk k) (.lit (.int .i64 0)) = .lit (.int .i64 i)
  geT : B ≤ T
  gem : B ≤ bm
  d1 : T ≠ bm
  d2 : kv.ownBlock ≠ some T
  d3 : vv.ownBlock ≠ some T
  d4 : kv.ownBlock = none ∨ kv.ownBlock ≠ vv.ownBlock
  few : ks.length < 1099511627776

theorem IsKT.facts {w : World} {B T bm : Nat} {kv vv : Value} {D : DataW Unit} {ks : List Int} {sl : List Value} (h : IsKT w B T bm kv vv D ks sl) :
    w.cell? ⟨T, 0, none⟩ = some (.map (some bm)) ∧ w.cell? ⟨T, 1, none⟩ = some kv ∧ w.cell? ⟨T, 2, none⟩ = some vv ∧ w.frozen? ⟨T, 1, none⟩ = false ∧ w.frozen? ⟨T, 2, none⟩ = false ∧ T < w.heap.size := by
  have hb := h.block
  refine ⟨by simp [World.cell?, hb], by simp [World.cell?, hb], by simp [World.cell?, hb], by simp [World.frozen?, hb], by simp [World.frozen?, hb], (Array.getElem?_eq_some_iff.1 hb).1⟩

theorem IsKT.slen {w : World} {B T bm : Nat} {kv vv : Value} {D : DataW Unit} {ks : List Int} {sl : List Value} (h : IsKT w B T bm kv vv D ks sl) : sl.length = ks.length := by
  have := h.vals.1; omega

/-- Under a change that leaves the table's blocks and its lists' rows. -/
theorem IsKT.below {w w' : World} {B T bm : Nat} {kv vv : Value} {D : DataW Unit} {ks : List Int} {sl : List Value} (h : IsKT w B T bm kv vv D ks sl) (hb : Below w.heap.size w w') : IsKT w' B T bm kv vv D ks sl := by
  have hg := grown_of_below hb none
  exact ⟨(hb.block T h.facts.2.2.2.2.2).trans h.block, h.map.kept hg (by simp), h.keys.kept hg (by cases kv.ownBlock <;> simp), h.vals.kept hg (by cases vv.ownBlock <;> simp), fun u hu => (h.ok u hu).kept hg (fun g e => by cases e) (fun _ _ e => e), h.range, h.has, h.ix, h.geT, h.gem, h.d1, h.d2, h.d3, h.d4, h.few⟩

theorem KLen_any {w : World} {B T bm : Nat} {kv vv : Value} {D : DataW Unit} {ks : List Int} {sl : List Value} (h : IsKT w B T bm kv vv D ks sl) :
    Calls Try.prog 20 #[.pointer (some ⟨T, 0, none⟩)] w (RetS (.int .i64 ks.length) w) := by
  obtain ⟨c0, c1, c2, f1, f2, hT⟩ := h.facts
  obtain ⟨p, c, rfl⟩ := row_slice h.keys
  go_enter Try.func20, Try.ntmps20
  go_wp2_with fail
  go_ret
  exact ⟨rfl, rfl⟩

/-- The cells of a row of one-cell elements. -/
theorem row1 {w : World} {B n : Nat} {e : TypeId} {v : Value} {xs : List Value} (h : w.ownsRow B e 1 v n xs) (hn : 0 < n) :
    ∃ g cap, v = .slice (some ⟨g, 0, none⟩) n cap ∧ n ≤ cap ∧ cap ≤ maxLen ∧ B ≤ g ∧ g < w.heap.size ∧ (∀ j, w.frozen? ⟨g, j, none⟩ = false) ∧ ∀ j u, xs[j]? = some u → w.cell? ⟨g, j, none⟩ = some u := by
  rcases h.2 with ⟨_, h0⟩ | ⟨g, cap, cur, hv, hb, hh, hn', hc, hs, ht⟩
  · omega
  · refine ⟨g, cap, hv, hn', hc, hb, (Array.getElem?_eq_some_iff.1 hh).1, fun j => by simp [World.frozen?, hh], fun j u hu => ?_⟩
    rw [← ht, List.getElem?_take] at hu
    split at hu
    · simp only [World.cell?, hh]
      simpa using hu
    · cases hu

theorem look_kt {w : World} {B T bm : Nat} {kv vv : Value} {D : DataW Unit} {ks : List Int} {sl : List Value} (h : IsKT w B T bm kv vv D ks sl) (k : Int) (k0 : 0 ≤ k) (k1 : k < 65536) :
    ∃ x, (∀ w', w' = w → (Instr.lookup 24 (.map (some bm)) (.agg (pcells k)) true).run Try.prog w' = .ok (.tuple #[.int .i64 x, .bool (posI ks k).isSome]) w') ∧ ∀ i : Nat, posI ks k = some i → x = (i : Int) := by
  have hut : Try.prog.underlying 24 = some (.map 32 3) := Try.underlying24
  have hui : Try.prog.underlying 3 = some (.int .i64) := Try.underlying3
  obtain ⟨v, ps, hrun, hv⟩ := h.map.look_ok lawP hut (zeroI w) (plainElem_int hui (by decide)) (key_pk k)
  obtain ⟨c, rfl, hc, _⟩ := plainElem_int_inv hui hv
  rw [h.has k k0 k1] at hrun
  refine ⟨c, fun w' e => by subst e; exact hrun, fun i hi => ?_⟩
  rw [h.ix k i k0 k1 hi] at hc
  simp only [Prod.mk.injEq] at hc
  have := hc.1
  cases this
  rfl

set_option maxRecDepth 100000 in
set_option maxHeartbeats 2000000 in
theorem KGet_any {w : World} {B T bm : Nat} {kv vv : Value} {D : DataW Unit} {ks : List Int} {sl : List Value} (h : IsKT w B T bm kv vv D ks sl) (k : Int) (k0 : 0 ≤ k) (k1 : k < 65536) :
    Calls Try.prog 18 #[.pointer (some ⟨T, 0, none⟩), .agg (pcells k)] w (RetB (.tuple #[((posI ks k).bind (fun i => sl[i]?)).getD (.slice none 0 0), .bool (posI ks k).isSome]) w) := by
  obtain ⟨wa, hW⟩ : ∃ wa, w.alloc (.cells (pcells k) 32) = wa := ⟨_, rfl⟩
  have hba : Below w.heap.size w wa := by rw [← hW]; exact (Below.refl _ _).alloc (Nat.le_refl _) _
  have hca : CellsAt wa w.heap.size 0 (pcells k) := by rw [← hW]; exact cellsAt_alloc _ _ _ _
  have hsa : w.heap.size < wa.heap.size := by rw [← hW]; simp
  have ha := h.below hba
  obtain ⟨c0, c1, c2, f1, f2, hT⟩ := ha.facts
  have k0' : wa.cell? ⟨w.heap.size, 0, none⟩ = some (.int .i8 (kR k)) := hca 0 _ rfl
  have k1' : wa.cell? ⟨w.heap.size, 1, none⟩ = some (.int .i8 (kC k)) := hca 1 _ rfl
  have k2' : wa.cell? ⟨w.heap.size, 2, none⟩ = some (.bool (kF k)) := hca 2 _ rfl
  cases hpos : posI ks k with
  | none =>
    obtain ⟨x, hrun0, _⟩ := look_kt (ha.below (Below.drew (Below.refl _ wa))) k k0 k1
    have hrun := hrun0 _ rfl
    rw [hpos] at hrun
    simp only [Option.isSome_none] at hrun
    clear hrun0
    obtain ⟨p2, c2', rfl⟩ := row_slice h.vals
    have HB := Lib.hid hba
    clear h ha hba
    go_enter Try.func18, Try.ntmps18
    go_upto_region 4 with (fail)
    have kc := cell_cls wa
    refine wp_region_plan_below 11 [(0, [0, 1, 2, 3, 4]), (1, [5, 6]), (0, [7, 8, 9, 10])] (by kernel_rfl) (by kernel_rfl) (fun _ _ _ _ h => h) ?_
    simp only [wpSegs, pickOps, List.getElem?_toArray, List.getElem?_cons_zero, List.getElem?_cons_succ]
    iterate 5 (go_big_quiet_step (fail))
    refine wpQuiet_nil ?_
    clear kc
    refine wpListC_plain rfl (fun K hK => ?_)
    go_step
    refine hK _ _ (cls_drew _) ?_
    clear hK K
    refine wpListC_plain rfl (fun K hK => ?_)
    go_step
    refine hK _ _ (cls_drew _) ?_
    clear hK K
    refine wpListC_nil ?_
    iterate 4 (go_big_quiet_step (fail))
    refine wpQuiet_nil ?_
    go_wp2_with fail
    go_ret2
    exact ⟨rfl, HB.out.trans (Below.drew (Below.refl _ _))⟩
  | some i =>
    obtain ⟨x, hrun0, hxi⟩ := look_kt (ha.below (Below.drew (Below.refl _ wa))) k k0 k1
    have hrun := hrun0 _ rfl
    obtain rfl := hxi i hpos
    rw [hpos] at hrun
    simp only [Option.isSome_some] at hrun
    clear hrun0 hxi
    have hi : i < ks.length := by
      unfold posI at hpos
      rw [List.findIdx?_eq_some_iff_getElem] at hpos
      exact hpos.1
    obtain ⟨u, hu⟩ : ∃ u, sl[i]? = some u := ⟨_, List.getElem?_eq_getElem (by have := h.slen; omega)⟩
    obtain ⟨g, m, cur, rfl, m1, m2, _⟩ := h.ok u (List.mem_of_getElem? hu)
    obtain ⟨gv, cap, rfl, hc1, hc2, _, hgv, _, hcs⟩ := row1 ha.vals (by omega)
    have hcu := hcs i _ hu
    have few := h.few
    unfold maxLen at hc2
    have HB := Lib.hid hba
    clear h ha hba hcs
    go_enter Try.func18, Try.ntmps18
    go_upto_region 4 with (fail)
    have kc := cell_cls wa
    refine wp_region_plan_below 11 [(0, [0, 1, 2, 3, 4]), (1, [5, 6]), (0, [7, 8, 9, 10])] (by kernel_rfl) (by kernel_rfl) (fun _ _ _ _ h => h) ?_
    simp only [wpSegs, pickOps, List.getElem?_toArray, List.getElem?_cons_zero, List.getElem?_cons_succ]
    iterate 5 (go_big_quiet_step (fail))
    refine wpQuiet_nil ?_
    clear kc
    refine wpListC_plain rfl (fun K hK => ?_)
    go_step
    refine hK _ _ (cls_drew _) ?_
    clear hK K
    refine wpListC_plain rfl (fun K hK => ?_)
    go_step
    refine hK _ _ (cls_drew _) ?_
    clear hK K
    refine wpListC_nil ?_
    iterate 4 (go_big_quiet_step (fail))
    refine wpQuiet_nil ?_
    have hcu' : wa.drew.cell? ⟨gv, i, none⟩ = some (.slice (some ⟨g, 0, none⟩) m m) := hcu
    have c2' : wa.drew.cell? ⟨T, 2, none⟩ = some (.slice (some ⟨gv, 0, none⟩) ks.length cap) := c2
    have HB2 := Lib.hid (HB.out.trans (Below.drew (Below.refl _ _)) : Below w.heap.size w wa.drew)
    generalize wa.drew = wd at *
    go_wp2_with fail
    go_ret2
    refine ⟨?_, HB2.out⟩
    simp

/-- The worlds in which four cells hold what they hold. -/
structure FourW (T Kx : Nat) (u0 u1 u2 u3 : Value) where
  w : World
  h0 : w.cell? ⟨T, 1, none⟩ = some u0
  h1 : w.cell? ⟨Kx, 0, none⟩ = some u1
  h2 : w.cell? ⟨Kx, 1, none⟩ = some u2
  h3 : w.cell? ⟨Kx, 2, none⟩ = some u3
abbrev FourCls (T Kx : Nat) (u0 u1 u2 u3 : Value) : World → Prop := fun w' => ∃ z : FourW T Kx u0 u1 u2 u3, w' = z.w
theorem FourW.of {T Kx : Nat} {u0 u1 u2 u3 : Value} {w : World} (h0 : w.cell? ⟨T, 1, none⟩ = some u0) (h1 : w.cell? ⟨Kx, 0, none⟩ = some u1) (h2 : w.cell? ⟨Kx, 1, none⟩ = some u2) (h3 : w.cell? ⟨Kx, 2, none⟩ = some u3) : FourCls T Kx u0 u1 u2 u3 { w with drawn := w.drawn + 1 } := ⟨⟨{ w with drawn := w.drawn + 1 }, h0, h1, h2, h3⟩, rfl⟩
theorem FourW.mk' {T Kx : Nat} {u0 u1 u2 u3 : Value} {w : World} (h0 : w.cell? ⟨T, 1, none⟩ = some u0) (h1 : w.cell? ⟨Kx, 0, none⟩ = some u1) (h2 : w.cell? ⟨Kx, 1, none⟩ = some u2) (h3 : w.cell? ⟨Kx, 2, none⟩ = some u3) : FourCls T Kx u0 u1 u2 u3 w := ⟨⟨_, h0, h1, h2, h3⟩, rfl⟩
theorem FourW.k0 (T Kx : Nat) (u0 u1 u2 u3 : Value) : ∀ z : FourW T Kx u0 u1 u2 u3, z.w.cell? ⟨T, 1, none⟩ = some u0 := fun z => z.h0
theorem FourW.k1 (T Kx : Nat) (u0 u1 u2 u3 : Value) : ∀ z : FourW T Kx u0 u1 u2 u3, z.w.cell? ⟨Kx, 0, none⟩ = some u1 := fun z => z.h1
theorem FourW.k2 (T Kx : Nat) (u0 u1 u2 u3 : Value) : ∀ z : FourW T Kx u0 u1 u2 u3, z.w.cell? ⟨Kx, 1, none⟩ = some u2 := fun z => z.h2
theorem FourW.k3 (T Kx : Nat) (u0 u1 u2 u3 : Value) : ∀ z : FourW T Kx u0 u1 u2 u3, z.w.cell? ⟨Kx, 2, none⟩ = some u3 := fun z => z.h3

/-- What Put leaves. -/
def KPutPost (w : World) (B T bm : Nat) (kv vv : Value) (fresh : Bool) (ks : List Int) (sl : List Value) (e : Ending) (w' : World) : Prop :=
  e = .returned (.bool fresh) ∧ ∃ kv' vv' D', IsKT w' B T bm kv' vv' D' ks sl ∧ Moved (fun g => g = T ∨ g = bm ∨ kv.ownBlock = some g ∨ vv.ownBlock = some g) w w' ∧
    (kv'.ownBlock = kv.ownBlock ∨ ∃ g, w.heap.size ≤ g ∧ kv'.ownBlock = some g) ∧ (vv'.ownBlock = vv.ownBlock ∨ ∃ g, w.heap.size ≤ g ∧ vv'.ownBlock = some g)

theorem ValOk.moved {w w' : World} {B T bm : Nat} {kv vv kv' vv' u : Value} (h : ValOk w B (fun g => g = T ∨ kv.ownBlock = some g ∨ vv.ownBlock = some g) u) (hm : ∀ g cur, w.heap[g]? = some (.cells cur 3 (0, 0)) → g ≠ bm)
    (M : Moved (fun g => g = T ∨ g = bm ∨ kv.ownBlock = some g ∨ vv.ownBlock = some g) w w') (l1 : kv'.ownBlock = kv.ownBlock ∨ ∃ g, w.heap.size ≤ g ∧ kv'.ownBlock = some g) (l2 : vv'.ownBlock = vv.ownBlock ∨ ∃ g, w.heap.size ≤ g ∧ vv'.ownBlock = some g) :
    ValOk w' B (fun g => g = T ∨ kv'.ownBlock = some g ∨ vv'.ownBlock = some g) u := by
  obtain ⟨g, m, cur, h1, h2, h3, h4, h5, h6, h7, h8⟩ := h
  have hlt := (Array.getElem?_eq_some_iff.1 h4).1
  refine ⟨g, m, cur, h1, h2, h3, (M.block g hlt ?_).trans h4, h5, h6, ?_, h8⟩
  · rintro (e | e | e | e)
    · exact h7 (.inl e)
    · exact hm g cur h4 e
    · exact h7 (.inr (.inl e))
    · exact h7 (.inr (.inr e))
  · rintro (e | e | e)
    · exact h7 (.inl e)
    · rcases l1 with l | ⟨y, hy, l⟩
      · exact h7 (.inr (.inl (l ▸ e)))
      · rw [l] at e; cases e; omega
    · rcases l2 with l | ⟨y, hy, l⟩
      · exact h7 (.inr (.inr (l ▸ e)))
      · rw [l] at e; cases e; omega

theorem ownsRow_set {w : World} {base : Nat} {e : TypeId} {g n cap i : Nat} {xs : List Value} (h : w.ownsRow base e 1 (.slice (some ⟨g, 0, none⟩) n cap) n xs) (u : Value) :
    (w.setCell ⟨g, i, none⟩ u).ownsRow base e 1 (.slice (some ⟨g, 0, none⟩) n cap) n (xs.set i u) := by
  obtain ⟨hl, h2⟩ := h
  rcases h2 with ⟨h0, _⟩ | ⟨g', cap', cur, h0, hb, hh, hn, hc, hs, ht⟩
  · cases h0
  · cases h0
    refine ⟨by simpa using hl, .inr ⟨g, cap, cur.setIfInBounds i u, rfl, hb, heap_setCell_same hh _, hn, hc, by simpa using hs, ?_⟩⟩
    rw [Array.toList_setIfInBounds, List.take_set, ht]

theorem posI_snoc (ks : List Int) (s t : Int) : posI (ks ++ [s]) t = (posI ks t).or (if s = t then some ks.length else none) := by
  unfold posI
  rw [List.findIdx?_append]
  by_cases h : s = t
  · simp [h]
  · simp [h]

set_option maxRecDepth 100000 in
set_option maxHeartbeats 4000000 in
theorem KPut_old {w : World} {B T bm : Nat} {kv vv : Value} {D : DataW Unit} {ks : List Int} {sl : List Value} (h : IsKT w B T bm kv vv D ks sl) (k : Int) (k0 : 0 ≤ k) (k1 : k < 65536) (g m : Nat) (hu : ValOk w B (fun g => g = T ∨ kv.ownBlock = some g ∨ vv.ownBlock = some g) (.slice (some ⟨g, 0, none⟩) m m)) {i : Nat} (hn : posI ks k = some i) (hB : B ≤ w.heap.size) :
    Calls Try.prog 14 #[.pointer (some ⟨T, 0, none⟩), .agg (pcells k), .slice (some ⟨g, 0, none⟩) m m] w (KPutPost w B T bm kv vv false ks (sl.set i (.slice (some ⟨g, 0, none⟩) m m))) := by
  obtain ⟨p, c, rfl⟩ := row_slice h.keys
  obtain ⟨p2, c2', rfl⟩ := row_slice h.vals
  obtain ⟨wa, hW⟩ : ∃ wa, w.alloc (.cells (pcells k) 32) = wa := ⟨_, rfl⟩
  have hba : Below w.heap.size w wa := by rw [← hW]; exact (Below.refl _ _).alloc (Nat.le_refl _) _
  have hca : CellsAt wa w.heap.size 0 (pcells k) := by rw [← hW]; exact cellsAt_alloc _ _ _ _
  have hsa : w.heap.size < wa.heap.size := by rw [← hW]; simp
  have ha := h.below hba
  obtain ⟨c0, c1, c2, f1, f2, hT⟩ := ha.facts
  have k0' : wa.cell? ⟨w.heap.size, 0, none⟩ = some (.int .i8 (kR k)) := hca 0 _ rfl
  have k1' : wa.cell? ⟨w.heap.size, 1, none⟩ = some (.int .i8 (kC k)) := hca 1 _ rfl
  have k2' : wa.cell? ⟨w.heap.size, 2, none⟩ = some (.bool (kF k)) := hca 2 _ rfl
  obtain ⟨x, hrun0, hxi⟩ := look_kt (ha.below (Below.drew (Below.refl _ wa))) k k0 k1
  have hrun := hrun0 _ rfl
  rw [hn] at hrun
  simp only [Option.isSome_some] at hrun
  obtain rfl := hxi i hn
  have hi : i < ks.length := by
    unfold posI at hn
    rw [List.findIdx?_eq_some_iff_getElem] at hn
    exact hn.1
  clear hrun0 hxi
  have HB := Lib.hid hba
  have HH := Lib.hid h
  have HA := Lib.hid ha
  have HU := Lib.hid hu
  have HCA := Lib.hid hca
  have HN := Lib.hid hn
  clear h ha hba hu hca hn
  go_enter Try.func14, Try.ntmps14
  go_upto_region 3 with (fail)
  have kc := cell_cls wa
  refine wp_region_plan_below 11 [(0, [0, 1, 2, 3, 4]), (1, [5, 6]), (0, [7, 8, 9, 10])] (by kernel_rfl) (by kernel_rfl) (fun _ _ _ _ h => h) ?_
  simp only [wpSegs, pickOps, List.getElem?_toArray, List.getElem?_cons_zero, List.getElem?_cons_succ]
  iterate 5 (go_big_quiet_step (fail))
  refine wpQuiet_nil ?_
  clear kc
  refine wpListC_plain rfl (fun K hK => ?_)
  go_step
  refine hK _ _ (cls_drew _) ?_
  clear hK K
  refine wpListC_plain rfl (fun K hK => ?_)
  go_step
  refine hK _ _ (cls_drew _) ?_
  clear hK K
  refine wpListC_nil ?_
  iterate 4 (go_big_quiet_step (fail))
  refine wpQuiet_nil ?_
  clear hrun c0 c1 c2 f1 f2 k0' k1' k2' hW
  have hd := Below.drew (Below.refl wa.heap.size wa)
  have H := Lib.hid (HA.out.below hd)
  have HKB := Lib.hid (HCA.out.below hd hsa)
  have HB0 := Lib.hid (HB.out.trans (hd.mono HB.out.size))
  have hsa0 : w.heap.size < wa.drew.heap.size := hsa
  clear hd HA HCA HB hsa hT
  generalize wa.drew = w0 at *
  obtain ⟨c0, c1, c2, f1, f2, hT⟩ := H.out.facts
  have k0' : w0.cell? ⟨w.heap.size, 0, none⟩ = some (.int .i8 (kR k)) := HKB.out 0 _ rfl
  have k1' : w0.cell? ⟨w.heap.size, 1, none⟩ = some (.int .i8 (kC k)) := HKB.out 1 _ rfl
  have k2' : w0.cell? ⟨w.heap.size, 2, none⟩ = some (.bool (kF k)) := HKB.out 2 _ rfl
  obtain ⟨gv, cap, hvv, hc1, hc2, _, hgv, hfz, hcs⟩ := row1 H.out.vals (by omega)
  obtain ⟨rfl, rfl⟩ : p2 = some ⟨gv, 0, none⟩ ∧ c2' = cap := by cases hvv; exact ⟨rfl, rfl⟩
  obtain ⟨u0, hu0⟩ : ∃ u, sl[i]? = some u := ⟨_, List.getElem?_eq_getElem (by have := H.out.slen; omega)⟩
  obtain ⟨g0, m0, _, rfl, _⟩ := H.out.ok u0 (List.mem_of_getElem? hu0)
  have hcu := hcs i _ hu0
  have hfi := hfz i
  have few := H.out.few
  unfold maxLen at hc2
  clear hcs hfz hvv
  go_wp2_with fail
  go_ret
  have hg5 := grown_setCell w0 ⟨gv, i, none⟩ (.slice (some ⟨g, 0, none⟩) m m)
  have hgT : gv ≠ T := fun e => H.out.d3 (by rw [e]; rfl)
  have M5 := (Moved.of_grown (grown_of_below HB0.out none) (fun g e => by cases e)).trans ((Moved.of_grown hg5 (fun y e => .inl (.inr (.inr (.inr e)))) : Moved (fun y => y = T ∨ y = bm ∨ (Value.slice p ks.length c).ownBlock = some y ∨ (Value.slice (some ⟨gv, 0, none⟩) ks.length c2').ownBlock = some y) w0 (w0.setCell ⟨gv, i, none⟩ (.slice (some ⟨g, 0, none⟩) m m))))
  refine ⟨rfl, _, _, _, ⟨?_, H.out.map.kept hg5 (fun e => row_ne_map H.out.vals H.out.map e.symm), H.out.keys.kept hg5 H.out.d4, ownsRow_set H.out.vals _, fun u hu => ?_, H.out.range, H.out.has, H.out.ix, H.out.geT, H.out.gem, H.out.d1, H.out.d2, H.out.d3, H.out.d4, H.out.few⟩, M5, .inl rfl, .inl rfl⟩
  · exact (hg5.block T hT (fun e => hgT (by cases e; rfl))).trans H.out.block
  · rcases List.mem_or_eq_of_mem_set hu with hu | rfl
    · exact (HH.out.ok u hu).moved (fun g cur h4 e => by obtain ⟨es, clock, hb, _⟩ := HH.out.map; rw [e, hb] at h4; cases h4) M5 (.inl rfl) (.inl rfl)
    · exact HU.out.moved (fun g cur h4 e => by obtain ⟨es, clock, hb, _⟩ := HH.out.map; rw [e, hb] at h4; cases h4) M5 (.inl rfl) (.inl rfl)

set_option maxRecDepth 100000 in
set_option maxHeartbeats 4000000 in
theorem KPut_first {w : World} {B T : Nat} (hb : w.heap[T]? = some (.cells #[.map none, .slice none 0 0, .slice none 0 0] 28 (0, 0))) (hBT : B ≤ T) (k : Int) (k0 : 0 ≤ k) (k1 : k < 65536) (g m : Nat) (hu : ValOk w B (fun g => g = T ∨ (Value.slice none 0 0).ownBlock = some g ∨ (Value.slice none 0 0).ownBlock = some g) (.slice (some ⟨g, 0, none⟩) m m)) (hB : B ≤ w.heap.size) :
    Calls Try.prog 14 #[.pointer (some ⟨T, 0, none⟩), .agg (pcells k), .slice (some ⟨g, 0, none⟩) m m] w (fun e w' => ∃ bm, KPutPost w B T bm (.slice none 0 0) (.slice none 0 0) true [k] [.slice (some ⟨g, 0, none⟩) m m] e w') := by
  obtain ⟨wa, hW⟩ : ∃ wa, w.alloc (.cells (pcells k) 32) = wa := ⟨_, rfl⟩
  have hba : Below w.heap.size w wa := by rw [← hW]; exact (Below.refl _ _).alloc (Nat.le_refl _) _
  have hca : CellsAt wa w.heap.size 0 (pcells k) := by rw [← hW]; exact cellsAt_alloc _ _ _ _
  have hsa : w.heap.size < wa.heap.size := by rw [← hW]; simp
  have hTw := (Array.getElem?_eq_some_iff.1 hb).1
  have hba' := (hba.block T hTw).trans hb
  have c0 : wa.cell? ⟨T, 0, none⟩ = some (.map none) := by simp [World.cell?, hba']
  have c1 : wa.cell? ⟨T, 1, none⟩ = some (.slice none 0 0) := by simp [World.cell?, hba']
  have hT : T < wa.heap.size := (Array.getElem?_eq_some_iff.1 hba').1
  have k0' : wa.cell? ⟨w.heap.size, 0, none⟩ = some (.int .i8 (kR k)) := hca 0 _ rfl
  have k1' : wa.cell? ⟨w.heap.size, 1, none⟩ = some (.int .i8 (kC k)) := hca 1 _ rfl
  have k2' : wa.cell? ⟨w.heap.size, 2, none⟩ = some (.bool (kF k)) := hca 2 _ rfl
  have hrun : ∀ w' : World, (Instr.lookup 24 (.map none) (.agg (pcells k)) true).run Try.prog w' = .ok (.tuple #[.int .i64 0, .bool false]) w' := fun w' => look_nil true lawP Try.underlying24 (zeroI w') (key_pk k)
  have HB := Lib.hid hba
  have HU := Lib.hid hu
  have HCA := Lib.hid hca
  have HWB := Lib.hid hb
  have HAB := Lib.hid hba'
  clear hba hu hca hb hba'
  go_enter Try.func14, Try.ntmps14
  go_upto_region 3 with (fail)
  have kc := cell_cls wa
  refine wp_region_plan_below 11 [(0, [0, 1, 2, 3, 4]), (1, [5, 6]), (0, [7, 8, 9, 10])] (by kernel_rfl) (by kernel_rfl) (fun _ _ _ _ h => h) ?_
  simp only [wpSegs, pickOps, List.getElem?_toArray, List.getElem?_cons_zero, List.getElem?_cons_succ]
  iterate 5 (go_big_quiet_step (fail))
  refine wpQuiet_nil ?_
  clear kc
  refine wpListC_plain rfl (fun K hK => ?_)
  go_step
  refine hK _ _ (cls_drew _) ?_
  clear hK K
  refine wpListC_plain rfl (fun K hK => ?_)
  go_step
  refine hK _ _ (cls_drew _) ?_
  clear hK K
  refine wpListC_nil ?_
  iterate 4 (go_big_quiet_step (fail))
  refine wpQuiet_nil ?_
  clear hrun c0 c1 k0' k1' k2' hW
  have hd := Below.drew (Below.refl wa.heap.size wa)
  have HKB := Lib.hid (HCA.out.below hd hsa)
  have HB0 := Lib.hid (HB.out.trans (hd.mono HB.out.size))
  have hsa0 : w.heap.size < wa.drew.heap.size := hsa
  clear hd HCA HB hsa
  have hbd : wa.drew.heap[T]? = some (.cells #[.map none, .slice none 0 0, .slice none 0 0] 28 (0, 0)) := HAB.out
  have hTd : T < wa.drew.heap.size := hT
  clear HAB hT
  generalize wa.drew = wz at *
  have hmm := @run_makeMap Try.prog
  have heqn : ∀ w' : World, (binOp BinOp.eql 24 (.map none) (.map none)).run Try.prog w' = .ok (.bool true) w' := fun w' => by first | rfl | kernel_rfl | simp [binOp, go_sem]
  have c0 : wz.cell? ⟨T, 0, none⟩ = some (.map none) := by simp [World.cell?, hbd]
  have f0 : wz.frozen? ⟨T, 0, none⟩ = false := by simp [World.frozen?, hbd]
  go_upto_region 9 with (fail)
  have hg := grown_setCell wz ⟨T, 0, none⟩ (.map (some wz.heap.size))
  have hsz : (wz.setCell ⟨T, 0, none⟩ (.map (some wz.heap.size))).heap.size = wz.heap.size := by simp [World.setCell]
  have hm0 := World.ownsMap_made (H := Unit) (wz.setCell ⟨T, 0, none⟩ (.map (some wz.heap.size))) Try.prog 32 (plainElem Try.prog 3)
  rw [hsz] at hm0
  have hb0 := heap_old (heap_setCell_same (j := 0) hbd (.map (some wz.heap.size))) (.map #[] 0)
  have hga := grown_of_below ((Below.refl (wz.setCell ⟨T, 0, none⟩ (.map (some wz.heap.size))).heap.size (wz.setCell ⟨T, 0, none⟩ (.map (some wz.heap.size)))).alloc (Nat.le_refl _) (.map #[] 0)) none
  have hs0 : wz.heap.size < ((wz.setCell ⟨T, 0, none⟩ (.map (some wz.heap.size))).alloc (.map #[] 0)).heap.size := by simp [World.setCell]
  have hKT : w.heap.size ≠ T := by omega
  obtain ⟨bm, hbm⟩ : ∃ b, b = wz.heap.size := ⟨_, rfl⟩
  rw [← hbm] at hg hsz hm0 hb0 hga hs0 ⊢
  have hkb : CellsAt ((wz.setCell ⟨T, 0, none⟩ (.map (some bm))).alloc (.map #[] 0)) w.heap.size 0 (pcells k) := fun j x hx => by
    have := HKB.out j x hx
    rw [← this]
    refine (World.cell?_of_block (a := ⟨w.heap.size, 0 + j, none⟩) ?_)
    rw [hga.block w.heap.size (by rw [hsz]; omega) (by simp)]
    exact hg.block w.heap.size hsa0 (fun e => hKT (by cases e; rfl))
  have M0 : Moved (fun y => y = T) w ((wz.setCell ⟨T, 0, none⟩ (.map (some bm))).alloc (.map #[] 0)) :=
    ((Moved.of_grown (grown_of_below HB0.out none) (fun g e => by cases e)).trans (Moved.of_grown hg (fun y e => .inl (by cases e; rfl)))).trans (Moved.of_grown hga (fun g e => by cases e))
  clear HKB HB0 hg hga hmm heqn c0 f0 hbd
  generalize (wz.setCell ⟨T, 0, none⟩ (.map (some bm))).alloc (.map #[] 0) = w0 at *
  replace hb0 : w0.heap[T]? = some (.cells #[.map (some bm), .slice none 0 0, .slice none 0 0] 28 (0, 0)) := hb0
  have hT0 : IsKT w0 B T bm (.slice none 0 0) (.slice none 0 0) (.map []) [] [] :=
    ⟨hb0, hm0, World.ownsRow_nil _ _ _ _, World.ownsRow_nil _ _ _ _, by simp, by simp, fun _ _ _ => rfl, fun k i _ _ h => by simp [posI] at h, hBT, by omega, by omega, by simp [Value.ownBlock], by simp [Value.ownBlock], .inl rfl, by decide⟩
  obtain ⟨p, c, p2, c2', ks, sl, D, h0, hE⟩ : ∃ p c p2 c2' ks sl D, IsKT w0 B T bm (.slice p ks.length c) (.slice p2 ks.length c2') D ks sl ∧ (p = none ∧ c = 0 ∧ p2 = none ∧ c2' = 0 ∧ ks = [] ∧ sl = []) := ⟨none, 0, none, 0, [], [], .map [], hT0, rfl, rfl, rfl, rfl, rfl, rfl⟩
  have H := Lib.hid h0
  have HE := Lib.hid hE
  have HKB := Lib.hid hkb
  have HM0 := Lib.hid M0
  have HU := Lib.hid (show ValOk w B (fun g => g = T ∨ (Value.slice p ks.length c).ownBlock = some g ∨ (Value.slice p2 ks.length c2').ownBlock = some g) (.slice (some ⟨g, 0, none⟩) m m) by obtain ⟨rfl, rfl, rfl, rfl, rfl, rfl⟩ := hE; exact HU.out)
  have HKV := Lib.hid (show (Value.slice p ks.length c).ownBlock ≠ some w.heap.size by obtain ⟨rfl, rfl, rfl, rfl, rfl, rfl⟩ := hE; simp [Value.ownBlock])
  have HGM := Lib.hid (show ∀ g cur, w.heap[g]? = some (.cells cur 3 (0, 0)) → g ≠ bm from fun g cur h4 e => by have := (Array.getElem?_eq_some_iff.1 h4).1; omega)
  have HOKS := Lib.hid (show ∀ u ∈ sl, ValOk w B (fun g => g = T ∨ (Value.slice p ks.length c).ownBlock = some g ∨ (Value.slice p2 ks.length c2').ownBlock = some g) u by obtain ⟨rfl, rfl, rfl, rfl, rfl, rfl⟩ := hE; simp)
  have HN := Lib.hid (show posI ks k = none by obtain ⟨rfl, rfl, rfl, rfl, rfl, rfl⟩ := hE; rfl)
  have room : ks.length + 1 < 1099511627776 := by obtain ⟨rfl, rfl, rfl, rfl, rfl, rfl⟩ := hE; decide
  clear h0 hE hkb M0 hT0 hb0 hm0 hsz
  obtain ⟨c0, c1, c2, f1, f2, hT⟩ := H.out.facts
  have k0' : w0.cell? ⟨w.heap.size, 0, none⟩ = some (.int .i8 (kR k)) := HKB.out 0 _ rfl
  have k1' : w0.cell? ⟨w.heap.size, 1, none⟩ = some (.int .i8 (kC k)) := HKB.out 1 _ rfl
  have k2' : w0.cell? ⟨w.heap.size, 2, none⟩ = some (.bool (kF k)) := HKB.out 2 _ rfl
  have hKm : w.heap.size ≠ bm := by omega
  have hKb : w.heap.size < w0.heap.size := by omega
  clear hbm hsa0 hs0
  have kc := cell_cls w0
  refine wp_region_plan_below 10 [(0, [0, 1, 2, 3, 4, 5, 6, 7, 8, 9]), (2, [10])] (by kernel_rfl) (by kernel_rfl) (fun _ _ _ _ h => h) ?_
  simp only [wpSegs, pickOps, List.getElem?_toArray, List.getElem?_cons_zero, List.getElem?_cons_succ]
  iterate 10 (go_big_quiet_step (fail))
  refine wpQuiet_nil ?_
  clear kc
  change wpList _ _ _ _ _ w0.drew
  refine wpList_mapUpdate_own _ rfl _ _ _ 24 rfl 32 3 lawP Try.underlying24 _ bm ks.length D rfl H.out.map.drew (by have := H.out.few; unfold maxLen; omega) _ _ _ rfl rfl (key_pk k) _ [] (plainElem_int Try.underlying3 (WalkArith.wf_i64 (by have := H.out.few; omega))) ?_
  intro w1 hown1 hgr1
  have hgw1 : w0.grownBy w1 (some bm) := ⟨hgr1.os, hgr1.tape, hgr1.output, hgr1.size, hgr1.block⟩
  have hb1 : w1.heap[T]? = some (.cells #[.map (some bm), .slice p ks.length c, .slice p2 ks.length c2'] 28 (0, 0)) := (hgw1.block T hT (fun e => H.out.d1 (by cases e; rfl))).trans H.out.block
  have hk1 := H.out.keys.kept hgw1 (.inr (row_ne_map H.out.keys H.out.map))
  have hv1 := H.out.vals.kept hgw1 (.inr (row_ne_map H.out.vals H.out.map))
  have hkb1 : CellsAt w1 w.heap.size 0 (pcells k) := fun j x hx => by
    have := HKB.out j x hx
    rw [← this]
    exact World.cell?_of_block (a := ⟨w.heap.size, 0 + j, none⟩) (hgw1.block w.heap.size hKb (fun e => hKm (by cases e; rfl)))
  have M1 : Moved (fun g => g = T ∨ g = bm ∨ (Value.slice p ks.length c).ownBlock = some g ∨ (Value.slice p2 ks.length c2').ownBlock = some g) w0 w1 := Moved.of_grown hgw1 (fun g e => .inl (.inr (.inl (by cases e; rfl))))
  have sz1 : w0.heap.size ≤ w1.heap.size := hgw1.size
  clear hgr1 hgw1 c0 c1 c2 f1 f2 k0' k1' k2'
  have c1 : w1.cell? ⟨T, 1, none⟩ = some (.slice p ks.length c) := by simp [World.cell?, hb1]
  have k0' : w1.cell? ⟨w.heap.size, 0, none⟩ = some (.int .i8 (kR k)) := hkb1 0 _ rfl
  have k1' : w1.cell? ⟨w.heap.size, 1, none⟩ = some (.int .i8 (kC k)) := hkb1 1 _ rfl
  have k2' : w1.cell? ⟨w.heap.size, 2, none⟩ = some (.bool (kF k)) := hkb1 2 _ rfl
  have hKb1 : w.heap.size < w1.heap.size := by omega
  have HB1 := Lib.hid hb1
  have HK1 := Lib.hid hk1
  have HV1 := Lib.hid hv1
  have HM1 := Lib.hid hown1
  have HMV1 := Lib.hid M1
  have tT1 : T < w1.heap.size := by omega
  clear hb1 hk1 hv1 hown1 M1 hkb1
  go_frame
  go_upto_region 10 with (fail)
  have hc1 := FourW.of c1 k0' k1' k2'
  refine wp_region_tree 8 (.heads [0, 1, 2, 3, 4, 5] (.chain [6, 7] (.tail [8, 9, 10]))) (FourCls T w.heap.size (.slice p ks.length c) (.int .i8 (kR k)) (.int .i8 (kC k)) (.bool (kF k))) (by kernel_rfl) (by kernel_rfl) (fun _ _ _ _ h => h) hc1 ?_
  simp only [wpPlan, pickOps, List.getElem?_toArray, List.getElem?_cons_zero, List.getElem?_cons_succ]
  have kc0 := FourW.k0 T w.heap.size (.slice p ks.length c) (.int .i8 (kR k)) (.int .i8 (kC k)) (.bool (kF k))
  have kc1 := FourW.k1 T w.heap.size (.slice p ks.length c) (.int .i8 (kR k)) (.int .i8 (kC k)) (.bool (kF k))
  have kc2 := FourW.k2 T w.heap.size (.slice p ks.length c) (.int .i8 (kR k)) (.int .i8 (kC k)) (.bool (kF k))
  have kc3 := FourW.k3 T w.heap.size (.slice p ks.length c) (.int .i8 (kR k)) (.int .i8 (kC k)) (.bool (kF k))
  have hne : Nonempty (FourW T w.heap.size (.slice p ks.length c) (.int .i8 (kR k)) (.int .i8 (kC k)) (.bool (kF k))) := ⟨⟨w1, c1, k0', k1', k2'⟩⟩
  iterate 6 (go_big_quiet_step (fail))
  refine wpQuiet_nil ?_
  clear kc0 kc1 kc2 kc3 hne
  refine wpListC_plain rfl (fun K hK => ?_)
  go_step
  have hbN : Below w1.heap.size w1 (w1.alloc (.cells (pcells k) 32)).drew := ((Below.refl _ w1).alloc (Nat.le_refl _) _).drew
  have hcN : CellsAt (w1.alloc (.cells (pcells k) 32)).drew w1.heap.size 0 (pcells k) := cellsAt_alloc w1 (pcells k) 32 (0, 0)
  generalize (w1.alloc (.cells (pcells k) 32)).drew = W1 at *
  have hg1 := grown_of_below hbN none
  have hkW := HK1.out.kept hg1 (by cases (Value.slice p ks.length c).ownBlock <;> simp)
  have hvW := HV1.out.kept hg1 (by cases (Value.slice p2 ks.length c2').ownBlock <;> simp)
  have hmW := HM1.out.kept hg1 (by simp)
  have hbW := (hbN.block T tT1).trans HB1.out
  have tTW : T < W1.heap.size := Nat.lt_of_lt_of_le tT1 hbN.size
  have MW : Moved (fun g => g = T ∨ g = bm ∨ (Value.slice p ks.length c).ownBlock = some g ∨ (Value.slice p2 ks.length c2').ownBlock = some g) w1 W1 := Moved.of_grown hg1 (fun g e => by cases e)
  have hKkv : (Value.slice p ks.length c).ownBlock ≠ some w.heap.size := HKV.out
  have k0W : W1.cell? ⟨w.heap.size, 0, none⟩ = some (.int .i8 (kR k)) := (hbN.cell (p := ⟨w.heap.size, 0, none⟩) hKb1).trans k0'
  have k1W : W1.cell? ⟨w.heap.size, 1, none⟩ = some (.int .i8 (kC k)) := (hbN.cell (p := ⟨w.heap.size, 1, none⟩) hKb1).trans k1'
  have k2W : W1.cell? ⟨w.heap.size, 2, none⟩ = some (.bool (kF k)) := (hbN.cell (p := ⟨w.heap.size, 2, none⟩) hKb1).trans k2'
  have hKbW : w.heap.size < W1.heap.size := Nat.lt_of_lt_of_le hKb1 hbN.size
  refine hK _ _ (FourW.mk' ((hbN.cell (p := ⟨T, 1, none⟩) tT1).trans c1) k0W k1W k2W) ?_
  clear hK K
  refine wpListC_plain rfl (fun K hK => ?_)
  refine wp_append_x (P := Try.prog) W1 (.tmp 51) (.tmp 53) 25 rfl B 32 (.agg #[.int .i8 0, .int .i8 0, .bool false]) 3 3 Try.underlying25 (by kernel_rfl) rfl (by decide) (.slice p ks.length c) ks.length _ rfl hkW ⟨w1.heap.size, 0, none⟩ 1 1 (pcells k).toList rfl (by decide) rfl ?c1 ?c2 ?c3 ?c4 ?c5 ?_
  case c1 =>
    intro m u hu
    have := hcN m u (by simpa using hu)
    rw [addr_add]
    exact this
  case c2 => intro u hu; simp at hu; rcases hu with rfl | rfl | rfl <;> rfl
  case c3 => have := H.out.few; unfold maxLen; omega
  case c4 => have := H.out.few; omega
  case c5 => have := hbN.size; omega
  intro v' w2 hrow hgr hloc
  obtain ⟨pk', ck, rfl⟩ := row_slice hrow
  have hb2 := (hgr.block T tTW (fun e => H.out.d2 e.symm)).trans hbW
  have kk : ∀ o x, W1.cell? ⟨w.heap.size, o, none⟩ = some x → w2.cell? ⟨w.heap.size, o, none⟩ = some x := fun o x hx => (World.cell?_of_block (a := ⟨w.heap.size, o, none⟩) (hgr.block w.heap.size hKbW (fun e => hKkv e.symm))).trans hx
  have c1' : w2.cell? ⟨T, 1, none⟩ = some (.slice p ks.length c) := by simp [World.cell?, hb2]
  refine hK _ _ (FourW.mk' c1' (kk _ _ k0W) (kk _ _ k1W) (kk _ _ k2W)) ?_
  clear hK K
  refine wpListC_nil ?_
  have hneT : (Value.slice pk' (ks.length + 1) ck).ownBlock ≠ some T := by
    rcases hloc with h | h
    · rw [h]; exact H.out.d2
    · rw [h]; simp; omega
  have hm2 := hmW.kept hgr (fun e => row_ne_map hkW hmW e.symm)
  have hnem : (Value.slice pk' (ks.length + 1) ck).ownBlock ≠ some bm := row_ne_map hrow hm2
  have hv2 := hvW.kept hgr (by rcases H.out.d4 with h | h; rw [h]; cases (Value.slice p2 ks.length c2').ownBlock <;> simp; exact .inr (Ne.symm h))
  have hd4 : (Value.slice pk' (ks.length + 1) ck).ownBlock = none ∨ (Value.slice pk' (ks.length + 1) ck).ownBlock ≠ (Value.slice p2 ks.length c2').ownBlock := by
    rcases hloc with h | h
    · rw [h]; exact H.out.d4
    · rw [h]
      refine .inr (fun hc => ?_)
      have := (hvW.lt _ hc.symm).2
      omega
  have hloc' : (Value.slice pk' (ks.length + 1) ck).ownBlock = (Value.slice p ks.length c).ownBlock ∨ ∃ g, w.heap.size ≤ g ∧ (Value.slice pk' (ks.length + 1) ck).ownBlock = some g := hloc.imp id (fun h => ⟨_, by have := hbN.size; omega, h⟩)
  have M2 := (HMV1.out.trans MW).trans ((Moved.of_grown hgr (fun g e => .inl (.inr (.inr (.inl e)))) : Moved (fun g => g = T ∨ g = bm ∨ (Value.slice p ks.length c).ownBlock = some g ∨ (Value.slice p2 ks.length c2').ownBlock = some g) W1 w2))
  have tT2 : T < w2.heap.size := Nat.lt_of_lt_of_le tTW hgr.size
  have f1 : w2.frozen? ⟨T, 1, none⟩ = false := by simp [World.frozen?, hb2]
  have HROW := Lib.hid hrow
  have HB2 := Lib.hid hb2
  have HV2 := Lib.hid hv2
  have HM2 := Lib.hid hm2
  have HMV2 := Lib.hid M2
  have HLOC := Lib.hid hloc'
  have HD4 := Lib.hid hd4
  have HNT := Lib.hid hneT
  have HNM := Lib.hid hnem
  have szW : w0.heap.size ≤ w2.heap.size := M2.size
  clear hrow hb2 hv2 hm2 M2 hloc hloc' hd4 hneT hnem hgr MW hbW hmW hvW hkW hg1 hcN HK1 HV1 HM1 HB1 HMV1 c1 tTW k0W k1W k2W k0' k1' k2' kk hKbW hc1
  iterate 2
    refine wpList_plain rfl (fun K hK => ?_)
    go_step
    refine hK _ _ ?_
    clear hK K
  refine wpList_plain rfl (fun K hK => ?_)
  go_step
  refine hK _ _ ?_
  clear hK K
  have hb3 := heap_setCell_same (j := 1) HB2.out (Value.slice pk' (ks.length + 1) ck)
  have hg3 := grown_setCell w2 ⟨T, 1, none⟩ (Value.slice pk' (ks.length + 1) ck)
  generalize w2.setCell ⟨T, 1, none⟩ (Value.slice pk' (ks.length + 1) ck) = w3 at *
  replace hb3 : w3.heap[T]? = some (.cells #[.map (some bm), (Value.slice pk' (ks.length + 1) ck), .slice p2 ks.length c2'] 28 (0, 0)) := hb3
  have hk3 := HROW.out.kept hg3 (.inr HNT.out)
  have hv3 := HV2.out.kept hg3 (.inr H.out.d3)
  have hm3 := HM2.out.kept hg3 (fun e => H.out.d1 (by cases e; rfl))
  have M3 := HMV2.out.trans ((Moved.of_grown hg3 (fun g e => .inl (.inl (by cases e; rfl))) : Moved (fun g => g = T ∨ g = bm ∨ (Value.slice p ks.length c).ownBlock = some g ∨ (Value.slice p2 ks.length c2').ownBlock = some g) w2 w3))
  have tT3 : T < w3.heap.size := Nat.lt_of_lt_of_le tT2 hg3.size
  have c2 : w3.cell? ⟨T, 2, none⟩ = some (.slice p2 ks.length c2') := by simp [World.cell?, hb3]
  have HB3 := Lib.hid hb3
  have HK3 := Lib.hid hk3
  have HV3 := Lib.hid hv3
  have HM3 := Lib.hid hm3
  have HMV3 := Lib.hid M3
  have sz3 : w0.heap.size ≤ w3.heap.size := M3.size
  clear hb3 hk3 hv3 hm3 M3 hg3 HROW HB2 HV2 HM2 HMV2 c1' f1 tT2 hbN tT1 sz1
  go_upto_region 11 with (fail)
  go_step
  iterate 7
    refine wpList_plain rfl (fun K hK => ?_)
    go_step
    refine hK _ _ ?_
    clear hK K
  obtain ⟨W3, hW3⟩ : ∃ W, w3.alloc (.cells #[.slice (some ⟨g, 0, none⟩) m m] 33) = W := ⟨_, rfl⟩
  have hb3 : Below w3.heap.size w3 W3 := by rw [← hW3]; exact (Below.refl _ _).alloc (Nat.le_refl _) _
  have hc3 : CellsAt W3 w3.heap.size 0 #[.slice (some ⟨g, 0, none⟩) m m] := by rw [← hW3]; exact cellsAt_alloc _ _ _ _
  have e := hW3
  clear hW3
  rw [e]
  clear e
  have hg3 := grown_of_below hb3 none
  have hkW := HK3.out.kept hg3 (by cases (Value.slice pk' (ks.length + 1) ck).ownBlock <;> simp)
  have hvW := HV3.out.kept hg3 (by cases (Value.slice p2 ks.length c2').ownBlock <;> simp)
  have hmW := HM3.out.kept hg3 (by simp)
  have hbW := (hb3.block T tT3).trans HB3.out
  have tTW : T < W3.heap.size := Nat.lt_of_lt_of_le tT3 hb3.size
  have MW : Moved (fun g => g = T ∨ g = bm ∨ (Value.slice p ks.length c).ownBlock = some g ∨ (Value.slice p2 ks.length c2').ownBlock = some g) w3 W3 := Moved.of_grown hg3 (fun g e => by cases e)
  refine wpList_plain rfl (fun K hK => ?_)
  refine wp_append_x (P := Try.prog) W3 (.tmp 61) (.tmp 63) 26 rfl B 33 (.slice none 0 0) 1 24 Try.underlying26 (by kernel_rfl) rfl (by decide) (.slice p2 ks.length c2') ks.length _ rfl hvW ⟨w3.heap.size, 0, none⟩ 1 1 [.slice (some ⟨g, 0, none⟩) m m] rfl (by decide) rfl ?c1 ?c2 ?c3 ?c4 ?c5 ?_
  case c1 =>
    intro m u hu
    have := hc3 m u (by simpa using hu)
    rw [addr_add]
    exact this
  case c2 => intro u hu; simp at hu; subst hu; rfl
  case c3 => have := H.out.few; unfold maxLen; omega
  case c4 => have := H.out.few; omega
  case c5 => have := hb3.size; omega
  intro v' w4 hrow hgr hloc
  obtain ⟨pv, cv, rfl⟩ := row_slice hrow
  refine hK _ _ ?_
  clear hK K
  have hneT : (Value.slice pv (ks.length + 1) cv).ownBlock ≠ some T := by
    rcases hloc with h | h
    · rw [h]; exact H.out.d3
    · rw [h]; simp; omega
  have hm4 := hmW.kept hgr (fun e => row_ne_map hvW hmW e.symm)
  have hk4 := hkW.kept hgr HD4.out
  have hb4 := (hgr.block T tTW (fun e => H.out.d3 e.symm)).trans hbW
  have hd4 : (Value.slice pk' (ks.length + 1) ck).ownBlock = none ∨ (Value.slice pk' (ks.length + 1) ck).ownBlock ≠ (Value.slice pv (ks.length + 1) cv).ownBlock := by
    rcases hloc with h | h
    · rw [h]; exact HD4.out
    · rw [h]
      refine (Classical.em ((Value.slice pk' (ks.length + 1) ck).ownBlock = none)).imp id (fun _ hc => ?_)
      have := (hkW.lt _ hc).2
      omega
  have hloc' : (Value.slice pv (ks.length + 1) cv).ownBlock = (Value.slice p2 ks.length c2').ownBlock ∨ ∃ g, w.heap.size ≤ g ∧ (Value.slice pv (ks.length + 1) cv).ownBlock = some g := hloc.imp id (fun h => ⟨_, by have := hb3.size; omega, h⟩)
  have M4 := (HMV3.out.trans MW).trans ((Moved.of_grown hgr (fun g e => .inl (.inr (.inr (.inr e)))) : Moved (fun g => g = T ∨ g = bm ∨ (Value.slice p ks.length c).ownBlock = some g ∨ (Value.slice p2 ks.length c2').ownBlock = some g) W3 w4))
  have tT4 : T < w4.heap.size := Nat.lt_of_lt_of_le tTW hgr.size
  have c2 : w4.cell? ⟨T, 2, none⟩ = some (.slice p2 ks.length c2') := by simp [World.cell?, hb4]
  have f2 : w4.frozen? ⟨T, 2, none⟩ = false := by simp [World.frozen?, hb4]
  have HROW := Lib.hid hrow
  have HB4 := Lib.hid hb4
  have HK4 := Lib.hid hk4
  have HM4 := Lib.hid hm4
  have HMV4 := Lib.hid M4
  have HLOC4 := Lib.hid hloc'
  have HDD4 := Lib.hid hd4
  have HNT4 := Lib.hid hneT
  clear hrow hb4 hk4 hm4 M4 hloc hloc' hd4 hneT hgr MW hbW hmW hvW hkW hg3 hc3 HK3 HV3 HM3 HB3 HMV3 tTW
  iterate 2
    refine wpList_plain rfl (fun K hK => ?_)
    go_step
    refine hK _ _ ?_
    clear hK K
  refine wpList_plain rfl (fun K hK => ?_)
  go_step
  refine hK _ _ ?_
  clear hK K
  have hb5 := heap_setCell_same (j := 2) HB4.out (Value.slice pv (ks.length + 1) cv)
  have hg5 := grown_setCell w4 ⟨T, 2, none⟩ (Value.slice pv (ks.length + 1) cv)
  generalize w4.setCell ⟨T, 2, none⟩ (Value.slice pv (ks.length + 1) cv) = w5 at *
  replace hb5 : w5.heap[T]? = some (.cells #[.map (some bm), (Value.slice pk' (ks.length + 1) ck), (Value.slice pv (ks.length + 1) cv)] 28 (0, 0)) := hb5
  have hk5 := HK4.out.kept hg5 (.inr HNT.out)
  have hv5 := HROW.out.kept hg5 (.inr HNT4.out)
  have hm5 := HM4.out.kept hg5 (fun e => H.out.d1 (by cases e; rfl))
  have M5' := HMV4.out.trans ((Moved.of_grown hg5 (fun g e => .inl (.inl (by cases e; rfl))) : Moved (fun g => g = T ∨ g = bm ∨ (Value.slice p ks.length c).ownBlock = some g ∨ (Value.slice p2 ks.length c2').ownBlock = some g) w4 w5))
  have M5 : Moved (fun g => g = T ∨ g = bm ∨ (Value.slice p ks.length c).ownBlock = some g ∨ (Value.slice p2 ks.length c2').ownBlock = some g) w w5 := (HM0.out.mono (fun _ _ e => .inl e)).trans M5'
  have hpost : KPutPost w B T bm (.slice p ks.length c) (.slice p2 ks.length c2') true (ks ++ [k]) (sl ++ [.slice (some ⟨g, 0, none⟩) m m]) (.returned (.bool true)) w5 := by
    have hkl : WideAt.IsKeyLit (pk k) := pkey_lit _ _ _
    refine ⟨rfl, _, _, _, ⟨hb5, by simpa using hm5, by simpa [pcs] using hk5, by simpa using hv5, fun u hu => ?_, fun t ht => ?_, fun t t0 t1 => ?_, fun t i t0 t1 hi => ?_, H.out.geT, H.out.gem, H.out.d1, HNT.out, HNT4.out, HDD4.out, by simpa using room⟩, M5, HLOC.out, HLOC4.out⟩
    · rcases List.mem_append.1 hu with hu | hu
      · exact (HOKS.out u hu).moved HGM.out M5 HLOC.out HLOC4.out
      · obtain rfl := List.mem_singleton.1 hu
        exact HU.out.moved HGM.out M5 HLOC.out HLOC4.out
    · rcases List.mem_append.1 ht with ht | ht
      · exact H.out.range t ht
      · obtain rfl := List.mem_singleton.1 ht
        exact ⟨k0, k1⟩
    · rw [posI_snoc]
      by_cases e : k = t
      · subst e
        rw [has_put_same H.out.map.isMap hkl, if_pos rfl]
        cases posI ks k <;> rfl
      · rw [has_put_other (fun hc => e (pk_inj t0 t1 k0 k1 hc).symm), H.out.has t t0 t1, if_neg e, Option.or_none]
    · rw [posI_snoc] at hi
      by_cases e : k = t
      · subst e
        rw [HN.out, if_pos rfl] at hi
        obtain rfl : ks.length = i := by simpa using hi
        rw [atKey_put_same H.out.map.isMap hkl]
      · rw [if_neg e, Option.or_none] at hi
        rw [atKey_put_other (fun hc => e (pk_inj t0 t1 k0 k1 hc).symm), H.out.ix t i t0 t1 hi]
  have HP := Lib.hid hpost
  clear hpost
  go_wp2_with fail
  go_ret
  obtain ⟨rfl, rfl, rfl, rfl, rfl, rfl⟩ := HE.out
  exact ⟨_, HP.out⟩

set_option maxRecDepth 100000 in
set_option maxHeartbeats 4000000 in
theorem KPut_new {w : World} {B T bm : Nat} {kv vv : Value} {D : DataW Unit} {ks : List Int} {sl : List Value} (h : IsKT w B T bm kv vv D ks sl) (k : Int) (k0 : 0 ≤ k) (k1 : k < 65536) (g m : Nat) (hu : ValOk w B (fun g => g = T ∨ kv.ownBlock = some g ∨ vv.ownBlock = some g) (.slice (some ⟨g, 0, none⟩) m m)) (hn : posI ks k = none) (room : ks.length + 1 < 1099511627776) (hB : B ≤ w.heap.size) :
    Calls Try.prog 14 #[.pointer (some ⟨T, 0, none⟩), .agg (pcells k), .slice (some ⟨g, 0, none⟩) m m] w (KPutPost w B T bm kv vv true (ks ++ [k]) (sl ++ [.slice (some ⟨g, 0, none⟩) m m])) := by
  obtain ⟨p, c, rfl⟩ := row_slice h.keys
  obtain ⟨p2, c2', rfl⟩ := row_slice h.vals
  obtain ⟨wa, hW⟩ : ∃ wa, w.alloc (.cells (pcells k) 32) = wa := ⟨_, rfl⟩
  have hba : Below w.heap.size w wa := by rw [← hW]; exact (Below.refl _ _).alloc (Nat.le_refl _) _
  have hca : CellsAt wa w.heap.size 0 (pcells k) := by rw [← hW]; exact cellsAt_alloc _ _ _ _
  have hsa : w.heap.size < wa.heap.size := by rw [← hW]; simp
  have ha := h.below hba
  obtain ⟨c0, c1, c2, f1, f2, hT⟩ := ha.facts
  have k0' : wa.cell? ⟨w.heap.size, 0, none⟩ = some (.int .i8 (kR k)) := hca 0 _ rfl
  have k1' : wa.cell? ⟨w.heap.size, 1, none⟩ = some (.int .i8 (kC k)) := hca 1 _ rfl
  have k2' : wa.cell? ⟨w.heap.size, 2, none⟩ = some (.bool (kF k)) := hca 2 _ rfl
  obtain ⟨x, hrun0, _⟩ := look_kt (ha.below (Below.drew (Below.refl _ wa))) k k0 k1
  have hrun := hrun0 _ rfl
  rw [hn] at hrun
  simp only [Option.isSome_none] at hrun
  clear hrun0
  have HB := Lib.hid hba
  have HH := Lib.hid h
  have HA := Lib.hid ha
  have HU := Lib.hid hu
  have HCA := Lib.hid hca
  have HN := Lib.hid hn
  clear h ha hba hu hca hn
  go_enter Try.func14, Try.ntmps14
  go_upto_region 3 with (fail)
  have kc := cell_cls wa
  refine wp_region_plan_below 11 [(0, [0, 1, 2, 3, 4]), (1, [5, 6]), (0, [7, 8, 9, 10])] (by kernel_rfl) (by kernel_rfl) (fun _ _ _ _ h => h) ?_
  simp only [wpSegs, pickOps, List.getElem?_toArray, List.getElem?_cons_zero, List.getElem?_cons_succ]
  iterate 5 (go_big_quiet_step (fail))
  refine wpQuiet_nil ?_
  clear kc
  refine wpListC_plain rfl (fun K hK => ?_)
  go_step
  refine hK _ _ (cls_drew _) ?_
  clear hK K
  refine wpListC_plain rfl (fun K hK => ?_)
  go_step
  refine hK _ _ (cls_drew _) ?_
  clear hK K
  refine wpListC_nil ?_
  iterate 4 (go_big_quiet_step (fail))
  refine wpQuiet_nil ?_
  clear hrun c0 c1 c2 f1 f2 k0' k1' k2' hW
  have hd := Below.drew (Below.refl wa.heap.size wa)
  have H := Lib.hid (HA.out.below hd)
  have HKB := Lib.hid (HCA.out.below hd hsa)
  have HB0 := Lib.hid (HB.out.trans (hd.mono HB.out.size))
  have hsa0 : w.heap.size < wa.drew.heap.size := hsa
  clear hd HA HCA HB hsa hT
  generalize wa.drew = w0 at *
  obtain ⟨c0, c1, c2, f1, f2, hT⟩ := H.out.facts
  have k0' : w0.cell? ⟨w.heap.size, 0, none⟩ = some (.int .i8 (kR k)) := HKB.out 0 _ rfl
  have k1' : w0.cell? ⟨w.heap.size, 1, none⟩ = some (.int .i8 (kC k)) := HKB.out 1 _ rfl
  have k2' : w0.cell? ⟨w.heap.size, 2, none⟩ = some (.bool (kF k)) := HKB.out 2 _ rfl
  have hKm : w.heap.size ≠ bm := by have := HH.out.map.lt; omega
  have HKV := Lib.hid (show (Value.slice p ks.length c).ownBlock ≠ some w.heap.size from fun e => by have := (HH.out.keys.lt _ e).2; omega)
  have HGM := Lib.hid (show ∀ g cur, w.heap[g]? = some (.cells cur 3 (0, 0)) → g ≠ bm from fun g cur h4 e => by obtain ⟨es, clock, hb, _⟩ := HH.out.map; rw [e, hb] at h4; cases h4)
  have HOKS := Lib.hid HH.out.ok
  have hKb : w.heap.size < w0.heap.size := hsa0
  have heq : ∀ w' : World, (binOp BinOp.eql 24 (.map (some bm)) (.map none)).run Try.prog w' = .ok (.bool false) w' := fun w' => by first | rfl | kernel_rfl | simp [binOp, go_sem]
  go_upto_region 9 with (fail)
  have kc := cell_cls w0
  refine wp_region_plan_below 10 [(0, [0, 1, 2, 3, 4, 5, 6, 7, 8, 9]), (2, [10])] (by kernel_rfl) (by kernel_rfl) (fun _ _ _ _ h => h) ?_
  simp only [wpSegs, pickOps, List.getElem?_toArray, List.getElem?_cons_zero, List.getElem?_cons_succ]
  iterate 10 (go_big_quiet_step (fail))
  refine wpQuiet_nil ?_
  clear kc
  change wpList _ _ _ _ _ w0.drew
  refine wpList_mapUpdate_own _ rfl _ _ _ 24 rfl 32 3 lawP Try.underlying24 _ bm ks.length D rfl H.out.map.drew (by have := H.out.few; unfold maxLen; omega) _ _ _ rfl rfl (key_pk k) _ [] (plainElem_int Try.underlying3 (WalkArith.wf_i64 (by have := H.out.few; omega))) ?_
  intro w1 hown1 hgr1
  have hgw1 : w0.grownBy w1 (some bm) := ⟨hgr1.os, hgr1.tape, hgr1.output, hgr1.size, hgr1.block⟩
  have hb1 : w1.heap[T]? = some (.cells #[.map (some bm), .slice p ks.length c, .slice p2 ks.length c2'] 28 (0, 0)) := (hgw1.block T hT (fun e => H.out.d1 (by cases e; rfl))).trans H.out.block
  have hk1 := H.out.keys.kept hgw1 (.inr (row_ne_map H.out.keys H.out.map))
  have hv1 := H.out.vals.kept hgw1 (.inr (row_ne_map H.out.vals H.out.map))
  have hkb1 : CellsAt w1 w.heap.size 0 (pcells k) := fun j x hx => by
    have := HKB.out j x hx
    rw [← this]
    exact World.cell?_of_block (a := ⟨w.heap.size, 0 + j, none⟩) (hgw1.block w.heap.size hKb (fun e => hKm (by cases e; rfl)))
  have M1 : Moved (fun g => g = T ∨ g = bm ∨ (Value.slice p ks.length c).ownBlock = some g ∨ (Value.slice p2 ks.length c2').ownBlock = some g) w0 w1 := Moved.of_grown hgw1 (fun g e => .inl (.inr (.inl (by cases e; rfl))))
  have sz1 : w0.heap.size ≤ w1.heap.size := hgw1.size
  clear hgr1 hgw1 c0 c1 c2 f1 f2 heq k0' k1' k2'
  have c1 : w1.cell? ⟨T, 1, none⟩ = some (.slice p ks.length c) := by simp [World.cell?, hb1]
  have k0' : w1.cell? ⟨w.heap.size, 0, none⟩ = some (.int .i8 (kR k)) := hkb1 0 _ rfl
  have k1' : w1.cell? ⟨w.heap.size, 1, none⟩ = some (.int .i8 (kC k)) := hkb1 1 _ rfl
  have k2' : w1.cell? ⟨w.heap.size, 2, none⟩ = some (.bool (kF k)) := hkb1 2 _ rfl
  have hKb1 : w.heap.size < w1.heap.size := by omega
  have HB1 := Lib.hid hb1
  have HK1 := Lib.hid hk1
  have HV1 := Lib.hid hv1
  have HM1 := Lib.hid hown1
  have HMV1 := Lib.hid M1
  have tT1 : T < w1.heap.size := by omega
  clear hb1 hk1 hv1 hown1 M1 hkb1
  go_frame
  go_upto_region 10 with (fail)
  have hc1 := FourW.of c1 k0' k1' k2'
  refine wp_region_tree 8 (.heads [0, 1, 2, 3, 4, 5] (.chain [6, 7] (.tail [8, 9, 10]))) (FourCls T w.heap.size (.slice p ks.length c) (.int .i8 (kR k)) (.int .i8 (kC k)) (.bool (kF k))) (by kernel_rfl) (by kernel_rfl) (fun _ _ _ _ h => h) hc1 ?_
  simp only [wpPlan, pickOps, List.getElem?_toArray, List.getElem?_cons_zero, List.getElem?_cons_succ]
  have kc0 := FourW.k0 T w.heap.size (.slice p ks.length c) (.int .i8 (kR k)) (.int .i8 (kC k)) (.bool (kF k))
  have kc1 := FourW.k1 T w.heap.size (.slice p ks.length c) (.int .i8 (kR k)) (.int .i8 (kC k)) (.bool (kF k))
  have kc2 := FourW.k2 T w.heap.size (.slice p ks.length c) (.int .i8 (kR k)) (.int .i8 (kC k)) (.bool (kF k))
  have kc3 := FourW.k3 T w.heap.size (.slice p ks.length c) (.int .i8 (kR k)) (.int .i8 (kC k)) (.bool (kF k))
  have hne : Nonempty (FourW T w.heap.size (.slice p ks.length c) (.int .i8 (kR k)) (.int .i8 (kC k)) (.bool (kF k))) := ⟨⟨w1, c1, k0', k1', k2'⟩⟩
  iterate 6 (go_big_quiet_step (fail))
  refine wpQuiet_nil ?_
  clear kc0 kc1 kc2 kc3 hne
  refine wpListC_plain rfl (fun K hK => ?_)
  go_step
  have hbN : Below w1.heap.size w1 (w1.alloc (.cells (pcells k) 32)).drew := ((Below.refl _ w1).alloc (Nat.le_refl _) _).drew
  have hcN : CellsAt (w1.alloc (.cells (pcells k) 32)).drew w1.heap.size 0 (pcells k) := cellsAt_alloc w1 (pcells k) 32 (0, 0)
  generalize (w1.alloc (.cells (pcells k) 32)).drew = W1 at *
  have hg1 := grown_of_below hbN none
  have hkW := HK1.out.kept hg1 (by cases (Value.slice p ks.length c).ownBlock <;> simp)
  have hvW := HV1.out.kept hg1 (by cases (Value.slice p2 ks.length c2').ownBlock <;> simp)
  have hmW := HM1.out.kept hg1 (by simp)
  have hbW := (hbN.block T tT1).trans HB1.out
  have tTW : T < W1.heap.size := Nat.lt_of_lt_of_le tT1 hbN.size
  have MW : Moved (fun g => g = T ∨ g = bm ∨ (Value.slice p ks.length c).ownBlock = some g ∨ (Value.slice p2 ks.length c2').ownBlock = some g) w1 W1 := Moved.of_grown hg1 (fun g e => by cases e)
  have hKkv : (Value.slice p ks.length c).ownBlock ≠ some w.heap.size := HKV.out
  have k0W : W1.cell? ⟨w.heap.size, 0, none⟩ = some (.int .i8 (kR k)) := (hbN.cell (p := ⟨w.heap.size, 0, none⟩) hKb1).trans k0'
  have k1W : W1.cell? ⟨w.heap.size, 1, none⟩ = some (.int .i8 (kC k)) := (hbN.cell (p := ⟨w.heap.size, 1, none⟩) hKb1).trans k1'
  have k2W : W1.cell? ⟨w.heap.size, 2, none⟩ = some (.bool (kF k)) := (hbN.cell (p := ⟨w.heap.size, 2, none⟩) hKb1).trans k2'
  have hKbW : w.heap.size < W1.heap.size := Nat.lt_of_lt_of_le hKb1 hbN.size
  refine hK _ _ (FourW.mk' ((hbN.cell (p := ⟨T, 1, none⟩) tT1).trans c1) k0W k1W k2W) ?_
  clear hK K
  refine wpListC_plain rfl (fun K hK => ?_)
  refine wp_append_x (P := Try.prog) W1 (.tmp 51) (.tmp 53) 25 rfl B 32 (.agg #[.int .i8 0, .int .i8 0, .bool false]) 3 3 Try.underlying25 (by kernel_rfl) rfl (by decide) (.slice p ks.length c) ks.length _ rfl hkW ⟨w1.heap.size, 0, none⟩ 1 1 (pcells k).toList rfl (by decide) rfl ?c1 ?c2 ?c3 ?c4 ?c5 ?_
  case c1 =>
    intro m u hu
    have := hcN m u (by simpa using hu)
    rw [addr_add]
    exact this
  case c2 => intro u hu; simp at hu; rcases hu with rfl | rfl | rfl <;> rfl
  case c3 => have := H.out.few; unfold maxLen; omega
  case c4 => have := H.out.few; omega
  case c5 => have := hbN.size; omega
  intro v' w2 hrow hgr hloc
  obtain ⟨pk', ck, rfl⟩ := row_slice hrow
  have hb2 := (hgr.block T tTW (fun e => H.out.d2 e.symm)).trans hbW
  have kk : ∀ o x, W1.cell? ⟨w.heap.size, o, none⟩ = some x → w2.cell? ⟨w.heap.size, o, none⟩ = some x := fun o x hx => (World.cell?_of_block (a := ⟨w.heap.size, o, none⟩) (hgr.block w.heap.size hKbW (fun e => hKkv e.symm))).trans hx
  have c1' : w2.cell? ⟨T, 1, none⟩ = some (.slice p ks.length c) := by simp [World.cell?, hb2]
  refine hK _ _ (FourW.mk' c1' (kk _ _ k0W) (kk _ _ k1W) (kk _ _ k2W)) ?_
  clear hK K
  refine wpListC_nil ?_
  have hneT : (Value.slice pk' (ks.length + 1) ck).ownBlock ≠ some T := by
    rcases hloc with h | h
    · rw [h]; exact H.out.d2
    · rw [h]; simp; omega
  have hm2 := hmW.kept hgr (fun e => row_ne_map hkW hmW e.symm)
  have hnem : (Value.slice pk' (ks.length + 1) ck).ownBlock ≠ some bm := row_ne_map hrow hm2
  have hv2 := hvW.kept hgr (by rcases H.out.d4 with h | h; rw [h]; cases (Value.slice p2 ks.length c2').ownBlock <;> simp; exact .inr (Ne.symm h))
  have hd4 : (Value.slice pk' (ks.length + 1) ck).ownBlock = none ∨ (Value.slice pk' (ks.length + 1) ck).ownBlock ≠ (Value.slice p2 ks.length c2').ownBlock := by
    rcases hloc with h | h
    · rw [h]; exact H.out.d4
    · rw [h]
      refine .inr (fun hc => ?_)
      have := (hvW.lt _ hc.symm).2
      omega
  have hloc' : (Value.slice pk' (ks.length + 1) ck).ownBlock = (Value.slice p ks.length c).ownBlock ∨ ∃ g, w.heap.size ≤ g ∧ (Value.slice pk' (ks.length + 1) ck).ownBlock = some g := hloc.imp id (fun h => ⟨_, by have := hbN.size; omega, h⟩)
  have M2 := (HMV1.out.trans MW).trans ((Moved.of_grown hgr (fun g e => .inl (.inr (.inr (.inl e)))) : Moved (fun g => g = T ∨ g = bm ∨ (Value.slice p ks.length c).ownBlock = some g ∨ (Value.slice p2 ks.length c2').ownBlock = some g) W1 w2))
  have tT2 : T < w2.heap.size := Nat.lt_of_lt_of_le tTW hgr.size
  have f1 : w2.frozen? ⟨T, 1, none⟩ = false := by simp [World.frozen?, hb2]
  have HROW := Lib.hid hrow
  have HB2 := Lib.hid hb2
  have HV2 := Lib.hid hv2
  have HM2 := Lib.hid hm2
  have HMV2 := Lib.hid M2
  have HLOC := Lib.hid hloc'
  have HD4 := Lib.hid hd4
  have HNT := Lib.hid hneT
  have HNM := Lib.hid hnem
  have szW : w0.heap.size ≤ w2.heap.size := M2.size
  clear hrow hb2 hv2 hm2 M2 hloc hloc' hd4 hneT hnem hgr MW hbW hmW hvW hkW hg1 hcN HK1 HV1 HM1 HB1 HMV1 c1 tTW k0W k1W k2W k0' k1' k2' kk hKbW hc1
  iterate 2
    refine wpList_plain rfl (fun K hK => ?_)
    go_step
    refine hK _ _ ?_
    clear hK K
  refine wpList_plain rfl (fun K hK => ?_)
  go_step
  refine hK _ _ ?_
  clear hK K
  have hb3 := heap_setCell_same (j := 1) HB2.out (Value.slice pk' (ks.length + 1) ck)
  have hg3 := grown_setCell w2 ⟨T, 1, none⟩ (Value.slice pk' (ks.length + 1) ck)
  generalize w2.setCell ⟨T, 1, none⟩ (Value.slice pk' (ks.length + 1) ck) = w3 at *
  replace hb3 : w3.heap[T]? = some (.cells #[.map (some bm), (Value.slice pk' (ks.length + 1) ck), .slice p2 ks.length c2'] 28 (0, 0)) := hb3
  have hk3 := HROW.out.kept hg3 (.inr HNT.out)
  have hv3 := HV2.out.kept hg3 (.inr H.out.d3)
  have hm3 := HM2.out.kept hg3 (fun e => H.out.d1 (by cases e; rfl))
  have M3 := HMV2.out.trans ((Moved.of_grown hg3 (fun g e => .inl (.inl (by cases e; rfl))) : Moved (fun g => g = T ∨ g = bm ∨ (Value.slice p ks.length c).ownBlock = some g ∨ (Value.slice p2 ks.length c2').ownBlock = some g) w2 w3))
  have tT3 : T < w3.heap.size := Nat.lt_of_lt_of_le tT2 hg3.size
  have c2 : w3.cell? ⟨T, 2, none⟩ = some (.slice p2 ks.length c2') := by simp [World.cell?, hb3]
  have HB3 := Lib.hid hb3
  have HK3 := Lib.hid hk3
  have HV3 := Lib.hid hv3
  have HM3 := Lib.hid hm3
  have HMV3 := Lib.hid M3
  have sz3 : w0.heap.size ≤ w3.heap.size := M3.size
  clear hb3 hk3 hv3 hm3 M3 hg3 HROW HB2 HV2 HM2 HMV2 c1' f1 tT2 hbN tT1 sz1
  go_upto_region 11 with (fail)
  go_step
  iterate 7
    refine wpList_plain rfl (fun K hK => ?_)
    go_step
    refine hK _ _ ?_
    clear hK K
  obtain ⟨W3, hW3⟩ : ∃ W, w3.alloc (.cells #[.slice (some ⟨g, 0, none⟩) m m] 33) = W := ⟨_, rfl⟩
  have hb3 : Below w3.heap.size w3 W3 := by rw [← hW3]; exact (Below.refl _ _).alloc (Nat.le_refl _) _
  have hc3 : CellsAt W3 w3.heap.size 0 #[.slice (some ⟨g, 0, none⟩) m m] := by rw [← hW3]; exact cellsAt_alloc _ _ _ _
  have e := hW3
  clear hW3
  rw [e]
  clear e
  have hg3 := grown_of_below hb3 none
  have hkW := HK3.out.kept hg3 (by cases (Value.slice pk' (ks.length + 1) ck).ownBlock <;> simp)
  have hvW := HV3.out.kept hg3 (by cases (Value.slice p2 ks.length c2').ownBlock <;> simp)
  have hmW := HM3.out.kept hg3 (by simp)
  have hbW := (hb3.block T tT3).trans HB3.out
  have tTW : T < W3.heap.size := Nat.lt_of_lt_of_le tT3 hb3.size
  have MW : Moved (fun g => g = T ∨ g = bm ∨ (Value.slice p ks.length c).ownBlock = some g ∨ (Value.slice p2 ks.length c2').ownBlock = some g) w3 W3 := Moved.of_grown hg3 (fun g e => by cases e)
  refine wpList_plain rfl (fun K hK => ?_)
  refine wp_append_x (P := Try.prog) W3 (.tmp 61) (.tmp 63) 26 rfl B 33 (.slice none 0 0) 1 24 Try.underlying26 (by kernel_rfl) rfl (by decide) (.slice p2 ks.length c2') ks.length _ rfl hvW ⟨w3.heap.size, 0, none⟩ 1 1 [.slice (some ⟨g, 0, none⟩) m m] rfl (by decide) rfl ?c1 ?c2 ?c3 ?c4 ?c5 ?_
  case c1 =>
    intro m u hu
    have := hc3 m u (by simpa using hu)
    rw [addr_add]
    exact this
  case c2 => intro u hu; simp at hu; subst hu; rfl
  case c3 => have := H.out.few; unfold maxLen; omega
  case c4 => have := H.out.few; omega
  case c5 => have := hb3.size; omega
  intro v' w4 hrow hgr hloc
  obtain ⟨pv, cv, rfl⟩ := row_slice hrow
  refine hK _ _ ?_
  clear hK K
  have hneT : (Value.slice pv (ks.length + 1) cv).ownBlock ≠ some T := by
    rcases hloc with h | h
    · rw [h]; exact H.out.d3
    · rw [h]; simp; omega
  have hm4 := hmW.kept hgr (fun e => row_ne_map hvW hmW e.symm)
  have hk4 := hkW.kept hgr HD4.out
  have hb4 := (hgr.block T tTW (fun e => H.out.d3 e.symm)).trans hbW
  have hd4 : (Value.slice pk' (ks.length + 1) ck).ownBlock = none ∨ (Value.slice pk' (ks.length + 1) ck).ownBlock ≠ (Value.slice pv (ks.length + 1) cv).ownBlock := by
    rcases hloc with h | h
    · rw [h]; exact HD4.out
    · rw [h]
      refine (Classical.em ((Value.slice pk' (ks.length + 1) ck).ownBlock = none)).imp id (fun _ hc => ?_)
      have := (hkW.lt _ hc).2
      omega
  have hloc' : (Value.slice pv (ks.length + 1) cv).ownBlock = (Value.slice p2 ks.length c2').ownBlock ∨ ∃ g, w.heap.size ≤ g ∧ (Value.slice pv (ks.length + 1) cv).ownBlock = some g := hloc.imp id (fun h => ⟨_, by have := hb3.size; omega, h⟩)
  have M4 := (HMV3.out.trans MW).trans ((Moved.of_grown hgr (fun g e => .inl (.inr (.inr (.inr e)))) : Moved (fun g => g = T ∨ g = bm ∨ (Value.slice p ks.length c).ownBlock = some g ∨ (Value.slice p2 ks.length c2').ownBlock = some g) W3 w4))
  have tT4 : T < w4.heap.size := Nat.lt_of_lt_of_le tTW hgr.size
  have c2 : w4.cell? ⟨T, 2, none⟩ = some (.slice p2 ks.length c2') := by simp [World.cell?, hb4]
  have f2 : w4.frozen? ⟨T, 2, none⟩ = false := by simp [World.frozen?, hb4]
  have HROW := Lib.hid hrow
  have HB4 := Lib.hid hb4
  have HK4 := Lib.hid hk4
  have HM4 := Lib.hid hm4
  have HMV4 := Lib.hid M4
  have HLOC4 := Lib.hid hloc'
  have HDD4 := Lib.hid hd4
  have HNT4 := Lib.hid hneT
  clear hrow hb4 hk4 hm4 M4 hloc hloc' hd4 hneT hgr MW hbW hmW hvW hkW hg3 hc3 HK3 HV3 HM3 HB3 HMV3 tTW
  iterate 2
    refine wpList_plain rfl (fun K hK => ?_)
    go_step
    refine hK _ _ ?_
    clear hK K
  refine wpList_plain rfl (fun K hK => ?_)
  go_step
  refine hK _ _ ?_
  clear hK K
  have hb5 := heap_setCell_same (j := 2) HB4.out (Value.slice pv (ks.length + 1) cv)
  have hg5 := grown_setCell w4 ⟨T, 2, none⟩ (Value.slice pv (ks.length + 1) cv)
  generalize w4.setCell ⟨T, 2, none⟩ (Value.slice pv (ks.length + 1) cv) = w5 at *
  replace hb5 : w5.heap[T]? = some (.cells #[.map (some bm), (Value.slice pk' (ks.length + 1) ck), (Value.slice pv (ks.length + 1) cv)] 28 (0, 0)) := hb5
  have hk5 := HK4.out.kept hg5 (.inr HNT.out)
  have hv5 := HROW.out.kept hg5 (.inr HNT4.out)
  have hm5 := HM4.out.kept hg5 (fun e => H.out.d1 (by cases e; rfl))
  have M5' := HMV4.out.trans ((Moved.of_grown hg5 (fun g e => .inl (.inl (by cases e; rfl))) : Moved (fun g => g = T ∨ g = bm ∨ (Value.slice p ks.length c).ownBlock = some g ∨ (Value.slice p2 ks.length c2').ownBlock = some g) w4 w5))
  have M5 : Moved (fun g => g = T ∨ g = bm ∨ (Value.slice p ks.length c).ownBlock = some g ∨ (Value.slice p2 ks.length c2').ownBlock = some g) w w5 := (Moved.of_grown (grown_of_below HB0.out none) (fun g e => by cases e)).trans M5'
  have hpost : KPutPost w B T bm (.slice p ks.length c) (.slice p2 ks.length c2') true (ks ++ [k]) (sl ++ [.slice (some ⟨g, 0, none⟩) m m]) (.returned (.bool true)) w5 := by
    have hkl : WideAt.IsKeyLit (pk k) := pkey_lit _ _ _
    refine ⟨rfl, _, _, _, ⟨hb5, by simpa using hm5, by simpa [pcs] using hk5, by simpa using hv5, fun u hu => ?_, fun t ht => ?_, fun t t0 t1 => ?_, fun t i t0 t1 hi => ?_, H.out.geT, H.out.gem, H.out.d1, HNT.out, HNT4.out, HDD4.out, by simpa using room⟩, M5, HLOC.out, HLOC4.out⟩
    · rcases List.mem_append.1 hu with hu | hu
      · exact (HOKS.out u hu).moved HGM.out M5 HLOC.out HLOC4.out
      · obtain rfl := List.mem_singleton.1 hu
        exact HU.out.moved HGM.out M5 HLOC.out HLOC4.out
    · rcases List.mem_append.1 ht with ht | ht
      · exact H.out.range t ht
      · obtain rfl := List.mem_singleton.1 ht
        exact ⟨k0, k1⟩
    · rw [posI_snoc]
      by_cases e : k = t
      · subst e
        rw [has_put_same H.out.map.isMap hkl, if_pos rfl]
        cases posI ks k <;> rfl
      · rw [has_put_other (fun hc => e (pk_inj t0 t1 k0 k1 hc).symm), H.out.has t t0 t1, if_neg e, Option.or_none]
    · rw [posI_snoc] at hi
      by_cases e : k = t
      · subst e
        rw [HN.out, if_pos rfl] at hi
        obtain rfl : ks.length = i := by simpa using hi
        rw [atKey_put_same H.out.map.isMap hkl]
      · rw [if_neg e, Option.or_none] at hi
        rw [atKey_put_other (fun hc => e (pk_inj t0 t1 k0 k1 hc).symm), H.out.ix t i t0 t1 hi]
  have HP := Lib.hid hpost
  clear hpost
  go_wp2_with fail
  go_ret
  exact HP.out

end Go.Proofs.Ytnmnmkdmnohbmaa
