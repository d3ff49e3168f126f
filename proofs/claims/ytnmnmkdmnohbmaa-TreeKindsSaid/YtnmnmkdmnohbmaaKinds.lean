/- What TreeKinds wants of its lists: positions, entries, a write into a list that is laid in. Conditions: none. -/
import Derived.Test.YtnmnmkdmnohbmaaKAll
import Derived.Test.YtnmnmkdmnohbmaaRowRef
namespace Go.Proofs.Ytnmnmkdmnohbmaa
open Go.RowKit Go.Maps

theorem posI_any (ks : List Int) (k : Int) : (posI ks k).isSome = ks.any (fun t => t == k) := by
  unfold posI
  rw [List.findIdx?_isSome]

theorem any_fst (l : List (Int × Int)) (k : Int) : (l.map (·.1)).any (fun t => t == k) = l.any (fun r => r.1 == k) := by
  rw [List.any_map]
  rfl

theorem putR_fst (l : List (Int × Int)) (k v : Int) : (putR l k v).map (·.1) = if l.any (fun r => r.1 == k) then l.map (·.1) else l.map (·.1) ++ [k] := by
  unfold putR
  have e : (l.map (updR k v)).map (·.1) = l.map (·.1) := by
    rw [List.map_map]
    refine List.map_congr_left fun r _ => ?_
    simp only [Function.comp, updR]
    split <;> rfl
  rw [List.map_append, e]
  split <;> simp

theorem posI_none {ks : List Int} {k : Int} (h : posI ks k = none) : k ∉ ks := fun hm => by
  have := posI_any ks k
  rw [h] at this
  have h2 : ks.any (fun t => t == k) = true := List.any_eq_true.2 ⟨k, hm, by simp⟩
  rw [h2] at this
  cases this

theorem nodup_snoc {ks : List Int} {k : Int} (h : ks.Nodup) (hk : k ∉ ks) : (ks ++ [k]).Nodup := by
  rw [List.nodup_append]
  refine ⟨h, by simp, fun a ha b hb => ?_⟩
  rintro rfl
  obtain rfl : a = k := by simpa using hb
  exact hk ha

theorem nodup_bound : ∀ (N : Nat) (ks : List Int), ks.Nodup → (∀ k ∈ ks, 0 ≤ k ∧ k < (N : Int)) → ks.length ≤ N
  | 0, ks, _, h => by
    cases ks with
    | nil => simp
    | cons a r => have := h a (by simp); omega
  | N + 1, ks, hn, h => by
    have h1 := nodup_bound N (ks.erase (N : Int)) (hn.erase _) (fun k hk => by
      have hm := (hn.mem_erase_iff).1 hk
      have := h k hm.2
      have := hm.1
      omega)
    have h2 : ks.length ≤ (ks.erase (N : Int)).length + 1 := by
      rw [List.length_erase]
      split <;> omega
    omega

/-- The table's blocks and a block of another kind are two. -/
theorem IsKT.apart {w : World} {B T bm : Nat} {kv vv : Value} {D : DataW Unit} {ks : List Int} {sl : List Value} (h : IsKT w B T bm kv vv D ks sl) {g : Nat} {cur : Array Value} {e : TypeId} {fz : Nat × Nat} (hg : w.heap[g]? = some (.cells cur e fz))
    (e0 : e ≠ 28) (e1 : e ≠ 32) (e2 : e ≠ 33) :
    ¬ (g = T ∨ g = bm ∨ kv.ownBlock = some g ∨ vv.ownBlock = some g) := by
  rintro (rfl | rfl | hk | hv)
  · rw [h.block] at hg
    cases hg
    exact e0 rfl
  · obtain ⟨es, clock, hb, _⟩ := h.map
    rw [hb] at hg
    cases hg
  · rcases h.keys.2 with ⟨rfl, _⟩ | ⟨g', cap, c', rfl, _, hh, _⟩
    · cases hk
    · cases hk
      rw [hh] at hg
      cases hg
      exact e1 rfl
  · rcases h.vals.2 with ⟨rfl, _⟩ | ⟨g', cap, c', rfl, _, hh, _⟩
    · cases hv
    · cases hv
      rw [hh] at hg
      cases hg
      exact e2 rfl

theorem ValOk.write {w : World} {B : Nat} {no : Nat → Prop} {u : Value} (h : ValOk w B no u) {g : Nat} {cur : Array Value} (hg : w.heap[g]? = some (.cells cur 3 (0, 0))) (z : Int) : ValOk (w.setCell ⟨g, 0, none⟩ (.int .i64 z)) B no u := by
  obtain ⟨g', m, c', h1, h2, h3, h4, h5, h6, h7, h8⟩ := h
  by_cases e : g' = g
  · subst e
    rw [h4] at hg
    cases hg
    refine ⟨g', m, _, h1, h2, h3, heap_setCell_same h4 _, by simpa using h5, h6, h7, fun j hj => ?_⟩
    by_cases hj0 : j = 0
    · subst hj0
      exact ⟨z, Array.getElem?_setIfInBounds_self_of_lt (by omega)⟩
    · obtain ⟨y, hy⟩ := h8 j hj
      exact ⟨y, by rw [Array.getElem?_setIfInBounds_ne (Ne.symm hj0)]; exact hy⟩
  · exact ⟨g', m, c', h1, h2, h3, (Below.heap_setCell _ _ _ _ (by simpa using e)).trans h4, h5, h6, h7, h8⟩

theorem IsKT.write {w : World} {B T bm : Nat} {kv vv : Value} {D : DataW Unit} {ks : List Int} {sl : List Value} (h : IsKT w B T bm kv vv D ks sl) {g : Nat} {cur : Array Value} (hg : w.heap[g]? = some (.cells cur 3 (0, 0))) (z : Int) : IsKT (w.setCell ⟨g, 0, none⟩ (.int .i64 z)) B T bm kv vv D ks sl := by
  have hap := h.apart hg (by decide) (by decide) (by decide)
  have hgr := grown_setCell w ⟨g, 0, none⟩ (.int .i64 z)
  refine ⟨?_, h.map.kept hgr (fun e => hap (.inr (.inl (Option.some.inj e).symm))), h.keys.kept hgr (.inr fun e => hap (.inr (.inr (.inl e)))), h.vals.kept hgr (.inr fun e => hap (.inr (.inr (.inr e)))), fun u hu => (h.ok u hu).write hg z, h.range, h.has, h.ix, h.geT, h.gem, h.d1, h.d2, h.d3, h.d4, h.few⟩
  exact (hgr.block T h.facts.2.2.2.2.2 (fun e => hap (.inl (Option.some.inj e).symm))).trans h.block
end Go.Proofs.Ytnmnmkdmnohbmaa
