/- Helper text: a table of texts: Get, At, Keys; the name of a number. Conditions: none. -/
import Derived.Test.YtnmnmkdmnohbmaaGreatDoorPackH
import Derived.Test.YtnmnmkdmnohbmaaGreatDoorPackK
import Derived.Test.YtnmnmkdmnohbmaaGreatDoorPackE
namespace Go.Proofs.YtnmnmkdmnohbmaaGreatDoor
open Go Go.RowKit Go.Maps

theorem IsTab.on {w w' : World} {B T bm : Nat} {kv vv : Value} {D : DataW Unit} {ks : List ByteArray} {vs : List Int} (h : IsTab w B T bm kv vv D ks vs) (hb : Below w.heap.size w w') : IsTab w' B T bm kv vv D ks vs := by
  have hg := grown_of_below hb none
  exact ⟨(hb.block T (Array.getElem?_eq_some_iff.1 h.block).1).trans h.block, h.map.kept hg (by simp), h.keys.kept hg (by cases kv.ownBlock <;> simp), h.vals.kept hg (by cases vv.ownBlock <;> simp), h.len, h.has, h.ix, h.geT, h.gem, h.d1, h.d2, h.d3, h.d4, h.few⟩
theorem pos_lt {ks : List ByteArray} {s : ByteArray} {i : Nat} (h : pos ks s = some i) : i < ks.length := by
  unfold pos at h
  rw [List.findIdx?_eq_some_iff_getElem] at h
  exact h.1
/-- The cells of a row of texts. -/
theorem texts_cells {w : World} {B : Nat} {v : Value} {ks : List ByteArray} (h : w.ownsRow B 9 1 v ks.length (ks.map Value.string)) :
    ∃ p cap, v = .slice p ks.length cap ∧ ks.length ≤ cap ∧ cap ≤ maxLen ∧ ∀ j s, ks[j]? = some s → ∃ g, p = some ⟨g, 0, none⟩ ∧ g < w.heap.size ∧ w.cell? ⟨g, j, none⟩ = some (.string s) := by
  rcases h.2 with ⟨hv, h0⟩ | ⟨g, cap, cur, hv, hb, hh, hn', hc, hs, ht⟩
  · exact ⟨none, 0, by rw [hv, h0], by omega, by decide, fun j r hr => by have := (List.getElem?_eq_some_iff.1 hr).1; omega⟩
  · refine ⟨_, cap, hv, hn', hc, fun j s hs' => ⟨g, rfl, (Array.getElem?_eq_some_iff.1 hh).1, ?_⟩⟩
    have hu : (ks.map Value.string)[j]? = some (.string s) := by rw [List.getElem?_map, hs']; rfl
    rw [← ht, List.getElem?_take] at hu
    split at hu
    · simp only [World.cell?, hh]
      simpa using hu
    · cases hu
theorem ints_cells {w : World} {B : Nat} {v : Value} {vs : List Int} (h : w.ownsInts B 3 .i64 v vs) :
    ∃ p cap, v = .slice p vs.length cap ∧ vs.length ≤ cap ∧ cap ≤ maxLen ∧ ∀ j x, vs[j]? = some x → ∃ g, p = some ⟨g, 0, none⟩ ∧ g < w.heap.size ∧ w.cell? ⟨g, j, none⟩ = some (.int .i64 x) := by
  have hr := h.1
  rcases hr.2 with ⟨hv, h0⟩ | ⟨g, cap, cur, hv, hb, hh, hn', hc, hs, ht⟩
  · exact ⟨none, 0, by rw [hv, h0], by omega, by decide, fun j r hr => by have := (List.getElem?_eq_some_iff.1 hr).1; omega⟩
  · subst hv
    obtain ⟨_, _, _, _, hg, hcells⟩ := ownsInts_cells h
    exact ⟨_, cap, rfl, hn', hc, fun j x hx => ⟨g, rfl, hg, hcells j x hx⟩⟩

set_option maxRecDepth 100000 in
set_option maxHeartbeats 2000000 in
theorem Keys_any {w : World} {B T bm : Nat} {kv vv : Value} {D : DataW Unit} {ks : List ByteArray} {vs : List Int} (h : IsTab w B T bm kv vv D ks vs) :
    Calls Tryz.prog 16 #[.pointer (some ⟨T, 0, none⟩)] w (fun e w' => ∃ v, e = .returned v ∧ w'.ownsRow w.heap.size 9 1 v ks.length (ks.map Value.string) ∧ Below w.heap.size w w') := by
  obtain ⟨c0, c1, c2, f1, f2, hT⟩ := h.facts
  obtain ⟨p, cap, rfl, hk1, hk2, hkc⟩ := texts_cells h.keys
  have few := h.few
  have HKC := Lib.hid hkc
  clear h hkc c0 c2 f1 f2
  go_enter Tryz.func16, Tryz.ntmps16
  go_upto_region 3 with (fail)
  go_step
  iterate 4
    refine wpList_plain rfl (fun K hK => ?_)
    go_step
    refine hK _ _ ?_
    clear hK K
  refine wpList_plain rfl (fun K hK => ?_)
  refine wp_append_y (P := Tryz.prog) (.const (.slice none 0 0)) (.tmp 8) 48 rfl w.heap.size 9 (.string ⟨#[]⟩) 1 16 Tryz.underlying48 (by kernel_rfl) rfl (by decide) _ 0 [] rfl (World.ownsRow_nil _ _ _ _) p ks.length cap (ks.map Value.string) rfl (by simp) (fun h => by
    rcases Nat.eq_zero_or_pos ks.length with h0 | h0
    · exact h0
    · obtain ⟨g, hg, _⟩ := HKC.out 0 _ (List.getElem?_eq_getElem h0)
      rw [h] at hg; cases hg) (fun a ha j u hu => by
    rw [List.getElem?_map, Option.map_eq_some_iff] at hu
    obtain ⟨s, hs, rfl⟩ := hu
    obtain ⟨g, hg, _, hc⟩ := HKC.out j s hs
    rw [ha] at hg
    cases hg
    rw [addr_add, Nat.zero_add]
    exact hc) (fun u hu => by obtain ⟨s, _, rfl⟩ := List.mem_map.1 hu; rfl) (by unfold maxLen; omega) (by omega) (Nat.le_refl _) ?_
  intro v' w' hrow hgr
  simp only [Nat.zero_add, List.nil_append] at hrow
  refine hK _ _ ?_
  clear hK K
  have HR := Lib.hid hrow
  have HB := Lib.hid (Below.grown (Below.refl w.heap.size w) hgr (Nat.le_refl _) (fun k hk => by cases hk))
  clear hrow hgr
  go_wp2_with fail
  go_ret
  exact ⟨_, rfl, HR.out, HB.out⟩
end Go.Proofs.YtnmnmkdmnohbmaaGreatDoor
