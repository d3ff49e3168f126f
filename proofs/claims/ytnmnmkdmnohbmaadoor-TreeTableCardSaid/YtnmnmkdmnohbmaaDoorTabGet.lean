/- Helper text: a table of texts: Get, At, Keys; the name of a number. Conditions: none. -/
import Derived.Test.YtnmnmkdmnohbmaaDoorPackD
import Derived.Test.YtnmnmkdmnohbmaaDoorPackG
import Derived.Test.YtnmnmkdmnohbmaaDoorAppY
namespace Go.Proofs.YtnmnmkdmnohbmaaDoor
open Go Go.RowKit Go.Maps

theorem IsTab.on {w w' : World} {B T bm : Nat} {kv vv : Value} {D : DataW Unit} {ks : List ByteArray} {vs : List Int} (h : IsTab w B T bm kv vv D ks vs) (hb : Below w.heap.size w w') : IsTab w' B T bm kv vv D ks vs := by
  have hg := grown_of_below hb none
  exact ⟨(hb.block T (Array.getElem?_eq_some_iff.1 h.block).1).trans h.block, h.map.kept hg (by simp), h.keys.kept hg (by cases kv.ownBlock <;> simp), h.vals.kept hg (by cases vv.ownBlock <;> simp), h.len, h.has, h.ix, h.geT, h.gem, h.d1, h.d2, h.d3, h.d4, h.few⟩
theorem pos_lt {ks : List ByteArray} {s : ByteArray} {i : Nat} (h : pos ks s = some i) : i < ks.length := by
  unfold pos at h
  rw [List.findIdx?_eq_some_iff_getElem] at h
  exact h.1
/-- The cells of a row of texts. -/
theorem texts_cells {w : World} {B : Nat} {v : Value} {ks : List ByteArray} (h : w.ownsRow B 9 1 v ks.length (ks.map Value.string)) :
    ∃ p cap, v = .slice p ks.length cap ∧ ks.length ≤ cap ∧ cap ≤ maxLen ∧ ∀ j s, ks[j]? = some s → ∃ g, p = some ⟨g, 0, none⟩ ∧ g < w.heap.size ∧ w.cell? ⟨g, j, none⟩ = some (.string s) := by
  rcases h.2 with ⟨hv, h0⟩ | ⟨g, cap, cur, hv, hb, hh, hn', hc, hs, ht⟩
  · exact ⟨none, 0, by rw [hv, h0], by omega, by decide, fun j r hr => by have := (List.getElem?_eq_some_iff.1 hr).1; omega⟩
  · refine ⟨_, cap, hv, hn', hc, fun j s hs' => ⟨g, rfl, (Array.getElem?_eq_some_iff.1 hh).1, ?_⟩⟩
    have hu : (ks.map Value.string)[j]? = some (.string s) := by rw [List.getElem?_map, hs']; rfl
    rw [← ht, List.getElem?_take] at hu
    split at hu
    · simp only [World.cell?, hh]
      simpa using hu
    · cases hu
theorem ints_cells {w : World} {B : Nat} {v : Value} {vs : List Int} (h : w.ownsInts B 3 .i64 v vs) :
    ∃ p cap, v = .slice p vs.length cap ∧ vs.length ≤ cap ∧ cap ≤ maxLen ∧ ∀ j x, vs[j]? = some x → ∃ g, p = some ⟨g, 0, none⟩ ∧ g < w.heap.size ∧ w.cell? ⟨g, j, none⟩ = some (.int .i64 x) := by
  have hr := h.1
  rcases hr.2 with ⟨hv, h0⟩ | ⟨g, cap, cur, hv, hb, hh, hn', hc, hs, ht⟩
  · exact ⟨none, 0, by rw [hv, h0], by omega, by decide, fun j r hr => by have := (List.getElem?_eq_some_iff.1 hr).1; omega⟩
  · subst hv
    obtain ⟨_, _, _, _, hg, hcells⟩ := ownsInts_cells h
    exact ⟨_, cap, rfl, hn', hc, fun j x hx => ⟨g, rfl, hg, hcells j x hx⟩⟩

set_option maxRecDepth 100000 in
set_option maxHeartbeats 2000000 in
theorem Get_tab {w : World} {B T bm : Nat} {kv vv : Value} {D : DataW Unit} {ks : List ByteArray} {vs : List Int} (h : IsTab w B T bm kv vv D ks vs) (s : ByteArray) (hs : s.size ≤ maxLen) :
    Calls Tryd.prog 64 #[.pointer (some ⟨T, 0, none⟩), .string s] w (RetS (.tuple #[.int .i64 (((pos ks s).bind (fun i => vs[i]?)).getD 0), .bool (pos ks s).isSome]) w) := by
  obtain ⟨c0, c1, c2, f1, f2, hT⟩ := h.facts
  have hhas := h.has s hs
  have hkey := keyS hs
  have hmap := h.map
  cases hpos : pos ks s with
  | none =>
    rw [hpos] at hhas
    simp only [Option.isSome_none] at hhas
    clear h hpos
    go_enter Tryd.func64, Tryd.ntmps64
    go_wp2_with (at_lookup; refine wpList_lookup_own_ok_int _ rfl _ _ 100 rfl 9 3 .i64 lawS Tryd.underlying100 Tryd.underlying3 (zeroI _) bm ks.length D rfl hmap _ _ rfl hkey ?_; intro x _ _; rw [hhas])
    go_ret2
    exact ⟨rfl, rfl⟩
  | some i =>
    have hat0 := h.ix s i hs hpos
    rw [hpos] at hhas
    simp only [Option.isSome_some] at hhas
    have hi := pos_lt hpos
    have hi' : i < vs.length := by rw [h.len]; exact hi
    obtain ⟨p, cap, rfl, hc1, hc2, hcs⟩ := ints_cells h.vals
    obtain ⟨x, hx⟩ : ∃ x, vs[i]? = some x := ⟨_, List.getElem?_eq_getElem hi'⟩
    obtain ⟨g, rfl, hg, hz⟩ := hcs i x hx
    have hv : ((some i).bind (fun i => vs[i]?)).getD 0 = x := by simp [hx]
    have hlen : vs.length ≤ 8796093022208 := by have := h.len; have := h.few; omega
    rw [hv]
    unfold maxLen at hc2
    clear h hpos hcs hx hv hi
    go_enter Tryd.func64, Tryd.ntmps64
    go_wp2_with (at_lookup; refine wpList_lookup_own_ok_int _ rfl _ _ 100 rfl 9 3 .i64 lawS Tryd.underlying100 Tryd.underlying3 (zeroI _) bm ks.length D rfl hmap _ _ rfl hkey ?_; intro x hat _; rw [hat0] at hat; obtain rfl : (i : Int) = x := (by cases hat; rfl); rw [hhas])
    go_ret2
    exact ⟨rfl, rfl⟩

set_option maxRecDepth 100000 in
set_option maxHeartbeats 2000000 in
theorem At_out {w : World} {B T bm : Nat} {kv vv : Value} {D : DataW Unit} {ks : List ByteArray} {vs : List Int} (h : IsTab w B T bm kv vv D ks vs) (i : Int) (hi : i < 0 ∨ (ks.length : Int) ≤ i) :
    Calls Tryd.prog 68 #[.pointer (some ⟨T, 0, none⟩), .int .i64 i] w (RetB (.tuple #[.string ⟨#[]⟩, .int .i64 0, .bool false]) w) := by
  have HL := Lib.hid (Len_any h)
  unfold RetS at HL
  clear h
  by_cases h0 : i < 0
  · have d0 : decide (i < 0) = true := by simp [h0]
    clear hi
    go_enter Tryd.func68, Tryd.ntmps68
    go_wp2_with fail
    go_ret3
    exact ⟨rfl, Below.refl _ _⟩
  · have d0 : decide (i < 0) = false := by simp; omega
    have d1 : decide ((ks.length : Int) ≤ i) = true := by simp; omega
    clear hi
    go_enter Tryd.func68, Tryd.ntmps68
    go_wp2_with (go_at_call 28; refine HL.out.mono ?_; rintro e w1 ⟨rfl, rfl⟩)
    go_ret3
    exact ⟨rfl, Below.refl _ _⟩

set_option maxRecDepth 100000 in
set_option maxHeartbeats 2000000 in
theorem At_in {w : World} {B T bm : Nat} {kv vv : Value} {D : DataW Unit} {ks : List ByteArray} {vs : List Int} (h : IsTab w B T bm kv vv D ks vs) {i : Nat} {s : ByteArray} {x : Int} (hs : ks[i]? = some s) (hx : vs[i]? = some x) :
    Calls Tryd.prog 68 #[.pointer (some ⟨T, 0, none⟩), .int .i64 i] w (RetB (.tuple #[.string s, .int .i64 x, .bool true]) w) := by
  have HL := Lib.hid (Len_any h)
  unfold RetS at HL
  obtain ⟨c0, c1, c2, f1, f2, hT⟩ := h.facts
  obtain ⟨p, cap, rfl, hk1, hk2, hkc⟩ := texts_cells h.keys
  obtain ⟨q, cap2, rfl, hv1, hv2, hvc⟩ := ints_cells h.vals
  obtain ⟨g, rfl, hg, q0⟩ := hkc i s hs
  obtain ⟨g2, rfl, hg2, q1⟩ := hvc i x hx
  have hi := (List.getElem?_eq_some_iff.1 hs).1
  have hlen := h.len
  have few := h.few
  unfold maxLen at hk2 hv2
  have hik : (i : Int) < (ks.length : Int) := by omega
  have hiv : (i : Int) < (vs.length : Int) := by omega
  have d0 : decide ((i : Int) < 0) = false := by simp only [decide_eq_false_iff_not]; omega
  have d1 : decide ((ks.length : Int) ≤ (i : Int)) = false := by simp only [decide_eq_false_iff_not]; omega
  have hiv' : i < vs.length := by omega
  have few2 : vs.length < 8796093022208 := by omega
  clear h hs hx hkc hvc hlen c0 f1 f2
  go_enter Tryd.func68, Tryd.ntmps68
  go_upto_region 5 with (go_at_call 28; refine HL.out.mono ?_; rintro e w1 ⟨rfl, rfl⟩)
  refine wp_region_plan_below 17 [(0, [0, 1, 2, 3, 4, 5, 6, 14, 7, 8, 9, 10, 11, 12, 13, 15, 16])] (by kernel_rfl) (by kernel_rfl) (fun _ _ _ _ h => h) ?_
  simp only [wpSegs, pickOps, List.getElem?_toArray, List.getElem?_cons_zero, List.getElem?_cons_succ]
  have kc := cell_cls w
  iterate 17 (go_big_quiet_step (fail))
  refine wpQuiet_nil ?_
  clear kc
  go_wp2_with fail
  go_ret3
  exact ⟨rfl, Below.drew (Below.refl _ _)⟩

theorem name_any (k : Int) (hk : inI k) (w : World) (htab : Lib.TabIs Tryd.prog w "internal/strconv.uint64pow10" .u64 Lib.pow10Tab) :
    Calls Tryd.prog 62 #[.int .i64 k] w (RetB (.string (⟨#[107]⟩ ++ ⟨(Lib.itoa k).toArray⟩)) w) := by
  have l1 := itoa_len hk
  have hsz : ∀ l : List UInt8, (⟨l.toArray⟩ : ByteArray).size = l.length := fun l => by simp [ByteArray.size]
  have s1 : (⟨(Lib.itoa k).toArray⟩ : ByteArray).size ≤ 30 := by rw [hsz]; omega
  have C1 := Lib.hid (itoa_B k hk w htab)
  generalize (⟨(Lib.itoa k).toArray⟩ : ByteArray) = sk at *
  clear hsz l1 hk htab
  go_enter Tryd.func62, Tryd.ntmps62
  go_wp2_with (go_at_call 82; refine C1.out.mono ?_; rintro e w1 ⟨rfl, hb1⟩)
  go_ret
  exact ⟨rfl, hb1⟩

set_option maxRecDepth 100000 in
set_option maxHeartbeats 2000000 in
theorem Keys_any {w : World} {B T bm : Nat} {kv vv : Value} {D : DataW Unit} {ks : List ByteArray} {vs : List Int} (h : IsTab w B T bm kv vv D ks vs) :
    Calls Tryd.prog 70 #[.pointer (some ⟨T, 0, none⟩)] w (fun e w' => ∃ v, e = .returned v ∧ w'.ownsRow w.heap.size 9 1 v ks.length (ks.map Value.string) ∧ Below w.heap.size w w') := by
  obtain ⟨c0, c1, c2, f1, f2, hT⟩ := h.facts
  obtain ⟨p, cap, rfl, hk1, hk2, hkc⟩ := texts_cells h.keys
  have few := h.few
  have HKC := Lib.hid hkc
  clear h hkc c0 c2 f1 f2
  go_enter Tryd.func70, Tryd.ntmps70
  go_upto_region 3 with (fail)
  go_step
  iterate 4
    refine wpList_plain rfl (fun K hK => ?_)
    go_step
    refine hK _ _ ?_
    clear hK K
  refine wpList_plain rfl (fun K hK => ?_)
  refine wp_append_y (P := Tryd.prog) (.const (.slice none 0 0)) (.tmp 8) 101 rfl w.heap.size 9 (.string ⟨#[]⟩) 1 16 Tryd.underlying101 (by kernel_rfl) rfl (by decide) _ 0 [] rfl (World.ownsRow_nil _ _ _ _) p ks.length cap (ks.map Value.string) rfl (by simp) (fun h => by
    rcases Nat.eq_zero_or_pos ks.length with h0 | h0
    · exact h0
    · obtain ⟨g, hg, _⟩ := HKC.out 0 _ (List.getElem?_eq_getElem h0)
      rw [h] at hg; cases hg) (fun a ha j u hu => by
    rw [List.getElem?_map, Option.map_eq_some_iff] at hu
    obtain ⟨s, hs, rfl⟩ := hu
    obtain ⟨g, hg, _, hc⟩ := HKC.out j s hs
    rw [ha] at hg
    cases hg
    rw [addr_add, Nat.zero_add]
    exact hc) (fun u hu => by obtain ⟨s, _, rfl⟩ := List.mem_map.1 hu; rfl) (by unfold maxLen; omega) (by omega) (Nat.le_refl _) ?_
  intro v' w' hrow hgr
  simp only [Nat.zero_add, List.nil_append] at hrow
  refine hK _ _ ?_
  clear hK K
  have HR := Lib.hid hrow
  have HB := Lib.hid (Below.grown (Below.refl w.heap.size w) hgr (Nat.le_refl _) (fun k hk => by cases hk))
  clear hrow hgr
  go_wp2_with fail
  go_ret
  exact ⟨_, rfl, HR.out, HB.out⟩
end Go.Proofs.YtnmnmkdmnohbmaaDoor
