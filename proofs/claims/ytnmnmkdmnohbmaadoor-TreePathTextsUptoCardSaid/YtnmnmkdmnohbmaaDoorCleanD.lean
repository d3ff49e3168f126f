/- The law's clean: a path without what does not count. Conditions: none. -/
import Derived.Test.YtnmnmkdmnohbmaaDoorPathRd
namespace Go.Proofs.YtnmnmkdmnohbmaaDoor
open Go.RowKit
attribute [local go_sem] St.cells

set_option maxRecDepth 100000 in
set_option maxHeartbeats 4000000 in
theorem clean_any (l : List St) (p : Option Addr) (c : Nat) (w : World) (hs : StepsAt w.heap.size w p l) (ll : l.length ≤ 4194304) :
    Calls Tryd.prog 50 #[.slice p l.length c] w (fun e w' => ∃ p' c', e = .returned (.slice p' (l.map bareS).length c') ∧ StepsAt w'.heap.size w' p' (l.map bareS) ∧ Below w.heap.size w w') := by
  have HS := Lib.hid hs
  clear hs
  go_enter Tryd.func50, Tryd.ntmps50
  go_wp2
  go_loopw [3, 8] (fun sv iv wr => ∃ k : Nat, k ≤ l.length ∧ iv = .int .i64 k ∧ Hid (wr.ownsRow w.heap.size 34 3 sv ((l.take k).map bareS).length (flatS ((l.take k).map bareS))) ∧ Hid (Below w.heap.size w wr)) (fun _ iv _ => l.length - (intOf iv).toNat)
  case atStart => exact ⟨0, Nat.zero_le _, rfl, Lib.hid (World.ownsRow_nil _ _ _ _), Lib.hid (Below.refl _ _)⟩
  case round =>
    obtain ⟨k, hk, rfl, HR, HBW⟩ := hrel
    by_cases h1 : k < l.length
    · obtain ⟨x, hx⟩ : ∃ x, l[k]? = some x := ⟨l[k], by simp [h1]⟩
      rcases HS.out with h0 | ⟨b, o, rfl, hB, hc⟩
      · subst h0; simp at h1
      obtain ⟨c0, c1, c2⟩ := hc k x hx
      have c0 := (HBW.out.cell (p := ⟨b, o + k * 3, none⟩) hB).trans c0
      have c1 := (HBW.out.cell (p := ⟨b, o + k * 3 + 1, none⟩) hB).trans c1
      have c2 := (HBW.out.cell (p := ⟨b, o + k * 3 + 2, none⟩) hB).trans c2
      have hbw : b < wr.heap.size := Nat.lt_of_lt_of_le hB HBW.out.size
      have HX := Lib.hid hx
      clear hc hx hB
      obtain ⟨n, i, t⟩ := x
      dsimp only at c0 c1 c2
      have hll : ((l.take k).map bareS).length = k := by rw [List.length_map, List.length_take]; omega
      have HLL := Lib.hid hll
      clear hll
      cases t
      · obtain ⟨W5, hW5⟩ : ∃ W5, wr.alloc (.cells #[.string n, .int .i64 0, .bool false] 34) = W5 := ⟨_, rfl⟩
        have hb5 : Below wr.heap.size wr W5 := by rw [← hW5]; exact (Below.refl _ _).alloc (Nat.le_refl _) _
        have hg5 : W5.heap[wr.heap.size]? = some (.cells (St.mk n 0 false).cells 34 (0, 0)) := by rw [← hW5]; exact heap_new wr _
        have hs5 : wr.heap.size < W5.heap.size := by rw [← hW5]; simp
        obtain ⟨a0, a1, a2⟩ := step_reads hg5
        dsimp only at a0 a1 a2
        have HW5 := Lib.hid hW5
        clear hW5 hg5
        go_upto_region 8 with (fail)
        rw [HW5.out]
        clear HW5
        go_step
        iterate 3
          refine wpList_plain rfl (fun K hK => ?_)
          go_step
          refine hK _ _ ?_
          clear hK K
        obtain ⟨W6, hW6⟩ : ∃ W6, W5.alloc (.cells #[.string n, .int .i64 0, .bool false] 34) = W6 := ⟨_, rfl⟩
        have hb6 : Below W5.heap.size W5 W6 := by rw [← hW6]; exact (Below.refl _ _).alloc (Nat.le_refl _) _
        have hg6 : W6.heap[W5.heap.size]? = some (.cells (St.mk n 0 false).cells 34 (0, 0)) := by rw [← hW6]; exact heap_new W5 _
        obtain ⟨n0, n1, n2⟩ := step_reads hg6
        dsimp only at n0 n1 n2
        try rw [hW6]
        clear hW6
        have hb16 : Below wr.heap.size wr W6 := hb5.trans (hb6.mono hb5.size)
        refine wpList_plain rfl (fun K hK => ?_)
        have HR2 := HR.out
        rw [HLL.out] at HR2
        have HG3 := HR2.kept (grown_b hb16 none) (by cases u3.ownBlock <;> simp)
        refine wp_append_1 (P := Tryd.prog) W6 (.tmp 16) (.tmp 18) 29 rfl w.heap.size 34 (.agg #[.string ⟨#[]⟩, .int .i64 0, .bool false]) 3 32 Tryd.underlying29 (by kernel_rfl) rfl (by decide) u3 k _ rfl HG3 ⟨W5.heap.size, 0, none⟩ 1 1 [.string n, .int .i64 0, .bool false] rfl (by decide) rfl ?c1 ?c2 ?c3 ?c4 ?c5 ?_
        case c1 =>
          intro m v hv
          rw [addr_add1, Nat.zero_add]
          match m, hv with
          | 0, hv => cases hv; exact n0
          | 1, hv => cases hv; exact n1
          | 2, hv => cases hv; exact n2
          | m + 3, hv => simp at hv
        case c2 => intro v hv; simp at hv; rcases hv with rfl | rfl | rfl <;> rfl
        case c3 => unfold maxLen; omega
        case c4 => omega
        case c5 => have := HBW.out.size; have := hb16.size; omega
        intro v' w' hrow hgr hv'
        refine hK _ _ ?_
        clear hK K
        have HROW : Hid (w'.ownsRow w.heap.size 34 3 v' ((l.take (k + 1)).map bareS).length (flatS ((l.take (k + 1)).map bareS))) := Lib.hid (by
          have e1 : (l.take (k + 1)).map bareS = (l.take k).map bareS ++ [St.mk n 0 false] := by rw [List.take_add_one, HX.out, List.map_append]; rfl
          have e : flatS ((l.take k).map bareS ++ [St.mk n 0 false]) = flatS ((l.take k).map bareS) ++ [.string n, .int .i64 0, .bool false] := by simp [flatS, St.cells]
          rw [e1, List.length_append, e, HLL.out]
          exact hrow)
        have HBN : Hid (Below w.heap.size w w') := Lib.hid ((HBW.out.trans (hb16.mono HBW.out.size)).grown hgr (by have := HBW.out.size; have := hb16.size; omega) (fun y hy => (HG3.lt y hy).1))
        clear hrow hgr hv' HG3 hb16 hb6 hg6 n0 n1 n2 a0 a1 a2 hs5 hb5 HR2
        go_wp2
        go_roundw
        case rel => exact ⟨k + 1, by omega, by go_num, HROW, HBN⟩
        case measure => simp [intOf]; omega
      · obtain ⟨W5, hW5⟩ : ∃ W5, wr.alloc (.cells #[.string ⟨#[]⟩, .int .i64 i, .bool true] 34) = W5 := ⟨_, rfl⟩
        have hb5 : Below wr.heap.size wr W5 := by rw [← hW5]; exact (Below.refl _ _).alloc (Nat.le_refl _) _
        have hg5 : W5.heap[wr.heap.size]? = some (.cells (St.mk ⟨#[]⟩ i true).cells 34 (0, 0)) := by rw [← hW5]; exact heap_new wr _
        have hs5 : wr.heap.size < W5.heap.size := by rw [← hW5]; simp
        obtain ⟨a0, a1, a2⟩ := step_reads hg5
        dsimp only at a0 a1 a2
        have HW5 := Lib.hid hW5
        clear hW5 hg5
        go_upto_region 8 with (fail)
        rw [HW5.out]
        clear HW5
        go_step
        iterate 3
          refine wpList_plain rfl (fun K hK => ?_)
          go_step
          refine hK _ _ ?_
          clear hK K
        obtain ⟨W6, hW6⟩ : ∃ W6, W5.alloc (.cells #[.string ⟨#[]⟩, .int .i64 i, .bool true] 34) = W6 := ⟨_, rfl⟩
        have hb6 : Below W5.heap.size W5 W6 := by rw [← hW6]; exact (Below.refl _ _).alloc (Nat.le_refl _) _
        have hg6 : W6.heap[W5.heap.size]? = some (.cells (St.mk ⟨#[]⟩ i true).cells 34 (0, 0)) := by rw [← hW6]; exact heap_new W5 _
        obtain ⟨n0, n1, n2⟩ := step_reads hg6
        dsimp only at n0 n1 n2
        try rw [hW6]
        clear hW6
        have hb16 : Below wr.heap.size wr W6 := hb5.trans (hb6.mono hb5.size)
        refine wpList_plain rfl (fun K hK => ?_)
        have HR2 := HR.out
        rw [HLL.out] at HR2
        have HG3 := HR2.kept (grown_b hb16 none) (by cases u3.ownBlock <;> simp)
        refine wp_append_1 (P := Tryd.prog) W6 (.tmp 16) (.tmp 18) 29 rfl w.heap.size 34 (.agg #[.string ⟨#[]⟩, .int .i64 0, .bool false]) 3 32 Tryd.underlying29 (by kernel_rfl) rfl (by decide) u3 k _ rfl HG3 ⟨W5.heap.size, 0, none⟩ 1 1 [.string ⟨#[]⟩, .int .i64 i, .bool true] rfl (by decide) rfl ?c1 ?c2 ?c3 ?c4 ?c5 ?_
        case c1 =>
          intro m v hv
          rw [addr_add1, Nat.zero_add]
          match m, hv with
          | 0, hv => cases hv; exact n0
          | 1, hv => cases hv; exact n1
          | 2, hv => cases hv; exact n2
          | m + 3, hv => simp at hv
        case c2 => intro v hv; simp at hv; rcases hv with rfl | rfl | rfl <;> rfl
        case c3 => unfold maxLen; omega
        case c4 => omega
        case c5 => have := HBW.out.size; have := hb16.size; omega
        intro v' w' hrow hgr hv'
        refine hK _ _ ?_
        clear hK K
        have HROW : Hid (w'.ownsRow w.heap.size 34 3 v' ((l.take (k + 1)).map bareS).length (flatS ((l.take (k + 1)).map bareS))) := Lib.hid (by
          have e1 : (l.take (k + 1)).map bareS = (l.take k).map bareS ++ [St.mk ⟨#[]⟩ i true] := by rw [List.take_add_one, HX.out, List.map_append]; rfl
          have e : flatS ((l.take k).map bareS ++ [St.mk ⟨#[]⟩ i true]) = flatS ((l.take k).map bareS) ++ [.string ⟨#[]⟩, .int .i64 i, .bool true] := by simp [flatS, St.cells]
          rw [e1, List.length_append, e, HLL.out]
          exact hrow)
        have HBN : Hid (Below w.heap.size w w') := Lib.hid ((HBW.out.trans (hb16.mono HBW.out.size)).grown hgr (by have := HBW.out.size; have := hb16.size; omega) (fun y hy => (HG3.lt y hy).1))
        clear hrow hgr hv' HG3 hb16 hb6 hg6 n0 n1 n2 a0 a1 a2 hs5 hb5 HR2
        go_wp2
        go_roundw
        case rel => exact ⟨k + 1, by omega, by go_num, HROW, HBN⟩
        case measure => simp [intOf]; omega
    · have HALL : Hid (l.take k = l) := Lib.hid (List.take_of_length_le (by omega))
      obtain ⟨p', c', hsv, _, _, hst⟩ := row_steps HR.out
      rw [HALL.out] at hst hsv
      subst hsv
      have HST := Lib.hid hst
      clear hst
      go_wp2
      go_ret
      exact ⟨p', c', rfl, HST.out, HBW.out⟩
end Go.Proofs.YtnmnmkdmnohbmaaDoor
