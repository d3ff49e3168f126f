/- Helper text: the path functions again, with a stronger word on the world behind: blocks are laid and orders drawn, nothing else. Conditions: none. -/
import Derived.Test.YtnmnmkdmnohbmaaUnder
import Derived.Shelf.SlSortCmp.WholeK
namespace Go.Proofs.Ytnmnmkdmnohbmaa
open Go.RowKit Go.Sort

/-- Blocks are laid, orders are drawn; nothing else. -/
def Grew (w w' : World) : Prop := ∃ q os, w' = Go.Sort.grow (w.drewN q) os
def RetG (v : Value) (w : World) (e : Ending) (w' : World) : Prop := e = .returned v ∧ Grew w w'

theorem Grew.refl (w : World) : Grew w w := ⟨0, #[], by rw [grow_empty]; rfl⟩
theorem Grew.trans {a b c : World} (h : Grew a b) (k : Grew b c) : Grew a c := by
  obtain ⟨q, os, rfl⟩ := h
  obtain ⟨q', os', rfl⟩ := k
  refine ⟨q + q', os ++ os', ?_⟩
  show Go.Sort.grow (Go.Sort.grow ((a.drewN q).drewN q') os) os' = _
  rw [grow_grow]
  congr 1
  simp [World.drewN, Nat.add_assoc]
theorem Grew.drew (w : World) : Grew w w.drew := ⟨1, #[], by rw [grow_empty]; rfl⟩
theorem Grew.alloc (w : World) (o : Obj) : Grew w (w.alloc o) := ⟨0, #[o], by rw [alloc_eq_grow]; rfl⟩
theorem Grew.below {w w' : World} (h : Grew w w') : Below w.heap.size w w' := by
  obtain ⟨q, os, rfl⟩ := h
  exact ⟨rfl, rfl, rfl, by simp [Go.Sort.grow, World.drewN], fun k hk => by simp only [Go.Sort.grow, World.drewN]; exact Array.getElem?_append_left hk⟩

attribute [local go_sem] St.cells

theorem close_cellG {fn : Func} {a : Act} {w w' : World} {v u : Value} (hr : (results fn a.tmps).run Try.prog w' = .ok v w') (hd : a.defers = []) (hv : v = u) (hb : Grew w w') :
    bodyPost Try.prog fn (RetG u w) .ret a w' := bodyPost_ret hr hd ⟨ret_eq hv, hb⟩

theorem bare_g (s : St) (w : World) : Calls Try.prog 56 #[.agg s.cells] w (RetG (.agg (bareS s).cells) w) := by
  obtain ⟨n, i, b⟩ := s
  cases b
  · go_enter Try.func56, Try.ntmps56
    go_wp2
    exact close_cellG (v := .agg #[.string n, .int .i64 0, .bool false]) (by simp [results, Try.results56, go_sem]) rfl rfl ((Grew.alloc _ _).trans (Grew.alloc _ _))
  · go_enter Try.func56, Try.ntmps56
    go_wp2
    exact close_cellG (v := .agg #[.string ByteArray.empty, .int .i64 i, .bool true]) (by simp [results, Try.results56, go_sem]; rfl) rfl rfl ((Grew.alloc _ _).trans (Grew.alloc _ _))

theorem stepOrder_g (s t : St) (w : World) : Calls Try.prog 57 #[.agg s.cells, .agg t.cells] w (RetG (.int .i64 (stepOrd s t)) w) := by
  obtain ⟨n, i, b⟩ := s
  obtain ⟨n2, i2, b2⟩ := t
  cases b <;> cases b2
  all_goals
    go_enter Try.func57, Try.ntmps57
    go_wp2_with (first | (go_at_call 58; refine (compare_int _ _ _).mono ?_; rintro e w' ⟨rfl, rfl⟩) | (go_at_call 82; refine (compare_str _ _ _).mono ?_; rintro e w' ⟨rfl, rfl⟩))
    go_ret
    exact ⟨rfl, (Grew.alloc _ _).trans (Grew.alloc _ _)⟩

set_option maxRecDepth 100000 in
set_option maxHeartbeats 400000 in
theorem Compare_g (a b : List St) (p q : Option Addr) (c d : Nat) (w : World) (ha : StepsAt w.heap.size w p a) (hb : StepsAt w.heap.size w q b) (la : a.length ≤ maxLen) (lb : b.length ≤ maxLen) :
    Calls Try.prog 21 #[.slice p a.length c, .slice q b.length d] w (RetG (.int .i64 (cmpP a b)) w) := by
  unfold maxLen at la lb
  go_enter Try.func21, Try.ntmps21
  go_wp2
  go_loopw [5] (fun i wr => ∃ k : Nat, k ≤ a.length ∧ k ≤ b.length ∧ i = .int .i64 k ∧ Hid (cmpP (a.drop k) (b.drop k) = cmpP a b) ∧ Grew w wr) (fun i _ => a.length - (intOf i).toNat)
  case atStart => exact ⟨0, Nat.zero_le _, Nat.zero_le _, rfl, rfl, Grew.refl _⟩
  case round =>
    obtain ⟨k, hka, hkb, rfl, hcmp, hgr⟩ := hrel
    have hbel := hgr.below
    have HG := Lib.hid hgr
    clear hgr
    by_cases h1 : k < a.length
    · by_cases h2 : k < b.length
      · obtain ⟨x, hx⟩ : ∃ x, a[k]? = some x := ⟨a[k], by simp [h1]⟩
        obtain ⟨y, hy⟩ : ∃ y, b[k]? = some y := ⟨b[k], by simp [h2]⟩
        rcases ha with ha | ⟨ba, oa, rfl, hBa, hca⟩
        · subst ha; simp at h1
        rcases hb with hb | ⟨bb, ob, rfl, hBb, hcb⟩
        · subst hb; simp at h2
        obtain ⟨a1, a2, a3⟩ := hca k x hx
        obtain ⟨b1, b2, b3⟩ := hcb k y hy
        have HX := Lib.hid hx
        have HY := Lib.hid hy
        clear hca hcb hx hy
        go_wp2
        refine wp_region_plan_below 10 [(0, [0, 1, 2, 3, 5, 6, 7, 8]), (1, [4, 9]), (2, [10])] (by kernel_rfl) (by kernel_rfl) (fun _ _ _ _ h => h) ?_
        simp only [wpSegs, pickOps, List.getElem?_toArray, List.getElem?_cons_zero, List.getElem?_cons_succ]
        have kc := cell_cls wr
        have hw1 : ba < wr.heap.size := Nat.lt_of_lt_of_le hBa hbel.size
        have hw2 : bb < wr.heap.size := Nat.lt_of_lt_of_le hBb hbel.size
        have kr := cell_rule hbel
        repeat (go_big_quiet_step (fail))
        refine wpQuiet_nil ?_
        refine wpListC_plain rfl (fun K hK => ?_)
        go_step
        refine (bare_g x _).mono ?_
        rintro e w1 ⟨rfl, hg1⟩
        have hb1 := hg1.below
        have HG1 := Lib.hid hg1
        clear hg1
        have hb1' := (Below.drew (Below.refl wr.heap.size wr)).trans hb1
        refine hK _ _ (cls_of_below hb1') ?_
        clear hK K
        refine wpListC_plain rfl (fun K hK => ?_)
        go_step
        refine (bare_g y _).mono ?_
        rintro e w2 ⟨rfl, hg2⟩
        have hb2 := hg2.below
        have HG2 := Lib.hid hg2
        clear hg2
        have hb2' := hb1'.trans (hb2.mono hb1'.size)
        refine hK _ _ (cls_of_below hb2') ?_
        clear hK K
        refine wpListC_nil ?_
        clear hb1 hb2 hb1'
        have hbel2 := hbel.trans (hb2'.mono hbel.size)
        have HGG : Hid (Grew w w2) := Lib.hid (((HG.out.trans (Grew.drew _)).trans HG1.out).trans HG2.out)
        clear hb2' kc kr
        by_cases hxy : stepOrd x y = 0
        · obtain ⟨e1, e2, e3⟩ := stepOrd_zero.1 hxy
          have HXY := Lib.hid hxy
          clear hxy
          go_wp2
          go_roundw
          case rel => exact ⟨k + 1, by omega, by omega, by go_num, cmpP_step HX.out HY.out HXY.out hcmp.out, HGG.out⟩
          case measure => simp [intOf]; omega
        · have hne : ¬ ((bareS x).nm.toList = (bareS y).nm.toList ∧ (bareS x).ix = (bareS y).ix ∧ (bareS x).it = (bareS y).it) := fun h => hxy (stepOrd_zero.2 h)
          have HXY := Lib.hid hxy
          have HNE := Lib.hid hne
          clear hxy hne
          go_wp2
          case roundEnd => exact absurd ⟨‹_›, ‹_›, ‹_›⟩ HNE.out
          all_goals
            refine wp_region_plan_below 8 [(0, [0, 1, 2, 3, 4, 5, 6, 7]), (2, [8, 9])] (by kernel_rfl) (by kernel_rfl) (fun _ _ _ _ h => h) ?_
            simp only [wpSegs, pickOps, List.getElem?_toArray, List.getElem?_cons_zero, List.getElem?_cons_succ]
            have kc := cell_cls w2
            have hw1' : ba < w2.heap.size := Nat.lt_of_lt_of_le hBa hbel2.size
            have hw2' : bb < w2.heap.size := Nat.lt_of_lt_of_le hBb hbel2.size
            have kr := cell_rule hbel2
            repeat (go_big_quiet_step (fail))
            refine wpQuiet_nil ?_
            go_wp2_with (go_at_call 57; refine (stepOrder_g x y _).mono ?_; rintro e w3 ⟨rfl, hg3⟩; have HG3 := Lib.hid hg3; clear hg3)
            go_ret
            exact ⟨ret_eq (by rw [← cmpP_stop HX.out HY.out HXY.out hcmp.out]; rfl), (HGG.out.trans (Grew.drew _)).trans HG3.out⟩
      · have HK := Lib.hid hkb
        go_wp2_with (go_at_call 58; refine (compare_int _ _ _).mono ?_; rintro e w1 ⟨rfl, rfl⟩)
        go_ret
        exact ⟨ret_eq (by rw [← cmpP_end (.inr (by omega)) hka hkb hcmp.out]; rfl), HG.out⟩
    · go_wp2_with (go_at_call 58; refine (compare_int _ _ _).mono ?_; rintro e w1 ⟨rfl, rfl⟩)
      go_ret
      exact ⟨ret_eq (by rw [← cmpP_end (.inl (by omega)) hka hkb hcmp.out]; rfl), HG.out⟩
end Go.Proofs.Ytnmnmkdmnohbmaa
