/- Helper text: the small values of the laws: num, text, two. Conditions: none. -/
import Derived.Test.YtnmnmkdmnohbmaaDoorGet
import Derived.Test.YtnmnmkdmnohbmaaDoorPackG
namespace Go.Proofs.YtnmnmkdmnohbmaaDoor
open Go.RowKit
attribute [local go_sem] run_store_float

def numV (n : Int) : V := .mk 2 false n 0 ⟨#[]⟩ ⟨#[]⟩ [] []
def textV (s : ByteArray) : V := .mk 4 false 0 0 s ⟨#[]⟩ [] []
def innerV : V := .mk 6 false 0 0 ⟨#[]⟩ ⟨#[]⟩ [] [(⟨#[98]⟩, V0)]
def listV : V := .mk 5 false 0 0 ⟨#[]⟩ ⟨#[]⟩ [numV 1, innerV] []
def twoV : V := .mk 6 false 0 0 ⟨#[]⟩ ⟨#[]⟩ [] [(⟨#[97]⟩, listV), (⟨#[99]⟩, textV ⟨#[120]⟩)]

theorem num_any (n : Int) (w : World) : Calls Tryd.prog 11 #[.int .i64 n] w (RetB (.agg (vcells 2 false n 0 ⟨#[]⟩ ⟨#[]⟩ none 0 0 none 0 0)) w) := by
  go_enter Tryd.func11, Tryd.ntmps11
  go_wp2
  exact close_cell (v := .agg (vcells 2 false n 0 ⟨#[]⟩ ⟨#[]⟩ none 0 0 none 0 0)) (by simp [results, Tryd.results11, go_sem]) rfl rfl ((Below.refl _ _).alloc (Nat.le_refl _) _)

theorem text_any (s : ByteArray) (w : World) : Calls Tryd.prog 106 #[.string s] w (RetB (.agg (vcells 4 false 0 0 s ⟨#[]⟩ none 0 0 none 0 0)) w) := by
  go_enter Tryd.func106, Tryd.ntmps106
  go_wp2
  exact close_cell (v := .agg (vcells 4 false 0 0 s ⟨#[]⟩ none 0 0 none 0 0)) (by simp [results, Tryd.results106, go_sem]) rfl rfl ((Below.refl _ _).alloc (Nat.le_refl _) _)

theorem isV_num (B : Nat) (w : World) (n : Int) : IsV B w (numV n) (vcells 2 false n 0 ⟨#[]⟩ ⟨#[]⟩ none 0 0 none 0 0) := ⟨none, 0, none, 0, rfl, .inl rfl, .inl rfl, by simp [lenMax], by simp [lenMax]⟩
theorem isV_text (B : Nat) (w : World) (s : ByteArray) : IsV B w (textV s) (vcells 4 false 0 0 s ⟨#[]⟩ none 0 0 none 0 0) := ⟨none, 0, none, 0, rfl, .inl rfl, .inl rfl, by simp [lenMax], by simp [lenMax]⟩
theorem isV_0 (B : Nat) (w : World) : IsV B w V0 cells0 := ⟨none, 0, none, 0, rfl, .inl rfl, .inl rfl, by simp [lenMax], by simp [lenMax]⟩

theorem cells_sub {w : World} {g o : Nat} {C cs : Array Value} {e : TypeId} {fz : Nat × Nat} (h : w.heap[g]? = some (.cells C e fz)) (hs : cs.size = 8)
    (h0 : C[o + 0]? = cs[0]?) (h1 : C[o + 1]? = cs[1]?) (h2 : C[o + 2]? = cs[2]?) (h3 : C[o + 3]? = cs[3]?) (h4 : C[o + 4]? = cs[4]?) (h5 : C[o + 5]? = cs[5]?) (h6 : C[o + 6]? = cs[6]?) (h7 : C[o + 7]? = cs[7]?) : CellsAt w g o cs := by
  intro m x hx
  simp only [World.cell?, h]
  rw [← hx]
  have hm := (Array.getElem?_eq_some_iff.1 hx).1
  rw [hs] at hm
  match m, hm with
  | 0, _ => exact h0
  | 1, _ => exact h1
  | 2, _ => exact h2
  | 3, _ => exact h3
  | 4, _ => exact h4
  | 5, _ => exact h5
  | 6, _ => exact h6
  | 7, _ => exact h7

theorem isV_two {w : World} {b1 L L2 : Nat} (h1 : w.heap[b1]? = some (.cells #[.string ⟨#[98]⟩, .int .i64 0, .bool false, .int .i64 0, .float .f64 0, .string ⟨#[]⟩, .string ⟨#[]⟩, .slice none 0 0, .slice none 0 0] 79 (0, 0))) (hL : w.heap[L]? = some (.cells #[.int .i64 2, .bool false, .int .i64 1, .float .f64 0, .string ⟨#[]⟩, .string ⟨#[]⟩, .slice none 0 0, .slice none 0 0, .int .i64 6, .bool false, .int .i64 0, .float .f64 0, .string ⟨#[]⟩, .string ⟨#[]⟩, .slice none 0 0, .slice (some ⟨b1, 0, none⟩) 1 1] 27 (0, 0))) (hL2 : w.heap[L2]? = some (.cells #[.string ⟨#[97]⟩, .int .i64 5, .bool false, .int .i64 0, .float .f64 0, .string ⟨#[]⟩, .string ⟨#[]⟩, .slice (some ⟨L, 0, none⟩) 2 2, .slice none 0 0, .string ⟨#[99]⟩, .int .i64 4, .bool false, .int .i64 0, .float .f64 0, .string ⟨#[120]⟩, .string ⟨#[]⟩, .slice none 0 0, .slice none 0 0] 79 (0, 0))) :
    IsV w.heap.size w twoV (vcells 6 false 0 0 ⟨#[]⟩ ⟨#[]⟩ none 0 0 (some ⟨L2, 0, none⟩) 2 2) := by
  have l1 := (Array.getElem?_eq_some_iff.1 h1).1
  have l2 := (Array.getElem?_eq_some_iff.1 hL).1
  have l3 := (Array.getElem?_eq_some_iff.1 hL2).1
  have hinner : IsV w.heap.size w innerV (vcells 6 false 0 0 ⟨#[]⟩ ⟨#[]⟩ none 0 0 (some ⟨b1, 0, none⟩) 1 1) :=
    ⟨none, 0, some ⟨b1, 0, none⟩, 1, rfl, .inl rfl, .inr ⟨b1, 0, rfl, l1, ⟨by simp [World.cell?, h1], cells0, cells_sub h1 rfl rfl rfl rfl rfl rfl rfl rfl rfl, isV_0 _ _⟩, trivial⟩, by simp [lenMax], by simp [lenMax]⟩
  have hlist : IsV w.heap.size w listV (vcells 5 false 0 0 ⟨#[]⟩ ⟨#[]⟩ (some ⟨L, 0, none⟩) 2 2 none 0 0) :=
    ⟨some ⟨L, 0, none⟩, 2, none, 0, rfl, .inr ⟨L, 0, rfl, l2, ⟨vcells 2 false 1 0 ⟨#[]⟩ ⟨#[]⟩ none 0 0 none 0 0, cells_sub hL rfl rfl rfl rfl rfl rfl rfl rfl rfl, isV_num _ _ _⟩, ⟨_, cells_sub hL rfl rfl rfl rfl rfl rfl rfl rfl rfl, hinner⟩, trivial⟩, .inl rfl, by simp [lenMax], by simp [lenMax]⟩
  exact ⟨none, 0, some ⟨L2, 0, none⟩, 2, rfl, .inl rfl, .inr ⟨L2, 0, rfl, l3, ⟨by simp [World.cell?, hL2], _, cells_sub hL2 rfl rfl rfl rfl rfl rfl rfl rfl rfl, hlist⟩, ⟨by simp [World.cell?, hL2], vcells 4 false 0 0 ⟨#[120]⟩ ⟨#[]⟩ none 0 0 none 0 0, cells_sub hL2 rfl rfl rfl rfl rfl rfl rfl rfl rfl, isV_text _ _ _⟩, trivial⟩, by simp [lenMax], by simp [lenMax]⟩

set_option maxRecDepth 100000 in
set_option maxHeartbeats 1000000 in
theorem two_any (w : World) : Calls Tryd.prog 72 #[] w (fun e w' => ∃ cs, e = .returned (.agg cs) ∧ IsV w'.heap.size w' twoV cs ∧ Below w.heap.size w w') := by
  go_enter Tryd.func72, Tryd.ntmps72
  go_upto_region 2 with (fail)
  obtain ⟨wa, hW⟩ : ∃ wa, ((w.alloc (.cells cells0 27)).alloc (.cells #[.string ⟨#[98]⟩, .int .i64 0, .bool false, .int .i64 0, .float .f64 0, .string ⟨#[]⟩, .string ⟨#[]⟩, .slice none 0 0, .slice none 0 0] 79)).alloc (.cells (vcells 6 false 0 0 ⟨#[]⟩ ⟨#[]⟩ none 0 0 (some ⟨w.heap.size + 1, 0, none⟩) 1 1) 27) = wa := ⟨_, rfl⟩
  have hwa : Below w.heap.size w wa := by rw [← hW]; exact (((Below.refl _ _).alloc (Nat.le_refl _) _).alloc (by simp) _).alloc (by simp; omega) _
  have hsz : wa.heap.size = w.heap.size + 1 + 1 + 1 := by rw [← hW]; simp
  have h0 : wa.heap[w.heap.size]? = some (.cells cells0 27 (0, 0)) := by
    rw [← hW]; exact heap_old (heap_old (heap_new _ _) _) _
  have h1 : wa.heap[w.heap.size + 1]? = some (.cells #[.string ⟨#[98]⟩, .int .i64 0, .bool false, .int .i64 0, .float .f64 0, .string ⟨#[]⟩, .string ⟨#[]⟩, .slice none 0 0, .slice none 0 0] 79 (0, 0)) := by
    rw [← hW]; exact heap_old (by have := heap_new (w.alloc (.cells cells0 27)) (.cells #[.string ⟨#[98]⟩, .int .i64 0, .bool false, .int .i64 0, .float .f64 0, .string ⟨#[]⟩, .string ⟨#[]⟩, .slice none 0 0, .slice none 0 0] 79); rwa [World.size_alloc] at this) _
  have h2 : wa.heap[w.heap.size + 1 + 1]? = some (.cells (vcells 6 false 0 0 ⟨#[]⟩ ⟨#[]⟩ none 0 0 (some ⟨w.heap.size + 1, 0, none⟩) 1 1) 27 (0, 0)) := by
    rw [← hW]; have := heap_new ((w.alloc (.cells cells0 27)).alloc (.cells #[.string ⟨#[98]⟩, .int .i64 0, .bool false, .int .i64 0, .float .f64 0, .string ⟨#[]⟩, .string ⟨#[]⟩, .slice none 0 0, .slice none 0 0] 79)) (.cells (vcells 6 false 0 0 ⟨#[]⟩ ⟨#[]⟩ none 0 0 (some ⟨w.heap.size + 1, 0, none⟩) 1 1) 27); rwa [World.size_alloc, World.size_alloc] at this
  have e : ((w.alloc (.cells cells0 27)).alloc (.cells #[.string ⟨#[98]⟩, .int .i64 0, .bool false, .int .i64 0, .float .f64 0, .string ⟨#[]⟩, .string ⟨#[]⟩, .slice none 0 0, .slice none 0 0] 79)).alloc (.cells (vcells 6 false 0 0 ⟨#[]⟩ ⟨#[]⟩ none 0 0 (some ⟨w.heap.size + 1, 0, none⟩) 1 1) 27) = wa := hW
  clear hW
  rw [e]
  clear e
  have H1 := Lib.hid h1
  have H0 := Lib.hid h0
  obtain ⟨e0, e1, e2, e3, e4, e5, e6, e7⟩ := (show CellsAt wa (w.heap.size + 1 + 1) 0 (vcells 6 false 0 0 ⟨#[]⟩ ⟨#[]⟩ none 0 0 (some ⟨w.heap.size + 1, 0, none⟩) 1 1) by intro m x hx; rw [Nat.zero_add]; simp only [World.cell?, h2]; exact hx).all0
  have hs2 : w.heap.size + 1 + 1 < wa.heap.size := by omega
  have HSZ := Lib.hid hsz
  clear h0 h1 h2 hsz
  have kc := cell_cls wa
  refine wp_region_tree_below 5 (.heads [1] (.fork 0 (.fork 2 (.heads [3] (.chain [4] (.tail [5]))) 4 (.chain [2] (.heads [3] (.tail [5])))) 4 (.chain [0, 2] (.heads [3] (.tail [5]))))) (by kernel_rfl) (by kernel_rfl) (fun _ _ _ _ h => h) ?_
  simp only [wpPlan, pickOps, List.getElem?_toArray, List.getElem?_cons_zero, List.getElem?_cons_succ]
  repeat (go_big_quiet_step (fail))
  refine wpQuiet_nil ?_
  clear kc e0 e1 e2 e3 e4 e5 e6 e7
  have hd : Below wa.heap.size wa wa.drew := Below.drew (Below.refl _ _)
  constructor
  · refine wpListC_plain rfl (fun K hK => ?_)
    go_step
    refine (num_any 1 _).mono ?_
    rintro e x1 ⟨rfl, hc⟩
    have hb1 := hd.trans (hc.mono hd.size)
    refine hK _ _ (cls_of_below hb1) ?_
    clear hK K
    refine wpListC_nil ?_
    constructor
    · refine wpListC_plain rfl (fun K hK => ?_)
      go_step
      have hb2 : Below wa.heap.size wa (x1.alloc (.cells #[.int .i64 2, .bool false, .int .i64 1, .float .f64 0, .string ⟨#[]⟩, .string ⟨#[]⟩, .slice none 0 0, .slice none 0 0, .int .i64 6, .bool false, .int .i64 0, .float .f64 0, .string ⟨#[]⟩, .string ⟨#[]⟩, .slice none 0 0, .slice (some ⟨w.heap.size + 1, 0, none⟩) 1 1] 27)) := hb1.alloc hb1.size _
      have hL : (x1.alloc (.cells #[.int .i64 2, .bool false, .int .i64 1, .float .f64 0, .string ⟨#[]⟩, .string ⟨#[]⟩, .slice none 0 0, .slice none 0 0, .int .i64 6, .bool false, .int .i64 0, .float .f64 0, .string ⟨#[]⟩, .string ⟨#[]⟩, .slice none 0 0, .slice (some ⟨w.heap.size + 1, 0, none⟩) 1 1] 27)).heap[x1.heap.size]? = some (.cells #[.int .i64 2, .bool false, .int .i64 1, .float .f64 0, .string ⟨#[]⟩, .string ⟨#[]⟩, .slice none 0 0, .slice none 0 0, .int .i64 6, .bool false, .int .i64 0, .float .f64 0, .string ⟨#[]⟩, .string ⟨#[]⟩, .slice none 0 0, .slice (some ⟨w.heap.size + 1, 0, none⟩) 1 1] 27 (0, 0)) := heap_new x1 (.cells #[.int .i64 2, .bool false, .int .i64 1, .float .f64 0, .string ⟨#[]⟩, .string ⟨#[]⟩, .slice none 0 0, .slice none 0 0, .int .i64 6, .bool false, .int .i64 0, .float .f64 0, .string ⟨#[]⟩, .string ⟨#[]⟩, .slice none 0 0, .slice (some ⟨w.heap.size + 1, 0, none⟩) 1 1] 27)
      obtain ⟨x2, hW⟩ : ∃ y, x1.alloc (.cells #[.int .i64 2, .bool false, .int .i64 1, .float .f64 0, .string ⟨#[]⟩, .string ⟨#[]⟩, .slice none 0 0, .slice none 0 0, .int .i64 6, .bool false, .int .i64 0, .float .f64 0, .string ⟨#[]⟩, .string ⟨#[]⟩, .slice none 0 0, .slice (some ⟨w.heap.size + 1, 0, none⟩) 1 1] 27) = y := ⟨_, rfl⟩
      rw [hW] at hb2 hL
      have e : x1.alloc (.cells #[.int .i64 2, .bool false, .int .i64 1, .float .f64 0, .string ⟨#[]⟩, .string ⟨#[]⟩, .slice none 0 0, .slice none 0 0, .int .i64 6, .bool false, .int .i64 0, .float .f64 0, .string ⟨#[]⟩, .string ⟨#[]⟩, .slice none 0 0, .slice (some ⟨w.heap.size + 1, 0, none⟩) 1 1] 27) = x2 := hW
      clear hW
      rw [e]
      clear e
      have hLge : wa.heap.size ≤ x1.heap.size := hb1.size
      refine hK _ _ (cls_of_below hb2) ?_
      clear hK K
      generalize hLq : x1.heap.size = L at *
      refine wpListC_nil ?_
      repeat (go_big_quiet_step (fail))
      refine wpQuiet_nil ?_
      refine wpListC_plain rfl (fun K hK => ?_)
      go_step
      have hb3 : Below wa.heap.size wa (x2.alloc (.cells cells0 27)) := hb2.alloc hb2.size _
      have hA : (x2.alloc (.cells cells0 27)).heap[x2.heap.size]? = some (.cells cells0 27 (0, 0)) := heap_new x2 (.cells cells0 27)
      have hL' : (x2.alloc (.cells cells0 27)).heap[L]? = some (.cells #[.int .i64 2, .bool false, .int .i64 1, .float .f64 0, .string ⟨#[]⟩, .string ⟨#[]⟩, .slice none 0 0, .slice none 0 0, .int .i64 6, .bool false, .int .i64 0, .float .f64 0, .string ⟨#[]⟩, .string ⟨#[]⟩, .slice none 0 0, .slice (some ⟨w.heap.size + 1, 0, none⟩) 1 1] 27 (0, 0)) := heap_old hL _
      have hne : L < x2.heap.size := (Array.getElem?_eq_some_iff.1 hL).1
      clear hL
      have hL := hL'
      clear hL'
      obtain ⟨x3, hW⟩ : ∃ y, x2.alloc (.cells cells0 27) = y := ⟨_, rfl⟩
      rw [hW] at hb3 hA hL
      have e : x2.alloc (.cells cells0 27) = x3 := hW
      clear hW
      rw [e]
      clear e
      have hAge : wa.heap.size ≤ x2.heap.size := hb2.size
      refine hK _ _ (cls_of_below hb3) ?_
      clear hK K
      generalize hAq : x2.heap.size = A at *
      have hLA : L ≠ A := by omega
      refine wpListC_nil ?_
      refine wpList_plain rfl (fun K hK => ?_)
      refine wp_store_row (P := Tryd.prog) 27 (.tmp 2) (.tmp 9) rfl A (vcells 5 false 0 0 ⟨#[]⟩ ⟨#[]⟩ (some ⟨L, 0, none⟩) 2 2 none 0 0) rfl rfl 27 _ hA (by kernel_rfl) rfl (vcells_one ..) ?_
      refine hK _ _ ?_
      clear hK K
      have hAW : (x3.setRow A (vcells 5 false 0 0 ⟨#[]⟩ ⟨#[]⟩ (some ⟨L, 0, none⟩) 2 2 none 0 0)).heap[A]? = some (.cells (vcells 5 false 0 0 ⟨#[]⟩ ⟨#[]⟩ (some ⟨L, 0, none⟩) 2 2 none 0 0) 27 (0, 0)) := setRow_heap _ _ _ _ _ _ hA
      have hLW : (x3.setRow A (vcells 5 false 0 0 ⟨#[]⟩ ⟨#[]⟩ (some ⟨L, 0, none⟩) 2 2 none 0 0)).heap[L]? = some (.cells #[.int .i64 2, .bool false, .int .i64 1, .float .f64 0, .string ⟨#[]⟩, .string ⟨#[]⟩, .slice none 0 0, .slice none 0 0, .int .i64 6, .bool false, .int .i64 0, .float .f64 0, .string ⟨#[]⟩, .string ⟨#[]⟩, .slice none 0 0, .slice (some ⟨w.heap.size + 1, 0, none⟩) 1 1] 27 (0, 0)) := (setRow_other _ _ _ _ hLA).trans hL
      have hbW : Below wa.heap.size wa (x3.setRow A (vcells 5 false 0 0 ⟨#[]⟩ ⟨#[]⟩ (some ⟨L, 0, none⟩) 2 2 none 0 0)) := below_setRow hb3 hAge _
      have HAW := Lib.hid hAW
      have HLW := Lib.hid hLW
      clear hAW hLW hL hA
      generalize x3.setRow A (vcells 5 false 0 0 ⟨#[]⟩ ⟨#[]⟩ (some ⟨L, 0, none⟩) 2 2 none 0 0) = W at *
      clear hAq hLq
      simp only [Act.put]
      go_wp2
      obtain ⟨a0, a1, a2, a3, a4, a5, a6, a7⟩ := (show CellsAt W A 0 (vcells 5 false 0 0 ⟨#[]⟩ ⟨#[]⟩ (some ⟨L, 0, none⟩) 2 2 none 0 0) by intro m x hx; rw [Nat.zero_add]; simp only [World.cell?, HAW.out]; exact hx).all0
      have hsA : A < W.heap.size := (Array.getElem?_eq_some_iff.1 HAW.out).1
      have kc := cell_cls W
      refine wp_region_tree_below 6 (.heads [0, 1] (.chain [2] (.heads [3] (.chain [4] (.heads [5] (.tail [6])))))) (by kernel_rfl) (by kernel_rfl) (fun _ _ _ _ h => h) ?_
      simp only [wpPlan, pickOps, List.getElem?_toArray, List.getElem?_cons_zero, List.getElem?_cons_succ]
      repeat (go_big_quiet_step (fail))
      refine wpQuiet_nil ?_
      clear kc a0 a1 a2 a3 a4 a5 a6 a7
      refine wpListC_plain rfl (fun K hK => ?_)
      go_step
      refine (text_any _ _).mono ?_
      rintro e z1 ⟨rfl, hc⟩
      have hz1 : Below W.heap.size W z1 := (Below.drew (Below.refl _ _)).trans hc
      refine hK _ _ (cls_of_below hz1) ?_
      clear hK K
      refine wpListC_nil ?_
      repeat (go_big_quiet_step (fail))
      refine wpQuiet_nil ?_
      refine wpListC_plain rfl (fun K hK => ?_)
      go_step
      have hz2 : Below W.heap.size W (z1.alloc (.cells #[.string ⟨#[97]⟩, .int .i64 5, .bool false, .int .i64 0, .float .f64 0, .string ⟨#[]⟩, .string ⟨#[]⟩, .slice (some ⟨L, 0, none⟩) 2 2, .slice none 0 0, .string ⟨#[99]⟩, .int .i64 4, .bool false, .int .i64 0, .float .f64 0, .string ⟨#[120]⟩, .string ⟨#[]⟩, .slice none 0 0, .slice none 0 0] 79)) := hz1.alloc hz1.size _
      have hL2 : (z1.alloc (.cells #[.string ⟨#[97]⟩, .int .i64 5, .bool false, .int .i64 0, .float .f64 0, .string ⟨#[]⟩, .string ⟨#[]⟩, .slice (some ⟨L, 0, none⟩) 2 2, .slice none 0 0, .string ⟨#[99]⟩, .int .i64 4, .bool false, .int .i64 0, .float .f64 0, .string ⟨#[120]⟩, .string ⟨#[]⟩, .slice none 0 0, .slice none 0 0] 79)).heap[z1.heap.size]? = some (.cells #[.string ⟨#[97]⟩, .int .i64 5, .bool false, .int .i64 0, .float .f64 0, .string ⟨#[]⟩, .string ⟨#[]⟩, .slice (some ⟨L, 0, none⟩) 2 2, .slice none 0 0, .string ⟨#[99]⟩, .int .i64 4, .bool false, .int .i64 0, .float .f64 0, .string ⟨#[120]⟩, .string ⟨#[]⟩, .slice none 0 0, .slice none 0 0] 79 (0, 0)) := heap_new _ _
      obtain ⟨z2, hW⟩ : ∃ y, z1.alloc (.cells #[.string ⟨#[97]⟩, .int .i64 5, .bool false, .int .i64 0, .float .f64 0, .string ⟨#[]⟩, .string ⟨#[]⟩, .slice (some ⟨L, 0, none⟩) 2 2, .slice none 0 0, .string ⟨#[99]⟩, .int .i64 4, .bool false, .int .i64 0, .float .f64 0, .string ⟨#[120]⟩, .string ⟨#[]⟩, .slice none 0 0, .slice none 0 0] 79) = y := ⟨_, rfl⟩
      rw [hW] at hz2 hL2
      have e : z1.alloc (.cells #[.string ⟨#[97]⟩, .int .i64 5, .bool false, .int .i64 0, .float .f64 0, .string ⟨#[]⟩, .string ⟨#[]⟩, .slice (some ⟨L, 0, none⟩) 2 2, .slice none 0 0, .string ⟨#[99]⟩, .int .i64 4, .bool false, .int .i64 0, .float .f64 0, .string ⟨#[120]⟩, .string ⟨#[]⟩, .slice none 0 0, .slice none 0 0] 79) = z2 := hW
      clear hW
      rw [e]
      clear e
      refine hK _ _ (cls_of_below hz2) ?_
      clear hK K
      refine wpListC_nil ?_
      have hL2ge : W.heap.size ≤ z1.heap.size := hz1.size
      generalize z1.heap.size = L2 at *
      repeat (go_big_quiet_step (fail))
      refine wpQuiet_nil ?_
      have hbz := hbW.trans (hz2.mono hbW.size)
      have h0z : z2.heap[w.heap.size]? = some (.cells cells0 27 (0, 0)) := by rw [hbz.block _ (by have := HSZ.out; omega)]; exact H0.out
      have h1z : z2.heap[w.heap.size + 1]? = some (.cells #[.string ⟨#[98]⟩, .int .i64 0, .bool false, .int .i64 0, .float .f64 0, .string ⟨#[]⟩, .string ⟨#[]⟩, .slice none 0 0, .slice none 0 0] 79 (0, 0)) := by rw [hbz.block _ (by have := HSZ.out; omega)]; exact H1.out
      have hLz : z2.heap[L]? = some (.cells #[.int .i64 2, .bool false, .int .i64 1, .float .f64 0, .string ⟨#[]⟩, .string ⟨#[]⟩, .slice none 0 0, .slice none 0 0, .int .i64 6, .bool false, .int .i64 0, .float .f64 0, .string ⟨#[]⟩, .string ⟨#[]⟩, .slice none 0 0, .slice (some ⟨w.heap.size + 1, 0, none⟩) 1 1] 27 (0, 0)) := by rw [hz2.block _ (Array.getElem?_eq_some_iff.1 HLW.out).1]; exact HLW.out
      refine wpList_plain rfl (fun K hK => ?_)
      refine wp_store_row (P := Tryd.prog) 27 (.tmp 0) (.tmp 15) rfl w.heap.size (vcells 6 false 0 0 ⟨#[]⟩ ⟨#[]⟩ none 0 0 (some ⟨L2, 0, none⟩) 2 2) rfl rfl 27 _ h0z (by kernel_rfl) rfl (vcells_one ..) ?_
      refine hK _ _ ?_
      clear hK K
      have hnew : (z2.setRow w.heap.size (vcells 6 false 0 0 ⟨#[]⟩ ⟨#[]⟩ none 0 0 (some ⟨L2, 0, none⟩) 2 2)).heap[w.heap.size]? = some (.cells (vcells 6 false 0 0 ⟨#[]⟩ ⟨#[]⟩ none 0 0 (some ⟨L2, 0, none⟩) 2 2) 27 (0, 0)) := setRow_heap _ _ _ _ _ _ h0z
      have h1f : (z2.setRow w.heap.size (vcells 6 false 0 0 ⟨#[]⟩ ⟨#[]⟩ none 0 0 (some ⟨L2, 0, none⟩) 2 2)).heap[w.heap.size + 1]? = some (.cells #[.string ⟨#[98]⟩, .int .i64 0, .bool false, .int .i64 0, .float .f64 0, .string ⟨#[]⟩, .string ⟨#[]⟩, .slice none 0 0, .slice none 0 0] 79 (0, 0)) := (setRow_other _ _ _ _ (by omega)).trans h1z
      have hLf : (z2.setRow w.heap.size (vcells 6 false 0 0 ⟨#[]⟩ ⟨#[]⟩ none 0 0 (some ⟨L2, 0, none⟩) 2 2)).heap[L]? = some (.cells #[.int .i64 2, .bool false, .int .i64 1, .float .f64 0, .string ⟨#[]⟩, .string ⟨#[]⟩, .slice none 0 0, .slice none 0 0, .int .i64 6, .bool false, .int .i64 0, .float .f64 0, .string ⟨#[]⟩, .string ⟨#[]⟩, .slice none 0 0, .slice (some ⟨w.heap.size + 1, 0, none⟩) 1 1] 27 (0, 0)) := (setRow_other _ _ _ _ (by have := HSZ.out; omega)).trans hLz
      have hL2f : (z2.setRow w.heap.size (vcells 6 false 0 0 ⟨#[]⟩ ⟨#[]⟩ none 0 0 (some ⟨L2, 0, none⟩) 2 2)).heap[L2]? = some (.cells #[.string ⟨#[97]⟩, .int .i64 5, .bool false, .int .i64 0, .float .f64 0, .string ⟨#[]⟩, .string ⟨#[]⟩, .slice (some ⟨L, 0, none⟩) 2 2, .slice none 0 0, .string ⟨#[99]⟩, .int .i64 4, .bool false, .int .i64 0, .float .f64 0, .string ⟨#[120]⟩, .string ⟨#[]⟩, .slice none 0 0, .slice none 0 0] 79 (0, 0)) := (setRow_other _ _ _ _ (by have := HSZ.out; have := hbW.size; omega)).trans hL2
      have hwf : Below w.heap.size w (z2.setRow w.heap.size (vcells 6 false 0 0 ⟨#[]⟩ ⟨#[]⟩ none 0 0 (some ⟨L2, 0, none⟩) 2 2)) := below_setRow (hwa.trans (hbz.mono hwa.size)) (Nat.le_refl _) _
      generalize z2.setRow w.heap.size (vcells 6 false 0 0 ⟨#[]⟩ ⟨#[]⟩ none 0 0 (some ⟨L2, 0, none⟩) 2 2) = wz at *
      have hfin := isV_two h1f hLf hL2f
      obtain ⟨r0, r1, r2, r3, r4, r5, r6, r7⟩ := (show CellsAt wz w.heap.size 0 (vcells 6 false 0 0 ⟨#[]⟩ ⟨#[]⟩ none 0 0 (some ⟨L2, 0, none⟩) 2 2) by intro m x hx; rw [Nat.zero_add]; simp only [World.cell?, hnew]; exact hx).all0
      have HF := Lib.hid hfin
      have HWF := Lib.hid hwf
      clear hfin hwf hnew h1f hLf hL2f h0z h1z hLz hL2
      go_wp2
      exact bodyPost_ret (v := .agg (vcells 6 false 0 0 ⟨#[]⟩ ⟨#[]⟩ none 0 0 (some ⟨L2, 0, none⟩) 2 2)) (by simp [results, Tryd.results72, go_sem, r0, r1, r2, r3, r4, r5, r6, r7]) rfl ⟨_, rfl, HF.out, HWF.out⟩
    · refine wpListC_plain rfl (fun K hK => ?_)
      go_step
      have hb2 : Below wa.heap.size wa (x1.alloc (.cells cells0 27)) := hb1.alloc hb1.size _
      have hA : (x1.alloc (.cells cells0 27)).heap[x1.heap.size]? = some (.cells cells0 27 (0, 0)) := heap_new x1 (.cells cells0 27)
      obtain ⟨x2, hW⟩ : ∃ y, x1.alloc (.cells cells0 27) = y := ⟨_, rfl⟩
      rw [hW] at hb2 hA
      have e : x1.alloc (.cells cells0 27) = x2 := hW
      clear hW
      rw [e]
      clear e
      have hAge : wa.heap.size ≤ x1.heap.size := hb1.size
      refine hK _ _ (cls_of_below hb2) ?_
      clear hK K
      generalize hAq : x1.heap.size = A at *
      refine wpListC_nil ?_
      refine wpListC_plain rfl (fun K hK => ?_)
      go_step
      have hb3 : Below wa.heap.size wa (x2.alloc (.cells #[.int .i64 2, .bool false, .int .i64 1, .float .f64 0, .string ⟨#[]⟩, .string ⟨#[]⟩, .slice none 0 0, .slice none 0 0, .int .i64 6, .bool false, .int .i64 0, .float .f64 0, .string ⟨#[]⟩, .string ⟨#[]⟩, .slice none 0 0, .slice (some ⟨w.heap.size + 1, 0, none⟩) 1 1] 27)) := hb2.alloc hb2.size _
      have hL : (x2.alloc (.cells #[.int .i64 2, .bool false, .int .i64 1, .float .f64 0, .string ⟨#[]⟩, .string ⟨#[]⟩, .slice none 0 0, .slice none 0 0, .int .i64 6, .bool false, .int .i64 0, .float .f64 0, .string ⟨#[]⟩, .string ⟨#[]⟩, .slice none 0 0, .slice (some ⟨w.heap.size + 1, 0, none⟩) 1 1] 27)).heap[x2.heap.size]? = some (.cells #[.int .i64 2, .bool false, .int .i64 1, .float .f64 0, .string ⟨#[]⟩, .string ⟨#[]⟩, .slice none 0 0, .slice none 0 0, .int .i64 6, .bool false, .int .i64 0, .float .f64 0, .string ⟨#[]⟩, .string ⟨#[]⟩, .slice none 0 0, .slice (some ⟨w.heap.size + 1, 0, none⟩) 1 1] 27 (0, 0)) := heap_new x2 (.cells #[.int .i64 2, .bool false, .int .i64 1, .float .f64 0, .string ⟨#[]⟩, .string ⟨#[]⟩, .slice none 0 0, .slice none 0 0, .int .i64 6, .bool false, .int .i64 0, .float .f64 0, .string ⟨#[]⟩, .string ⟨#[]⟩, .slice none 0 0, .slice (some ⟨w.heap.size + 1, 0, none⟩) 1 1] 27)
      have hA' : (x2.alloc (.cells #[.int .i64 2, .bool false, .int .i64 1, .float .f64 0, .string ⟨#[]⟩, .string ⟨#[]⟩, .slice none 0 0, .slice none 0 0, .int .i64 6, .bool false, .int .i64 0, .float .f64 0, .string ⟨#[]⟩, .string ⟨#[]⟩, .slice none 0 0, .slice (some ⟨w.heap.size + 1, 0, none⟩) 1 1] 27)).heap[A]? = some (.cells cells0 27 (0, 0)) := heap_old hA _
      have hne : A < x2.heap.size := (Array.getElem?_eq_some_iff.1 hA).1
      clear hA
      have hA := hA'
      clear hA'
      obtain ⟨x3, hW⟩ : ∃ y, x2.alloc (.cells #[.int .i64 2, .bool false, .int .i64 1, .float .f64 0, .string ⟨#[]⟩, .string ⟨#[]⟩, .slice none 0 0, .slice none 0 0, .int .i64 6, .bool false, .int .i64 0, .float .f64 0, .string ⟨#[]⟩, .string ⟨#[]⟩, .slice none 0 0, .slice (some ⟨w.heap.size + 1, 0, none⟩) 1 1] 27) = y := ⟨_, rfl⟩
      rw [hW] at hb3 hL hA
      have e : x2.alloc (.cells #[.int .i64 2, .bool false, .int .i64 1, .float .f64 0, .string ⟨#[]⟩, .string ⟨#[]⟩, .slice none 0 0, .slice none 0 0, .int .i64 6, .bool false, .int .i64 0, .float .f64 0, .string ⟨#[]⟩, .string ⟨#[]⟩, .slice none 0 0, .slice (some ⟨w.heap.size + 1, 0, none⟩) 1 1] 27) = x3 := hW
      clear hW
      rw [e]
      clear e
      have hLge : wa.heap.size ≤ x2.heap.size := hb2.size
      refine hK _ _ (cls_of_below hb3) ?_
      clear hK K
      generalize hLq : x2.heap.size = L at *
      have hLA : L ≠ A := by omega
      refine wpListC_nil ?_
      repeat (go_big_quiet_step (fail))
      refine wpQuiet_nil ?_
      refine wpList_plain rfl (fun K hK => ?_)
      refine wp_store_row (P := Tryd.prog) 27 (.tmp 2) (.tmp 9) rfl A (vcells 5 false 0 0 ⟨#[]⟩ ⟨#[]⟩ (some ⟨L, 0, none⟩) 2 2 none 0 0) rfl rfl 27 _ hA (by kernel_rfl) rfl (vcells_one ..) ?_
      refine hK _ _ ?_
      clear hK K
      have hAW : (x3.setRow A (vcells 5 false 0 0 ⟨#[]⟩ ⟨#[]⟩ (some ⟨L, 0, none⟩) 2 2 none 0 0)).heap[A]? = some (.cells (vcells 5 false 0 0 ⟨#[]⟩ ⟨#[]⟩ (some ⟨L, 0, none⟩) 2 2 none 0 0) 27 (0, 0)) := setRow_heap _ _ _ _ _ _ hA
      have hLW : (x3.setRow A (vcells 5 false 0 0 ⟨#[]⟩ ⟨#[]⟩ (some ⟨L, 0, none⟩) 2 2 none 0 0)).heap[L]? = some (.cells #[.int .i64 2, .bool false, .int .i64 1, .float .f64 0, .string ⟨#[]⟩, .string ⟨#[]⟩, .slice none 0 0, .slice none 0 0, .int .i64 6, .bool false, .int .i64 0, .float .f64 0, .string ⟨#[]⟩, .string ⟨#[]⟩, .slice none 0 0, .slice (some ⟨w.heap.size + 1, 0, none⟩) 1 1] 27 (0, 0)) := (setRow_other _ _ _ _ hLA).trans hL
      have hbW : Below wa.heap.size wa (x3.setRow A (vcells 5 false 0 0 ⟨#[]⟩ ⟨#[]⟩ (some ⟨L, 0, none⟩) 2 2 none 0 0)) := below_setRow hb3 hAge _
      have HAW := Lib.hid hAW
      have HLW := Lib.hid hLW
      clear hAW hLW hL hA
      generalize x3.setRow A (vcells 5 false 0 0 ⟨#[]⟩ ⟨#[]⟩ (some ⟨L, 0, none⟩) 2 2 none 0 0) = W at *
      clear hAq hLq
      simp only [Act.put]
      go_wp2
      obtain ⟨a0, a1, a2, a3, a4, a5, a6, a7⟩ := (show CellsAt W A 0 (vcells 5 false 0 0 ⟨#[]⟩ ⟨#[]⟩ (some ⟨L, 0, none⟩) 2 2 none 0 0) by intro m x hx; rw [Nat.zero_add]; simp only [World.cell?, HAW.out]; exact hx).all0
      have hsA : A < W.heap.size := (Array.getElem?_eq_some_iff.1 HAW.out).1
      have kc := cell_cls W
      refine wp_region_tree_below 6 (.heads [0, 1] (.chain [2] (.heads [3] (.chain [4] (.heads [5] (.tail [6])))))) (by kernel_rfl) (by kernel_rfl) (fun _ _ _ _ h => h) ?_
      simp only [wpPlan, pickOps, List.getElem?_toArray, List.getElem?_cons_zero, List.getElem?_cons_succ]
      repeat (go_big_quiet_step (fail))
      refine wpQuiet_nil ?_
      clear kc a0 a1 a2 a3 a4 a5 a6 a7
      refine wpListC_plain rfl (fun K hK => ?_)
      go_step
      refine (text_any _ _).mono ?_
      rintro e z1 ⟨rfl, hc⟩
      have hz1 : Below W.heap.size W z1 := (Below.drew (Below.refl _ _)).trans hc
      refine hK _ _ (cls_of_below hz1) ?_
      clear hK K
      refine wpListC_nil ?_
      repeat (go_big_quiet_step (fail))
      refine wpQuiet_nil ?_
      refine wpListC_plain rfl (fun K hK => ?_)
      go_step
      have hz2 : Below W.heap.size W (z1.alloc (.cells #[.string ⟨#[97]⟩, .int .i64 5, .bool false, .int .i64 0, .float .f64 0, .string ⟨#[]⟩, .string ⟨#[]⟩, .slice (some ⟨L, 0, none⟩) 2 2, .slice none 0 0, .string ⟨#[99]⟩, .int .i64 4, .bool false, .int .i64 0, .float .f64 0, .string ⟨#[120]⟩, .string ⟨#[]⟩, .slice none 0 0, .slice none 0 0] 79)) := hz1.alloc hz1.size _
      have hL2 : (z1.alloc (.cells #[.string ⟨#[97]⟩, .int .i64 5, .bool false, .int .i64 0, .float .f64 0, .string ⟨#[]⟩, .string ⟨#[]⟩, .slice (some ⟨L, 0, none⟩) 2 2, .slice none 0 0, .string ⟨#[99]⟩, .int .i64 4, .bool false, .int .i64 0, .float .f64 0, .string ⟨#[120]⟩, .string ⟨#[]⟩, .slice none 0 0, .slice none 0 0] 79)).heap[z1.heap.size]? = some (.cells #[.string ⟨#[97]⟩, .int .i64 5, .bool false, .int .i64 0, .float .f64 0, .string ⟨#[]⟩, .string ⟨#[]⟩, .slice (some ⟨L, 0, none⟩) 2 2, .slice none 0 0, .string ⟨#[99]⟩, .int .i64 4, .bool false, .int .i64 0, .float .f64 0, .string ⟨#[120]⟩, .string ⟨#[]⟩, .slice none 0 0, .slice none 0 0] 79 (0, 0)) := heap_new _ _
      obtain ⟨z2, hW⟩ : ∃ y, z1.alloc (.cells #[.string ⟨#[97]⟩, .int .i64 5, .bool false, .int .i64 0, .float .f64 0, .string ⟨#[]⟩, .string ⟨#[]⟩, .slice (some ⟨L, 0, none⟩) 2 2, .slice none 0 0, .string ⟨#[99]⟩, .int .i64 4, .bool false, .int .i64 0, .float .f64 0, .string ⟨#[120]⟩, .string ⟨#[]⟩, .slice none 0 0, .slice none 0 0] 79) = y := ⟨_, rfl⟩
      rw [hW] at hz2 hL2
      have e : z1.alloc (.cells #[.string ⟨#[97]⟩, .int .i64 5, .bool false, .int .i64 0, .float .f64 0, .string ⟨#[]⟩, .string ⟨#[]⟩, .slice (some ⟨L, 0, none⟩) 2 2, .slice none 0 0, .string ⟨#[99]⟩, .int .i64 4, .bool false, .int .i64 0, .float .f64 0, .string ⟨#[120]⟩, .string ⟨#[]⟩, .slice none 0 0, .slice none 0 0] 79) = z2 := hW
      clear hW
      rw [e]
      clear e
      refine hK _ _ (cls_of_below hz2) ?_
      clear hK K
      refine wpListC_nil ?_
      have hL2ge : W.heap.size ≤ z1.heap.size := hz1.size
      generalize z1.heap.size = L2 at *
      repeat (go_big_quiet_step (fail))
      refine wpQuiet_nil ?_
      have hbz := hbW.trans (hz2.mono hbW.size)
      have h0z : z2.heap[w.heap.size]? = some (.cells cells0 27 (0, 0)) := by rw [hbz.block _ (by have := HSZ.out; omega)]; exact H0.out
      have h1z : z2.heap[w.heap.size + 1]? = some (.cells #[.string ⟨#[98]⟩, .int .i64 0, .bool false, .int .i64 0, .float .f64 0, .string ⟨#[]⟩, .string ⟨#[]⟩, .slice none 0 0, .slice none 0 0] 79 (0, 0)) := by rw [hbz.block _ (by have := HSZ.out; omega)]; exact H1.out
      have hLz : z2.heap[L]? = some (.cells #[.int .i64 2, .bool false, .int .i64 1, .float .f64 0, .string ⟨#[]⟩, .string ⟨#[]⟩, .slice none 0 0, .slice none 0 0, .int .i64 6, .bool false, .int .i64 0, .float .f64 0, .string ⟨#[]⟩, .string ⟨#[]⟩, .slice none 0 0, .slice (some ⟨w.heap.size + 1, 0, none⟩) 1 1] 27 (0, 0)) := by rw [hz2.block _ (Array.getElem?_eq_some_iff.1 HLW.out).1]; exact HLW.out
      refine wpList_plain rfl (fun K hK => ?_)
      refine wp_store_row (P := Tryd.prog) 27 (.tmp 0) (.tmp 15) rfl w.heap.size (vcells 6 false 0 0 ⟨#[]⟩ ⟨#[]⟩ none 0 0 (some ⟨L2, 0, none⟩) 2 2) rfl rfl 27 _ h0z (by kernel_rfl) rfl (vcells_one ..) ?_
      refine hK _ _ ?_
      clear hK K
      have hnew : (z2.setRow w.heap.size (vcells 6 false 0 0 ⟨#[]⟩ ⟨#[]⟩ none 0 0 (some ⟨L2, 0, none⟩) 2 2)).heap[w.heap.size]? = some (.cells (vcells 6 false 0 0 ⟨#[]⟩ ⟨#[]⟩ none 0 0 (some ⟨L2, 0, none⟩) 2 2) 27 (0, 0)) := setRow_heap _ _ _ _ _ _ h0z
      have h1f : (z2.setRow w.heap.size (vcells 6 false 0 0 ⟨#[]⟩ ⟨#[]⟩ none 0 0 (some ⟨L2, 0, none⟩) 2 2)).heap[w.heap.size + 1]? = some (.cells #[.string ⟨#[98]⟩, .int .i64 0, .bool false, .int .i64 0, .float .f64 0, .string ⟨#[]⟩, .string ⟨#[]⟩, .slice none 0 0, .slice none 0 0] 79 (0, 0)) := (setRow_other _ _ _ _ (by omega)).trans h1z
      have hLf : (z2.setRow w.heap.size (vcells 6 false 0 0 ⟨#[]⟩ ⟨#[]⟩ none 0 0 (some ⟨L2, 0, none⟩) 2 2)).heap[L]? = some (.cells #[.int .i64 2, .bool false, .int .i64 1, .float .f64 0, .string ⟨#[]⟩, .string ⟨#[]⟩, .slice none 0 0, .slice none 0 0, .int .i64 6, .bool false, .int .i64 0, .float .f64 0, .string ⟨#[]⟩, .string ⟨#[]⟩, .slice none 0 0, .slice (some ⟨w.heap.size + 1, 0, none⟩) 1 1] 27 (0, 0)) := (setRow_other _ _ _ _ (by have := HSZ.out; omega)).trans hLz
      have hL2f : (z2.setRow w.heap.size (vcells 6 false 0 0 ⟨#[]⟩ ⟨#[]⟩ none 0 0 (some ⟨L2, 0, none⟩) 2 2)).heap[L2]? = some (.cells #[.string ⟨#[97]⟩, .int .i64 5, .bool false, .int .i64 0, .float .f64 0, .string ⟨#[]⟩, .string ⟨#[]⟩, .slice (some ⟨L, 0, none⟩) 2 2, .slice none 0 0, .string ⟨#[99]⟩, .int .i64 4, .bool false, .int .i64 0, .float .f64 0, .string ⟨#[120]⟩, .string ⟨#[]⟩, .slice none 0 0, .slice none 0 0] 79 (0, 0)) := (setRow_other _ _ _ _ (by have := HSZ.out; have := hbW.size; omega)).trans hL2
      have hwf : Below w.heap.size w (z2.setRow w.heap.size (vcells 6 false 0 0 ⟨#[]⟩ ⟨#[]⟩ none 0 0 (some ⟨L2, 0, none⟩) 2 2)) := below_setRow (hwa.trans (hbz.mono hwa.size)) (Nat.le_refl _) _
      generalize z2.setRow w.heap.size (vcells 6 false 0 0 ⟨#[]⟩ ⟨#[]⟩ none 0 0 (some ⟨L2, 0, none⟩) 2 2) = wz at *
      have hfin := isV_two h1f hLf hL2f
      obtain ⟨r0, r1, r2, r3, r4, r5, r6, r7⟩ := (show CellsAt wz w.heap.size 0 (vcells 6 false 0 0 ⟨#[]⟩ ⟨#[]⟩ none 0 0 (some ⟨L2, 0, none⟩) 2 2) by intro m x hx; rw [Nat.zero_add]; simp only [World.cell?, hnew]; exact hx).all0
      have HF := Lib.hid hfin
      have HWF := Lib.hid hwf
      clear hfin hwf hnew h1f hLf hL2f h0z h1z hLz hL2
      go_wp2
      exact bodyPost_ret (v := .agg (vcells 6 false 0 0 ⟨#[]⟩ ⟨#[]⟩ none 0 0 (some ⟨L2, 0, none⟩) 2 2)) (by simp [results, Tryd.results72, go_sem, r0, r1, r2, r3, r4, r5, r6, r7]) rfl ⟨_, rfl, HF.out, HWF.out⟩
  · refine wpListC_plain rfl (fun K hK => ?_)
    go_step
    have hb1 : Below wa.heap.size wa ((wa.alloc (.cells cells0 27)).drew) := ((Below.refl wa.heap.size wa).alloc (Nat.le_refl _) _).drew
    have hA : ((wa.alloc (.cells cells0 27)).drew).heap[wa.heap.size]? = some (.cells cells0 27 (0, 0)) := heap_new wa (.cells cells0 27)
    obtain ⟨x1, hW⟩ : ∃ y, (wa.alloc (.cells cells0 27)).drew = y := ⟨_, rfl⟩
    rw [hW] at hb1 hA
    have e : (wa.alloc (.cells cells0 27)).drew = x1 := hW
    clear hW
    rw [e]
    clear e
    have hAge : wa.heap.size ≤ wa.heap.size := Nat.le_refl _
    refine hK _ _ (cls_of_below hb1) ?_
    clear hK K
    obtain ⟨A, hAq⟩ : ∃ a, a = wa.heap.size := ⟨_, rfl⟩
    rw [← hAq] at hA ⊢
    have hAge : wa.heap.size ≤ A := by omega
    refine wpListC_nil ?_
    refine wpListC_plain rfl (fun K hK => ?_)
    go_step
    refine (num_any 1 _).mono ?_
    rintro e x2 ⟨rfl, hc⟩
    have hb2 := hb1.trans (hc.mono hb1.size)
    refine hK _ _ (cls_of_below hb2) ?_
    clear hK K
    have hA : x2.heap[A]? = some (.cells cells0 27 (0, 0)) := (hc.block A (Array.getElem?_eq_some_iff.1 hA).1).trans hA
    refine wpListC_plain rfl (fun K hK => ?_)
    go_step
    have hb3 : Below wa.heap.size wa (x2.alloc (.cells #[.int .i64 2, .bool false, .int .i64 1, .float .f64 0, .string ⟨#[]⟩, .string ⟨#[]⟩, .slice none 0 0, .slice none 0 0, .int .i64 6, .bool false, .int .i64 0, .float .f64 0, .string ⟨#[]⟩, .string ⟨#[]⟩, .slice none 0 0, .slice (some ⟨w.heap.size + 1, 0, none⟩) 1 1] 27)) := hb2.alloc hb2.size _
    have hL : (x2.alloc (.cells #[.int .i64 2, .bool false, .int .i64 1, .float .f64 0, .string ⟨#[]⟩, .string ⟨#[]⟩, .slice none 0 0, .slice none 0 0, .int .i64 6, .bool false, .int .i64 0, .float .f64 0, .string ⟨#[]⟩, .string ⟨#[]⟩, .slice none 0 0, .slice (some ⟨w.heap.size + 1, 0, none⟩) 1 1] 27)).heap[x2.heap.size]? = some (.cells #[.int .i64 2, .bool false, .int .i64 1, .float .f64 0, .string ⟨#[]⟩, .string ⟨#[]⟩, .slice none 0 0, .slice none 0 0, .int .i64 6, .bool false, .int .i64 0, .float .f64 0, .string ⟨#[]⟩, .string ⟨#[]⟩, .slice none 0 0, .slice (some ⟨w.heap.size + 1, 0, none⟩) 1 1] 27 (0, 0)) := heap_new x2 (.cells #[.int .i64 2, .bool false, .int .i64 1, .float .f64 0, .string ⟨#[]⟩, .string ⟨#[]⟩, .slice none 0 0, .slice none 0 0, .int .i64 6, .bool false, .int .i64 0, .float .f64 0, .string ⟨#[]⟩, .string ⟨#[]⟩, .slice none 0 0, .slice (some ⟨w.heap.size + 1, 0, none⟩) 1 1] 27)
    have hA' : (x2.alloc (.cells #[.int .i64 2, .bool false, .int .i64 1, .float .f64 0, .string ⟨#[]⟩, .string ⟨#[]⟩, .slice none 0 0, .slice none 0 0, .int .i64 6, .bool false, .int .i64 0, .float .f64 0, .string ⟨#[]⟩, .string ⟨#[]⟩, .slice none 0 0, .slice (some ⟨w.heap.size + 1, 0, none⟩) 1 1] 27)).heap[A]? = some (.cells cells0 27 (0, 0)) := heap_old hA _
    have hne : A < x2.heap.size := (Array.getElem?_eq_some_iff.1 hA).1
    clear hA
    have hA := hA'
    clear hA'
    obtain ⟨x3, hW⟩ : ∃ y, x2.alloc (.cells #[.int .i64 2, .bool false, .int .i64 1, .float .f64 0, .string ⟨#[]⟩, .string ⟨#[]⟩, .slice none 0 0, .slice none 0 0, .int .i64 6, .bool false, .int .i64 0, .float .f64 0, .string ⟨#[]⟩, .string ⟨#[]⟩, .slice none 0 0, .slice (some ⟨w.heap.size + 1, 0, none⟩) 1 1] 27) = y := ⟨_, rfl⟩
    rw [hW] at hb3 hL hA
    have e : x2.alloc (.cells #[.int .i64 2, .bool false, .int .i64 1, .float .f64 0, .string ⟨#[]⟩, .string ⟨#[]⟩, .slice none 0 0, .slice none 0 0, .int .i64 6, .bool false, .int .i64 0, .float .f64 0, .string ⟨#[]⟩, .string ⟨#[]⟩, .slice none 0 0, .slice (some ⟨w.heap.size + 1, 0, none⟩) 1 1] 27) = x3 := hW
    clear hW
    rw [e]
    clear e
    have hLge : wa.heap.size ≤ x2.heap.size := hb2.size
    refine hK _ _ (cls_of_below hb3) ?_
    clear hK K
    generalize hLq : x2.heap.size = L at *
    have hLA : L ≠ A := by omega
    refine wpListC_nil ?_
    repeat (go_big_quiet_step (fail))
    refine wpQuiet_nil ?_
    refine wpList_plain rfl (fun K hK => ?_)
    refine wp_store_row (P := Tryd.prog) 27 (.tmp 2) (.tmp 9) rfl A (vcells 5 false 0 0 ⟨#[]⟩ ⟨#[]⟩ (some ⟨L, 0, none⟩) 2 2 none 0 0) rfl rfl 27 _ hA (by kernel_rfl) rfl (vcells_one ..) ?_
    refine hK _ _ ?_
    clear hK K
    have hAW : (x3.setRow A (vcells 5 false 0 0 ⟨#[]⟩ ⟨#[]⟩ (some ⟨L, 0, none⟩) 2 2 none 0 0)).heap[A]? = some (.cells (vcells 5 false 0 0 ⟨#[]⟩ ⟨#[]⟩ (some ⟨L, 0, none⟩) 2 2 none 0 0) 27 (0, 0)) := setRow_heap _ _ _ _ _ _ hA
    have hLW : (x3.setRow A (vcells 5 false 0 0 ⟨#[]⟩ ⟨#[]⟩ (some ⟨L, 0, none⟩) 2 2 none 0 0)).heap[L]? = some (.cells #[.int .i64 2, .bool false, .int .i64 1, .float .f64 0, .string ⟨#[]⟩, .string ⟨#[]⟩, .slice none 0 0, .slice none 0 0, .int .i64 6, .bool false, .int .i64 0, .float .f64 0, .string ⟨#[]⟩, .string ⟨#[]⟩, .slice none 0 0, .slice (some ⟨w.heap.size + 1, 0, none⟩) 1 1] 27 (0, 0)) := (setRow_other _ _ _ _ hLA).trans hL
    have hbW : Below wa.heap.size wa (x3.setRow A (vcells 5 false 0 0 ⟨#[]⟩ ⟨#[]⟩ (some ⟨L, 0, none⟩) 2 2 none 0 0)) := below_setRow hb3 hAge _
    have HAW := Lib.hid hAW
    have HLW := Lib.hid hLW
    clear hAW hLW hL hA
    generalize x3.setRow A (vcells 5 false 0 0 ⟨#[]⟩ ⟨#[]⟩ (some ⟨L, 0, none⟩) 2 2 none 0 0) = W at *
    clear hAq hLq
    simp only [Act.put]
    go_wp2
    obtain ⟨a0, a1, a2, a3, a4, a5, a6, a7⟩ := (show CellsAt W A 0 (vcells 5 false 0 0 ⟨#[]⟩ ⟨#[]⟩ (some ⟨L, 0, none⟩) 2 2 none 0 0) by intro m x hx; rw [Nat.zero_add]; simp only [World.cell?, HAW.out]; exact hx).all0
    have hsA : A < W.heap.size := (Array.getElem?_eq_some_iff.1 HAW.out).1
    have kc := cell_cls W
    refine wp_region_tree_below 6 (.heads [0, 1] (.chain [2] (.heads [3] (.chain [4] (.heads [5] (.tail [6])))))) (by kernel_rfl) (by kernel_rfl) (fun _ _ _ _ h => h) ?_
    simp only [wpPlan, pickOps, List.getElem?_toArray, List.getElem?_cons_zero, List.getElem?_cons_succ]
    repeat (go_big_quiet_step (fail))
    refine wpQuiet_nil ?_
    clear kc a0 a1 a2 a3 a4 a5 a6 a7
    refine wpListC_plain rfl (fun K hK => ?_)
    go_step
    refine (text_any _ _).mono ?_
    rintro e z1 ⟨rfl, hc⟩
    have hz1 : Below W.heap.size W z1 := (Below.drew (Below.refl _ _)).trans hc
    refine hK _ _ (cls_of_below hz1) ?_
    clear hK K
    refine wpListC_nil ?_
    repeat (go_big_quiet_step (fail))
    refine wpQuiet_nil ?_
    refine wpListC_plain rfl (fun K hK => ?_)
    go_step
    have hz2 : Below W.heap.size W (z1.alloc (.cells #[.string ⟨#[97]⟩, .int .i64 5, .bool false, .int .i64 0, .float .f64 0, .string ⟨#[]⟩, .string ⟨#[]⟩, .slice (some ⟨L, 0, none⟩) 2 2, .slice none 0 0, .string ⟨#[99]⟩, .int .i64 4, .bool false, .int .i64 0, .float .f64 0, .string ⟨#[120]⟩, .string ⟨#[]⟩, .slice none 0 0, .slice none 0 0] 79)) := hz1.alloc hz1.size _
    have hL2 : (z1.alloc (.cells #[.string ⟨#[97]⟩, .int .i64 5, .bool false, .int .i64 0, .float .f64 0, .string ⟨#[]⟩, .string ⟨#[]⟩, .slice (some ⟨L, 0, none⟩) 2 2, .slice none 0 0, .string ⟨#[99]⟩, .int .i64 4, .bool false, .int .i64 0, .float .f64 0, .string ⟨#[120]⟩, .string ⟨#[]⟩, .slice none 0 0, .slice none 0 0] 79)).heap[z1.heap.size]? = some (.cells #[.string ⟨#[97]⟩, .int .i64 5, .bool false, .int .i64 0, .float .f64 0, .string ⟨#[]⟩, .string ⟨#[]⟩, .slice (some ⟨L, 0, none⟩) 2 2, .slice none 0 0, .string ⟨#[99]⟩, .int .i64 4, .bool false, .int .i64 0, .float .f64 0, .string ⟨#[120]⟩, .string ⟨#[]⟩, .slice none 0 0, .slice none 0 0] 79 (0, 0)) := heap_new _ _
    obtain ⟨z2, hW⟩ : ∃ y, z1.alloc (.cells #[.string ⟨#[97]⟩, .int .i64 5, .bool false, .int .i64 0, .float .f64 0, .string ⟨#[]⟩, .string ⟨#[]⟩, .slice (some ⟨L, 0, none⟩) 2 2, .slice none 0 0, .string ⟨#[99]⟩, .int .i64 4, .bool false, .int .i64 0, .float .f64 0, .string ⟨#[120]⟩, .string ⟨#[]⟩, .slice none 0 0, .slice none 0 0] 79) = y := ⟨_, rfl⟩
    rw [hW] at hz2 hL2
    have e : z1.alloc (.cells #[.string ⟨#[97]⟩, .int .i64 5, .bool false, .int .i64 0, .float .f64 0, .string ⟨#[]⟩, .string ⟨#[]⟩, .slice (some ⟨L, 0, none⟩) 2 2, .slice none 0 0, .string ⟨#[99]⟩, .int .i64 4, .bool false, .int .i64 0, .float .f64 0, .string ⟨#[120]⟩, .string ⟨#[]⟩, .slice none 0 0, .slice none 0 0] 79) = z2 := hW
    clear hW
    rw [e]
    clear e
    refine hK _ _ (cls_of_below hz2) ?_
    clear hK K
    refine wpListC_nil ?_
    have hL2ge : W.heap.size ≤ z1.heap.size := hz1.size
    generalize z1.heap.size = L2 at *
    repeat (go_big_quiet_step (fail))
    refine wpQuiet_nil ?_
    have hbz := hbW.trans (hz2.mono hbW.size)
    have h0z : z2.heap[w.heap.size]? = some (.cells cells0 27 (0, 0)) := by rw [hbz.block _ (by have := HSZ.out; omega)]; exact H0.out
    have h1z : z2.heap[w.heap.size + 1]? = some (.cells #[.string ⟨#[98]⟩, .int .i64 0, .bool false, .int .i64 0, .float .f64 0, .string ⟨#[]⟩, .string ⟨#[]⟩, .slice none 0 0, .slice none 0 0] 79 (0, 0)) := by rw [hbz.block _ (by have := HSZ.out; omega)]; exact H1.out
    have hLz : z2.heap[L]? = some (.cells #[.int .i64 2, .bool false, .int .i64 1, .float .f64 0, .string ⟨#[]⟩, .string ⟨#[]⟩, .slice none 0 0, .slice none 0 0, .int .i64 6, .bool false, .int .i64 0, .float .f64 0, .string ⟨#[]⟩, .string ⟨#[]⟩, .slice none 0 0, .slice (some ⟨w.heap.size + 1, 0, none⟩) 1 1] 27 (0, 0)) := by rw [hz2.block _ (Array.getElem?_eq_some_iff.1 HLW.out).1]; exact HLW.out
    refine wpList_plain rfl (fun K hK => ?_)
    refine wp_store_row (P := Tryd.prog) 27 (.tmp 0) (.tmp 15) rfl w.heap.size (vcells 6 false 0 0 ⟨#[]⟩ ⟨#[]⟩ none 0 0 (some ⟨L2, 0, none⟩) 2 2) rfl rfl 27 _ h0z (by kernel_rfl) rfl (vcells_one ..) ?_
    refine hK _ _ ?_
    clear hK K
    have hnew : (z2.setRow w.heap.size (vcells 6 false 0 0 ⟨#[]⟩ ⟨#[]⟩ none 0 0 (some ⟨L2, 0, none⟩) 2 2)).heap[w.heap.size]? = some (.cells (vcells 6 false 0 0 ⟨#[]⟩ ⟨#[]⟩ none 0 0 (some ⟨L2, 0, none⟩) 2 2) 27 (0, 0)) := setRow_heap _ _ _ _ _ _ h0z
    have h1f : (z2.setRow w.heap.size (vcells 6 false 0 0 ⟨#[]⟩ ⟨#[]⟩ none 0 0 (some ⟨L2, 0, none⟩) 2 2)).heap[w.heap.size + 1]? = some (.cells #[.string ⟨#[98]⟩, .int .i64 0, .bool false, .int .i64 0, .float .f64 0, .string ⟨#[]⟩, .string ⟨#[]⟩, .slice none 0 0, .slice none 0 0] 79 (0, 0)) := (setRow_other _ _ _ _ (by omega)).trans h1z
    have hLf : (z2.setRow w.heap.size (vcells 6 false 0 0 ⟨#[]⟩ ⟨#[]⟩ none 0 0 (some ⟨L2, 0, none⟩) 2 2)).heap[L]? = some (.cells #[.int .i64 2, .bool false, .int .i64 1, .float .f64 0, .string ⟨#[]⟩, .string ⟨#[]⟩, .slice none 0 0, .slice none 0 0, .int .i64 6, .bool false, .int .i64 0, .float .f64 0, .string ⟨#[]⟩, .string ⟨#[]⟩, .slice none 0 0, .slice (some ⟨w.heap.size + 1, 0, none⟩) 1 1] 27 (0, 0)) := (setRow_other _ _ _ _ (by have := HSZ.out; omega)).trans hLz
    have hL2f : (z2.setRow w.heap.size (vcells 6 false 0 0 ⟨#[]⟩ ⟨#[]⟩ none 0 0 (some ⟨L2, 0, none⟩) 2 2)).heap[L2]? = some (.cells #[.string ⟨#[97]⟩, .int .i64 5, .bool false, .int .i64 0, .float .f64 0, .string ⟨#[]⟩, .string ⟨#[]⟩, .slice (some ⟨L, 0, none⟩) 2 2, .slice none 0 0, .string ⟨#[99]⟩, .int .i64 4, .bool false, .int .i64 0, .float .f64 0, .string ⟨#[120]⟩, .string ⟨#[]⟩, .slice none 0 0, .slice none 0 0] 79 (0, 0)) := (setRow_other _ _ _ _ (by have := HSZ.out; have := hbW.size; omega)).trans hL2
    have hwf : Below w.heap.size w (z2.setRow w.heap.size (vcells 6 false 0 0 ⟨#[]⟩ ⟨#[]⟩ none 0 0 (some ⟨L2, 0, none⟩) 2 2)) := below_setRow (hwa.trans (hbz.mono hwa.size)) (Nat.le_refl _) _
    generalize z2.setRow w.heap.size (vcells 6 false 0 0 ⟨#[]⟩ ⟨#[]⟩ none 0 0 (some ⟨L2, 0, none⟩) 2 2) = wz at *
    have hfin := isV_two h1f hLf hL2f
    obtain ⟨r0, r1, r2, r3, r4, r5, r6, r7⟩ := (show CellsAt wz w.heap.size 0 (vcells 6 false 0 0 ⟨#[]⟩ ⟨#[]⟩ none 0 0 (some ⟨L2, 0, none⟩) 2 2) by intro m x hx; rw [Nat.zero_add]; simp only [World.cell?, hnew]; exact hx).all0
    have HF := Lib.hid hfin
    have HWF := Lib.hid hwf
    clear hfin hwf hnew h1f hLf hL2f h0z h1z hLz hL2
    go_wp2
    exact bodyPost_ret (v := .agg (vcells 6 false 0 0 ⟨#[]⟩ ⟨#[]⟩ none 0 0 (some ⟨L2, 0, none⟩) 2 2)) (by simp [results, Tryd.results72, go_sem, r0, r1, r2, r3, r4, r5, r6, r7]) rfl ⟨_, rfl, HF.out, HWF.out⟩
end Go.Proofs.YtnmnmkdmnohbmaaDoor
