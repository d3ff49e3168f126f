/- Helper text: walks over Under of tree and of the reference, Compare of the reference. Conditions: none. -/
import Derived.Test.YtnmnmkdmnohbmaaSteps
namespace Go.Proofs.Ytnmnmkdmnohbmaa
open Go.RowKit
attribute [local go_sem] St.cells

theorem Compare_n (a b : List St) (p q : Option Addr) (n m c d : Nat) (w : World) (hn : n = a.length) (hm : m = b.length) (ha : StepsAt w.heap.size w p a) (hb : StepsAt w.heap.size w q b) (la : a.length ≤ maxLen) (lb : b.length ≤ maxLen) :
    Calls Try.prog 21 #[.slice p n c, .slice q m d] w (RetB (.int .i64 (cmpP a b)) w) := by
  subst hn hm
  exact Compare_any a b p q c d w ha hb la lb

set_option maxRecDepth 100000 in
set_option maxHeartbeats 400000 in
theorem refCompare_any (a b : List St) (p q : Option Addr) (c d : Nat) (w : World) (ha : StepsAt w.heap.size w p a) (hb : StepsAt w.heap.size w q b) (la : a.length ≤ maxLen) (lb : b.length ≤ maxLen) :
    Calls Try.prog 23 #[.slice p a.length c, .slice q b.length d] w (RetB (.int .i64 (cmpP a b)) w) := by
  unfold maxLen at la lb
  go_enter Try.func23, Try.ntmps23
  go_wp2
  go_loopw [5] (fun i wr => ∃ k : Nat, k ≤ a.length ∧ k ≤ b.length ∧ i = .int .i64 k ∧ Hid (cmpP (a.drop k) (b.drop k) = cmpP a b) ∧ Below w.heap.size w wr) (fun i _ => a.length - (intOf i).toNat)
  case atStart => exact ⟨0, Nat.zero_le _, Nat.zero_le _, rfl, rfl, Below.refl _ _⟩
  case round =>
    obtain ⟨k, hka, hkb, rfl, hcmp, hbel⟩ := hrel
    by_cases h1 : k < a.length
    · by_cases h2 : k < b.length
      · obtain ⟨x, hx⟩ : ∃ x, a[k]? = some x := ⟨a[k], by simp [h1]⟩
        obtain ⟨y, hy⟩ : ∃ y, b[k]? = some y := ⟨b[k], by simp [h2]⟩
        rcases ha with ha | ⟨ba, oa, rfl, hBa, hca⟩
        · subst ha; simp at h1
        rcases hb with hb | ⟨bb, ob, rfl, hBb, hcb⟩
        · subst hb; simp at h2
        obtain ⟨a1, a2, a3⟩ := hca k x hx
        obtain ⟨b1, b2, b3⟩ := hcb k y hy
        have HX := Lib.hid hx
        have HY := Lib.hid hy
        clear hca hcb hx hy
        go_wp2
        refine wp_region_plan_below 8 [(0, [0, 1, 2, 3, 4, 5, 6, 7]), (2, [8, 9])] (by kernel_rfl) (by kernel_rfl) (fun _ _ _ _ h => h) ?_
        simp only [wpSegs, pickOps, List.getElem?_toArray, List.getElem?_cons_zero, List.getElem?_cons_succ]
        have kc := cell_cls wr
        have hw1 : ba < wr.heap.size := Nat.lt_of_lt_of_le hBa hbel.size
        have hw2 : bb < wr.heap.size := Nat.lt_of_lt_of_le hBb hbel.size
        have kr := cell_rule hbel
        repeat (go_big_quiet_step (fail))
        refine wpQuiet_nil ?_
        clear kc kr
        by_cases hxy : stepOrd x y = 0
        · have HXY := Lib.hid hxy
          have hz : (stepOrd x y == 0) = true := by simp [hxy]
          clear hxy
          go_wp2_with (go_at_call 59; refine (compareStep_any x y _).mono ?_; rintro e w3 ⟨rfl, hb3⟩)
          go_roundw
          case rel => exact ⟨k + 1, by omega, by omega, by go_num, cmpP_step HX.out HY.out HXY.out hcmp.out, hbel.trans ((Below.drew (Below.refl wr.heap.size wr)).trans hb3 |>.mono hbel.size)⟩
          case measure => simp [intOf]; omega
        · have HXY := Lib.hid hxy
          have hz : (stepOrd x y == 0) = false := by simp [hxy]
          clear hxy
          go_wp2_with (go_at_call 59; refine (compareStep_any x y _).mono ?_; rintro e w3 ⟨rfl, hb3⟩)
          go_ret
          exact ⟨ret_eq (by rw [← cmpP_stop HX.out HY.out HXY.out hcmp.out]; rfl), hbel.trans ((Below.drew (Below.refl wr.heap.size wr)).trans hb3 |>.mono hbel.size)⟩
      · have hend : k = a.length ∨ k = b.length := .inr (by omega)
        have HE := Lib.hid (cmpP_end hend hka hkb hcmp.out)
        clear hend
        go_wp2
        go_ret
        exact ⟨ret_eq (by rw [← HE.out, cmpI_gt (by omega)]; rfl), hbel⟩
    · have hend : k = a.length ∨ k = b.length := .inl (by omega)
      have HE := Lib.hid (cmpP_end hend hka hkb hcmp.out)
      clear hend
      go_wp2
      · go_ret
        exact ⟨ret_eq (by rw [← HE.out, cmpI_lt (by omega)]; rfl), hbel⟩
      · go_ret
        exact ⟨ret_eq (by rw [← HE.out, cmpI_eq (by omega) (by omega)]; rfl), hbel⟩

theorem refCompare_n (a b : List St) (p q : Option Addr) (n m c d : Nat) (w : World) (hn : n = a.length) (hm : m = b.length) (ha : StepsAt w.heap.size w p a) (hb : StepsAt w.heap.size w q b) (la : a.length ≤ maxLen) (lb : b.length ≤ maxLen) :
    Calls Try.prog 23 #[.slice p n c, .slice q m d] w (RetB (.int .i64 (cmpP a b)) w) := by
  subst hn hm
  exact refCompare_any a b p q c d w ha hb la lb

def underP (a b : List St) : Bool := decide (b.length ≤ a.length) && (cmpP (a.take b.length) b == 0)

theorem StepsAt.take {B : Nat} {w : World} {p : Option Addr} {l : List St} (h : StepsAt B w p l) (n : Nat) : StepsAt B w p (l.take n) := by
  rcases h with rfl | ⟨b, o, rfl, hB, hc⟩
  · exact .inl (by simp)
  · refine .inr ⟨b, o, rfl, hB, fun i s hs => hc i s ?_⟩
    rw [List.getElem?_take] at hs
    split at hs
    · exact hs
    · cases hs

set_option maxRecDepth 100000 in
set_option maxHeartbeats 400000 in
theorem Under_any (a b : List St) (p q : Option Addr) (c d : Nat) (w : World) (ha : StepsAt w.heap.size w p a) (hb : StepsAt w.heap.size w q b) (lc : a.length ≤ c) (la : c ≤ maxLen) (lb : b.length ≤ maxLen) :
    Calls Try.prog 22 #[.slice p a.length c, .slice q b.length d] w (RetB (.bool (underP a b)) w) := by
  have hla : (a.take b.length).length ≤ maxLen := by rw [List.length_take]; omega
  unfold maxLen at la lb
  by_cases h : b.length ≤ a.length
  · have hu : underP a b = (cmpP (a.take b.length) b == 0) := by simp [underP, h]
    have HU := Lib.hid hu
    have hcap : b.length ≤ c := by omega
    have hn : b.length = (a.take b.length).length := by rw [List.length_take]; omega
    have HN := Lib.hid hn
    have HT := Lib.hid (ha.take b.length)
    have HL := Lib.hid hla
    clear hu hn hla
    go_enter Try.func22, Try.ntmps22
    go_wp2_with (go_at_call 21; refine (Compare_n (a.take b.length) b _ _ _ _ _ _ _ HN.out rfl HT.out hb HL.out lb).mono ?_; rintro e w3 ⟨rfl, hb3⟩)
    go_ret
    exact ⟨ret_eq (by rw [HU.out]; rfl), hb3⟩
  · have hu : underP a b = false := by simp [underP, h]
    have HU := Lib.hid hu
    clear hu
    go_enter Try.func22, Try.ntmps22
    go_wp2
    go_ret
    exact ⟨ret_eq (by rw [HU.out]; rfl), Below.refl _ _⟩

theorem underP_step {a b : List St} {k : Nat} {x y : St} (hx : a[k]? = some x) (hy : b[k]? = some y) (hxy : stepOrd x y = 0)
    (h : (cmpP ((a.drop k).take (b.length - k)) (b.drop k) == 0) = underP a b) : (cmpP ((a.drop (k + 1)).take (b.length - (k + 1))) (b.drop (k + 1)) == 0) = underP a b := by
  have hk := (List.getElem?_eq_some_iff.1 hy).1
  rw [← h, drop_some hx, drop_some hy, show b.length - k = (b.length - (k + 1)) + 1 by omega, List.take_succ_cons, cmpP, if_pos hxy]

theorem underP_stop {a b : List St} {k : Nat} {x y : St} (hx : a[k]? = some x) (hy : b[k]? = some y) (hxy : ¬ stepOrd x y = 0)
    (h : (cmpP ((a.drop k).take (b.length - k)) (b.drop k) == 0) = underP a b) : underP a b = false := by
  have hk := (List.getElem?_eq_some_iff.1 hy).1
  rw [← h, drop_some hx, drop_some hy, show b.length - k = (b.length - (k + 1)) + 1 by omega, List.take_succ_cons, cmpP, if_neg hxy]
  simpa using hxy

set_option maxRecDepth 100000 in
set_option maxHeartbeats 400000 in
theorem refUnder_any (a b : List St) (p q : Option Addr) (c d : Nat) (w : World) (ha : StepsAt w.heap.size w p a) (hb : StepsAt w.heap.size w q b) (la : a.length ≤ maxLen) (lb : b.length ≤ maxLen) :
    Calls Try.prog 24 #[.slice p a.length c, .slice q b.length d] w (RetB (.bool (underP a b)) w) := by
  unfold maxLen at la lb
  by_cases h : b.length ≤ a.length
  · have hu : (cmpP ((a.drop 0).take (b.length - 0)) (b.drop 0) == 0) = underP a b := by simp [underP, h]
    have HU := Lib.hid hu
    clear hu
    have hd : decide (a.length < b.length) = false := by simpa using h
    go_enter Try.func24, Try.ntmps24
    go_wp2
    go_loopw [5] (fun i wr => ∃ k : Nat, k ≤ b.length ∧ i = .int .i64 k ∧ Hid ((cmpP ((a.drop k).take (b.length - k)) (b.drop k) == 0) = underP a b) ∧ Below w.heap.size w wr) (fun i _ => b.length - (intOf i).toNat)
    case atStart => exact ⟨0, Nat.zero_le _, rfl, HU, Below.refl _ _⟩
    case round =>
      obtain ⟨k, hkb, rfl, hcmp, hbel⟩ := hrel
      by_cases h2 : k < b.length
      · obtain ⟨x, hx⟩ : ∃ x, a[k]? = some x := ⟨a[k]'(by omega), by simp⟩
        obtain ⟨y, hy⟩ : ∃ y, b[k]? = some y := ⟨b[k], by simp [h2]⟩
        rcases ha with ha | ⟨ba, oa, rfl, hBa, hca⟩
        · subst ha; simp at hx
        rcases hb with hb | ⟨bb, ob, rfl, hBb, hcb⟩
        · subst hb; simp at h2
        obtain ⟨a1, a2, a3⟩ := hca k x hx
        obtain ⟨b1, b2, b3⟩ := hcb k y hy
        have h1 : k < a.length := by omega
        have HX := Lib.hid hx
        have HY := Lib.hid hy
        clear hca hcb hx hy
        go_wp2
        refine wp_region_plan_below 8 [(0, [0, 1, 2, 3, 4, 5, 6, 7]), (2, [8, 9])] (by kernel_rfl) (by kernel_rfl) (fun _ _ _ _ h => h) ?_
        simp only [wpSegs, pickOps, List.getElem?_toArray, List.getElem?_cons_zero, List.getElem?_cons_succ]
        have kc := cell_cls wr
        have hw1 : ba < wr.heap.size := Nat.lt_of_lt_of_le hBa hbel.size
        have hw2 : bb < wr.heap.size := Nat.lt_of_lt_of_le hBb hbel.size
        have kr := cell_rule hbel
        repeat (go_big_quiet_step (fail))
        refine wpQuiet_nil ?_
        clear kc kr
        by_cases hxy : stepOrd x y = 0
        · have HXY := Lib.hid hxy
          have hz : (stepOrd x y == 0) = true := by simp [hxy]
          clear hxy
          go_wp2_with (go_at_call 59; refine (compareStep_any x y _).mono ?_; rintro e w3 ⟨rfl, hb3⟩)
          go_roundw
          case rel => exact ⟨k + 1, by omega, by go_num, underP_step HX.out HY.out HXY.out hcmp.out, hbel.trans ((Below.drew (Below.refl wr.heap.size wr)).trans hb3 |>.mono hbel.size)⟩
          case measure => simp [intOf]; omega
        · have HXY := Lib.hid hxy
          have hz : (stepOrd x y == 0) = false := by simp [hxy]
          clear hxy
          go_wp2_with (go_at_call 59; refine (compareStep_any x y _).mono ?_; rintro e w3 ⟨rfl, hb3⟩)
          go_ret
          exact ⟨ret_eq (by rw [underP_stop HX.out HY.out HXY.out hcmp.out]; rfl), hbel.trans ((Below.drew (Below.refl wr.heap.size wr)).trans hb3 |>.mono hbel.size)⟩
      · have hk : k = b.length := by omega
        have HK := Lib.hid hk
        clear hk
        go_wp2
        go_ret
        refine ⟨ret_eq ?_, hbel⟩
        have h0 := hcmp.out
        have hk := HK.out
        rw [← h0, hk]
        simp [cmpP]
  · have hu : underP a b = false := by simp [underP, h]
    have HU := Lib.hid hu
    clear hu
    go_enter Try.func24, Try.ntmps24
    go_wp2
    go_ret
    exact ⟨ret_eq (by rw [HU.out]; rfl), Below.refl _ _⟩

theorem cmpP_refl : ∀ a : List St, cmpP a a = 0
  | [] => rfl
  | x :: a => by rw [cmpP, if_pos (stepOrd_zero.2 ⟨rfl, rfl, rfl⟩)]; exact cmpP_refl a

theorem underP_refl (a : List St) : underP a a = true := by simp [underP, cmpP_refl]

theorem steps_one {w : World} {g : Nat} {s : St} {e : TypeId} {f : Nat × Nat} (h : w.heap[g]? = some (.cells s.cells e f)) : StepsAt w.heap.size w (some ⟨g, 0, none⟩) [s] := by
  refine .inr ⟨g, 0, rfl, (Array.getElem?_eq_some_iff.1 h).1, fun i t ht => ?_⟩
  cases i with
  | zero =>
    obtain rfl : s = t := by simpa using ht
    exact ⟨by simp [World.cell?, h, St.cells], by simp [World.cell?, h, St.cells], by simp [World.cell?, h, St.cells]⟩
  | succ i => simp at ht

theorem heap_new (w : World) (o : Obj) : (w.alloc o).heap[w.heap.size]? = some o := by
  show (w.heap.push o)[w.heap.size]? = some o
  simp
theorem heap_old {w : World} {k : Nat} {o : Obj} (h : w.heap[k]? = some o) (o' : Obj) : (w.alloc o').heap[k]? = some o := by
  have hk := (Array.getElem?_eq_some_iff.1 h).1
  rw [Below.heap_alloc w o' k hk]
  exact h

theorem StepsAt.mono {B B' : Nat} {w : World} {p : Option Addr} {l : List St} (h : StepsAt B w p l) (hB : B ≤ B') : StepsAt B' w p l := by
  rcases h with h | ⟨b, o, rfl, hb, hc⟩
  · exact .inl h
  · exact .inr ⟨b, o, rfl, by omega, hc⟩

theorem StepsAt.on {w w' : World} {p : Option Addr} {l : List St} (h : StepsAt w.heap.size w p l) (hb : Below w.heap.size w w') : StepsAt w'.heap.size w' p l := (h.below hb).mono hb.size

set_option maxRecDepth 100000 in
set_option maxHeartbeats 400000 in
theorem TreeOrder_walk (a b : List St) (p q : Option Addr) (c d : Nat) (w : World) (ha : StepsAt w.heap.size w p a) (hb : StepsAt w.heap.size w q b) (lc : a.length ≤ c) (la : c ≤ maxLen) (lb : b.length ≤ d) (ld : d ≤ maxLen) :
    Calls Try.prog 5 #[.slice p a.length c, .slice q b.length d] w (RetB (.bool true) w) := by
  go_enter Try.func5, Try.ntmps5
  go_wp2_with fail
  have b0 : Below w.heap.size w ((w.alloc (.cells #[.string ⟨#[]⟩, .int .i64 10, .bool true] 53)).alloc (.cells #[.string ⟨#[]⟩, .int .i64 9, .bool true] 53)) := ((Below.refl _ _).alloc (Nat.le_refl _) _).alloc (by simp) _
  have s1 : StepsAt _ ((w.alloc (.cells #[.string ⟨#[]⟩, .int .i64 10, .bool true] 53)).alloc (.cells #[.string ⟨#[]⟩, .int .i64 9, .bool true] 53)) (some ⟨w.heap.size, 0, none⟩) [⟨⟨#[]⟩, 10, true⟩] := steps_one (heap_old (heap_new w _) _)
  have s2 : StepsAt _ ((w.alloc (.cells #[.string ⟨#[]⟩, .int .i64 10, .bool true] 53)).alloc (.cells #[.string ⟨#[]⟩, .int .i64 9, .bool true] 53)) (some ⟨w.heap.size + 1, 0, none⟩) [⟨⟨#[]⟩, 9, true⟩] := steps_one (by have := heap_new (w.alloc (.cells #[.string ⟨#[]⟩, .int .i64 10, .bool true] 53)) (.cells #[.string ⟨#[]⟩, .int .i64 9, .bool true] 53); rw [World.size_alloc] at this; exact this)
  refine (Compare_n _ _ _ _ 1 1 1 1 _ rfl rfl s1 s2 (by decide) (by decide)).mono ?_
  rintro e w1 ⟨rfl, hb1⟩
  have b1 := b0.trans (hb1.mono b0.size)
  have ha1 := ha.on b1
  have hb1' := hb.on b1
  have hone : cmpP [⟨⟨#[]⟩, 10, true⟩] [⟨⟨#[]⟩, 9, true⟩] = 1 := by decide
  rw [hone]
  clear hb1 s1 s2 b0
  go_wp2_with fail
  refine (Compare_n a a _ _ _ _ _ _ _ rfl rfl ha1 ha1 (by omega) (by omega)).mono ?_
  rintro e w2 ⟨rfl, hb2⟩
  have b2 := b1.trans (hb2.mono b1.size)
  have ha2 := ha.on b2
  have hbb2 := hb.on b2
  rw [cmpP_refl]
  clear hb2
  go_wp2_with fail
  refine (Under_any a a _ _ _ _ _ ha2 ha2 lc la (by omega)).mono ?_
  rintro e w3 ⟨rfl, hb3⟩
  have b3 := b2.trans (hb3.mono b2.size)
  have ha3 := ha.on b3
  have hbb3 := hb.on b3
  rw [underP_refl]
  clear hb3
  go_wp2_with fail
  refine (Compare_n a b _ _ _ _ _ _ _ rfl rfl ha3 hbb3 (by omega) (by omega)).mono ?_
  rintro e w4 ⟨rfl, hb4⟩
  have b4 := b3.trans (hb4.mono b3.size)
  have ha4 := ha.on b4
  have hbb4 := hb.on b4
  clear hb4
  go_wp2_with fail
  refine (refCompare_n a b _ _ _ _ _ _ _ rfl rfl ha4 hbb4 (by omega) (by omega)).mono ?_
  rintro e w5 ⟨rfl, hb5⟩
  have b5 := b4.trans (hb5.mono b4.size)
  have ha5 := ha.on b5
  have hbb5 := hb.on b5
  clear hb5
  go_wp2_with fail
  refine (Under_any a b _ _ _ _ _ ha5 hbb5 lc la (by omega)).mono ?_
  rintro e w6 ⟨rfl, hb6⟩
  have b6 := b5.trans (hb6.mono b5.size)
  have ha6 := ha.on b6
  have hbb6 := hb.on b6
  clear hb6
  go_wp2_with fail
  refine (refUnder_any a b _ _ _ _ _ ha6 hbb6 (by omega) (by omega)).mono ?_
  rintro e w7 ⟨rfl, hb7⟩
  have b7 := b6.trans (hb7.mono b6.size)
  have ha7 := ha.on b7
  have hbb7 := hb.on b7
  clear hb7
  go_wp2
  go_ret
  exact ⟨ret_eq (by simp), b7⟩
end Go.Proofs.Ytnmnmkdmnohbmaa
