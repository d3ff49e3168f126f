/- The reference's SameSteps: all fields alike. Conditions: none. -/
import Derived.Test.YtnmnmkdmnohbmaaDoorSteps
namespace Go.Proofs.YtnmnmkdmnohbmaaDoor
open Go.RowKit

theorem st_eqd {x y : St} : x = y ↔ x.it = y.it ∧ x.ix = y.ix ∧ (x.nm.toList == y.nm.toList) = true := by
  obtain ⟨n, i, b⟩ := x
  obtain ⟨n2, i2, b2⟩ := y
  constructor
  · rintro h
    cases h
    simp
  · rintro ⟨h1, h2, h3⟩
    dsimp only at *
    subst h1 h2
    have h4 : n.toList = n2.toList := by simpa using h3
    have : n = n2 := by
      have h5 : n.data = n2.data := by
        rw [ByteArray.toList_eq, ByteArray.toList_eq] at h4
        exact Array.toList_inj.1 h4
      obtain ⟨d⟩ := n
      obtain ⟨d2⟩ := n2
      cases h5
      rfl
    rw [this]

set_option maxRecDepth 100000 in
set_option maxHeartbeats 4000000 in
theorem SameSteps_d (a b : List St) (p q : Option Addr) (c d : Nat) (w : World) (ha : StepsAt w.heap.size w p a) (hb : StepsAt w.heap.size w q b) (la : a.length ≤ 4194304) (lb : b.length ≤ 4194304) :
    Calls Tryd.prog 15 #[.slice p a.length c, .slice q b.length d] w (fun e w' => ∃ r : Bool, e = .returned (.bool r) ∧ (r = true ↔ a = b) ∧ Below w.heap.size w w') := by
  by_cases hlen : a.length = b.length
  · have HLEN := Lib.hid hlen
    have hd5 : ((a.length : Int) != (b.length : Int)) = false := by simp [hlen]
    clear hlen
    go_enter Tryd.func15, Tryd.ntmps15
    go_wp2
    clear hd5
    go_loopw [5] (fun i wr => ∃ k : Nat, k ≤ a.length ∧ i = .int .i64 k ∧ Hid (a.take k = b.take k) ∧ Hid (Below w.heap.size w wr)) (fun i _ => a.length - (intOf i).toNat)
    case atStart => exact ⟨0, Nat.zero_le _, rfl, rfl, Lib.hid (Below.refl _ _)⟩
    case round =>
      obtain ⟨k, hka, rfl, hcmp, HBwr⟩ := hrel
      by_cases h1 : k < a.length
      · have h2 : k < b.length := by have := HLEN.out; omega
        obtain ⟨x, hx⟩ : ∃ x, a[k]? = some x := ⟨a[k], by simp [h1]⟩
        obtain ⟨y, hy⟩ : ∃ y, b[k]? = some y := ⟨b[k], by simp [h2]⟩
        rcases ha with ha | ⟨ba, oa, rfl, hBa, hca⟩
        · subst ha; simp at h1
        rcases hb with hb | ⟨bb, ob, rfl, hBb, hcb⟩
        · subst hb; simp at h2
        obtain ⟨a1, a2, a3⟩ := hca k x hx
        obtain ⟨b1, b2, b3⟩ := hcb k y hy
        have a1 := (HBwr.out.cell (p := ⟨ba, oa + k * 3, none⟩) hBa).trans a1
        have a2 := (HBwr.out.cell (p := ⟨ba, oa + k * 3 + 1, none⟩) hBa).trans a2
        have a3 := (HBwr.out.cell (p := ⟨ba, oa + k * 3 + 2, none⟩) hBa).trans a3
        have b1 := (HBwr.out.cell (p := ⟨bb, ob + k * 3, none⟩) hBb).trans b1
        have b2 := (HBwr.out.cell (p := ⟨bb, ob + k * 3 + 1, none⟩) hBb).trans b2
        have b3 := (HBwr.out.cell (p := ⟨bb, ob + k * 3 + 2, none⟩) hBb).trans b3
        have hw1 : ba < wr.heap.size := Nat.lt_of_lt_of_le hBa HBwr.out.size
        have hw2 : bb < wr.heap.size := Nat.lt_of_lt_of_le hBb HBwr.out.size
        have HE : Hid ((x.it = y.it ∧ x.ix = y.ix ∧ (x.nm.toList == y.nm.toList) = true → a.take (k + 1) = b.take (k + 1)) ∧ (¬ (x.it = y.it ∧ x.ix = y.ix ∧ (x.nm.toList == y.nm.toList) = true) → ¬ a = b)) := Lib.hid ⟨fun h => by
            rw [List.take_add_one, List.take_add_one, hcmp.out, hx, hy, st_eqd.2 h], fun h e => h (st_eqd.1 (by subst e; rw [hx] at hy; exact Option.some.inj hy))⟩
        clear hca hcb hx hy
        obtain ⟨xn, xi, xt⟩ := x
        obtain ⟨yn, yi, yt⟩ := y
        dsimp only at a1 a2 a3 b1 b2 b3 HE
        have tail : ∀ W, W = wr → True := fun _ _ => trivial
        clear tail
        by_cases e1 : xt = yt
        · subst e1
          by_cases e2 : xi = yi
          · subst e2
            cases e3 : (xn.toList == yn.toList) with
            | true =>
              rw [e3] at HE
              cases xt <;> (
                go_wp2
                refine wp_region_plan_below 37 [(0, [0, 1, 2, 3, 4, 5, 6, 7, 8, 9, 10, 11, 12, 13, 14, 15, 16, 17, 18, 19, 20, 21, 22, 23, 24, 25, 26, 27, 28, 29, 30, 31, 32, 33, 34, 35, 36])] (by kernel_rfl) (by kernel_rfl) (fun _ _ _ _ h => h) ?_
                simp only [wpSegs, pickOps, List.getElem?_toArray, List.getElem?_cons_zero, List.getElem?_cons_succ]
                have kc := cell_cls wr
                iterate 37 (go_big_quiet_step (fail))
                refine wpQuiet_nil ?_
                clear kc
                go_wp2
                go_roundw
                case rel => exact ⟨k + 1, by omega, by go_num, HE.out.1 (by simp), Lib.hid (HBwr.out.trans ((Below.drew (Below.refl wr.heap.size wr)).mono HBwr.out.size))⟩
                case measure => simp [intOf]; omega)
            | false =>
              rw [e3] at HE
              have HN := HE.out.2 (by simp)
              clear HE
              cases xt <;> (
                go_wp2
                refine wp_region_plan_below 37 [(0, [0, 1, 2, 3, 4, 5, 6, 7, 8, 9, 10, 11, 12, 13, 14, 15, 16, 17, 18, 19, 20, 21, 22, 23, 24, 25, 26, 27, 28, 29, 30, 31, 32, 33, 34, 35, 36])] (by kernel_rfl) (by kernel_rfl) (fun _ _ _ _ h => h) ?_
                simp only [wpSegs, pickOps, List.getElem?_toArray, List.getElem?_cons_zero, List.getElem?_cons_succ]
                have kc := cell_cls wr
                iterate 37 (go_big_quiet_step (fail))
                refine wpQuiet_nil ?_
                clear kc
                go_wp2
                go_ret
                exact ⟨false, rfl, by simp [HN], HBwr.out.trans ((Below.drew (Below.refl wr.heap.size wr)).mono HBwr.out.size)⟩)
          · have HN := HE.out.2 (by simp [e2])
            have e2' : decide (xi = yi) = false := decide_eq_false e2
            have e3' : decide (¬ xi = yi) = true := decide_eq_true e2
            have e4' : (xi != yi) = true := by simp [e2]
            have e5' : (xi == yi) = false := by simp [e2]
            clear HE
            cases xt <;> (
                go_wp2
                refine wp_region_plan_below 37 [(0, [0, 1, 2, 3, 4, 5, 6, 7, 8, 9, 10, 11, 12, 13, 14, 15, 16, 17, 18, 19, 20, 21, 22, 23, 24, 25, 26, 27, 28, 29, 30, 31, 32, 33, 34, 35, 36])] (by kernel_rfl) (by kernel_rfl) (fun _ _ _ _ h => h) ?_
                simp only [wpSegs, pickOps, List.getElem?_toArray, List.getElem?_cons_zero, List.getElem?_cons_succ]
                have kc := cell_cls wr
                iterate 37 (go_big_quiet_step (fail))
                refine wpQuiet_nil ?_
                clear kc
                go_wp2
                go_ret
                exact ⟨false, rfl, by simp [HN], HBwr.out.trans ((Below.drew (Below.refl wr.heap.size wr)).mono HBwr.out.size)⟩)
        · have HN := HE.out.2 (by simp [e1])
          clear HE
          cases xt <;> cases yt <;> first | exact absurd rfl e1 | (
                clear e1
                go_wp2
                refine wp_region_plan_below 37 [(0, [0, 1, 2, 3, 4, 5, 6, 7, 8, 9, 10, 11, 12, 13, 14, 15, 16, 17, 18, 19, 20, 21, 22, 23, 24, 25, 26, 27, 28, 29, 30, 31, 32, 33, 34, 35, 36])] (by kernel_rfl) (by kernel_rfl) (fun _ _ _ _ h => h) ?_
                simp only [wpSegs, pickOps, List.getElem?_toArray, List.getElem?_cons_zero, List.getElem?_cons_succ]
                have kc := cell_cls wr
                iterate 37 (go_big_quiet_step (fail))
                refine wpQuiet_nil ?_
                clear kc
                go_wp2
                go_ret
                exact ⟨false, rfl, by simp [HN], HBwr.out.trans ((Below.drew (Below.refl wr.heap.size wr)).mono HBwr.out.size)⟩)
      · have hall := hcmp.out
        rw [List.take_of_length_le (by omega), List.take_of_length_le (by have := HLEN.out; omega)] at hall
        have HA := Lib.hid hall
        clear hall
        go_wp2
        go_ret
        exact ⟨true, rfl, by simp [HA.out], HBwr.out⟩
  · have hne : ¬ a = b := fun e => hlen (by rw [e])
    have HN := Lib.hid hne
    have hd : decide (a.length = b.length) = false := decide_eq_false hlen
    clear hne
    go_enter Tryd.func15, Tryd.ntmps15
    go_wp2
    go_ret
    exact ⟨false, rfl, by simp [HN.out], Below.refl _ _⟩

end Go.Proofs.YtnmnmkdmnohbmaaDoor
