/- Several texts in one: Helper text: Whole of the reference, of a value and the same value elsewhere. Helper text: values without children alike: the walks over plain and Same of numbers. Helper text: two values alike, members in order; the walk over Equal of the program. Helper text: the walk over Equal of the reference. Plain law: values the same, members in any order: what the greedy pairing says, and that it is an equivalence. Helper text: the walk over Same of the reference. Conditions: none. -/
import Derived.Test.YtldjbgklmeigmaaGreatDoorPackC
import Derived.Test.YtldjbgklmeigmaaGreatDoorPackB
import Derived.Laws.Externs
import Derived.Deep.OwnRows
namespace Go.Proofs.YtldjbgklmeigmaaGreatDoor
open Go.RowKit
attribute [local go_sem] run_store_float

mutual
/-- The floats are of 64 bits. -/
def okV : V → Prop
  | .mk _ _ _ f _ _ its fs => f < 18446744073709551616 ∧ okVs its ∧ okFs fs
def okVs : List V → Prop
  | [] => True
  | v :: r => okV v ∧ okVs r
def okFs : List (ByteArray × V) → Prop
  | [] => True
  | x :: r => okV x.2 ∧ okFs r
end

theorem okVs.get : ∀ {l : List V} {n : Nat} {v : V}, okVs l → l[n]? = some v → okV v
  | [], _, _, _, h => by simp at h
  | x :: r, 0, v, h, hv => by obtain rfl : x = v := by simpa using hv
                              exact h.1
  | x :: r, n + 1, v, h, hv => okVs.get (n := n) h.2 (by simpa using hv)
theorem okFs.get : ∀ {l : List (ByteArray × V)} {n : Nat} {x : ByteArray × V}, okFs l → l[n]? = some x → okV x.2
  | [], _, _, _, h => by simp at h
  | y :: r, 0, x, h, hv => by obtain rfl : y = x := by simpa using hv
                              exact h.1
  | y :: r, n + 1, x, h, hv => okFs.get (n := n) h.2 (by simpa using hv)

set_option maxRecDepth 100000 in
set_option maxHeartbeats 1000000 in
theorem Whole_same : ∀ (N : Nat) (v : V), szV v ≤ N → okV v → ∀ (cs cs' : Array Value) (w : World), IsV w.heap.size w v cs → IsV w.heap.size w v cs' →
    Calls Tryz.prog 14 #[.agg cs, .agg cs'] w (RetB (.bool true) w) := by
  intro N
  induction N with
  | zero => intro v hv; have := szV_pos v; omega
  | succ N ih =>
    intro v hN hok cs cs' w hv hv'
    obtain ⟨k, b, i, f, t, ty, its, fs⟩ := v
    have hf64 := hok.1
    obtain ⟨p, c, q, d, rfl, hi, hf, l1, l2⟩ := hv
    obtain ⟨p', c', q', d', rfl, hi', hf', _, _⟩ := hv'
    unfold lenMax at l1 l2
    have IH := Lib.hid ih
    have HI := Lib.hid hi
    have HF := Lib.hid hf
    have HI' := Lib.hid hi'
    have HF' := Lib.hid hf'
    have HN := Lib.hid hN
    have HOK := Lib.hid hok
    have hsf := refSameFloat_any f f hf64 hf64
    rw [sameF_refl] at hsf
    have HSF := Lib.hid hsf
    clear ih hi hf hi' hf' hN hok hsf hf64
    go_enter Tryz.func14, Tryz.ntmps14
    go_wp2_with (go_at_call 44; refine (HSF.out _).mono ?_; rintro e w1 ⟨rfl, rfl⟩)
    obtain ⟨wa, hW⟩ : ∃ wa, (w.alloc (.cells (vcells k b i f t ty p its.length c q fs.length d) 34)).alloc (.cells (vcells k b i f t ty p' its.length c' q' fs.length d') 34) = wa := ⟨_, rfl⟩
    have hwa : Below w.heap.size w wa := by rw [← hW]; exact ((Below.refl _ _).alloc (Nat.le_refl _) _).alloc (by simp) _
    have hsz : wa.heap.size = w.heap.size + 1 + 1 := by rw [← hW]; simp
    have hal : CellsAt wa w.heap.size 0 (vcells k b i f t ty p its.length c q fs.length d) := by
      rw [← hW]; exact (cellsAt_alloc w _ _ _).below ((Below.refl _ _).alloc (Nat.le_refl _) _) (by simp)
    have hal' : CellsAt wa (w.heap.size + 1) 0 (vcells k b i f t ty p' its.length c' q' fs.length d') := by
      rw [← hW]; have := cellsAt_alloc (w.alloc (.cells (vcells k b i f t ty p its.length c q fs.length d) 34)) (vcells k b i f t ty p' its.length c' q' fs.length d') 34 (0, 0); rwa [World.size_alloc] at this
    have e : (w.alloc (.cells (vcells k b i f t ty p its.length c q fs.length d) 34)).alloc (.cells (vcells k b i f t ty p' its.length c' q' fs.length d') 34) = wa := hW
    clear hW
    rw [e]
    clear e
    have HSZ := Lib.hid hsz
    clear hsz
    go_loopw [5] (fun ii wr => ∃ j : Nat, j ≤ its.length ∧ ii = .int .i64 j ∧ Below wa.heap.size wa wr) (fun ii _ => its.length - (intOf ii).toNat)
    case atStart => exact ⟨0, by omega, rfl, Below.refl _ _⟩
    case round =>
      obtain ⟨j, hj, rfl, hbel⟩ := hrel
      obtain ⟨_, _, _, _, _, _, e6, e7⟩ := (hal.below hbel (by have := HSZ.out; omega)).all0
      obtain ⟨_, _, _, _, _, _, f6, f7⟩ := (hal'.below hbel (by have := HSZ.out; omega)).all0
      have hs0 : w.heap.size < wr.heap.size := by have := HSZ.out; have := hbel.size; omega
      have hs1 : w.heap.size + 1 < wr.heap.size := by have := HSZ.out; have := hbel.size; omega
      by_cases h1 : j < its.length
      · obtain ⟨x, hx⟩ : ∃ x, its[j]? = some x := ⟨its[j], by simp [h1]⟩
        obtain hi := HI.out
        obtain hi' := HI'.out
        rcases hi with hi | ⟨g, o, rfl, hg, hvs⟩
        · subst hi; simp at h1
        rcases hi' with hi' | ⟨g', o', rfl, hg', hvs'⟩
        · subst hi'; simp at h1
        obtain ⟨csx, hcx, hvx⟩ := hvs.get hx
        obtain ⟨csx', hcx', hvx'⟩ := hvs'.get hx
        have hbw := hwa.trans (hbel.mono hwa.size)
        have hcx := hcx.below hbw hg
        have hvx := hvx.on hbw
        have hcx' := hcx'.below hbw hg'
        have hvx' := hvx'.on hbw
        have hxN : szV x ≤ N := by
          have := szVs_get hx
          have := HN.out
          simp only [szV] at this
          omega
        have hb0 := (Below.drew (Below.refl wr.heap.size wr))
        have HC := Lib.hid (IH.out x hxN (HOK.out.2.1.get hx) csx csx' _ (hvx.on hb0) (hvx'.on hb0))
        obtain ⟨xk, xb, xi, xf, xt, xty, xits, xfs⟩ := x
        obtain ⟨xp, xc, xq, xd, rfl, _, _, _, _⟩ := hvx
        obtain ⟨yp, yc, yq, yd, rfl, _, _, _, _⟩ := hvx'
        obtain ⟨c0, c1, c2, c3, c4, c5, c6, c7⟩ := hcx.all
        obtain ⟨d0, d1, d2, d3, d4, d5, d6, d7⟩ := hcx'.all
        have hgr : g < wr.heap.size := Nat.lt_of_lt_of_le hg hbw.size
        have hgr' : g' < wr.heap.size := Nat.lt_of_lt_of_le hg' hbw.size
        clear hx hvs hcx hcx' hvs' hal hal' hwa hxN hb0
        go_wp2
        refine wp_region_plan_below 10 [(0, [0, 1, 2, 3, 4, 5, 6, 7, 8, 9]), (2, [10, 11])] (by kernel_rfl) (by kernel_rfl) (fun _ _ _ _ h => h) ?_
        simp only [wpSegs, pickOps, List.getElem?_toArray, List.getElem?_cons_zero, List.getElem?_cons_succ]
        have kc := cell_cls wr
        repeat (go_big_quiet_step (fail))
        refine wpQuiet_nil ?_
        clear kc
        go_wp2_with (go_at_call 14; refine HC.out.mono ?_; rintro e w1 ⟨rfl, hb1⟩)
        have hbn := hbel.trans (((Below.drew (Below.refl wr.heap.size wr)).trans hb1).mono hbel.size)
        go_roundw
        case rel => exact ⟨j + 1, by omega, by go_num, hbn⟩
        case measure => simp [intOf]; omega
      · go_wp2_with fail
        go_loopw [6] (fun ii wr => ∃ j : Nat, j ≤ fs.length ∧ ii = .int .i64 j ∧ Below wa.heap.size wa wr) (fun ii _ => fs.length - (intOf ii).toNat)
        case atStart => exact ⟨0, by omega, rfl, hbel⟩
        case round =>
          clear hbel e6 e7 f6 f7 hs0 hs1
          obtain ⟨j2, hj2, rfl, hbel⟩ := hrel
          obtain ⟨_, _, _, _, _, _, e6, e7⟩ := (hal.below hbel (by have := HSZ.out; omega)).all0
          obtain ⟨_, _, _, _, _, _, f6, f7⟩ := (hal'.below hbel (by have := HSZ.out; omega)).all0
          have hs0 : w.heap.size < wr.heap.size := by have := HSZ.out; have := hbel.size; omega
          have hs1 : w.heap.size + 1 < wr.heap.size := by have := HSZ.out; have := hbel.size; omega
          by_cases h3 : j2 < fs.length
          · obtain ⟨x, hx⟩ : ∃ x, fs[j2]? = some x := ⟨fs[j2], by simp [h3]⟩
            obtain hf := HF.out
            obtain hf' := HF'.out
            rcases hf with hf | ⟨g, o, rfl, hg, hvs⟩
            · subst hf; simp at h3
            rcases hf' with hf' | ⟨g', o', rfl, hg', hvs'⟩
            · subst hf'; simp at h3
            obtain ⟨hnm, csx, hcx, hvx⟩ := hvs.get hx
            obtain ⟨hnm', csx', hcx', hvx'⟩ := hvs'.get hx
            have hbw := hwa.trans (hbel.mono hwa.size)
            have hnm := (hbw.cell (p := ⟨g, _, none⟩) hg).trans hnm
            have hnm' := (hbw.cell (p := ⟨g', _, none⟩) hg').trans hnm'
            have hcx := hcx.below hbw hg
            have hvx := hvx.on hbw
            have hcx' := hcx'.below hbw hg'
            have hvx' := hvx'.on hbw
            have hxN : szV x.2 ≤ N := by
              have := szFs_get hx
              have := HN.out
              simp only [szV] at this
              omega
            have hb0 := (Below.drew (Below.refl wr.heap.size wr))
            have HC := Lib.hid (IH.out x.2 hxN (HOK.out.2.2.get hx) csx csx' _ (hvx.on hb0) (hvx'.on hb0))
            obtain ⟨xn, xk, xb, xi, xf, xt, xty, xits, xfs⟩ := x
            obtain ⟨xp, xc, xq, xd, rfl, _, _, _, _⟩ := hvx
            obtain ⟨yp, yc, yq, yd, rfl, _, _, _, _⟩ := hvx'
            obtain ⟨c0, c1, c2, c3, c4, c5, c6, c7⟩ := hcx.all
            obtain ⟨d0, d1, d2, d3, d4, d5, d6, d7⟩ := hcx'.all
            have hgr : g < wr.heap.size := Nat.lt_of_lt_of_le hg hbw.size
            have hgr' : g' < wr.heap.size := Nat.lt_of_lt_of_le hg' hbw.size
            clear hx hvs hcx hcx' hvs' hal hal' hwa hxN hb0
            go_wp2
            refine wp_region_plan_below 26 [(0, [0, 1, 2, 3, 4, 5, 6, 7, 8, 9, 10, 11, 12, 13, 14, 15, 16, 17, 18, 19, 20, 21, 22, 23, 24, 25]), (2, [26, 27, 28])] (by kernel_rfl) (by kernel_rfl) (fun _ _ _ _ h => h) ?_
            simp only [wpSegs, pickOps, List.getElem?_toArray, List.getElem?_cons_zero, List.getElem?_cons_succ]
            have kc := cell_cls wr
            repeat (go_big_quiet_step (fail))
            refine wpQuiet_nil ?_
            clear kc
            go_wp2_with (go_at_call 14; refine HC.out.mono ?_; rintro e w1 ⟨rfl, hb1⟩)
            have hbn := hbel.trans (((Below.drew (Below.refl wr.heap.size wr)).trans hb1).mono hbel.size)
            go_roundw
            case rel => exact ⟨j2 + 1, by omega, by go_num, hbn⟩
            case measure => simp [intOf]; omega
          · go_wp2_with fail
            go_ret
            exact ⟨rfl, hwa.trans (hbel.mono hwa.size)⟩
end Go.Proofs.YtldjbgklmeigmaaGreatDoor

namespace Go.Proofs.YtldjbgklmeigmaaGreatDoor
open Go.RowKit

theorem two_allocs (w : World) (A B : Array Value) (s t : TypeId) : ∃ wa, (w.alloc (.cells A s)).alloc (.cells B t) = wa ∧ Below w.heap.size w wa ∧
    w.heap.size < wa.heap.size ∧ w.heap.size + 1 < wa.heap.size ∧ CellsAt wa w.heap.size 0 A ∧ CellsAt wa (w.heap.size + 1) 0 B := by
  refine ⟨_, rfl, ((Below.refl _ _).alloc (Nat.le_refl _) _).alloc (by simp) _, by simp; omega, by simp, ?_, ?_⟩
  · exact (cellsAt_alloc w _ _ _).below ((Below.refl _ _).alloc (Nat.le_refl _) _) (by simp)
  · have := cellsAt_alloc (w.alloc (.cells A s)) B t (0, 0)
    rwa [World.size_alloc] at this

end Go.Proofs.YtldjbgklmeigmaaGreatDoor

namespace Go.Proofs.YtldjbgklmeigmaaGreatDoor
open Go.RowKit
attribute [local go_sem] run_store_float

/-- The cells of a member. -/
@[reducible] def mcells (nm : ByteArray) (k : Int) (b : Bool) (i : Int) (f : Nat) (t ty : ByteArray) (p : Option Addr) (n c : Nat) (q : Option Addr) (m d : Nat) : Array Value :=
  #[.string nm, .int .i64 k, .bool b, .int .i64 i, .float .f64 f, .string t, .string ty, .slice p n c, .slice q m d]

theorem CellsAt.all9 {w : World} {g : Nat} {nm : ByteArray} {k : Int} {b : Bool} {i : Int} {f : Nat} {t ty : ByteArray} {p : Option Addr} {n c : Nat} {q : Option Addr} {m d : Nat} (h : CellsAt w g 0 (mcells nm k b i f t ty p n c q m d)) :
    w.cell? ⟨g, 0, none⟩ = some (.string nm) ∧ w.cell? ⟨g, 1, none⟩ = some (.int .i64 k) ∧ w.cell? ⟨g, 2, none⟩ = some (.bool b) ∧ w.cell? ⟨g, 3, none⟩ = some (.int .i64 i) ∧ w.cell? ⟨g, 4, none⟩ = some (.float .f64 f) ∧
    w.cell? ⟨g, 5, none⟩ = some (.string t) ∧ w.cell? ⟨g, 6, none⟩ = some (.string ty) ∧ w.cell? ⟨g, 7, none⟩ = some (.slice p n c) ∧ w.cell? ⟨g, 8, none⟩ = some (.slice q m d) :=
  ⟨h 0 _ rfl, h 1 _ rfl, h 2 _ rfl, h 3 _ rfl, h 4 _ rfl, h 5 _ rfl, h 6 _ rfl, h 7 _ rfl, h 8 _ rfl⟩

end Go.Proofs.YtldjbgklmeigmaaGreatDoor

namespace Go.Proofs.YtldjbgklmeigmaaGreatDoor
open Go.RowKit
attribute [local go_sem] run_store_float

end Go.Proofs.YtldjbgklmeigmaaGreatDoor

namespace Go.Proofs.YtldjbgklmeigmaaGreatDoor
open Go.RowKit

section
variable {α : Type} (r : α → α → Bool)

variable (P : α → Prop)
variable (hr : ∀ x, P x → r x x = true) (hs : ∀ x y, P x → P y → r x y = true → r y x = true) (ht : ∀ x y z, P x → P y → P z → r x y = true → r y z = true → r x z = true)
include hr hs ht

end

theorem szVs_mem {l : List V} {v : V} (h : v ∈ l) : szV v ≤ szV.szVs l := by obtain ⟨i, hi⟩ := List.getElem?_of_mem h; exact szVs_get hi
theorem szFs_mem {l : List (ByteArray × V)} {x : ByteArray × V} (h : x ∈ l) : szV x.2 ≤ szV.szFs l := by obtain ⟨i, hi⟩ := List.getElem?_of_mem h; exact szFs_get hi

end Go.Proofs.YtldjbgklmeigmaaGreatDoor

namespace Go.Proofs.YtldjbgklmeigmaaGreatDoor
open Go.RowKit
attribute [local go_sem] run_store_float

/-- Block T holds the flags. -/
def TakenAt (w : World) (T n : Nat) (fl : Nat → Bool) : Prop := ∃ cur, w.heap[T]? = some (.cells cur 4 (0, 0)) ∧ cur.size = n ∧ ∀ j, j < n → cur[j]? = some (.bool (fl j))

theorem TakenAt.below {B : Nat} {w w' : World} {T n : Nat} {fl : Nat → Bool} (h : TakenAt w T n fl) (hb : Below B w w') (hT : T < B) : TakenAt w' T n fl := by
  obtain ⟨cur, h1, h2, h3⟩ := h
  exact ⟨cur, (hb.block T hT).trans h1, h2, h3⟩
theorem TakenAt.lt {w : World} {T n : Nat} {fl : Nat → Bool} (h : TakenAt w T n fl) : T < w.heap.size := by
  obtain ⟨cur, h1, h2, h3⟩ := h
  exact (Array.getElem?_eq_some_iff.1 h1).1
theorem TakenAt.cell {w : World} {T n : Nat} {fl : Nat → Bool} (h : TakenAt w T n fl) {j : Nat} (hj : j < n) : w.cell? ⟨T, j, none⟩ = some (.bool (fl j)) ∧ w.frozen? ⟨T, j, none⟩ = false := by
  obtain ⟨cur, h1, h2, h3⟩ := h
  exact ⟨by simp only [World.cell?, h1]; exact h3 j hj, by simp [World.frozen?, h1]⟩
theorem TakenAt.set {w : World} {T n : Nat} {fl : Nat → Bool} (h : TakenAt w T n fl) (j : Nat) : TakenAt (w.setCell ⟨T, j, none⟩ (.bool true)) T n (fun m => if m = j then true else fl m) := by
  obtain ⟨cur, h1, h2, h3⟩ := h
  refine ⟨_, heap_setCell_same h1 _, by simpa using h2, fun m hm => ?_⟩
  by_cases e : m = j
  · subst e
    rw [Array.getElem?_setIfInBounds_self]
    simp [h2, hm]
  · rw [Array.getElem?_setIfInBounds_ne (Ne.symm e)]
    simp [e, h3 m hm]
end Go.Proofs.YtldjbgklmeigmaaGreatDoor
