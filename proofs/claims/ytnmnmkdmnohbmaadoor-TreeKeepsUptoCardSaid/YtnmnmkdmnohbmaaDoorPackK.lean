/- Several texts in one: Helper text: the child to which a step leads: Find of the reference, spot of the program. Helper text: spot of the program: the address of the child to which a step leads. Conditions: none. -/
import Derived.Test.YtnmnmkdmnohbmaaDoorPlainW
import Derived.Test.YtnmnmkdmnohbmaaDoorOwn
import Derived.Test.YtnmnmkdmnohbmaaDoorUnder
import Derived.Deep.CutBlock
namespace Go.Proofs.YtnmnmkdmnohbmaaDoor
open Go.RowKit
attribute [local go_sem] run_store_float St.cells

def nameIs (n : ByteArray) (x : ByteArray × V) : Bool := x.1.toList == n.toList

/-- Where the child stands among the items or the fields. -/
def childIx (v : V) (s : St) : Option Nat :=
  if s.it then (if kd v.kind = 5 ∧ 0 ≤ s.ix ∧ s.ix < v.its.length then some s.ix.toNat else none)
  else if kd v.kind = 6 then v.fs.findIdx? (nameIs s.nm) else none

def findI (v : V) (s : St) : Int := match childIx v s with
  | some n => n
  | none => -1

def child (v : V) (s : St) : Option V := (childIx v s).bind fun n => if s.it then v.its[n]? else (v.fs[n]?).map (·.2)

theorem findIdx_none {α : Type} {l : List α} {f : α → Bool} (h : ∀ (i : Nat) x, l[i]? = some x → f x = false) : l.findIdx? f = none := by
  rw [List.findIdx?_eq_none_iff]
  intro x hx
  obtain ⟨i, hi⟩ := List.getElem?_of_mem hx
  exact h i x hi

theorem findIdx_at {α : Type} {l : List α} {f : α → Bool} {n : Nat} {x : α} (hx : l[n]? = some x) (h : f x = true) (h' : ∀ (i : Nat) y, i < n → l[i]? = some y → f y = false) : l.findIdx? f = some n := by
  obtain ⟨hn, rfl⟩ := List.getElem?_eq_some_iff.1 hx
  rw [List.findIdx?_eq_some_iff_getElem]
  refine ⟨hn, h, fun j hj => ?_⟩
  have := h' j _ hj (List.getElem?_eq_getElem (by omega))
  simp [this]

theorem cells_two (w : World) (A B : Array Value) (s t : TypeId) :
    (∀ w1, Below ((w.alloc (.cells A s)).alloc (.cells B t)).heap.size ((w.alloc (.cells A s)).alloc (.cells B t)) w1 → CellsAt w1 w.heap.size 0 A) ∧
    (∀ w1, Below ((w.alloc (.cells A s)).alloc (.cells B t)).heap.size ((w.alloc (.cells A s)).alloc (.cells B t)) w1 → CellsAt w1 (w.heap.size + 1) 0 B) := by
  refine ⟨fun w1 hb => ?_, fun w1 hb => ?_⟩
  · exact ((cellsAt_alloc w _ _ _).below ((Below.refl _ _).alloc (Nat.le_refl _) _) (by simp)).below hb (by simp; omega)
  · have := cellsAt_alloc (w.alloc (.cells A s)) B t (0, 0)
    rw [World.size_alloc] at this
    exact this.below hb (by simp)

set_option maxRecDepth 100000 in
set_option maxHeartbeats 1000000 in
theorem refFind_any (v : V) (s : St) (cs : Array Value) (w : World) (hv : IsV w.heap.size w v cs) :
    Calls Tryd.prog 56 #[.agg cs, .agg s.cells] w (RetB (.int .i64 (findI v s)) w) := by
  obtain ⟨k, b, i, f, t, ty, its, fs⟩ := v
  obtain ⟨p, c, q, d, rfl, hi, hf, l1, l2⟩ := hv
  obtain ⟨nm, ix, it⟩ := s
  unfold lenMax at l1 l2
  have HI := Lib.hid hi
  have HF := Lib.hid hf
  clear hi hf
  cases it
  · by_cases hk : kd k = 6
    · go_enter Tryd.func56, Tryd.ntmps56
      go_wp2_with (go_at_call 86; refine (refkind_any _ _ _ _ _ _ _ _ _ _ _ _ _).mono ?_; rintro e w1 ⟨rfl, hb1⟩)
      have hwa : Below w.heap.size w w1 := (((Below.refl _ _).alloc (Nat.le_refl _) _).alloc (by simp) _).trans (hb1.mono (by simp; omega))
      have hal : CellsAt w1 w.heap.size 0 (vcells k b i f t ty p its.length c q fs.length d) :=
        ((cellsAt_alloc w _ _ _).below ((Below.refl _ _).alloc (Nat.le_refl _) _) (by simp)).below hb1 (by simp; omega)
      have hst : CellsAt w1 (w.heap.size + 1) 0 #[.string nm, .int .i64 ix, .bool false] := by
        have := cellsAt_alloc (w.alloc (.cells (vcells k b i f t ty p its.length c q fs.length d) 27)) #[.string nm, .int .i64 ix, .bool false] 34 (0, 0)
        rw [World.size_alloc] at this
        exact this.below hb1 (by simp)
      have hsz : w.heap.size + 1 + 1 ≤ w1.heap.size := by have := hb1.size; simpa using this
      have HSZ := Lib.hid hsz
      clear hb1 hsz
      go_loopw [5] (fun ii wr => ∃ j : Nat, j ≤ fs.length ∧ ii = .int .i64 j ∧ Hid (∀ (i : Nat) x, i < j → fs[i]? = some x → nameIs nm x = false) ∧ Below w1.heap.size w1 wr) (fun ii _ => fs.length - (intOf ii).toNat)
      case atStart => exact ⟨0, by omega, rfl, (fun i x hi => by omega), Below.refl _ _⟩
      case round =>
        obtain ⟨j, hj, rfl, hno, hbel⟩ := hrel
        obtain ⟨_, _, _, _, _, _, e6, e7⟩ := (hal.below hbel (by have := HSZ.out; omega)).all0
        have s0 : wr.cell? ⟨w.heap.size + 1, 0, none⟩ = some (.string nm) := (hst.below hbel (by have := HSZ.out; omega)) 0 _ rfl
        have hs0 : w.heap.size < wr.heap.size := by have := HSZ.out; have := hbel.size; omega
        have hs1 : w.heap.size + 1 < wr.heap.size := by have := HSZ.out; have := hbel.size; omega
        by_cases h3 : j < fs.length
        · obtain ⟨x, hx⟩ : ∃ x, fs[j]? = some x := ⟨fs[j], by simp [h3]⟩
          obtain hf := HF.out
          rcases hf with hf | ⟨g, o, rfl, hg, hvs⟩
          · subst hf; simp at h3
          obtain ⟨hnm, _, _, _⟩ := hvs.get hx
          have hbw := hwa.trans (hbel.mono hwa.size)
          have hnm := (hbw.cell (p := ⟨g, _, none⟩) hg).trans hnm
          have hgr : g < wr.heap.size := Nat.lt_of_lt_of_le hg hbw.size
          have HX := Lib.hid hx
          have HBW := Lib.hid hbw
          clear hx hvs hal hwa hst hbw
          by_cases hnn : x.1.toList = nm.toList
          · have hfin : findI (.mk k b i f t ty its fs) ⟨nm, ix, false⟩ = j := by
              simp [findI, childIx, V.kind, V.fs, hk, findIdx_at HX.out (show nameIs nm x = true by simp [nameIs, hnn]) hno.out]
            have HFIN := Lib.hid hfin
            have hq : (x.1.toList == nm.toList) = true := by simp [hnn]
            clear hfin hk hnn
            go_wp2
            refine wp_region_plan_below 8 [(0, [0, 1, 2, 3, 4, 5, 6, 7]), (2, [8])] (by kernel_rfl) (by kernel_rfl) (fun _ _ _ _ h => h) ?_
            simp only [wpSegs, pickOps, List.getElem?_toArray, List.getElem?_cons_zero, List.getElem?_cons_succ]
            have kc := cell_cls wr
            repeat (go_big_quiet_step (fail))
            refine wpQuiet_nil ?_
            clear kc
            go_wp2_with fail
            go_ret
            exact ⟨ret_eq (by rw [HFIN.out]; rfl), HBW.out.trans ((Below.drew (Below.refl wr.heap.size wr)).mono HBW.out.size)⟩
          · have hq : (x.1.toList == nm.toList) = false := by simp [hnn]
            have HNN := Lib.hid hnn
            clear hnn
            go_wp2
            refine wp_region_plan_below 8 [(0, [0, 1, 2, 3, 4, 5, 6, 7]), (2, [8])] (by kernel_rfl) (by kernel_rfl) (fun _ _ _ _ h => h) ?_
            simp only [wpSegs, pickOps, List.getElem?_toArray, List.getElem?_cons_zero, List.getElem?_cons_succ]
            have kc := cell_cls wr
            repeat (go_big_quiet_step (fail))
            refine wpQuiet_nil ?_
            clear kc
            go_wp2_with fail
            have hbn := hbel.trans ((Below.drew (Below.refl wr.heap.size wr)).mono hbel.size)
            go_roundw
            case rel =>
              refine ⟨j + 1, by omega, by go_num, (fun i y hi hy => ?_), hbn⟩
              by_cases hij : i < j
              · exact hno.out i y hij hy
              · obtain rfl : i = j := by omega
                obtain rfl : x = y := by have := HX.out; rw [this] at hy; simpa using hy
                simp [nameIs, HNN.out]
            case measure => simp [intOf]; omega
        · have hfin : findI (.mk k b i f t ty its fs) ⟨nm, ix, false⟩ = -1 := by
            simp only [findI, childIx, V.kind, V.fs, hk]
            rw [findIdx_none (fun i x hx => hno.out i x (by have := (List.getElem?_eq_some_iff.1 hx).1; omega) hx)]
            simp
          have HFIN := Lib.hid hfin
          clear hfin
          go_wp2_with fail
          go_ret
          exact ⟨ret_eq (by rw [HFIN.out]; rfl), hwa.trans (hbel.mono hwa.size)⟩
    · have hr : findI (.mk k b i f t ty its fs) ⟨nm, ix, false⟩ = -1 := by simp [findI, childIx, V.kind, hk]
      rw [hr]
      clear hr
      go_enter Tryd.func56, Tryd.ntmps56
      go_wp2_with (go_at_call 86; refine (refkind_any _ _ _ _ _ _ _ _ _ _ _ _ _).mono ?_; rintro e w1 ⟨rfl, hb1⟩)
      go_ret
      exact ⟨rfl, (((Below.refl _ _).alloc (Nat.le_refl _) _).alloc (by simp) _).trans (hb1.mono (by simp; omega))⟩
  · have hr : findI (.mk k b i f t ty its fs) ⟨nm, ix, true⟩ = if kd k = 5 ∧ 0 ≤ ix ∧ ix < its.length then ix else -1 := by
      simp only [findI, childIx, V.kind, V.its]
      by_cases hc : kd k = 5 ∧ 0 ≤ ix ∧ ix < its.length
      · simp [hc]
        omega
      · simp [hc]
    rw [hr]
    clear hr
    by_cases hk : kd k = 5
    · by_cases h0 : 0 ≤ ix
      · by_cases h1 : ix < its.length
        · rw [if_pos ⟨hk, h0, h1⟩]
          go_enter Tryd.func56, Tryd.ntmps56
          go_wp2_with (go_at_call 86; refine (refkind_any _ _ _ _ _ _ _ _ _ _ _ _ _).mono ?_; rintro e w1 ⟨rfl, hb1⟩; have q1 := (cells_two w (vcells k b i f t ty p its.length c q fs.length d) #[.string nm, .int .i64 ix, .bool true] 27 34).2 _ hb1 1 _ rfl; have q6 := (cells_two w (vcells k b i f t ty p its.length c q fs.length d) #[.string nm, .int .i64 ix, .bool true] 27 34).1 _ hb1 6 _ rfl; try simp only [Nat.zero_add] at q1 q6)
          go_ret
          exact ⟨rfl, (((Below.refl _ _).alloc (Nat.le_refl _) _).alloc (by simp) _).trans (hb1.mono (by simp; omega))⟩
        · rw [if_neg (by omega)]
          go_enter Tryd.func56, Tryd.ntmps56
          go_wp2_with (go_at_call 86; refine (refkind_any _ _ _ _ _ _ _ _ _ _ _ _ _).mono ?_; rintro e w1 ⟨rfl, hb1⟩; have q1 := (cells_two w (vcells k b i f t ty p its.length c q fs.length d) #[.string nm, .int .i64 ix, .bool true] 27 34).2 _ hb1 1 _ rfl; have q6 := (cells_two w (vcells k b i f t ty p its.length c q fs.length d) #[.string nm, .int .i64 ix, .bool true] 27 34).1 _ hb1 6 _ rfl; try simp only [Nat.zero_add] at q1 q6)
          go_ret
          exact ⟨rfl, (((Below.refl _ _).alloc (Nat.le_refl _) _).alloc (by simp) _).trans (hb1.mono (by simp; omega))⟩
      · rw [if_neg (by omega)]
        go_enter Tryd.func56, Tryd.ntmps56
        go_wp2_with (go_at_call 86; refine (refkind_any _ _ _ _ _ _ _ _ _ _ _ _ _).mono ?_; rintro e w1 ⟨rfl, hb1⟩; have q1 := (cells_two w (vcells k b i f t ty p its.length c q fs.length d) #[.string nm, .int .i64 ix, .bool true] 27 34).2 _ hb1 1 _ rfl; have q6 := (cells_two w (vcells k b i f t ty p its.length c q fs.length d) #[.string nm, .int .i64 ix, .bool true] 27 34).1 _ hb1 6 _ rfl; try simp only [Nat.zero_add] at q1 q6)
        go_ret
        exact ⟨rfl, (((Below.refl _ _).alloc (Nat.le_refl _) _).alloc (by simp) _).trans (hb1.mono (by simp; omega))⟩
    · rw [if_neg (by omega)]
      go_enter Tryd.func56, Tryd.ntmps56
      go_wp2_with (go_at_call 86; refine (refkind_any _ _ _ _ _ _ _ _ _ _ _ _ _).mono ?_; rintro e w1 ⟨rfl, hb1⟩; have q1 := (cells_two w (vcells k b i f t ty p its.length c q fs.length d) #[.string nm, .int .i64 ix, .bool true] 27 34).2 _ hb1 1 _ rfl; have q6 := (cells_two w (vcells k b i f t ty p its.length c q fs.length d) #[.string nm, .int .i64 ix, .bool true] 27 34).1 _ hb1 6 _ rfl; try simp only [Nat.zero_add] at q1 q6)
      go_ret
      exact ⟨rfl, (((Below.refl _ _).alloc (Nat.le_refl _) _).alloc (by simp) _).trans (hb1.mono (by simp; omega))⟩
end Go.Proofs.YtnmnmkdmnohbmaaDoor

namespace Go.Proofs.YtnmnmkdmnohbmaaDoor
open Go.RowKit
attribute [local go_sem] run_store_float St.cells

def shift (a : Addr) (n : Nat) : Addr := ⟨a.block, a.off + n, none⟩

/-- The address of the child. -/
def spotA (p q : Option Addr) (v : V) (s : St) : Option Addr := (childIx v s).bind fun n => if s.it then p.map (shift · (n * 8)) else q.map (shift · (n * 9 + 1))

theorem cells_one (w : World) (A : Array Value) (s : TypeId) : ∀ w1, Below (w.alloc (.cells A s)).heap.size (w.alloc (.cells A s)) w1 → CellsAt w1 w.heap.size 0 A :=
  fun w1 hb => (cellsAt_alloc w _ _ _).below hb (by simp)

set_option maxRecDepth 100000 in
set_option maxHeartbeats 1000000 in
theorem spot_any (k : Int) (b : Bool) (i : Int) (f : Nat) (t ty : ByteArray) (its : List V) (fs : List (ByteArray × V)) (p q : Option Addr) (c d : Nat) (s : St) (g o : Nat) (w : World) (hc : CellsAt w g o (vcells k b i f t ty p its.length c q fs.length d)) (hg : g < w.heap.size)
    (hv : IsV w.heap.size w (.mk k b i f t ty its fs) (vcells k b i f t ty p its.length c q fs.length d)) :
    Calls Tryd.prog 57 #[.pointer (some ⟨g, o, none⟩), .agg s.cells] w (RetB (.pointer (spotA p q (.mk k b i f t ty its fs) s)) w) := by
  obtain ⟨p', c', q', d', he, hi, hf, l1, l2⟩ := hv
  obtain ⟨⟨rfl, rfl⟩, rfl, rfl⟩ : (p = p' ∧ c = c') ∧ q = q' ∧ d = d' := by simpa [vcells] using he
  clear he
  obtain ⟨nm, ix, it⟩ := s
  unfold lenMax at l1 l2
  have HI := Lib.hid hi
  have HF := Lib.hid hf
  clear hi hf
  cases it
  · by_cases hk : kd k = 6
    · go_enter Tryd.func57, Tryd.ntmps57
      go_upto_region 5 with (fail)
      have hb0 : Below w.heap.size w (w.alloc (.cells #[.string nm, .int .i64 ix, .bool false] 34)) := (Below.refl _ _).alloc (Nat.le_refl _) _
      have hst := cellsAt_alloc w #[.string nm, .int .i64 ix, .bool false] 34 (0, 0)
      have hsz : w.heap.size < (w.alloc (.cells #[.string nm, .int .i64 ix, .bool false] 34)).heap.size := by simp
      generalize w.alloc (.cells #[.string nm, .int .i64 ix, .bool false] 34) = wa at *
      obtain ⟨e0, e1, e2, e3, e4, e5, e6, e7⟩ := (hc.below hb0 hg).all
      have s1 : wa.cell? ⟨w.heap.size, 1, none⟩ = some (.int .i64 ix) := hst 1 _ rfl
      have hga : g < wa.heap.size := by omega
      go_wp2_with (go_at_call 75; refine (kind_any _ _ _ _ _ _ _ _ _ _ _ _ _).mono ?_; rintro e w1 ⟨rfl, hb1⟩; have q7 := ((hc.below hb0 hg).below hb1 hga).all.2.2.2.2.2.2.2)
      have hwa : Below w.heap.size w w1 := hb0.trans (hb1.mono hb0.size)
      have hst := hst.below hb1 hsz
      have hg1 : g < w1.heap.size := Nat.lt_of_lt_of_le hga hb1.size
      have hs1 : w.heap.size < w1.heap.size := Nat.lt_of_lt_of_le hsz hb1.size
      have hcw := (hc.below hb0 hg).below hb1 hga
      clear e0 e1 e2 e3 e4 e5 e6 e7 hb0 hb1 s1 hga hsz
      go_loopw [45] (fun ii wr => ∃ j : Nat, j ≤ fs.length ∧ ii = .int .i64 j ∧ Hid (∀ (i : Nat) x, i < j → fs[i]? = some x → nameIs nm x = false) ∧ Below w1.heap.size w1 wr) (fun ii _ => fs.length - (intOf ii).toNat)
      case atStart => exact ⟨0, by omega, rfl, (fun i x hi => by omega), Below.refl _ _⟩
      case round =>
        obtain ⟨j, hj, rfl, hno, hbel⟩ := hrel
        obtain ⟨_, _, _, _, _, _, e6, e7⟩ := (hcw.below hbel hg1).all
        have s0 : wr.cell? ⟨w.heap.size, 0, none⟩ = some (.string nm) := (hst.below hbel hs1) 0 _ rfl
        have hgr0 : g < wr.heap.size := Nat.lt_of_lt_of_le hg1 hbel.size
        have hsr : w.heap.size < wr.heap.size := Nat.lt_of_lt_of_le hs1 hbel.size
        have HWA := Lib.hid hwa
        have HST := Lib.hid hst
        by_cases h3 : j < fs.length
        · obtain ⟨x, hx⟩ : ∃ x, fs[j]? = some x := ⟨fs[j], by simp [h3]⟩
          obtain hf := HF.out
          rcases hf with hf | ⟨gf, of, rfl, hgf, hvs⟩
          · subst hf; simp at h3
          obtain ⟨hnm, _, _, _⟩ := hvs.get hx
          have hbw := hwa.trans (hbel.mono hwa.size)
          have hnm := (hbw.cell (p := ⟨gf, _, none⟩) hgf).trans hnm
          have hgr : gf < wr.heap.size := Nat.lt_of_lt_of_le hgf hbw.size
          have HX := Lib.hid hx
          have HBW := Lib.hid hbw
          clear hx hvs hwa hst hbw hc hcw
          by_cases hnn : x.1.toList = nm.toList
          · have hfin : spotA p (some ⟨gf, of, none⟩) (.mk k b i f t ty its fs) ⟨nm, ix, false⟩ = some ⟨gf, of + j * 9 + 1, none⟩ := by
              simp [spotA, childIx, V.kind, V.fs, hk, findIdx_at HX.out (show nameIs nm x = true by simp [nameIs, hnn]) hno.out, shift, Nat.add_assoc]
            have HFIN := Lib.hid hfin
            have hq : (x.1.toList == nm.toList) = true := by simp [hnn]
            clear hfin hk hnn
            go_wp2
            refine wp_region_plan_below 10 [(0, [0, 1, 2, 3, 4, 5, 6, 7, 8, 9]), (2, [10])] (by kernel_rfl) (by kernel_rfl) (fun _ _ _ _ h => h) ?_
            simp only [wpSegs, pickOps, List.getElem?_toArray, List.getElem?_cons_zero, List.getElem?_cons_succ]
            have kc := cell_cls wr
            repeat (go_big_quiet_step (fail))
            refine wpQuiet_nil ?_
            clear kc
            go_wp2_with fail
            all_goals go_ret
            all_goals exact ⟨ret_eq (by rw [HFIN.out]; rfl), HBW.out.trans ((Below.drew (Below.refl wr.heap.size wr)).mono HBW.out.size)⟩
          · have hq : (x.1.toList == nm.toList) = false := by simp [hnn]
            have HNN := Lib.hid hnn
            clear hnn
            go_wp2
            refine wp_region_plan_below 10 [(0, [0, 1, 2, 3, 4, 5, 6, 7, 8, 9]), (2, [10])] (by kernel_rfl) (by kernel_rfl) (fun _ _ _ _ h => h) ?_
            simp only [wpSegs, pickOps, List.getElem?_toArray, List.getElem?_cons_zero, List.getElem?_cons_succ]
            have kc := cell_cls wr
            repeat (go_big_quiet_step (fail))
            refine wpQuiet_nil ?_
            clear kc
            go_wp2_with fail
            have hbn := hbel.trans ((Below.drew (Below.refl wr.heap.size wr)).mono hbel.size)
            go_roundw
            case rel =>
              refine ⟨j + 1, by omega, by go_num, (fun i y hi hy => ?_), hbn⟩
              by_cases hij : i < j
              · exact hno.out i y hij hy
              · obtain rfl : i = j := by omega
                obtain rfl : x = y := by have := HX.out; rw [this] at hy; simpa using hy
                simp [nameIs, HNN.out]
            case measure => simp [intOf]; omega
        · have hfin : spotA p q (.mk k b i f t ty its fs) ⟨nm, ix, false⟩ = none := by
            simp only [spotA, childIx, V.kind, V.fs, hk]
            rw [findIdx_none (fun i x hx => hno.out i x (by have := (List.getElem?_eq_some_iff.1 hx).1; omega) hx)]
            simp
          have HFIN := Lib.hid hfin
          clear hfin
          go_wp2_with fail
          go_ret
          exact ⟨ret_eq (by rw [HFIN.out]; rfl), hwa.trans (hbel.mono hwa.size)⟩
    · have hr : spotA p q (.mk k b i f t ty its fs) ⟨nm, ix, false⟩ = none := by
        simp [spotA, childIx, V.kind, hk]
      rw [hr]
      clear hr
      go_enter Tryd.func57, Tryd.ntmps57
      go_upto_region 5 with (fail)
      have hb0 : Below w.heap.size w (w.alloc (.cells #[.string nm, .int .i64 ix, .bool false] 34)) := (Below.refl _ _).alloc (Nat.le_refl _) _
      have hst := cellsAt_alloc w #[.string nm, .int .i64 ix, .bool false] 34 (0, 0)
      have hsz : w.heap.size < (w.alloc (.cells #[.string nm, .int .i64 ix, .bool false] 34)).heap.size := by simp
      generalize w.alloc (.cells #[.string nm, .int .i64 ix, .bool false] 34) = wa at *
      obtain ⟨e0, e1, e2, e3, e4, e5, e6, e7⟩ := (hc.below hb0 hg).all
      have s1 : wa.cell? ⟨w.heap.size, 1, none⟩ = some (.int .i64 ix) := hst 1 _ rfl
      have hga : g < wa.heap.size := by omega
      go_wp2_with (go_at_call 75; refine (kind_any _ _ _ _ _ _ _ _ _ _ _ _ _).mono ?_; rintro e w1 ⟨rfl, hb1⟩)
      go_ret
      exact ⟨rfl, hb0.trans (hb1.mono hb0.size)⟩
  · by_cases hk : kd k = 5
    · by_cases h0 : 0 ≤ ix
      · by_cases h1 : ix < its.length
        · obtain ⟨n, rfl⟩ : ∃ n : Nat, ix = n := ⟨ix.toNat, by omega⟩
          have hn : n < its.length := by omega
          obtain hi := HI.out
          rcases hi with hi | ⟨gi, oi, rfl, hgi, hvs⟩
          · subst hi; simp at hn
          have hr : spotA (some ⟨gi, oi, none⟩) q (.mk k b i f t ty its fs) ⟨nm, n, true⟩ = some ⟨gi, oi + n * 8, none⟩ := by
            simp [spotA, childIx, V.kind, V.its, hk, hn, shift]
          rw [hr]
          clear hr h0 h1 hvs
          go_enter Tryd.func57, Tryd.ntmps57
          go_wp2
          have hb0 : Below w.heap.size w (w.alloc (.cells #[.string nm, .int .i64 n, .bool true] 34)) := (Below.refl _ _).alloc (Nat.le_refl _) _
          have hst := cellsAt_alloc w #[.string nm, .int .i64 n, .bool true] 34 (0, 0)
          have hsz : w.heap.size < (w.alloc (.cells #[.string nm, .int .i64 n, .bool true] 34)).heap.size := by simp
          generalize w.alloc (.cells #[.string nm, .int .i64 n, .bool true] 34) = wa at *
          obtain ⟨e0, e1, e2, e3, e4, e5, e6, e7⟩ := (hc.below hb0 hg).all
          have s1 : wa.cell? ⟨w.heap.size, 1, none⟩ = some (.int .i64 n) := hst 1 _ rfl
          have hga : g < wa.heap.size := by omega
          have hgia : gi < wa.heap.size := by omega
          have hd : decide ((n : Int) < 0) = false := by simp
          have hd2 : decide (¬ kd k = 5) = false := by simp [hk]
          have kc := cell_cls wa
          refine wp_region_plan_below 18 [(0, [0, 1, 2]), (1, [3]), (0, [4, 5, 6, 7, 8, 9, 10, 11, 12, 13, 14, 15, 16, 17]), (2, [18, 19])] (by kernel_rfl) (by kernel_rfl) (fun _ _ _ _ h => h) ?_
          simp only [wpSegs, pickOps, List.getElem?_toArray, List.getElem?_cons_zero, List.getElem?_cons_succ]
          repeat (go_big_quiet_step (fail))
          refine wpQuiet_nil ?_
          refine wpListC_plain rfl (fun K hK => ?_)
          go_step
          refine (kind_any _ _ _ _ _ _ _ _ _ _ _ _ _).mono ?_
          rintro e w1 ⟨rfl, hb1⟩
          have hb1 := (Below.drew (Below.refl wa.heap.size wa)).trans hb1
          refine hK _ _ (cls_of_below hb1) ?_
          clear hK K
          refine wpListC_nil ?_
          repeat (go_big_quiet_step (fail))
          refine wpQuiet_nil ?_
          clear kc
          go_wp2
          obtain ⟨e0, e1, e2, e3, e4, e5, e6, e7⟩ := ((hc.below hb0 hg).below hb1 hga).all
          have s1 : w1.cell? ⟨w.heap.size, 1, none⟩ = some (.int .i64 n) := (hst.below hb1 hsz) 1 _ rfl
          have kc := cell_cls w1
          have hga : g < w1.heap.size := Nat.lt_of_lt_of_le hga hb1.size
          have hsz : w.heap.size < w1.heap.size := Nat.lt_of_lt_of_le hsz hb1.size
          refine wp_region_plan_below 7 [(0, [0, 1, 2, 3, 4, 5, 6]), (2, [7])] (by kernel_rfl) (by kernel_rfl) (fun _ _ _ _ h => h) ?_
          simp only [wpSegs, pickOps, List.getElem?_toArray, List.getElem?_cons_zero, List.getElem?_cons_succ]
          repeat (go_big_quiet_step (fail))
          refine wpQuiet_nil ?_
          clear kc
          go_wp2
          go_ret
          exact ⟨rfl, (hb0.trans (hb1.mono hb0.size)).trans ((Below.drew (Below.refl w1.heap.size w1)).mono (by omega))⟩
        · have hr : spotA p q (.mk k b i f t ty its fs) ⟨nm, ix, true⟩ = none := by
            simp [spotA, childIx, V.kind, V.its, hk]
            omega
          rw [hr]
          clear hr
          go_enter Tryd.func57, Tryd.ntmps57
          go_wp2
          have hb0 : Below w.heap.size w (w.alloc (.cells #[.string nm, .int .i64 ix, .bool true] 34)) := (Below.refl _ _).alloc (Nat.le_refl _) _
          have hst := cellsAt_alloc w #[.string nm, .int .i64 ix, .bool true] 34 (0, 0)
          have hsz : w.heap.size < (w.alloc (.cells #[.string nm, .int .i64 ix, .bool true] 34)).heap.size := by simp
          generalize w.alloc (.cells #[.string nm, .int .i64 ix, .bool true] 34) = wa at *
          obtain ⟨e0, e1, e2, e3, e4, e5, e6, e7⟩ := (hc.below hb0 hg).all
          have s1 : wa.cell? ⟨w.heap.size, 1, none⟩ = some (.int .i64 ix) := hst 1 _ rfl
          have hga : g < wa.heap.size := by omega
          have hd : decide (ix < 0) = false := by simp; omega
          have hd2 : decide (¬ kd k = 5) = false := by simp [hk]
          have hd3 : decide ((its.length : Int) ≤ ix) = true := by simp; omega
          have kc := cell_cls wa
          refine wp_region_plan_below 18 [(0, [0, 1, 2]), (1, [3]), (0, [4, 5, 6, 7, 8, 9, 10, 11, 12, 13, 14, 15, 16, 17]), (2, [18, 19])] (by kernel_rfl) (by kernel_rfl) (fun _ _ _ _ h => h) ?_
          simp only [wpSegs, pickOps, List.getElem?_toArray, List.getElem?_cons_zero, List.getElem?_cons_succ]
          repeat (go_big_quiet_step (fail))
          refine wpQuiet_nil ?_
          refine wpListC_plain rfl (fun K hK => ?_)
          go_step
          refine (kind_any _ _ _ _ _ _ _ _ _ _ _ _ _).mono ?_
          rintro e w1 ⟨rfl, hb1⟩
          have hb1 := (Below.drew (Below.refl wa.heap.size wa)).trans hb1
          refine hK _ _ (cls_of_below hb1) ?_
          clear hK K
          refine wpListC_nil ?_
          repeat (go_big_quiet_step (fail))
          refine wpQuiet_nil ?_
          clear kc
          go_wp2
          go_ret
          exact ⟨rfl, hb0.trans (hb1.mono hb0.size)⟩
      · have hr : spotA p q (.mk k b i f t ty its fs) ⟨nm, ix, true⟩ = none := by
          simp [spotA, childIx, V.kind, V.its, hk]
          omega
        rw [hr]
        clear hr
        go_enter Tryd.func57, Tryd.ntmps57
        go_wp2
        have hb0 : Below w.heap.size w (w.alloc (.cells #[.string nm, .int .i64 ix, .bool true] 34)) := (Below.refl _ _).alloc (Nat.le_refl _) _
        have hst := cellsAt_alloc w #[.string nm, .int .i64 ix, .bool true] 34 (0, 0)
        have hsz : w.heap.size < (w.alloc (.cells #[.string nm, .int .i64 ix, .bool true] 34)).heap.size := by simp
        generalize w.alloc (.cells #[.string nm, .int .i64 ix, .bool true] 34) = wa at *
        obtain ⟨e0, e1, e2, e3, e4, e5, e6, e7⟩ := (hc.below hb0 hg).all
        have s1 : wa.cell? ⟨w.heap.size, 1, none⟩ = some (.int .i64 ix) := hst 1 _ rfl
        have hga : g < wa.heap.size := by omega
        have hd : decide (ix < 0) = true := by simp; omega
        have hd2 : decide (¬ kd k = 5) = false := by simp [hk]
        have kc := cell_cls wa
        refine wp_region_plan_below 18 [(0, [0, 1, 2]), (1, [3]), (0, [4, 5, 6, 7, 8, 9, 10, 11, 12, 13, 14, 15, 16, 17]), (2, [18, 19])] (by kernel_rfl) (by kernel_rfl) (fun _ _ _ _ h => h) ?_
        simp only [wpSegs, pickOps, List.getElem?_toArray, List.getElem?_cons_zero, List.getElem?_cons_succ]
        repeat (go_big_quiet_step (fail))
        refine wpQuiet_nil ?_
        refine wpListC_plain rfl (fun K hK => ?_)
        go_step
        refine (kind_any _ _ _ _ _ _ _ _ _ _ _ _ _).mono ?_
        rintro e w1 ⟨rfl, hb1⟩
        have hb1 := (Below.drew (Below.refl wa.heap.size wa)).trans hb1
        refine hK _ _ (cls_of_below hb1) ?_
        clear hK K
        refine wpListC_nil ?_
        repeat (go_big_quiet_step (fail))
        refine wpQuiet_nil ?_
        clear kc
        go_wp2
        go_ret
        exact ⟨rfl, hb0.trans (hb1.mono hb0.size)⟩
    · have hr : spotA p q (.mk k b i f t ty its fs) ⟨nm, ix, true⟩ = none := by
        simp [spotA, childIx, V.kind, V.its, hk]
      rw [hr]
      clear hr
      go_enter Tryd.func57, Tryd.ntmps57
      go_wp2
      have hb0 : Below w.heap.size w (w.alloc (.cells #[.string nm, .int .i64 ix, .bool true] 34)) := (Below.refl _ _).alloc (Nat.le_refl _) _
      have hst := cellsAt_alloc w #[.string nm, .int .i64 ix, .bool true] 34 (0, 0)
      have hsz : w.heap.size < (w.alloc (.cells #[.string nm, .int .i64 ix, .bool true] 34)).heap.size := by simp
      generalize w.alloc (.cells #[.string nm, .int .i64 ix, .bool true] 34) = wa at *
      obtain ⟨e0, e1, e2, e3, e4, e5, e6, e7⟩ := (hc.below hb0 hg).all
      have s1 : wa.cell? ⟨w.heap.size, 1, none⟩ = some (.int .i64 ix) := hst 1 _ rfl
      have hga : g < wa.heap.size := by omega
      have hd2 : (kd k != 5) = true := by simp [hk]
      have hd3 : decide (kd k = 5) = false := by simp [hk]
      have hd4 : (kd k == 5) = false := by simp [hk]
      have kc := cell_cls wa
      refine wp_region_plan_below 18 [(0, [0, 1, 2]), (1, [3]), (0, [4, 5, 6, 7, 8, 9, 10, 11, 12, 13, 14, 15, 16, 17]), (2, [18, 19])] (by kernel_rfl) (by kernel_rfl) (fun _ _ _ _ h => h) ?_
      simp only [wpSegs, pickOps, List.getElem?_toArray, List.getElem?_cons_zero, List.getElem?_cons_succ]
      repeat (go_big_quiet_step (fail))
      refine wpQuiet_nil ?_
      refine wpListC_plain rfl (fun K hK => ?_)
      go_step
      refine (kind_any _ _ _ _ _ _ _ _ _ _ _ _ _).mono ?_
      rintro e w1 ⟨rfl, hb1⟩
      have hb1 := (Below.drew (Below.refl wa.heap.size wa)).trans hb1
      refine hK _ _ (cls_of_below hb1) ?_
      clear hK K
      refine wpListC_nil ?_
      repeat (go_big_quiet_step (fail))
      refine wpQuiet_nil ?_
      clear kc
      go_wp2
      go_ret
      exact ⟨rfl, hb0.trans (hb1.mono hb0.size)⟩
end Go.Proofs.YtnmnmkdmnohbmaaDoor
