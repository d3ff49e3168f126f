/- Helper text: the child to which a step leads: Find of the reference, spot of the program. Conditions: none. -/
import Derived.Test.YtnmnmkdmnohbmaaDoorPlainW
import Derived.Test.YtnmnmkdmnohbmaaDoorOwn
import Derived.Test.YtnmnmkdmnohbmaaDoorUnder
namespace Go.Proofs.YtnmnmkdmnohbmaaDoor
open Go.RowKit
attribute [local go_sem] run_store_float St.cells

def nameIs (n : ByteArray) (x : ByteArray × V) : Bool := x.1.toList == n.toList

/-- Where the child stands among the items or the fields. -/
def childIx (v : V) (s : St) : Option Nat :=
  if s.it then (if kd v.kind = 5 ∧ 0 ≤ s.ix ∧ s.ix < v.its.length then some s.ix.toNat else none)
  else if kd v.kind = 6 then v.fs.findIdx? (nameIs s.nm) else none

def findI (v : V) (s : St) : Int := match childIx v s with
  | some n => n
  | none => -1

def child (v : V) (s : St) : Option V := (childIx v s).bind fun n => if s.it then v.its[n]? else (v.fs[n]?).map (·.2)

theorem findIdx_none {α : Type} {l : List α} {f : α → Bool} (h : ∀ (i : Nat) x, l[i]? = some x → f x = false) : l.findIdx? f = none := by
  rw [List.findIdx?_eq_none_iff]
  intro x hx
  obtain ⟨i, hi⟩ := List.getElem?_of_mem hx
  exact h i x hi

theorem findIdx_at {α : Type} {l : List α} {f : α → Bool} {n : Nat} {x : α} (hx : l[n]? = some x) (h : f x = true) (h' : ∀ (i : Nat) y, i < n → l[i]? = some y → f y = false) : l.findIdx? f = some n := by
  obtain ⟨hn, rfl⟩ := List.getElem?_eq_some_iff.1 hx
  rw [List.findIdx?_eq_some_iff_getElem]
  refine ⟨hn, h, fun j hj => ?_⟩
  have := h' j _ hj (List.getElem?_eq_getElem (by omega))
  simp [this]

theorem cells_two (w : World) (A B : Array Value) (s t : TypeId) :
    (∀ w1, Below ((w.alloc (.cells A s)).alloc (.cells B t)).heap.size ((w.alloc (.cells A s)).alloc (.cells B t)) w1 → CellsAt w1 w.heap.size 0 A) ∧
    (∀ w1, Below ((w.alloc (.cells A s)).alloc (.cells B t)).heap.size ((w.alloc (.cells A s)).alloc (.cells B t)) w1 → CellsAt w1 (w.heap.size + 1) 0 B) := by
  refine ⟨fun w1 hb => ?_, fun w1 hb => ?_⟩
  · exact ((cellsAt_alloc w _ _ _).below ((Below.refl _ _).alloc (Nat.le_refl _) _) (by simp)).below hb (by simp; omega)
  · have := cellsAt_alloc (w.alloc (.cells A s)) B t (0, 0)
    rw [World.size_alloc] at this
    exact this.below hb (by simp)

set_option maxRecDepth 100000 in
set_option maxHeartbeats 1000000 in
theorem refFind_any (v : V) (s : St) (cs : Array Value) (w : World) (hv : IsV w.heap.size w v cs) :
    Calls Tryd.prog 56 #[.agg cs, .agg s.cells] w (RetB (.int .i64 (findI v s)) w) := by
  obtain ⟨k, b, i, f, t, ty, its, fs⟩ := v
  obtain ⟨p, c, q, d, rfl, hi, hf, l1, l2⟩ := hv
  obtain ⟨nm, ix, it⟩ := s
  unfold lenMax at l1 l2
  have HI := Lib.hid hi
  have HF := Lib.hid hf
  clear hi hf
  cases it
  · by_cases hk : kd k = 6
    · go_enter Tryd.func56, Tryd.ntmps56
      go_wp2_with (go_at_call 86; refine (refkind_any _ _ _ _ _ _ _ _ _ _ _ _ _).mono ?_; rintro e w1 ⟨rfl, hb1⟩)
      have hwa : Below w.heap.size w w1 := (((Below.refl _ _).alloc (Nat.le_refl _) _).alloc (by simp) _).trans (hb1.mono (by simp; omega))
      have hal : CellsAt w1 w.heap.size 0 (vcells k b i f t ty p its.length c q fs.length d) :=
        ((cellsAt_alloc w _ _ _).below ((Below.refl _ _).alloc (Nat.le_refl _) _) (by simp)).below hb1 (by simp; omega)
      have hst : CellsAt w1 (w.heap.size + 1) 0 #[.string nm, .int .i64 ix, .bool false] := by
        have := cellsAt_alloc (w.alloc (.cells (vcells k b i f t ty p its.length c q fs.length d) 27)) #[.string nm, .int .i64 ix, .bool false] 34 (0, 0)
        rw [World.size_alloc] at this
        exact this.below hb1 (by simp)
      have hsz : w.heap.size + 1 + 1 ≤ w1.heap.size := by have := hb1.size; simpa using this
      have HSZ := Lib.hid hsz
      clear hb1 hsz
      go_loopw [5] (fun ii wr => ∃ j : Nat, j ≤ fs.length ∧ ii = .int .i64 j ∧ Hid (∀ (i : Nat) x, i < j → fs[i]? = some x → nameIs nm x = false) ∧ Below w1.heap.size w1 wr) (fun ii _ => fs.length - (intOf ii).toNat)
      case atStart => exact ⟨0, by omega, rfl, (fun i x hi => by omega), Below.refl _ _⟩
      case round =>
        obtain ⟨j, hj, rfl, hno, hbel⟩ := hrel
        obtain ⟨_, _, _, _, _, _, e6, e7⟩ := (hal.below hbel (by have := HSZ.out; omega)).all0
        have s0 : wr.cell? ⟨w.heap.size + 1, 0, none⟩ = some (.string nm) := (hst.below hbel (by have := HSZ.out; omega)) 0 _ rfl
        have hs0 : w.heap.size < wr.heap.size := by have := HSZ.out; have := hbel.size; omega
        have hs1 : w.heap.size + 1 < wr.heap.size := by have := HSZ.out; have := hbel.size; omega
        by_cases h3 : j < fs.length
        · obtain ⟨x, hx⟩ : ∃ x, fs[j]? = some x := ⟨fs[j], by simp [h3]⟩
          obtain hf := HF.out
          rcases hf with hf | ⟨g, o, rfl, hg, hvs⟩
          · subst hf; simp at h3
          obtain ⟨hnm, _, _, _⟩ := hvs.get hx
          have hbw := hwa.trans (hbel.mono hwa.size)
          have hnm := (hbw.cell (p := ⟨g, _, none⟩) hg).trans hnm
          have hgr : g < wr.heap.size := Nat.lt_of_lt_of_le hg hbw.size
          have HX := Lib.hid hx
          have HBW := Lib.hid hbw
          clear hx hvs hal hwa hst hbw
          by_cases hnn : x.1.toList = nm.toList
          · have hfin : findI (.mk k b i f t ty its fs) ⟨nm, ix, false⟩ = j := by
              simp [findI, childIx, V.kind, V.fs, hk, findIdx_at HX.out (show nameIs nm x = true by simp [nameIs, hnn]) hno.out]
            have HFIN := Lib.hid hfin
            have hq : (x.1.toList == nm.toList) = true := by simp [hnn]
            clear hfin hk hnn
            go_wp2
            refine wp_region_plan_below 8 [(0, [0, 1, 2, 3, 4, 5, 6, 7]), (2, [8])] (by kernel_rfl) (by kernel_rfl) (fun _ _ _ _ h => h) ?_
            simp only [wpSegs, pickOps, List.getElem?_toArray, List.getElem?_cons_zero, List.getElem?_cons_succ]
            have kc := cell_cls wr
            repeat (go_big_quiet_step (fail))
            refine wpQuiet_nil ?_
            clear kc
            go_wp2_with fail
            go_ret
            exact ⟨ret_eq (by rw [HFIN.out]; rfl), HBW.out.trans ((Below.drew (Below.refl wr.heap.size wr)).mono HBW.out.size)⟩
          · have hq : (x.1.toList == nm.toList) = false := by simp [hnn]
            have HNN := Lib.hid hnn
            clear hnn
            go_wp2
            refine wp_region_plan_below 8 [(0, [0, 1, 2, 3, 4, 5, 6, 7]), (2, [8])] (by kernel_rfl) (by kernel_rfl) (fun _ _ _ _ h => h) ?_
            simp only [wpSegs, pickOps, List.getElem?_toArray, List.getElem?_cons_zero, List.getElem?_cons_succ]
            have kc := cell_cls wr
            repeat (go_big_quiet_step (fail))
            refine wpQuiet_nil ?_
            clear kc
            go_wp2_with fail
            have hbn := hbel.trans ((Below.drew (Below.refl wr.heap.size wr)).mono hbel.size)
            go_roundw
            case rel =>
              refine ⟨j + 1, by omega, by go_num, (fun i y hi hy => ?_), hbn⟩
              by_cases hij : i < j
              · exact hno.out i y hij hy
              · obtain rfl : i = j := by omega
                obtain rfl : x = y := by have := HX.out; rw [this] at hy; simpa using hy
                simp [nameIs, HNN.out]
            case measure => simp [intOf]; omega
        · have hfin : findI (.mk k b i f t ty its fs) ⟨nm, ix, false⟩ = -1 := by
            simp only [findI, childIx, V.kind, V.fs, hk]
            rw [findIdx_none (fun i x hx => hno.out i x (by have := (List.getElem?_eq_some_iff.1 hx).1; omega) hx)]
            simp
          have HFIN := Lib.hid hfin
          clear hfin
          go_wp2_with fail
          go_ret
          exact ⟨ret_eq (by rw [HFIN.out]; rfl), hwa.trans (hbel.mono hwa.size)⟩
    · have hr : findI (.mk k b i f t ty its fs) ⟨nm, ix, false⟩ = -1 := by simp [findI, childIx, V.kind, hk]
      rw [hr]
      clear hr
      go_enter Tryd.func56, Tryd.ntmps56
      go_wp2_with (go_at_call 86; refine (refkind_any _ _ _ _ _ _ _ _ _ _ _ _ _).mono ?_; rintro e w1 ⟨rfl, hb1⟩)
      go_ret
      exact ⟨rfl, (((Below.refl _ _).alloc (Nat.le_refl _) _).alloc (by simp) _).trans (hb1.mono (by simp; omega))⟩
  · have hr : findI (.mk k b i f t ty its fs) ⟨nm, ix, true⟩ = if kd k = 5 ∧ 0 ≤ ix ∧ ix < its.length then ix else -1 := by
      simp only [findI, childIx, V.kind, V.its]
      by_cases hc : kd k = 5 ∧ 0 ≤ ix ∧ ix < its.length
      · simp [hc]
        omega
      · simp [hc]
    rw [hr]
    clear hr
    by_cases hk : kd k = 5
    · by_cases h0 : 0 ≤ ix
      · by_cases h1 : ix < its.length
        · rw [if_pos ⟨hk, h0, h1⟩]
          go_enter Tryd.func56, Tryd.ntmps56
          go_wp2_with (go_at_call 86; refine (refkind_any _ _ _ _ _ _ _ _ _ _ _ _ _).mono ?_; rintro e w1 ⟨rfl, hb1⟩; have q1 := (cells_two w (vcells k b i f t ty p its.length c q fs.length d) #[.string nm, .int .i64 ix, .bool true] 27 34).2 _ hb1 1 _ rfl; have q6 := (cells_two w (vcells k b i f t ty p its.length c q fs.length d) #[.string nm, .int .i64 ix, .bool true] 27 34).1 _ hb1 6 _ rfl; try simp only [Nat.zero_add] at q1 q6)
          go_ret
          exact ⟨rfl, (((Below.refl _ _).alloc (Nat.le_refl _) _).alloc (by simp) _).trans (hb1.mono (by simp; omega))⟩
        · rw [if_neg (by omega)]
          go_enter Tryd.func56, Tryd.ntmps56
          go_wp2_with (go_at_call 86; refine (refkind_any _ _ _ _ _ _ _ _ _ _ _ _ _).mono ?_; rintro e w1 ⟨rfl, hb1⟩; have q1 := (cells_two w (vcells k b i f t ty p its.length c q fs.length d) #[.string nm, .int .i64 ix, .bool true] 27 34).2 _ hb1 1 _ rfl; have q6 := (cells_two w (vcells k b i f t ty p its.length c q fs.length d) #[.string nm, .int .i64 ix, .bool true] 27 34).1 _ hb1 6 _ rfl; try simp only [Nat.zero_add] at q1 q6)
          go_ret
          exact ⟨rfl, (((Below.refl _ _).alloc (Nat.le_refl _) _).alloc (by simp) _).trans (hb1.mono (by simp; omega))⟩
      · rw [if_neg (by omega)]
        go_enter Tryd.func56, Tryd.ntmps56
        go_wp2_with (go_at_call 86; refine (refkind_any _ _ _ _ _ _ _ _ _ _ _ _ _).mono ?_; rintro e w1 ⟨rfl, hb1⟩; have q1 := (cells_two w (vcells k b i f t ty p its.length c q fs.length d) #[.string nm, .int .i64 ix, .bool true] 27 34).2 _ hb1 1 _ rfl; have q6 := (cells_two w (vcells k b i f t ty p its.length c q fs.length d) #[.string nm, .int .i64 ix, .bool true] 27 34).1 _ hb1 6 _ rfl; try simp only [Nat.zero_add] at q1 q6)
        go_ret
        exact ⟨rfl, (((Below.refl _ _).alloc (Nat.le_refl _) _).alloc (by simp) _).trans (hb1.mono (by simp; omega))⟩
    · rw [if_neg (by omega)]
      go_enter Tryd.func56, Tryd.ntmps56
      go_wp2_with (go_at_call 86; refine (refkind_any _ _ _ _ _ _ _ _ _ _ _ _ _).mono ?_; rintro e w1 ⟨rfl, hb1⟩; have q1 := (cells_two w (vcells k b i f t ty p its.length c q fs.length d) #[.string nm, .int .i64 ix, .bool true] 27 34).2 _ hb1 1 _ rfl; have q6 := (cells_two w (vcells k b i f t ty p its.length c q fs.length d) #[.string nm, .int .i64 ix, .bool true] 27 34).1 _ hb1 6 _ rfl; try simp only [Nat.zero_add] at q1 q6)
      go_ret
      exact ⟨rfl, (((Below.refl _ _).alloc (Nat.le_refl _) _).alloc (by simp) _).trans (hb1.mono (by simp; omega))⟩
end Go.Proofs.YtnmnmkdmnohbmaaDoor
