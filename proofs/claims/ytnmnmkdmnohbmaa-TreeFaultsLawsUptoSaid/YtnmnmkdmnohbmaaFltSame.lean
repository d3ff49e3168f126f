/- The reference's SameFault and SameFaults. Conditions: none. -/
import Derived.Test.YtnmnmkdmnohbmaaFltRef
namespace Go.Proofs.Ytnmnmkdmnohbmaa
open Go.RowKit

/-- A list of faults in memory. -/
def FsAt (B : Nat) (w : World) (p : Option Addr) (l : List LF) : Prop :=
  (l = [] ∨ ∃ b o, p = some ⟨b, o, none⟩ ∧ b < B ∧ ∀ i x, l[i]? = some x → w.cell? ⟨b, o + i * 3, none⟩ = some (.int .i64 x.f.k) ∧ w.cell? ⟨b, o + i * 3 + 1, none⟩ = some x.pv ∧ w.cell? ⟨b, o + i * 3 + 2, none⟩ = some x.qv) ∧ ∀ x ∈ l, LOk B w x

theorem FsAt.below {B : Nat} {w w' : World} {p : Option Addr} {l : List LF} (h : FsAt B w p l) (hb : Below B w w') : FsAt B w' p l := by
  refine ⟨?_, fun x hx => (h.2 x hx).below hb⟩
  rcases h.1 with h | ⟨b, o, rfl, hB, hc⟩
  · exact .inl h
  · refine .inr ⟨b, o, rfl, hB, fun i s hs => ?_⟩
    obtain ⟨h1, h2, h3⟩ := hc i s hs
    exact ⟨(hb.cell (p := ⟨b, _, none⟩) hB).trans h1, (hb.cell (p := ⟨b, _, none⟩) hB).trans h2, (hb.cell (p := ⟨b, _, none⟩) hB).trans h3⟩
theorem FsAt.up {B B' : Nat} {w : World} {p : Option Addr} {l : List LF} (h : FsAt B w p l) (hB : B ≤ B') : FsAt B' w p l := by
  refine ⟨?_, fun x hx => (h.2 x hx).mono hB⟩
  rcases h.1 with h | ⟨b, o, rfl, hb, hc⟩
  · exact .inl h
  · exact .inr ⟨b, o, rfl, Nat.lt_of_lt_of_le hb hB, hc⟩

theorem fl_eq {x y : Fl} : x = y ↔ x.k = y.k ∧ lexL cmpPos1 x.pos y.pos = 0 ∧ x.path = y.path := by
  obtain ⟨k, p, q⟩ := x
  obtain ⟨k2, p2, q2⟩ := y
  simp [lexL_refl_eq (fun _ _ => cmpPos1_zero)]

set_option maxRecDepth 100000 in
set_option maxHeartbeats 2000000 in
theorem SameFault_any (x y : LF) (B : Nat) (w : World) (hx : LOk B w x) (hy : LOk B w y) (hB : B ≤ w.heap.size) :
    Calls Try.prog 51 #[.agg x.cells, .agg y.cells] w (fun e w' => ∃ r : Bool, e = .returned (.bool r) ∧ (r = true ↔ x.f = y.f) ∧ Below w.heap.size w w') := by
  obtain ⟨⟨k, pos, path⟩, pv, qv⟩ := x
  obtain ⟨⟨k', pos', path'⟩, pv', qv'⟩ := y
  obtain ⟨⟨p, c, h1, h2, h3⟩, q, d, h4, h5, h6⟩ := hx
  obtain ⟨⟨p', c', h1', h2', h3'⟩, q', d', h4', h5', h6'⟩ := hy
  dsimp only at *
  subst h1 h4 h1' h4'
  have hfe : (Fl.mk k pos path = Fl.mk k' pos' path') ↔ k = k' ∧ lexL cmpPos1 pos pos' = 0 ∧ path = path' := fl_eq
  by_cases hk : k = k'
  · subst hk
    have C1 : Hid (∀ W, Below w.heap.size w W → Calls Try.prog 78 #[.slice p pos.length c, .slice p' pos'.length c'] W (RetB (.int .i64 (lexL cmpPos1 pos pos')) W)) := Lib.hid (fun W h => comparePos_any pos pos' p p' c c' W ((h2.up hB).below h |>.up h.size) ((h2'.up hB).below h |>.up h.size) h3 h3')
    have C2 : Hid (∀ W, Below w.heap.size w W → Calls Try.prog 79 #[.slice q path.length d, .slice q' path'.length d'] W (fun e w' => ∃ r : Bool, e = .returned (.bool r) ∧ (r = true ↔ path = path') ∧ Below W.heap.size W w')) := Lib.hid (fun W h => SameSteps_any path path' q q' d d' W ((h5.up hB).below h |>.up h.size) ((h5'.up hB).below h |>.up h.size) h6 h6')
    have HFE := Lib.hid hfe
    clear h2 h5 h2' h5' h3 h6 h3' h6' hfe
    generalize lexL cmpPos1 pos pos' = r at *
    have hbb : Below w.heap.size w ((w.alloc (.cells #[.int .i64 k, .slice p pos.length c, .slice q path.length d] 91)).alloc (.cells #[.int .i64 k, .slice p' pos'.length c', .slice q' path'.length d'] 91)) := ((Below.refl _ _).alloc (Nat.le_refl _) _).alloc (by simp) _
    have hcx : ((w.alloc (.cells #[.int .i64 k, .slice p pos.length c, .slice q path.length d] 91)).alloc (.cells #[.int .i64 k, .slice p' pos'.length c', .slice q' path'.length d'] 91)).heap[w.heap.size]? = some (.cells #[.int .i64 k, .slice p pos.length c, .slice q path.length d] 91 (0, 0)) := by
      rw [Below.heap_alloc _ _ _ (by simp)]
      exact heap_new w _
    have hcy : ((w.alloc (.cells #[.int .i64 k, .slice p pos.length c, .slice q path.length d] 91)).alloc (.cells #[.int .i64 k, .slice p' pos'.length c', .slice q' path'.length d'] 91)).heap[w.heap.size + 1]? = some (.cells #[.int .i64 k, .slice p' pos'.length c', .slice q' path'.length d'] 91 (0, 0)) := by
      have := heap_new (w.alloc (.cells #[.int .i64 k, .slice p pos.length c, .slice q path.length d] 91)) (.cells #[.int .i64 k, .slice p' pos'.length c', .slice q' path'.length d'] 91)
      rwa [World.size_alloc] at this
    have hsz : ((w.alloc (.cells #[.int .i64 k, .slice p pos.length c, .slice q path.length d] 91)).alloc (.cells #[.int .i64 k, .slice p' pos'.length c', .slice q' path'.length d'] 91)).heap.size = w.heap.size + 1 + 1 := by simp
    have HBB := Lib.hid hbb
    have HCX : Hid (∀ w1, Below (w.heap.size + 1 + 1) ((w.alloc (.cells #[.int .i64 k, .slice p pos.length c, .slice q path.length d] 91)).alloc (.cells #[.int .i64 k, .slice p' pos'.length c', .slice q' path'.length d'] 91)) w1 → w1.cell? ⟨w.heap.size, 2, none⟩ = some (.slice q path.length d) ∧ w1.cell? ⟨w.heap.size + 1, 2, none⟩ = some (.slice q' path'.length d') ∧ Below w.heap.size w w1) := Lib.hid (fun w1 hg => by
      have h1 := (hg.block _ (by omega)).trans hcx
      have h2 := (hg.block _ (by omega)).trans hcy
      exact ⟨by simp [World.cell?, h1], by simp [World.cell?, h2], hbb.trans (hg.mono (by omega))⟩)
    clear hbb hcx hcy hsz
    by_cases hr : r = 0
    · subst hr
      go_enter Try.func51, Try.ntmps51
      go_wp2_with (first
        | (go_at_call 78; refine (C1.out _ HBB.out).mono ?_; rintro e w1 ⟨rfl, hg1⟩; rw [World.size_alloc, World.size_alloc] at hg1; obtain ⟨qx, qy, hbw⟩ := HCX.out _ hg1; have HBW := Lib.hid hbw; clear hg1 hbw)
        | (go_at_call 79; refine (C2.out _ HBW.out).mono ?_; rintro e w2 ⟨r, rfl, hr, hg2⟩; have HG2 := Lib.hid hg2; have HR := Lib.hid hr; clear hg2 hr))
      go_ret
      exact ⟨r, rfl, by rw [HR.out, HFE.out]; simp, HBW.out.trans (HG2.out.mono HBW.out.size)⟩
    · have hr' : (r == 0) = false := by simp [hr]
      have hr2 : decide (r = 0) = false := decide_eq_false hr
      go_enter Try.func51, Try.ntmps51
      go_wp2_with (first
        | (go_at_call 78; refine (C1.out _ HBB.out).mono ?_; rintro e w1 ⟨rfl, hg1⟩; rw [World.size_alloc, World.size_alloc] at hg1; obtain ⟨qx, qy, hbw⟩ := HCX.out _ hg1; have HBW := Lib.hid hbw; clear hg1 hbw))
      go_ret
      exact ⟨false, rfl, by rw [HFE.out]; simp [hr], HBW.out⟩
  · have hk' : (k == k') = false := by simp [hk]
    have hk2 : decide (k = k') = false := decide_eq_false hk
    have HFE := Lib.hid hfe
    clear h2 h5 h2' h5' hfe
    go_enter Try.func51, Try.ntmps51
    go_wp2
    go_ret
    exact ⟨false, rfl, by rw [HFE.out]; simp [hk], ((Below.refl _ _).alloc (Nat.le_refl _) _).alloc (by simp) _⟩

theorem map_f_eq {a b : List LF} (hl : a.length = b.length) (h : ∀ (i : Nat) x y, a[i]? = some x → b[i]? = some y → x.f = y.f) : a.map LF.f = b.map LF.f := by
  refine List.ext_getElem? (fun i => ?_)
  rw [List.getElem?_map, List.getElem?_map]
  cases hx : a[i]? with
  | none => rw [List.getElem?_eq_none (by have := List.getElem?_eq_none_iff.1 hx; omega)]
  | some x =>
    obtain ⟨y, hy⟩ : ∃ y, b[i]? = some y := ⟨_, List.getElem?_eq_getElem (by have := (List.getElem?_eq_some_iff.1 hx).1; omega)⟩
    rw [hy]
    simp [h i x y hx hy]

set_option maxRecDepth 100000 in
set_option maxHeartbeats 2000000 in
theorem SameFaults_any (a b : List LF) (p q : Option Addr) (c d : Nat) (w : World) (ha : FsAt w.heap.size w p a) (hb : FsAt w.heap.size w q b) (la : a.length ≤ big) (lb : b.length ≤ big) :
    Calls Try.prog 52 #[.slice p a.length c, .slice q b.length d] w (fun e w' => ∃ r : Bool, e = .returned (.bool r) ∧ (r = true ↔ a.map LF.f = b.map LF.f) ∧ Below w.heap.size w w') := by
  unfold big at la lb
  by_cases hlen : a.length = b.length
  · have HLEN := Lib.hid hlen
    have hd5 : ((a.length : Int) != (b.length : Int)) = false := by simp [hlen]
    clear hlen
    go_enter Try.func52, Try.ntmps52
    go_wp2
    clear hd5
    go_loopw [5] (fun i wr => ∃ k : Nat, k ≤ a.length ∧ i = .int .i64 k ∧ Hid (∀ (i : Nat) x y, i < k → a[i]? = some x → b[i]? = some y → x.f = y.f) ∧ Hid (Below w.heap.size w wr)) (fun i _ => a.length - (intOf i).toNat)
    case atStart => exact ⟨0, Nat.zero_le _, rfl, Lib.hid (fun _ _ _ h => absurd h (by omega)), Lib.hid (Below.refl _ _)⟩
    case round =>
      obtain ⟨k, hka, rfl, hcmp, HBwr⟩ := hrel
      by_cases h1 : k < a.length
      · have h2 : k < b.length := by have := HLEN.out; omega
        obtain ⟨x, hx⟩ : ∃ x, a[k]? = some x := ⟨a[k], by simp [h1]⟩
        obtain ⟨y, hy⟩ : ∃ y, b[k]? = some y := ⟨b[k], by simp [h2]⟩
        have okx := (ha.2 x (List.mem_of_getElem? hx)).below HBwr.out
        have oky := (hb.2 y (List.mem_of_getElem? hy)).below HBwr.out
        rcases ha.1 with ha | ⟨ba, oa, rfl, hBa, hca⟩
        · subst ha; simp at h1
        rcases hb.1 with hb | ⟨bb, ob, rfl, hBb, hcb⟩
        · subst hb; simp at h2
        obtain ⟨a1, a2, a3⟩ := hca k x hx
        obtain ⟨b1, b2, b3⟩ := hcb k y hy
        have a1 := (HBwr.out.cell (p := ⟨ba, oa + k * 3, none⟩) hBa).trans a1
        have a2 := (HBwr.out.cell (p := ⟨ba, oa + k * 3 + 1, none⟩) hBa).trans a2
        have a3 := (HBwr.out.cell (p := ⟨ba, oa + k * 3 + 2, none⟩) hBa).trans a3
        have b1 := (HBwr.out.cell (p := ⟨bb, ob + k * 3, none⟩) hBb).trans b1
        have b2 := (HBwr.out.cell (p := ⟨bb, ob + k * 3 + 1, none⟩) hBb).trans b2
        have b3 := (HBwr.out.cell (p := ⟨bb, ob + k * 3 + 2, none⟩) hBb).trans b3
        have hw1 : ba < wr.heap.size := Nat.lt_of_lt_of_le hBa HBwr.out.size
        have hw2 : bb < wr.heap.size := Nat.lt_of_lt_of_le hBb HBwr.out.size
        have C1 : Hid (∀ W, Below wr.heap.size wr W → Calls Try.prog 51 #[.agg x.cells, .agg y.cells] W (fun e w' => ∃ r : Bool, e = .returned (.bool r) ∧ (r = true ↔ x.f = y.f) ∧ Below W.heap.size W w')) := Lib.hid (fun W h => SameFault_any x y w.heap.size W (okx.below (h.mono HBwr.out.size)) (oky.below (h.mono HBwr.out.size)) (Nat.le_trans HBwr.out.size h.size))
        have HX := Lib.hid hx
        have HY := Lib.hid hy
        have HA := Lib.hid ha
        have HB := Lib.hid hb
        obtain ⟨⟨p1, c1, e1, _⟩, q1, d1, e2, _⟩ := okx
        obtain ⟨⟨p2, c2, e3, _⟩, q2, d2, e4, _⟩ := oky
        rw [e1] at a2
        rw [e2] at a3
        rw [e3] at b2
        rw [e4] at b3
        unfold LF.cells at C1
        rw [e1, e2, e3, e4] at C1
        clear hca hcb hx hy ha hb e1 e2 e3 e4
        go_wp2
        refine wp_region_plan_below 8 [(0, [0, 1, 2, 3, 4, 5, 6, 7]), (2, [8, 9])] (by kernel_rfl) (by kernel_rfl) (fun _ _ _ _ h => h) ?_
        simp only [wpSegs, pickOps, List.getElem?_toArray, List.getElem?_cons_zero, List.getElem?_cons_succ]
        have kc := cell_cls wr
        iterate 8 (go_big_quiet_step (fail))
        refine wpQuiet_nil ?_
        clear kc
        go_wp2_with (go_at_call 51; refine (C1.out _ (Below.drew (Below.refl _ _))).mono ?_; rintro e w3 ⟨r, rfl, hr, hb3⟩; have HR := Lib.hid hr; have HB3 := Lib.hid hb3; clear hr hb3; cases r)
        · go_ret
          exact ⟨false, rfl, by
            constructor
            · intro h; cases h
            · intro h
              have := congrArg (fun l => l[k]?) h
              simp only [List.getElem?_map, HX.out, HY.out, Option.map_some, Option.some.injEq] at this
              exact HR.out.2 this, HBwr.out.trans (((Below.drew (Below.refl wr.heap.size wr)).trans HB3.out).mono HBwr.out.size)⟩
        · go_roundw
          case rel =>
            refine ⟨k + 1, by omega, by go_num, Lib.hid (fun i x' y' hi hx' hy' => ?_), Lib.hid (HBwr.out.trans (((Below.drew (Below.refl wr.heap.size wr)).trans HB3.out).mono HBwr.out.size))⟩
            by_cases hik : i = k
            · subst hik
              rw [HX.out] at hx'
              rw [HY.out] at hy'
              cases hx'
              cases hy'
              exact HR.out.1 (by first | rfl | trivial)
            · exact hcmp.out i x' y' (by omega) hx' hy'
          case measure => simp [intOf]; omega
      · have HALL := Lib.hid (map_f_eq HLEN.out (fun i x y hx hy => hcmp.out i x y (by have := (List.getElem?_eq_some_iff.1 hx).1; omega) hx hy))
        go_wp2
        go_ret
        exact ⟨true, rfl, by simp [HALL.out], HBwr.out⟩
  · have hne : ¬ a.map LF.f = b.map LF.f := fun e => hlen (by have := congrArg List.length e; simpa using this)
    have HN := Lib.hid hne
    have hd5 : ((a.length : Int) != (b.length : Int)) = true := by simp [hlen]; omega
    clear hne
    go_enter Try.func52, Try.ntmps52
    go_wp2
    go_ret
    exact ⟨false, rfl, by simp [HN.out], Below.refl _ _⟩
end Go.Proofs.Ytnmnmkdmnohbmaa
