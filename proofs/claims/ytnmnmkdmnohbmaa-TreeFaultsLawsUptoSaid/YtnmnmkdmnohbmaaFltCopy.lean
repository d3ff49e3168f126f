/- The reference's copy of a fault. Conditions: none. -/
import Derived.Test.YtnmnmkdmnohbmaaFltSame
import Derived.Test.YtnmnmkdmnohbmaaOwn
import Derived.Test.YtnmnmkdmnohbmaaCopy
import Derived.Test.YtnmnmkdmnohbmaaFree
namespace Go.Proofs.Ytnmnmkdmnohbmaa
open Go.RowKit

def cleanF (x : Fl) : Fl := ⟨x.k, x.pos, x.path.map bareS⟩

def posC (l : List (Int × Int)) : List Value := l.flatMap (fun r => [.int .i64 r.1, .int .i64 r.2])
def stC (l : List St) : List Value := l.flatMap (fun s => s.cells.toList)

theorem posC_at : ∀ (l : List (Int × Int)) (j : Nat) (r : Int × Int), l[j]? = some r → (posC l)[j * 2]? = some (.int .i64 r.1) ∧ (posC l)[j * 2 + 1]? = some (.int .i64 r.2)
  | [], _, _, h => by simp at h
  | a :: t, 0, r, h => by
    obtain rfl : a = r := by simpa using h
    exact ⟨rfl, rfl⟩
  | a :: t, j + 1, r, h => by
    have := posC_at t j r (by simpa using h)
    rw [show (j + 1) * 2 = j * 2 + 2 by omega]
    exact this
theorem stC_at : ∀ (l : List St) (j : Nat) (s : St), l[j]? = some s → (stC l)[j * 3]? = some (.string s.nm) ∧ (stC l)[j * 3 + 1]? = some (.int .i64 s.ix) ∧ (stC l)[j * 3 + 2]? = some (.bool s.it)
  | [], _, _, h => by simp at h
  | a :: t, 0, r, h => by
    obtain rfl : a = r := by simpa using h
    exact ⟨rfl, rfl, rfl⟩
  | a :: t, j + 1, r, h => by
    have := stC_at t j r (by simpa using h)
    rw [show (j + 1) * 3 = j * 3 + 3 by omega]
    exact this

theorem stC_app (l : List St) (s : List St) : stC (l ++ s) = stC l ++ stC s := by simp [stC]
theorem grown_sr (w : World) (g : Nat) (cs : Array Value) : w.grownBy (w.setRow g cs) (some g) :=
  ⟨rfl, rfl, rfl, by simp, fun k _ hk => setRow_other w g k cs (fun e => hk (by rw [e]))⟩
theorem grown_ofb {w w' : World} (h : Below w.heap.size w w') (row : Option Nat) : w.grownBy w' row := ⟨h.os, h.tape, h.output, h.size, fun k hk _ => h.block k hk⟩
theorem grown_sc (w : World) (a : Addr) (v : Value) : w.grownBy (w.setCell a v) (some a.block) :=
  ⟨rfl, rfl, rfl, by simp [World.setCell], fun k _ hk => Below.heap_setCell w a v k (fun e => hk (by rw [e]))⟩
theorem row_cells0 {w : World} {B : Nat} {e : TypeId} {sz n g : Nat} {v : Value} {xs : List Value} (h : w.ownsRow B e sz v n xs) (hg : v.ownBlock = some g) : ∃ cur, w.heap[g]? = some (.cells cur e (0, 0)) := by
  rcases h.2 with ⟨rfl, _⟩ | ⟨g', cap, cur, rfl, _, hh, _⟩
  · cases hg
  · cases hg
    exact ⟨cur, hh⟩
theorem row_apart {w : World} {B B' : Nat} {e e' : TypeId} {sz sz' n n' : Nat} {v v' : Value} {xs xs' : List Value} (h : w.ownsRow B e sz v n xs) (h' : w.ownsRow B' e' sz' v' n' xs') (hne : e ≠ e') : v.ownBlock = none ∨ v.ownBlock ≠ v'.ownBlock := by
  cases hv : v.ownBlock with
  | none => exact .inl rfl
  | some g =>
    refine .inr (fun e1 => ?_)
    obtain ⟨c1, h1⟩ := row_cells0 h hv
    obtain ⟨c2, h2⟩ := row_cells0 h' e1.symm
    rw [h1] at h2
    cases h2
    exact hne rfl
theorem rowAt1 {w : World} {B : Nat} {e : TypeId} {sz n : Nat} {v : Value} {xs : List Value} (h : w.ownsRow B e sz v n xs) (hn : 0 < n) :
    ∃ g cap, v = .slice (some ⟨g, 0, none⟩) n cap ∧ B ≤ g ∧ g < w.heap.size ∧ ∀ i u, xs[i]? = some u → w.cell? ⟨g, i, none⟩ = some u := by
  rcases h.2 with ⟨_, h0⟩ | ⟨g, cap, cur, hv, hb, hh, hn', hc, hs, ht⟩
  · omega
  · refine ⟨g, cap, hv, hb, (Array.getElem?_eq_some_iff.1 hh).1, fun i u hu => ?_⟩
    rw [← ht, List.getElem?_take] at hu
    split at hu
    · simp only [World.cell?, hh]
      simpa using hu
    · cases hu
theorem row_shape {w : World} {B : Nat} {e : TypeId} {sz n : Nat} {v : Value} {xs : List Value} (h : w.ownsRow B e sz v n xs) : ∃ p c, v = .slice p n c := by
  rcases h.2 with ⟨rfl, rfl⟩ | ⟨g, cap, cur, rfl, _⟩
  · exact ⟨_, _, rfl⟩
  · exact ⟨_, _, rfl⟩

theorem posAt_row {w : World} {B : Nat} {v : Value} {l : List (Int × Int)} (h : w.ownsRow B 88 2 v l.length (posC l)) : ∃ p c, v = .slice p l.length c ∧ PosAt w.heap.size w p l := by
  by_cases hl : 0 < l.length
  · obtain ⟨g, cap, rfl, hb, hg, hc⟩ := rowAt1 h hl
    refine ⟨_, _, rfl, .inr ⟨g, 0, rfl, hg, fun i s hs => ?_⟩⟩
    obtain ⟨h1, h2⟩ := posC_at l i s hs
    rw [Nat.zero_add]
    exact ⟨hc _ _ h1, hc _ _ h2⟩
  · obtain ⟨p, c, rfl⟩ := row_shape h
    exact ⟨p, c, rfl, .inl (List.length_eq_zero_iff.1 (by omega))⟩
theorem stepsAt_row {w : World} {B : Nat} {v : Value} {l : List St} (h : w.ownsRow B 53 3 v l.length (stC l)) : ∃ p c, v = .slice p l.length c ∧ StepsAt w.heap.size w p l := by
  by_cases hl : 0 < l.length
  · obtain ⟨g, cap, rfl, hb, hg, hc⟩ := rowAt1 h hl
    refine ⟨_, _, rfl, .inr ⟨g, 0, rfl, hg, fun i s hs => ?_⟩⟩
    obtain ⟨h1, h2, h3⟩ := stC_at l i s hs
    rw [Nat.zero_add]
    exact ⟨hc _ _ h1, hc _ _ h2, hc _ _ h3⟩
  · obtain ⟨p, c, rfl⟩ := row_shape h
    exact ⟨p, c, rfl, .inl (List.length_eq_zero_iff.1 (by omega))⟩

/-- A fault whose two lists lie in rows of the call's own. -/
def OwnLF (B : Nat) (w : World) (x : LF) : Prop :=
  w.ownsRow B 88 2 x.pv x.f.pos.length (posC x.f.pos) ∧ w.ownsRow B 53 3 x.qv x.f.path.length (stC x.f.path) ∧ x.f.pos.length ≤ big ∧ x.f.path.length ≤ big
theorem OwnLF.lok {B : Nat} {w : World} {x : LF} (h : OwnLF B w x) : LOk w.heap.size w x := by
  obtain ⟨h1, h2, h3, h4⟩ := h
  obtain ⟨p, c, e, hp⟩ := posAt_row h1
  obtain ⟨q, d, e2, hq⟩ := stepsAt_row h2
  exact ⟨⟨p, c, e, hp, h3⟩, q, d, e2, hq, h4⟩
theorem OwnLF.kept {B B' : Nat} {w w' : World} {x : LF} {sz n : Nat} {v : Value} {xs : List Value} (h : OwnLF B w x) (hr : w.ownsRow B' 91 sz v n xs) (hg : w.grownBy w' v.ownBlock) : OwnLF B w' x :=
  ⟨h.1.kept hg (row_apart h.1 hr (by decide)), h.2.1.kept hg (row_apart h.2.1 hr (by decide)), h.2.2⟩
theorem row_lower {w : World} {B B' : Nat} {e : TypeId} {sz n : Nat} {v : Value} {xs : List Value} (h : w.ownsRow B e sz v n xs) (hB : B' ≤ B) : w.ownsRow B' e sz v n xs := by
  obtain ⟨hl, h2⟩ := h
  refine ⟨hl, ?_⟩
  rcases h2 with h2 | ⟨g, cap, cur, hv, hb, hr⟩
  · exact .inl h2
  · exact .inr ⟨g, cap, cur, hv, by omega, hr⟩
theorem OwnLF.below {B : Nat} {w w' : World} {x : LF} (h : OwnLF B w x) (hb : Below w.heap.size w w') : OwnLF B w' x :=
  ⟨h.1.kept (grown_ofb hb none) (by cases x.pv.ownBlock <;> simp), h.2.1.kept (grown_ofb hb none) (by cases x.qv.ownBlock <;> simp), h.2.2⟩
theorem OwnLF.lower {B B' : Nat} {w : World} {x : LF} (h : OwnLF B w x) (hB : B' ≤ B) : OwnLF B' w x := ⟨row_lower h.1 hB, row_lower h.2.1 hB, h.2.2⟩

set_option maxRecDepth 100000 in
set_option maxHeartbeats 4000000 in
theorem CopyFault_any (x : LF) (B : Nat) (w : World) (hx : LOk B w x) (hB : B ≤ w.heap.size) :
    Calls Try.prog 80 #[.agg x.cells] w (fun e w' => ∃ x' : LF, e = .returned (.agg x'.cells) ∧ x'.f = cleanF x.f ∧ OwnLF w.heap.size w' x' ∧ Below w.heap.size w w') := by
  obtain ⟨⟨k, pos, path⟩, pv, qv⟩ := x
  obtain ⟨⟨p, c, h1, h2, h3⟩, q, d, h4, h5, h6⟩ := hx
  dsimp only at *
  subst h1 h4
  unfold big at h3 h6
  have hp := h2.up hB
  have hq := h5.up hB
  have HP := Lib.hid hp
  have HQ := Lib.hid hq
  have HB := Lib.hid hB
  clear h2 h5 hp hq hB
  simp only [LF.cells]
  go_enter Try.func80, Try.ntmps80
  go_wp2
  obtain ⟨wa, hW⟩ : ∃ wa, ((w.alloc (.cells #[.int .i64 k, .slice p pos.length c, .slice q path.length d] 91)).alloc (.cells #[.int .i64 0, .slice none 0 0, .slice none 0 0] 91)).alloc (.cells #[.int .i64 k, .slice none 0 0, .slice none 0 0] 91) = wa := ⟨_, rfl⟩
  have hsz : wa.heap.size = w.heap.size + 1 + 1 + 1 := by rw [← hW]; simp
  have h0 : wa.heap[w.heap.size]? = some (.cells #[.int .i64 k, .slice p pos.length c, .slice q path.length d] 91 (0, 0)) := by
    rw [← hW, Below.heap_alloc _ _ _ (by simp; omega), Below.heap_alloc _ _ _ (by simp)]
    exact heap_new w _
  have h1 : wa.heap[w.heap.size + 1]? = some (.cells #[.int .i64 0, .slice none 0 0, .slice none 0 0] 91 (0, 0)) := by
    rw [← hW, Below.heap_alloc _ _ _ (by simp)]
    have := heap_new (w.alloc (.cells #[.int .i64 k, .slice p pos.length c, .slice q path.length d] 91)) (.cells #[.int .i64 0, .slice none 0 0, .slice none 0 0] 91)
    rwa [World.size_alloc] at this
  have h2 : wa.heap[w.heap.size + 1 + 1]? = some (.cells #[.int .i64 k, .slice none 0 0, .slice none 0 0] 91 (0, 0)) := by
    have := heap_new ((w.alloc (.cells #[.int .i64 k, .slice p pos.length c, .slice q path.length d] 91)).alloc (.cells #[.int .i64 0, .slice none 0 0, .slice none 0 0] 91)) (.cells #[.int .i64 k, .slice none 0 0, .slice none 0 0] 91)
    rw [World.size_alloc, World.size_alloc] at this
    rwa [← hW]
  have hbel : Below w.heap.size w wa := by rw [← hW]; exact (((Below.refl _ _).alloc (Nat.le_refl _) _).alloc (by simp) _).alloc (by simp; omega) _
  rw [hW]
  have H0 := Lib.hid h0
  have H1 := Lib.hid h1
  have H2 := Lib.hid h2
  have HSZ := Lib.hid hsz
  have HBE := Lib.hid hbel
  clear h0 h1 h2 hsz hbel hW
  go_loopw [4] (fun ii wr => ∃ j : Nat, j ≤ pos.length ∧ ii = .int .i64 j ∧ ∃ sv, Hid (wr.heap[w.heap.size + 1 + 1]? = some (.cells #[.int .i64 k, sv, .slice none 0 0] 91 (0, 0))) ∧ Hid (wr.ownsRow (w.heap.size + 1 + 1 + 1) 88 2 sv j (posC (pos.take j))) ∧ Hid (Below (w.heap.size + 1 + 1) wa wr)) (fun ii _ => pos.length - (intOf ii).toNat)
  case atStart => exact ⟨0, by omega, rfl, _, H2, Lib.hid (World.ownsRow_nil _ _ _ _), Lib.hid (Below.refl _ _)⟩
  case round =>
    obtain ⟨j, hj, rfl, sv, hL, hG, hbel2⟩ := hrel
    have gA : wr.cell? ⟨w.heap.size, 1, none⟩ = some (.slice p pos.length c) := by
      rw [hbel2.out.cell (p := ⟨w.heap.size, 1, none⟩) (by simp only []; omega)]
      simp [World.cell?, H0.out]
    obtain ⟨sp, sc, rfl⟩ := row_shape hG.out
    have hsL : w.heap.size + 1 + 1 < wr.heap.size := (Array.getElem?_eq_some_iff.1 hL.out).1
    have hsA : w.heap.size < wr.heap.size := by omega
    by_cases h1 : j < pos.length
    · obtain ⟨x, hx⟩ : ∃ x, pos[j]? = some x := ⟨pos[j], by simp [h1]⟩
      rcases HP.out with hp | ⟨b, o, rfl, hb, hc⟩
      · subst hp; simp at h1
      obtain ⟨a1, a2⟩ := hc j x hx
      have hbw : Below w.heap.size w wr := HBE.out.trans (hbel2.out.mono (by omega))
      have a1 := (hbw.cell (p := ⟨b, o + j * 2, none⟩) hb).trans a1
      have a2 := (hbw.cell (p := ⟨b, o + j * 2 + 1, none⟩) hb).trans a2
      have hbl : b < wr.heap.size := by omega
      have gG : wr.cell? ⟨w.heap.size + 1 + 1, 1, none⟩ = some (.slice sp j sc) := by simp [World.cell?, hL.out]
      have HX := Lib.hid hx
      obtain ⟨x1, x2⟩ := x
      dsimp only at a1 a2
      clear hc hx hbw
      go_wp2
      refine wp_region_plan_below 8 [(0, [0, 1, 2, 3, 4, 5, 6]), (1, [7]), (2, [8, 9, 10])] (by kernel_rfl) (by kernel_rfl) (fun _ _ _ _ h => h) ?_
      simp only [wpSegs, pickOps, List.getElem?_toArray, List.getElem?_cons_zero, List.getElem?_cons_succ]
      have kc := cell_cls wr
      iterate 7 (go_big_quiet_step (fail))
      refine wpQuiet_nil ?_
      clear kc
      refine wpListC_plain rfl (fun K hK => ?_)
      go_step
      obtain ⟨W3, hW⟩ : ∃ W3, (wr.alloc (.cells #[.int .i64 x1, .int .i64 x2] 88)).drew = W3 := ⟨_, rfl⟩
      have hbr3 : Below wr.heap.size wr W3 := by rw [← hW]; exact Below.drew ((Below.refl wr.heap.size wr).alloc (Nat.le_refl _) _)
      have hnew : CellsAt W3 wr.heap.size 0 #[.int .i64 x1, .int .i64 x2] := by rw [← hW]; exact cellsAt_alloc wr _ _ (0, 0)
      rw [hW]
      clear hW
      refine hK _ _ (cls_of_below hbr3) ?_
      clear hK K
      refine wpListC_nil ?_
      refine wpList_plain rfl (fun K hK => ?_)
      have HG3 := hG.out.kept (grown_ofb hbr3 none) (by cases (Value.slice sp j sc).ownBlock <;> simp)
      refine wp_append_x (P := Try.prog) W3 (.tmp 17) (.tmp 23) 89 rfl (w.heap.size + 1 + 1 + 1) 88 (.agg #[.int .i64 0, .int .i64 0]) 2 16 Try.underlying89 (by kernel_rfl) rfl (by decide) (.slice sp j sc) j _ rfl HG3 ⟨wr.heap.size, 0, none⟩ 1 1 [.int .i64 x1, .int .i64 x2] rfl (by decide) rfl ?c1 ?c2 ?c3 ?c4 ?c5 ?_
      case c1 =>
        intro m u hu
        have := hnew m u (by simpa using hu)
        rw [addr_add]
        exact this
      case c2 => intro u hu; simp at hu; rcases hu with rfl | rfl <;> rfl
      case c3 => unfold maxLen; omega
      case c4 => omega
      case c5 => have := hbr3.size; omega
      intro v' w' hrow hgr hv'
      refine hK _ _ ?_
      clear hK K
      have hLw' : w'.heap[w.heap.size + 1 + 1]? = some (.cells #[.int .i64 k, .slice sp j sc, .slice none 0 0] 91 (0, 0)) := by
        rw [hgr.block _ (by have := hbr3.size; omega) (fun e => by have := (HG3.lt _ e.symm).1; omega), hbr3.block _ hsL]
        exact hL.out
      have hfin := heap_setCell_same (j := 1) hLw' v'
      have hrow' := hrow.kept (grown_sc w' ⟨w.heap.size + 1 + 1, 1, none⟩ v') (.inr fun e => by have := (hrow.lt (w.heap.size + 1 + 1) e).1; omega)
      have hbw' : Below (w.heap.size + 1 + 1) wa (w'.setCell ⟨w.heap.size + 1 + 1, 1, none⟩ v') :=
        ((hbel2.out.trans (hbr3.mono (by omega))).grown hgr (by have := hbr3.size; omega) (fun y hy => by have := (HG3.lt y hy).1; omega)).setCell (Nat.le_refl _) _
      have hc6 : w'.cell? ⟨w.heap.size + 1 + 1, 1, none⟩ = some (.slice sp j sc) := by simp [World.cell?, hLw']
      have hf6 : w'.frozen? ⟨w.heap.size + 1 + 1, 1, none⟩ = false := by simp [World.frozen?, hLw']
      obtain ⟨g', cap', rfl⟩ : ∃ g' cap', v' = .slice (some ⟨g', 0, none⟩) (j + 1) cap' := by
        rcases hrow.2 with ⟨_, h⟩ | ⟨g', cap', cur, h, _⟩
        · omega
        · exact ⟨g', cap', h⟩
      have HFIN := Lib.hid hfin
      have HGF := Lib.hid hrow'
      have HBW := Lib.hid hbw'
      clear hfin hrow' hbw' hLw' hrow hgr hv' HG3 hbr3 hnew
      go_wp2
      go_roundw
      case rel =>
        refine ⟨j + 1, by omega, by go_num, .slice (some ⟨g', 0, none⟩) (j + 1) cap', HFIN, Lib.hid ?_, HBW⟩
        rw [List.take_add_one, HX.out]
        have h := HGF.out
        simpa [posC] using h
      case measure => simp [intOf]; omega
    · obtain rfl : j = pos.length := by omega
      rw [List.take_of_length_le (Nat.le_refl _)] at hG
      have HPV := Lib.hid hG.out
      have HQ2 := Lib.hid hbel2.out
      go_wp2
      clear gA hsA hsL h1 hj
      have HL1 := hL
      clear hL hG hbel2
      go_loopw [5] (fun ii wr2 => ∃ j : Nat, j ≤ path.length ∧ ii = .int .i64 j ∧ ∃ sv, Hid (wr2.heap[w.heap.size + 1 + 1]? = some (.cells #[.int .i64 k, .slice sp pos.length sc, sv] 91 (0, 0))) ∧ Hid (wr2.ownsRow (w.heap.size + 1 + 1 + 1) 53 3 sv j (stC ((path.take j).map bareS))) ∧ Hid (Below (w.heap.size + 1 + 1) wa wr2) ∧ Hid (wr2.ownsRow (w.heap.size + 1 + 1 + 1) 88 2 (.slice sp pos.length sc) pos.length (posC pos))) (fun ii _ => path.length - (intOf ii).toNat)
      case atStart => exact ⟨0, by omega, rfl, _, HL1, Lib.hid (World.ownsRow_nil _ _ _ _), HQ2, HPV⟩
      case round =>
        clear HL1 HPV HQ2
        obtain ⟨j, hj, rfl, sv, hL, hG, hbel2, hPR⟩ := hrel
        have gA : wr.cell? ⟨w.heap.size, 2, none⟩ = some (.slice q path.length d) := by
          rw [hbel2.out.cell (p := ⟨w.heap.size, 2, none⟩) (by simp only []; omega)]
          simp [World.cell?, H0.out]
        obtain ⟨ssp, ssc, rfl⟩ := row_shape hG.out
        have hsL : w.heap.size + 1 + 1 < wr.heap.size := (Array.getElem?_eq_some_iff.1 hL.out).1
        have hsA : w.heap.size < wr.heap.size := by omega
        by_cases h1 : j < path.length
        · obtain ⟨x, hx⟩ : ∃ x, path[j]? = some x := ⟨path[j], by simp [h1]⟩
          rcases HQ.out with hp | ⟨b, o, rfl, hb, hc⟩
          · subst hp; simp at h1
          obtain ⟨a1, a2, a3⟩ := hc j x hx
          have hbw : Below w.heap.size w wr := HBE.out.trans (hbel2.out.mono (by omega))
          have a1 := (hbw.cell (p := ⟨b, o + j * 3, none⟩) hb).trans a1
          have a2 := (hbw.cell (p := ⟨b, o + j * 3 + 1, none⟩) hb).trans a2
          have a3 := (hbw.cell (p := ⟨b, o + j * 3 + 2, none⟩) hb).trans a3
          have hbl : b < wr.heap.size := by omega
          have gG : wr.cell? ⟨w.heap.size + 1 + 1, 2, none⟩ = some (.slice ssp j ssc) := by simp [World.cell?, hL.out]
          have HX := Lib.hid hx
          obtain ⟨xn, xi, xt⟩ := x
          dsimp only at a1 a2 a3
          clear hc hx hbw
          cases xt
          · go_wp2
            have kc := cell_cls wr
            refine wp_region_plan_below 10 [(0, [0, 1, 2, 3, 4, 5, 6, 7, 8]), (1, [9]), (2, [10, 11, 12])] (by kernel_rfl) (by kernel_rfl) (fun _ _ _ _ h => h) ?_
            simp only [wpSegs, pickOps, List.getElem?_toArray, List.getElem?_cons_zero, List.getElem?_cons_succ]
            iterate 9 (go_big_quiet_step (fail))
            refine wpQuiet_nil ?_
            clear kc
            refine wpListC_plain rfl (fun K hK => ?_)
            go_step
            obtain ⟨W3, hW⟩ : ∃ W3, (wr.alloc (.cells #[.string xn, .int .i64 0, .bool false] 53)).drew = W3 := ⟨_, rfl⟩
            have hbr3 : Below wr.heap.size wr W3 := by rw [← hW]; exact Below.drew ((Below.refl wr.heap.size wr).alloc (Nat.le_refl _) _)
            have hnew : CellsAt W3 wr.heap.size 0 #[.string xn, .int .i64 0, .bool false] := by rw [← hW]; exact cellsAt_alloc wr _ _ (0, 0)
            rw [hW]
            clear hW
            refine hK _ _ (cls_of_below hbr3) ?_
            clear hK K
            refine wpListC_nil ?_
            refine wpList_plain rfl (fun K hK => ?_)
            have HG3 := hG.out.kept (grown_ofb hbr3 none) (by cases (Value.slice ssp j ssc).ownBlock <;> simp)
            refine wp_append_x (P := Try.prog) W3 (.tmp 52) (.tmp 60) 50 rfl (w.heap.size + 1 + 1 + 1) 53 (.agg #[.string ⟨#[]⟩, .int .i64 0, .bool false]) 3 32 Try.underlying50 (by kernel_rfl) rfl (by decide) (.slice ssp j ssc) j _ rfl HG3 ⟨wr.heap.size, 0, none⟩ 1 1 [.string xn, .int .i64 0, .bool false] rfl (by decide) rfl ?c1 ?c2 ?c3 ?c4 ?c5 ?_
            case c1 =>
              intro m u hu
              have := hnew m u (by simpa using hu)
              rw [addr_add]
              exact this
            case c2 => intro u hu; simp at hu; rcases hu with rfl | rfl | rfl <;> rfl
            case c3 => unfold maxLen; omega
            case c4 => omega
            case c5 => have := hbr3.size; omega
            intro v' w' hrow hgr hv'
            refine hK _ _ ?_
            clear hK K
            have hLw' : w'.heap[w.heap.size + 1 + 1]? = some (.cells #[.int .i64 k, .slice sp pos.length sc, .slice ssp j ssc] 91 (0, 0)) := by
              rw [hgr.block _ (by have := hbr3.size; omega) (fun e => by have := (HG3.lt _ e.symm).1; omega), hbr3.block _ hsL]
              exact hL.out
            have hfin := heap_setCell_same (j := 2) hLw' v'
            have hrow' := hrow.kept (grown_sc w' ⟨w.heap.size + 1 + 1, 2, none⟩ v') (.inr fun e => by have := (hrow.lt (w.heap.size + 1 + 1) e).1; omega)
            have hbw' : Below (w.heap.size + 1 + 1) wa (w'.setCell ⟨w.heap.size + 1 + 1, 2, none⟩ v') :=
              ((hbel2.out.trans (hbr3.mono (by omega))).grown hgr (by have := hbr3.size; omega) (fun y hy => by have := (HG3.lt y hy).1; omega)).setCell (Nat.le_refl _) _
            have hc6 : w'.cell? ⟨w.heap.size + 1 + 1, 2, none⟩ = some (.slice ssp j ssc) := by simp [World.cell?, hLw']
            have hf6 : w'.frozen? ⟨w.heap.size + 1 + 1, 2, none⟩ = false := by simp [World.frozen?, hLw']
            obtain ⟨g', cap', rfl⟩ : ∃ g' cap', v' = .slice (some ⟨g', 0, none⟩) (j + 1) cap' := by
              rcases hrow.2 with ⟨_, h⟩ | ⟨g', cap', cur, h, _⟩
              · omega
              · exact ⟨g', cap', h⟩
            have HFIN := Lib.hid hfin
            have HGF := Lib.hid hrow'
            have HBW := Lib.hid hbw'
            have hPR' : (w'.setCell ⟨w.heap.size + 1 + 1, 2, none⟩ (.slice (some ⟨g', 0, none⟩) (j + 1) cap')).ownsRow (w.heap.size + 1 + 1 + 1) 88 2 (.slice sp pos.length sc) pos.length (posC pos) := ((hPR.out.kept (grown_ofb hbr3 none) (by cases (Value.slice sp pos.length sc).ownBlock <;> simp)).kept hgr (row_apart (hPR.out.kept (grown_ofb hbr3 none) (by cases (Value.slice sp pos.length sc).ownBlock <;> simp)) HG3 (by decide))).kept (grown_sc w' ⟨w.heap.size + 1 + 1, 2, none⟩ _) (.inr fun e => by have := (hPR.out.lt (w.heap.size + 1 + 1) e).1; omega)
            have HPR := Lib.hid hPR'
            clear hPR' hfin hrow' hbw' hLw' hrow hgr hv' HG3 hbr3 hnew
            go_wp2
            go_roundw
            case rel =>
              refine ⟨j + 1, by omega, by go_num, .slice (some ⟨g', 0, none⟩) (j + 1) cap', HFIN, Lib.hid ?_, HBW, HPR⟩
              rw [List.take_add_one, HX.out]
              have h := HGF.out
              rw [List.map_append, stC_app]
              exact h
            case measure => simp [intOf]; omega
          · go_wp2
            have kc := cell_cls wr
            refine wp_region_plan_below 10 [(0, [0, 1, 2, 3, 4, 5, 6, 7, 8]), (1, [9]), (2, [10, 11, 12])] (by kernel_rfl) (by kernel_rfl) (fun _ _ _ _ h => h) ?_
            simp only [wpSegs, pickOps, List.getElem?_toArray, List.getElem?_cons_zero, List.getElem?_cons_succ]
            iterate 9 (go_big_quiet_step (fail))
            refine wpQuiet_nil ?_
            clear kc
            refine wpListC_plain rfl (fun K hK => ?_)
            go_step
            obtain ⟨W3, hW⟩ : ∃ W3, (wr.alloc (.cells #[.string ⟨#[]⟩, .int .i64 xi, .bool true] 53)).drew = W3 := ⟨_, rfl⟩
            have hbr3 : Below wr.heap.size wr W3 := by rw [← hW]; exact Below.drew ((Below.refl wr.heap.size wr).alloc (Nat.le_refl _) _)
            have hnew : CellsAt W3 wr.heap.size 0 #[.string ⟨#[]⟩, .int .i64 xi, .bool true] := by rw [← hW]; exact cellsAt_alloc wr _ _ (0, 0)
            rw [hW]
            clear hW
            refine hK _ _ (cls_of_below hbr3) ?_
            clear hK K
            refine wpListC_nil ?_
            refine wpList_plain rfl (fun K hK => ?_)
            have HG3 := hG.out.kept (grown_ofb hbr3 none) (by cases (Value.slice ssp j ssc).ownBlock <;> simp)
            refine wp_append_x (P := Try.prog) W3 (.tmp 40) (.tmp 48) 50 rfl (w.heap.size + 1 + 1 + 1) 53 (.agg #[.string ⟨#[]⟩, .int .i64 0, .bool false]) 3 32 Try.underlying50 (by kernel_rfl) rfl (by decide) (.slice ssp j ssc) j _ rfl HG3 ⟨wr.heap.size, 0, none⟩ 1 1 [.string ⟨#[]⟩, .int .i64 xi, .bool true] rfl (by decide) rfl ?c1 ?c2 ?c3 ?c4 ?c5 ?_
            case c1 =>
              intro m u hu
              have := hnew m u (by simpa using hu)
              rw [addr_add]
              exact this
            case c2 => intro u hu; simp at hu; rcases hu with rfl | rfl | rfl <;> rfl
            case c3 => unfold maxLen; omega
            case c4 => omega
            case c5 => have := hbr3.size; omega
            intro v' w' hrow hgr hv'
            refine hK _ _ ?_
            clear hK K
            have hLw' : w'.heap[w.heap.size + 1 + 1]? = some (.cells #[.int .i64 k, .slice sp pos.length sc, .slice ssp j ssc] 91 (0, 0)) := by
              rw [hgr.block _ (by have := hbr3.size; omega) (fun e => by have := (HG3.lt _ e.symm).1; omega), hbr3.block _ hsL]
              exact hL.out
            have hfin := heap_setCell_same (j := 2) hLw' v'
            have hrow' := hrow.kept (grown_sc w' ⟨w.heap.size + 1 + 1, 2, none⟩ v') (.inr fun e => by have := (hrow.lt (w.heap.size + 1 + 1) e).1; omega)
            have hbw' : Below (w.heap.size + 1 + 1) wa (w'.setCell ⟨w.heap.size + 1 + 1, 2, none⟩ v') :=
              ((hbel2.out.trans (hbr3.mono (by omega))).grown hgr (by have := hbr3.size; omega) (fun y hy => by have := (HG3.lt y hy).1; omega)).setCell (Nat.le_refl _) _
            have hc6 : w'.cell? ⟨w.heap.size + 1 + 1, 2, none⟩ = some (.slice ssp j ssc) := by simp [World.cell?, hLw']
            have hf6 : w'.frozen? ⟨w.heap.size + 1 + 1, 2, none⟩ = false := by simp [World.frozen?, hLw']
            obtain ⟨g', cap', rfl⟩ : ∃ g' cap', v' = .slice (some ⟨g', 0, none⟩) (j + 1) cap' := by
              rcases hrow.2 with ⟨_, h⟩ | ⟨g', cap', cur, h, _⟩
              · omega
              · exact ⟨g', cap', h⟩
            have HFIN := Lib.hid hfin
            have HGF := Lib.hid hrow'
            have HBW := Lib.hid hbw'
            have hPR' : (w'.setCell ⟨w.heap.size + 1 + 1, 2, none⟩ (.slice (some ⟨g', 0, none⟩) (j + 1) cap')).ownsRow (w.heap.size + 1 + 1 + 1) 88 2 (.slice sp pos.length sc) pos.length (posC pos) := ((hPR.out.kept (grown_ofb hbr3 none) (by cases (Value.slice sp pos.length sc).ownBlock <;> simp)).kept hgr (row_apart (hPR.out.kept (grown_ofb hbr3 none) (by cases (Value.slice sp pos.length sc).ownBlock <;> simp)) HG3 (by decide))).kept (grown_sc w' ⟨w.heap.size + 1 + 1, 2, none⟩ _) (.inr fun e => by have := (hPR.out.lt (w.heap.size + 1 + 1) e).1; omega)
            have HPR := Lib.hid hPR'
            clear hPR' hfin hrow' hbw' hLw' hrow hgr hv' HG3 hbr3 hnew
            go_wp2
            go_roundw
            case rel =>
              refine ⟨j + 1, by omega, by go_num, .slice (some ⟨g', 0, none⟩) (j + 1) cap', HFIN, Lib.hid ?_, HBW, HPR⟩
              rw [List.take_add_one, HX.out]
              have h := HGF.out
              rw [List.map_append, stC_app]
              exact h
            case measure => simp [intOf]; omega
        · obtain rfl : j = path.length := by omega
          rw [List.take_of_length_le (Nat.le_refl _)] at hG
          have g0 : wr.cell? ⟨w.heap.size + 1 + 1, 0, none⟩ = some (.int .i64 k) := by simp [World.cell?, hL.out]
          have g1 : wr.cell? ⟨w.heap.size + 1 + 1, 1, none⟩ = some (.slice sp pos.length sc) := by simp [World.cell?, hL.out]
          have g2 : wr.cell? ⟨w.heap.size + 1 + 1, 2, none⟩ = some (.slice ssp path.length ssc) := by simp [World.cell?, hL.out]
          have hr1 : wr.heap[w.heap.size + 1]? = some (.cells #[.int .i64 0, .slice none 0 0, .slice none 0 0] 91 (0, 0)) := (hbel2.out.block _ (by omega)).trans H1.out
          have HR1 := Lib.hid hr1
          clear hr1
          go_upto_region 12 with (fail)
          go_step
          refine wpList_plain rfl (fun K hK => ?_)
          go_step
          refine hK _ _ ?_
          clear hK K
          refine wpList_plain rfl (fun K hK => ?_)
          refine wp_store_row (P := Try.prog) 91 (.tmp 2) (.tmp 63) rfl (w.heap.size + 1) #[.int .i64 k, .slice sp pos.length sc, .slice ssp path.length ssc] rfl rfl 91 _ HR1.out (by kernel_rfl) rfl (by simp [Value.oneCell']) ?_
          refine hK _ _ ?_
          clear hK K
          have hnew : (wr.setRow (w.heap.size + 1) #[.int .i64 k, .slice sp pos.length sc, .slice ssp path.length ssc]).heap[w.heap.size + 1]? = some (.cells #[.int .i64 k, .slice sp pos.length sc, .slice ssp path.length ssc] 91 (0, 0)) := setRow_heap _ _ _ _ _ _ HR1.out
          have hwfin : Below w.heap.size w (wr.setRow (w.heap.size + 1) #[.int .i64 k, .slice sp pos.length sc, .slice ssp path.length ssc]) := below_setRow (HBE.out.trans (hbel2.out.mono (by omega))) (by omega) _
          have hg := grown_sr wr (w.heap.size + 1) #[.int .i64 k, .slice sp pos.length sc, .slice ssp path.length ssc]
          have hr1 := hPR.out.kept hg (.inr fun e => by have := (hPR.out.lt (w.heap.size + 1) e).1; omega)
          have hr2 := hG.out.kept hg (.inr fun e => by have := (hG.out.lt (w.heap.size + 1) e).1; omega)
          have hsz := setRow_size wr (w.heap.size + 1) #[.int .i64 k, .slice sp pos.length sc, .slice ssp path.length ssc]
          generalize wr.setRow (w.heap.size + 1) #[.int .i64 k, .slice sp pos.length sc, .slice ssp path.length ssc] = wz at *
          have r0 : wz.cell? ⟨w.heap.size + 1, 0, none⟩ = some (.int .i64 k) := by simp [World.cell?, hnew]
          have r1 : wz.cell? ⟨w.heap.size + 1, 1, none⟩ = some (.slice sp pos.length sc) := by simp [World.cell?, hnew]
          have r2 : wz.cell? ⟨w.heap.size + 1, 2, none⟩ = some (.slice ssp path.length ssc) := by simp [World.cell?, hnew]
          have hpost : ∃ x' : LF, Ending.returned (.agg #[.int .i64 k, .slice sp pos.length sc, .slice ssp path.length ssc]) = .returned (.agg x'.cells) ∧ x'.f = cleanF ⟨k, pos, path⟩ ∧ OwnLF w.heap.size wz x' ∧ Below w.heap.size w wz :=
            ⟨⟨⟨k, pos, path.map bareS⟩, _, _⟩, rfl, rfl, ⟨row_lower hr1 (by omega), row_lower (by rw [List.length_map]; exact hr2) (by omega), by unfold big; omega, by unfold big; simpa using h6⟩, hwfin⟩
          have HPO := Lib.hid hpost
          clear hpost hwfin hr1 hr2 hnew hg
          go_wp2
          exact bodyPost_ret (v := .agg #[.int .i64 k, .slice sp pos.length sc, .slice ssp path.length ssc]) (by simp [results, Try.results80, go_sem, r0, r1, r2]) rfl HPO.out
end Go.Proofs.Ytnmnmkdmnohbmaa
