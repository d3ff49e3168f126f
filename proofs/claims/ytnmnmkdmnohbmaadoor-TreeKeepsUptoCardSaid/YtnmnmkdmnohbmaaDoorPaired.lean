/- Helper text: the walk over paired of the program. Conditions: none. -/
import Derived.Test.YtnmnmkdmnohbmaaDoorGroups
import Derived.Test.YtnmnmkdmnohbmaaDoorPackG
namespace Go.Proofs.YtnmnmkdmnohbmaaDoor
open Go Go.RowKit Go.Maps Go.WideMaps
attribute [local go_sem] run_store_float

section
variable {P : Program} {Q : Exit → Act → World → Prop}
theorem wp_region_tree {id : Nat} {a : Act} {w : World} {l : List Oper} (m : Nat) (p : Plan) (C : World → Prop) (hm : P.follows .mixedOrders = true) (hB : planBool l.toArray m p = true)
    (hQ : ∀ c a t w, Q (.panic c) { a with tmps := t } w → Q (.panic c) a w) (hC : C { w with drawn := w.drawn + 1 }) (h : wpPlan P l.toArray C Q p a { w with drawn := w.drawn + 1 }) : (Code.region id l.toArray true).wp P Q a w := by
  simp only [planBool, Bool.and_eq_true, decide_eq_true_eq] at hB
  refine wp_region_any hm (wpAny_of_C (m := m) (C := C) _ _ _ _ ?_)
  rw [← hB.1.2]
  exact wpAnyC_plan hB.1.1 hQ p _ a _ (by rw [Array.size_replicate]; exact hB.1.2) hC (by rw [hB.1.2]; exact hB.2) h
end

/-- The worlds in which one cell holds v. -/
structure CellW (b o : Nat) (v : Value) where
  w : World
  h : w.cell? ⟨b, o, none⟩ = some v
abbrev CellCls (b o : Nat) (v : Value) : World → Prop := fun w' => ∃ z : CellW b o v, w' = z.w
theorem cellcls_of {b o : Nat} {v : Value} {w : World} (h : w.cell? ⟨b, o, none⟩ = some v) : CellCls b o v w := ⟨⟨w, h⟩, rfl⟩
theorem cellcls_kc (b o : Nat) (v : Value) : ∀ z : CellW b o v, z.w.cell? ⟨b, o, none⟩ = some v := fun z => z.h

mutual
/-- The names are no longer than texts are. -/
def nmV : V → Prop
  | .mk _ _ _ _ _ _ its fs => nmVs its ∧ nmFs fs
def nmVs : List V → Prop
  | [] => True
  | v :: r => nmV v ∧ nmVs r
def nmFs : List (ByteArray × V) → Prop
  | [] => True
  | x :: r => (x.1.size ≤ maxLen ∧ nmV x.2) ∧ nmFs r
end

theorem nmVs.get : ∀ {l : List V} {n : Nat} {v : V}, nmVs l → l[n]? = some v → nmV v
  | [], _, _, _, h => by simp at h
  | x :: r, 0, v, h, hv => by obtain rfl : x = v := by simpa using hv
                              exact h.1
  | x :: r, n + 1, v, h, hv => nmVs.get (n := n) h.2 (by simpa using hv)
theorem nmFs.get : ∀ {l : List (ByteArray × V)} {n : Nat} {x : ByteArray × V}, nmFs l → l[n]? = some x → x.1.size ≤ maxLen ∧ nmV x.2
  | [], _, _, _, h => by simp at h
  | y :: r, 0, x, h, hv => by obtain rfl : y = x := by simpa using hv
                              exact h.1
  | y :: r, n + 1, x, h, hv => nmFs.get (n := n) h.2 (by simpa using hv)

theorem zero_ints (w : World) : (zeroValue 102).run Tryd.prog w = .ok (.slice none 0 0) w := by kernel_rfl
theorem info_int : (Tryd.prog.info? 3).map (fun i => (i.zero, i.size, i.bytes)) = some (some (.int .i64 0), 1, 8) := by kernel_rfl

theorem map_eraseIdx {α β : Type} (f : α → β) (l : List α) (k : Nat) : (l.map f).eraseIdx k = (l.eraseIdx k).map f := by
  rw [eraseIdx_eq, eraseIdx_eq]
  simp

theorem find_at {α : Type} {l : List α} {p : α → Bool} {k : Nat} {a : α} (hk : l[k]? = some a) (hp : p a = true) (h : ∀ (m : Nat) b, m < k → l[m]? = some b → p b = false) : l.find? p = some a := by
  obtain ⟨hl, rfl⟩ := List.getElem?_eq_some_iff.1 hk
  rw [List.find?_eq_some_iff_getElem]
  exact ⟨hp, k, hl, rfl, fun j hj => by simp [h j _ hj (List.getElem?_eq_getElem (by omega))]⟩
theorem find_no {α : Type} {l : List α} {p : α → Bool} (h : ∀ (m : Nat) b, m < l.length → l[m]? = some b → p b = false) : l.find? p = none := by
  rw [List.find?_eq_none]
  intro x hx
  obtain ⟨i, hi⟩ := List.getElem?_of_mem hx
  simp [h i x (List.getElem?_eq_some_iff.1 hi).1 hi]

theorem ownsInts_ne {w : World} {base : Nat} {e e' : TypeId} {q : IntKind} {v : Value} {zs : List Int} {b : Nat} {cur : Array Value} {fz : Nat × Nat} (h : w.ownsInts base e q v zs) (hb : w.heap[b]? = some (.cells cur e' fz)) (he : e' ≠ e) : v.ownBlock ≠ some b := by
  obtain ⟨⟨_, h2⟩, _⟩ := h
  rcases h2 with ⟨rfl, _⟩ | ⟨g, cap, cur2, rfl, _, hh, _⟩
  · simp [Value.ownBlock]
  · intro hc
    obtain rfl : g = b := by simpa [Value.ownBlock] using hc
    rw [hh] at hb
    simp only [Option.some.injEq, Obj.cells.injEq] at hb
    exact he hb.2.1.symm

set_option maxRecDepth 100000 in
set_option maxHeartbeats 2000000 in
theorem paired_any (N : Nat) (ih : ∀ v, szV v ≤ N → nmV v → ∀ v', nmV v' → ∀ (cs cs' : Array Value) (w : World), IsV w.heap.size w v cs → IsV w.heap.size w v' cs' → Calls Tryd.prog 42 #[.agg cs, .agg cs'] w (RetB (.bool (sameV v v')) w))
    (fs fs' : List (ByteArray × V)) (hN : ∀ x ∈ fs, szV x.2 ≤ N) (hm : nmFs fs) (hm' : nmFs fs') (l2 : fs.length ≤ 2199023255552) (l2' : fs'.length ≤ 2199023255552) (p : Option Addr) (c : Nat) (q : Option Addr) (d : Nat) (w : World)
    (hf : fs = [] ∨ ∃ g o, p = some ⟨g, o, none⟩ ∧ g < w.heap.size ∧ IsFs w.heap.size w fs g o) (hf' : fs' = [] ∨ ∃ g o, q = some ⟨g, o, none⟩ ∧ g < w.heap.size ∧ IsFs w.heap.size w fs' g o) :
    Calls Tryd.prog 87 #[.slice p fs.length c, .slice q fs'.length d] w (RetB (.bool (decide (fs.length = fs'.length) && pairFs fs fs' (List.range fs'.length))) w) := by
  have IH := Lib.hid ih
  have HF := Lib.hid hf
  have HF' := Lib.hid hf'
  have HN := Lib.hid hN
  have HM := Lib.hid hm
  have HM' := Lib.hid hm'
  clear ih hf hf' hN hm hm'
  by_cases hln : fs.length = fs'.length
  · rw [decide_eq_true hln, Bool.true_and, ← hln]
    have HL := Lib.hid hln
    clear hln l2'
    generalize hR : pairFs fs fs' (List.range fs.length) = R
    have HR := Lib.hid hR.symm
    clear hR
    have hmm := @run_makeMap Tryd.prog
    obtain ⟨i0, hi, hz0, hz1, hz2⟩ := info_parts info_int
    have HI0 := Lib.hid (And.intro hi hz1)
    clear hi hz0 hz1 hz2
    go_enter Tryd.func87, Tryd.ntmps87
    go_wp2_with fail
    have hg0 := World.ownsGroups_made (H := Unit) w Tryd.prog 9 3 .i64
    have HG0 := Lib.hid hg0
    have hb0 : Below w.heap.size w (w.alloc (.map #[] 0)) := (Below.refl _ _).alloc (Nat.le_refl _) _
    have hs0 : w.heap.size + 1 ≤ (w.alloc (.map #[] 0)).heap.size := by simp
    generalize w.alloc (.map #[] 0) = wa at *
    clear hg0 hmm
    go_loopw [22] (fun ii wr => ∃ j : Nat, j ≤ fs.length ∧ ii = .int .i64 j ∧ ∃ D, Hid (GroupsIs D fs' (List.range j)) ∧ Hid (wr.ownsGroups Tryd.prog 9 (w.heap.size + 1) 3 .i64 w.heap.size j D) ∧ Below w.heap.size w wr ∧ w.heap.size + 1 ≤ wr.heap.size) (fun ii _ => fs.length - (intOf ii).toNat)
    case atStart => exact ⟨0, by omega, rfl, _, Lib.hid (GroupsIs.start _), HG0, hb0, hs0⟩
    case round =>
      clear hb0 hs0
      obtain ⟨j, hj, rfl, D, hGr, hown, hbel, hws⟩ := hrel
      by_cases h1 : j < fs.length
      · obtain ⟨y, hy⟩ : ∃ y, fs'[j]? = some y := ⟨fs'[j]'(by have := HL.out; omega), by simp⟩
        rcases HF'.out with hi | ⟨g, o, rfl, hg, hvs⟩
        · subst hi; simp at hy
        obtain ⟨hnm, csx, hcx, hvx⟩ := hvs.get hy
        have hnm := (hbel.cell (p := ⟨g, _, none⟩) hg).trans hnm
        have hcx := hcx.below hbel hg
        have hlen := (HM'.out.get hy).1
        obtain ⟨yn, yk, yb, yi, yf, yt, yty, yits, yfs⟩ := y
        obtain ⟨yp, yc, yq, yd, rfl, _, _, _, _⟩ := hvx
        obtain ⟨c0, c1, c2, c3, c4, c5, c6, c7⟩ := hcx.all
        have hgr : g < wr.heap.size := Nat.lt_of_lt_of_le hg hbel.size
        have HY := Lib.hid hy
        clear hy hvs hcx
        go_wp2
        obtain ⟨W1, hW⟩ : ∃ W1, wr.alloc (.cells (mcells yn yk yb yi yf yt yty yp yits.length yc yq yfs.length yd) 79) = W1 := ⟨_, rfl⟩
        have hb1 : Below wr.heap.size wr W1 := by rw [← hW]; exact (Below.refl _ _).alloc (Nat.le_refl _) _
        have hs1 : wr.heap.size < W1.heap.size := by rw [← hW]; simp
        have hcm : CellsAt W1 wr.heap.size 0 (mcells yn yk yb yi yf yt yty yp yits.length yc yq yfs.length yd) := by rw [← hW]; exact cellsAt_alloc _ _ _ _
        have hmb0 : W1.heap[wr.heap.size]? = some (.cells (mcells yn yk yb yi yf yt yty yp yits.length yc yq yfs.length yd) 79 (0, 0)) := by rw [← hW]; exact heap_new _ _
        have e : wr.alloc (.cells (mcells yn yk yb yi yf yt yty yp yits.length yc yq yfs.length yd) 79) = W1 := hW
        clear hW c0 c1 c2 c3 c4 c5 c6 c7 hnm
        rw [e]
        clear e
        have m0 : W1.cell? ⟨wr.heap.size, 0, none⟩ = some (.string yn) := hcm 0 _ rfl
        have hown1 := ownsGroups_below hown.out (hb1.trans (Below.drew (Below.refl wr.heap.size W1)))
        have HOWN1 := Lib.hid hown1
        have hmb : W1.heap[wr.heap.size]? = some (.cells (mcells yn yk yb yi yf yt yty yp yits.length yc yq yfs.length yd) 79 (0, 0)) := hmb0
        clear hown1 hcm
        refine wp_region_tree 10 (.heads [0, 1, 2, 3, 4, 5, 7] (.fork 6 (.chain [8, 9] (.tail [10])) 8 (.chain [6, 9] (.tail [10])))) (CellCls wr.heap.size 0 (.string yn)) (by kernel_rfl) (by kernel_rfl) (fun _ _ _ _ h => h) (cellcls_of m0) ?_
        simp only [wpPlan, pickOps, List.getElem?_toArray, List.getElem?_cons_zero, List.getElem?_cons_succ]
        have kc := cellcls_kc wr.heap.size 0 (.string yn)
        have hne : Nonempty (CellW wr.heap.size 0 (.string yn)) := ⟨⟨W1, m0⟩⟩
        repeat (go_big_quiet_step (fail))
        refine wpQuiet_nil ?_
        clear kc hne
        constructor
        · obtain ⟨v, zs, hrun, hat, hoi, hzl, hback⟩ := HOWN1.out.at (string_keyed Tryd.underlying9) Tryd.underlying162 (zero_ints _) (by unfold maxLen; omega) (keyOf_string_mk Tryd.underlying9 hlen)
          refine wpListC_plain rfl (fun K hK => ?_)
          go_step
          refine hK _ _ (cellcls_of m0) ?_
          clear hK K
          refine wpListC_nil ?_
          refine wpListC_plain rfl (fun K hK => ?_)
          go_step
          have hb3 : Below W1.heap.size W1 (W1.alloc (.cells #[.int .i64 (j : Int)] 3)).drew := ((Below.refl W1.heap.size W1).alloc (Nat.le_refl _) _).drew
          have hc3 : (W1.alloc (.cells #[.int .i64 (j : Int)] 3)).drew.cell? ⟨W1.heap.size, 0, none⟩ = some (.int .i64 (j : Int)) := cellsAt_alloc W1 #[.int .i64 (j : Int)] 3 (0, 0) 0 _ rfl
          have hs3 : W1.heap.size < (W1.alloc (.cells #[.int .i64 (j : Int)] 3)).drew.heap.size := by show W1.heap.size < (W1.alloc (.cells #[.int .i64 (j : Int)] 3)).heap.size; simp
          generalize (W1.alloc (.cells #[.int .i64 (j : Int)] 3)).drew = W3 at *
          have m3 : W3.cell? ⟨wr.heap.size, 0, none⟩ = some (.string yn) := (hb3.cell (p := ⟨wr.heap.size, 0, none⟩) hs1).trans m0
          have hb3' : Below W1.drew.heap.size W1.drew W3 := ⟨hb3.os, hb3.tape, hb3.output, hb3.size, hb3.block⟩
          have hoi3 := hoi.kept (grown_of_below hb3' none) (by cases v.ownBlock <;> simp)
          have hmb3 : W3.heap[wr.heap.size]? = some (.cells (mcells yn yk yb yi yf yt yty yp yits.length yc yq yfs.length yd) 79 (0, 0)) := (hb3.block _ hs1).trans hmb
          refine hK _ _ (cellcls_of m3) ?_
          clear hK K
          refine wpListC_plain rfl (fun K hK => ?_)
          refine wp_append_x (P := Tryd.prog) W3 (.tmp 33) (.tmp 35) 102 rfl (w.heap.size + 1) 3 (.int .i64 0) 1 8 Tryd.underlying102 info_int rfl (by decide) v zs.length (zs.map (Value.int .i64)) rfl hoi3.1 ⟨W1.heap.size, 0, none⟩ 1 1 [.int .i64 (j : Int)] rfl (by decide) rfl ?c1 ?c2 ?c3 ?c4 ?c5 ?_
          case c1 =>
            intro m u hu
            cases m with
            | zero => obtain rfl : Value.int .i64 (j : Int) = u := by simpa using hu
                      exact hc3
            | succ m => simp at hu
          case c2 => intro u hu; simp at hu; subst hu; rfl
          case c3 => unfold maxLen; omega
          case c4 => omega
          case c5 => have := hb3.size; have := hb1.size; omega
          intro v' w' hrow hgr hv'
          have hm' : w'.cell? ⟨wr.heap.size, 0, none⟩ = some (.string yn) := by
            rw [World.cell?_of_block (w := W3) (w' := w') (a := ⟨wr.heap.size, 0, none⟩) (hgr.block _ (by show wr.heap.size < _; omega) (fun e => ownsInts_ne hoi3 hmb3 (by decide) e.symm))]
            exact m3
          refine hK _ _ (cellcls_of hm') ?_
          clear hK K
          refine wpListC_nil ?_
          refine wpList_plain rfl (fun K hK => ?_)
          have hown' : w'.ownsInts (w.heap.size + 1) 3 .i64 v' (zs ++ [(j : Int)]) := hoi3.appended hrow (WalkArith.wf_i64 (by omega))
          obtain ⟨w2, hrun2, hown2, hgr2⟩ := hback w' v' (zs ++ [(j : Int)]) ((grown_of_below hb3' v.ownBlock).trans hgr) hown' (by simp; omega) (hv'.imp id (fun h => ⟨_, h, hb3'.size⟩))
          go_step
          refine hK _ _ ?_
          clear hK K
          have hz := hGr.out.found hoi hat
          have hGr2 := hGr.out.put (free' := List.range (j + 1)) (s := yn) hown' (by rw [idx_snoc HY.out, hz]; simp) (fun t ht => idx_other HY.out t ht)
          have hbw2 := ((hbel.trans ((hb1.trans (hb3.mono hb1.size)).mono hbel.size)).grown hgr (by have := hb3.size; have := hb1.size; have := hbel.size; omega) (fun k e => by have := (hoi3.1.lt k e).1; omega)).grown hgr2 (by have := hgr.size; have := hb3.size; have := hb1.size; have := hbel.size; omega) (fun k e => by cases e; omega)
          have hsz2 : w.heap.size + 1 ≤ w2.heap.size := by have := hgr2.size; have := hgr.size; have := hb3.size; have := hb1.size; omega
          have HG2 := Lib.hid hGr2
          have HO2 := Lib.hid hown2
          clear hGr2 hown2 hgr2 hgr hrow hown' hback hrun2 hoi hoi3 hat hrun hc3 hb3 hs3 hmb hmb3 m3 hm' hv'
          go_wp2
          go_roundw
          case rel => exact ⟨j + 1, by omega, by go_num, _, HG2, HO2, hbw2, hsz2⟩
          case measure => simp [intOf]; omega
        · refine wpListC_plain rfl (fun K hK => ?_)
          go_step
          have hb3 : Below W1.heap.size W1 (W1.alloc (.cells #[.int .i64 (j : Int)] 3)).drew := ((Below.refl W1.heap.size W1).alloc (Nat.le_refl _) _).drew
          have hc3 : (W1.alloc (.cells #[.int .i64 (j : Int)] 3)).drew.cell? ⟨W1.heap.size, 0, none⟩ = some (.int .i64 (j : Int)) := cellsAt_alloc W1 #[.int .i64 (j : Int)] 3 (0, 0) 0 _ rfl
          have hs3 : W1.heap.size < (W1.alloc (.cells #[.int .i64 (j : Int)] 3)).drew.heap.size := by show W1.heap.size < (W1.alloc (.cells #[.int .i64 (j : Int)] 3)).heap.size; simp
          generalize (W1.alloc (.cells #[.int .i64 (j : Int)] 3)).drew = W3 at *
          have m3 : W3.cell? ⟨wr.heap.size, 0, none⟩ = some (.string yn) := (hb3.cell (p := ⟨wr.heap.size, 0, none⟩) hs1).trans m0
          refine hK _ _ (cellcls_of m3) ?_
          clear hK K
          refine wpListC_nil ?_
          have hb3' : Below W1.drew.heap.size W1.drew W3 := ⟨hb3.os, hb3.tape, hb3.output, hb3.size, hb3.block⟩
          obtain ⟨v, zs, hrun, hat, hoi, hzl, hback⟩ := (ownsGroups_below HOWN1.out hb3').at (string_keyed Tryd.underlying9) Tryd.underlying162 (zero_ints _) (by unfold maxLen; omega) (keyOf_string_mk Tryd.underlying9 hlen)
          have hoi3 := hoi
          have hmb3 : W3.heap[wr.heap.size]? = some (.cells (mcells yn yk yb yi yf yt yty yp yits.length yc yq yfs.length yd) 79 (0, 0)) := (hb3.block _ hs1).trans hmb
          refine wpListC_plain rfl (fun K hK => ?_)
          go_step
          refine hK _ _ (cellcls_of m3) ?_
          clear hK K
          refine wpListC_plain rfl (fun K hK => ?_)
          refine wp_append_x (P := Tryd.prog) W3 (.tmp 33) (.tmp 35) 102 rfl (w.heap.size + 1) 3 (.int .i64 0) 1 8 Tryd.underlying102 info_int rfl (by decide) v zs.length (zs.map (Value.int .i64)) rfl hoi3.1 ⟨W1.heap.size, 0, none⟩ 1 1 [.int .i64 (j : Int)] rfl (by decide) rfl ?c1 ?c2 ?c3 ?c4 ?c5 ?_
          case c1 =>
            intro m u hu
            cases m with
            | zero => obtain rfl : Value.int .i64 (j : Int) = u := by simpa using hu
                      exact hc3
            | succ m => simp at hu
          case c2 => intro u hu; simp at hu; subst hu; rfl
          case c3 => unfold maxLen; omega
          case c4 => omega
          case c5 => have := hb3.size; have := hb1.size; omega
          intro v' w' hrow hgr hv'
          have hm' : w'.cell? ⟨wr.heap.size, 0, none⟩ = some (.string yn) := by
            rw [World.cell?_of_block (w := W3) (w' := w') (a := ⟨wr.heap.size, 0, none⟩) (hgr.block _ (by show wr.heap.size < _; omega) (fun e => ownsInts_ne hoi3 hmb3 (by decide) e.symm))]
            exact m3
          refine hK _ _ (cellcls_of hm') ?_
          clear hK K
          refine wpListC_nil ?_
          refine wpList_plain rfl (fun K hK => ?_)
          have hown' : w'.ownsInts (w.heap.size + 1) 3 .i64 v' (zs ++ [(j : Int)]) := hoi3.appended hrow (WalkArith.wf_i64 (by omega))
          obtain ⟨w2, hrun2, hown2, hgr2⟩ := hback w' v' (zs ++ [(j : Int)]) hgr hown' (by simp; omega) (hv'.imp id (fun h => ⟨_, h, Nat.le_refl _⟩))
          go_step
          refine hK _ _ ?_
          clear hK K
          have hz := hGr.out.found hoi hat
          have hGr2 := hGr.out.put (free' := List.range (j + 1)) (s := yn) hown' (by rw [idx_snoc HY.out, hz]; simp) (fun t ht => idx_other HY.out t ht)
          have hbw2 := ((hbel.trans ((hb1.trans (hb3.mono hb1.size)).mono hbel.size)).grown hgr (by have := hb3.size; have := hb1.size; have := hbel.size; omega) (fun k e => by have := (hoi3.1.lt k e).1; omega)).grown hgr2 (by have := hgr.size; have := hb3.size; have := hb1.size; have := hbel.size; omega) (fun k e => by cases e; omega)
          have hsz2 : w.heap.size + 1 ≤ w2.heap.size := by have := hgr2.size; have := hgr.size; have := hb3.size; have := hb1.size; omega
          have HG2 := Lib.hid hGr2
          have HO2 := Lib.hid hown2
          clear hGr2 hown2 hgr2 hgr hrow hown' hback hrun2 hoi hoi3 hat hrun hc3 hb3 hs3 hmb hmb3 m3 hm' hv'
          go_wp2
          go_roundw
          case rel => exact ⟨j + 1, by omega, by go_num, _, HG2, HO2, hbw2, hsz2⟩
          case measure => simp [intOf]; omega
      · obtain rfl : j = fs.length := by omega
        have HGr := hGr
        have HOWN := hown
        clear hGr hown
        go_wp2_with fail
        go_loopw [40] (fun ii wr => ∃ i : Nat, i ≤ fs.length ∧ ii = .int .i64 i ∧ ∃ D free, Hid (R = pairFs (fs.drop i) fs' free) ∧ Hid (free.Nodup ∧ GroupsIs D fs' free) ∧ Hid (wr.ownsGroups Tryd.prog 9 (w.heap.size + 1) 3 .i64 w.heap.size (fs.length + i) D) ∧ Below w.heap.size w wr ∧ w.heap.size + 1 ≤ wr.heap.size) (fun ii _ => fs.length - (intOf ii).toNat)
        case atStart => exact ⟨0, by omega, rfl, _, List.range fs.length, HR, Lib.hid ⟨List.nodup_range, HGr.out⟩, HOWN, hbel, hws⟩
        case round =>
          clear hbel hws HGr HOWN D
          obtain ⟨i, hi, rfl, D, free, hR, hGr, hown, hbel, hws⟩ := hrel
          by_cases h2 : i < fs.length
          · obtain ⟨x, hx⟩ : ∃ x, fs[i]? = some x := ⟨fs[i], by simp [h2]⟩
            rcases HF.out with hf0 | ⟨g, o, rfl, hg, hvs⟩
            · subst hf0; simp at hx
            obtain ⟨hnm, csx, hcx, hvx⟩ := hvs.get hx
            have hnm := (hbel.cell (p := ⟨g, _, none⟩) hg).trans hnm
            have hcx := hcx.below hbel hg
            have hlen := (HM.out.get hx).1
            have hmx := (HM.out.get hx).2
            have hxN := HN.out x (List.mem_of_getElem? hx)
            have hRx := hR.out
            rw [drop_some hx, pairFs_cons] at hRx
            have HRX := Lib.hid hRx
            have HVX := Lib.hid (hvx.on hbel)
            have HMX := Lib.hid hmx
            have HXN := Lib.hid hxN
            obtain ⟨xn, xk, xb, xi, xf, xt, xty, xits, xfs⟩ := x
            obtain ⟨xp, xc, xq, xd, rfl, _, _, _, _⟩ := hvx
            obtain ⟨c0, c1, c2, c3, c4, c5, c6, c7⟩ := hcx.all
            have hgr : g < wr.heap.size := Nat.lt_of_lt_of_le hg hbel.size
            clear hx hvs hcx hR hRx hmx hxN
            go_upto_region 12 with (fail)
            obtain ⟨W1, hW⟩ : ∃ W1, wr.alloc (.cells (mcells xn xk xb xi xf xt xty xp xits.length xc xq xfs.length xd) 79) = W1 := ⟨_, rfl⟩
            have hb1 : Below wr.heap.size wr W1 := by rw [← hW]; exact (Below.refl _ _).alloc (Nat.le_refl _) _
            have hs1 : wr.heap.size < W1.heap.size := by rw [← hW]; simp
            have hcm : CellsAt W1 wr.heap.size 0 (mcells xn xk xb xi xf xt xty xp xits.length xc xq xfs.length xd) := by rw [← hW]; exact cellsAt_alloc _ _ _ _
            have hmb0 : W1.heap[wr.heap.size]? = some (.cells (mcells xn xk xb xi xf xt xty xp xits.length xc xq xfs.length xd) 79 (0, 0)) := by rw [← hW]; exact heap_new _ _
            have e : wr.alloc (.cells (mcells xn xk xb xi xf xt xty xp xits.length xc xq xfs.length xd) 79) = W1 := hW
            clear hW c0 c1 c2 c3 c4 c5 c6 c7 hnm
            rw [e]
            clear e
            have m0 : W1.cell? ⟨wr.heap.size, 0, none⟩ = some (.string xn) := hcm 0 _ rfl
            have HCM := Lib.hid hcm
            have HMB := Lib.hid hmb0
            obtain ⟨v, zs, hrun, hat, hoi, hzl, hback⟩ := (ownsGroups_below hown.out hb1).at (string_keyed Tryd.underlying9) Tryd.underlying162 (zero_ints _) (by unfold maxLen; omega) (keyOf_string_mk Tryd.underlying9 hlen)
            have hz := hGr.out.2.found hoi hat
            generalize hks : idx fs' free xn = ks at hz
            subst hz
            obtain ⟨A, cap, hv, hA⟩ : ∃ A cap, v = .slice A ks.length cap ∧ (ks = [] ∨ ∃ gk, A = some ⟨gk, 0, none⟩ ∧ w.heap.size + 1 ≤ gk ∧ gk < W1.heap.size ∧ ks.length ≤ cap ∧ cap ≤ maxLen ∧ ∀ (m : Nat) j, ks[m]? = some j → W1.cell? ⟨gk, m, none⟩ = some (.int .i64 (j : Int))) := by
              rcases hoi.1.2 with ⟨rfl, h0⟩ | ⟨gk, cap, cur, rfl, _⟩
              · have hk0 : ks = [] := by simpa using h0
                exact ⟨none, 0, by simp [hk0], .inl hk0⟩
              · have h := ownsInts_cells hoi
                refine ⟨_, cap, by simp, .inr ⟨gk, rfl, h.2.2.2.1, h.2.2.2.2.1, by simpa using h.2.1, h.2.2.1, fun m j hm => ?_⟩⟩
                exact h.2.2.2.2.2 m j (by simp [hm])
            subst hv
            have HOI := Lib.hid hoi
            have HAT := Lib.hid hat
            have HBACK := Lib.hid hback
            have HA := Lib.hid hA
            have HKS := Lib.hid hks
            have hkl : ks.length ≤ fs.length + i := by simpa using hzl
            clear hoi hat hback hA hks hcm hmb0 hzl
            go_wp2_with fail
            have hbelW := hbel.trans (hb1.mono hbel.size)
            have HVX1 := Lib.hid (HVX.out.on hb1)
            have hne := ownsInts_ne HOI.out HMB.out (by decide)
            clear hrun HVX hb1
            generalize wr.heap.size = M at *
            go_loopw [11, 50] (fun ht kk wr2 => ∃ k : Nat, k ≤ ks.length ∧ kk = .int .i64 k ∧ ht = .int .i64 (-1) ∧ Hid (∀ (m : Nat) j, m < k → ks[m]? = some j → fits (xn, V.mk xk xb xi xf xt xty xits xfs) fs' j = false) ∧ Below W1.heap.size W1 wr2) (fun _ kk _ => ks.length - (intOf kk).toNat)
            case atStart => exact ⟨0, by omega, rfl, rfl, Lib.hid (fun m j h => absurd h (by omega)), Below.refl _ _⟩
            case round =>
              clear m0
              obtain ⟨k, hk, rfl, rfl, hno, hbel2⟩ := hrel
              by_cases h3 : k < ks.length
              · obtain ⟨jj, hjj⟩ : ∃ jj, ks[k]? = some jj := ⟨ks[k], by simp [h3]⟩
                have hmem : jj ∈ idx fs' free xn := by rw [HKS.out]; exact List.mem_of_getElem? hjj
                obtain ⟨hfree, hnamed⟩ := List.mem_filter.1 hmem
                have hnamed0 := hnamed
                obtain ⟨y, hy, hyn⟩ : ∃ y, fs'[jj]? = some y ∧ xn.toList = y.1.toList := by
                  unfold named at hnamed
                  cases hq : fs'[jj]? with
                  | none => rw [hq] at hnamed; cases hnamed
                  | some y => rw [hq] at hnamed; exact ⟨y, rfl, by simpa using hnamed⟩
                have hjn : jj < fs.length := by have := (List.getElem?_eq_some_iff.1 hy).1; have := HL.out; omega
                rcases HA.out with h0 | ⟨gk, rfl, hgk1, hgk2, hcap1, hcap2, hcells⟩
                · subst h0; simp at h3
                rcases HF'.out with h0 | ⟨g', o', rfl, hg', hvs'⟩
                · subst h0; simp at hy
                obtain ⟨_, csx', hcx', hvx'⟩ := hvs'.get hy
                have hbw := hbelW.trans (hbel2.mono hbelW.size)
                have hcx' := hcx'.below hbw hg'
                have hvx' := hvx'.on hbw
                have hck := (hbel2.cell (p := ⟨gk, _, none⟩) hgk2).trans (hcells k jj hjj)
                obtain ⟨m0, m1, m2, m3, m4, m5, m6, m7, m8⟩ := (HCM.out.below hbel2 hs1).all9
                have hfit : fits (xn, V.mk xk xb xi xf xt xty xits xfs) fs' jj = sameV (V.mk xk xb xi xf xt xty xits xfs) y.2 := by simp [fits, hy, memS, hyn]
                have hb0 := (Below.drew (Below.refl wr.heap.size wr))
                have HC := IH.out _ HXN.out HMX.out _ (HM'.out.get hy).2 _ _ _ ((HVX1.out.on hbel2).on hb0) (hvx'.on hb0)
                have hgkr : gk < wr.heap.size := Nat.lt_of_lt_of_le hgk2 hbel2.size
                have hMr : M < wr.heap.size := Nat.lt_of_lt_of_le hs1 hbel2.size
                have hgr' : g' < wr.heap.size := Nat.lt_of_lt_of_le hg' hbw.size
                obtain ⟨yn, yk, yb, yi, yf, yt, yty, yits, yfs⟩ := y
                obtain ⟨yp, yc, yq, yd, rfl, _, _, _, _⟩ := hvx'
                obtain ⟨d0, d1, d2, d3, d4, d5, d6, d7⟩ := hcx'.all
                have HC := Lib.hid HC
                have HFIT := Lib.hid hfit
                have HCELLS := Lib.hid hcells
                have HMEM := Lib.hid (And.intro hfree hnamed0)
                have HJJ := Lib.hid hjj
                have HYN := Lib.hid hyn
                clear hy hcx' hvs' hb0 hfit hcells hmem hfree hnamed hnamed0 hjj hyn
                try dsimp only at HFIT
                generalize sameV (.mk xk xb xi xf xt xty xits xfs) (.mk yk yb yi yf yt yty yits yfs) = E at HC HFIT
                go_wp2
                refine wp_region_plan_below 7 [(0, [0, 1, 2, 3, 4, 5, 6]), (2, [7])] (by kernel_rfl) (by kernel_rfl) (fun _ _ _ _ h => h) ?_
                simp only [wpSegs, pickOps, List.getElem?_toArray, List.getElem?_cons_zero, List.getElem?_cons_succ]
                have kc := cell_cls wr
                repeat (go_big_quiet_step (fail))
                refine wpQuiet_nil ?_
                clear kc
                cases E
                · go_wp2_with (go_at_call 42; refine HC.out.mono ?_; rintro e w1 ⟨rfl, hb2⟩)
                  have hbn := hbel2.trans (((Below.drew (Below.refl wr.heap.size wr)).trans hb2).mono hbel2.size)
                  go_roundw
                  case rel =>
                    refine ⟨k + 1, by omega, by go_num, rfl, Lib.hid (fun m b hm hb => ?_), hbn⟩
                    by_cases e : m < k
                    · exact hno.out m b e hb
                    · obtain rfl : m = k := by omega
                      have := HJJ.out
                      rw [hb] at this
                      obtain rfl : b = jj := by simpa using this
                      exact HFIT.out
                  case measure => simp [intOf]; omega
                · have hfin : R = pairFs (fs.drop (i + 1)) fs' (free.filter (fun n => n != jj)) := by
                    rw [HRX.out, idx_find, HKS.out, find_at HJJ.out HFIT.out hno.out]
                  have HFIN := Lib.hid hfin
                  clear hfin
                  go_wp2_with (go_at_call 42; refine HC.out.mono ?_; rintro e w1 ⟨rfl, hb2⟩; have hbn := hbel2.trans (((Below.drew (Below.refl wr.heap.size wr)).trans hb2).mono hbel2.size); have n0 := (hbn.cell (p := ⟨M, 0, none⟩) hs1).trans (HCM.out 0 _ rfl))
                  have hoi1 := HOI.out.kept (grown_of_below hbn none) (.inr (by simp [Value.ownBlock]))
                  have hoid : w1.drew.ownsInts (w.heap.size + 1) 3 .i64 (.slice (some ⟨gk, 0, none⟩) ks.length cap) (ks.map (Nat.cast : Nat → Int)) := hoi1
                  obtain ⟨del1, del2, del3, del4⟩ := ownsInts_del hoid h3
                  obtain ⟨Ad, hAd, hnews⟩ : ∃ Ad : Addr, (if cap = k + 1 then some (⟨gk, 0, none⟩ : Addr) else some ⟨gk, k + 1, none⟩) = some Ad ∧ Hid (∀ j u, (movedI .i64 (ks.map (Nat.cast : Nat → Int)) k)[j]? = some u → w1.drew.cell? (Ad.add j) = some u) := by
                    by_cases h : cap = k + 1
                    · refine ⟨⟨gk, 0, none⟩, by simp [h], fun j u hu => ?_⟩
                      have h0 : (movedI .i64 (ks.map (Nat.cast : Nat → Int)) k).length = 0 := by rw [del4]; omega
                      rw [List.length_eq_zero_iff.1 h0] at hu
                      simp at hu
                    · refine ⟨⟨gk, k + 1, none⟩, by simp [h], fun j u hu => ?_⟩
                      simp only [movedI, List.getElem?_map, List.getElem?_drop, Option.map_eq_some_iff] at hu
                      obtain ⟨z, ⟨z0, hz0, rfl⟩, rfl⟩ := hu
                      rw [addr_add]
                      exact (ownsInts_cells hoid).2.2.2.2.2 (k + 1 + j) z0 (by simp [hz0])
                  have S1 := Lib.hid del1
                  have S2 := Lib.hid del2
                  have S3 := Lib.hid del3
                  have S4 := Lib.hid del4
                  have hm1 : Hid (∀ u ∈ movedI .i64 (ks.map (Nat.cast : Nat → Int)) k, u.oneCell' = true) := Lib.hid (by
                    intro u hu
                    obtain ⟨x, _, rfl⟩ := List.mem_map.1 hu
                    rfl)
                  have hic : k ≤ cap := by omega
                  have hwr : IntKind.i64.wrap ((k : Int) + 1) = (k : Int) + 1 := by rw [IntKind.wrap_i64]; omega
                  have hp0 : (0 : Int) ≤ (k : Int) + 1 := by omega
                  have hp1 : (k : Int) + 1 ≤ (ks.length : Int) := by omega
                  have hp2 : ((k : Int) + 1).toNat = k + 1 := by omega
                  have hw1 : Below W1.heap.size W1 w1.drew := hbn.drew
                  have hbw1 := hbelW.trans (hw1.mono hbelW.size)
                  obtain ⟨hi0, hiz⟩ := HI0.out
                  have HI1 := Lib.hid hi0
                  have HIZ := Lib.hid hiz
                  have nd : w1.drew.cell? ⟨M, 0, none⟩ = some (.string xn) := n0
                  clear del1 del2 del3 del4 hoi1 hoid hi0 hiz d0 d1 d2 d3 d4 d5 d6 d7 m0 m1 m2 m3 m4 m5 m6 m7 m8 hck hbn hb2
                  refine wp_region_tree 11 (.heads [0, 1, 2, 3, 4, 5, 6, 7, 8, 9] (.chain [10] (.tail [11]))) (CellCls M 0 (.string xn)) (by kernel_rfl) (by kernel_rfl) (fun _ _ _ _ h => h) (cellcls_of n0) ?_
                  simp only [wpPlan, pickOps, List.getElem?_toArray, List.getElem?_cons_zero, List.getElem?_cons_succ]
                  have kc := cellcls_kc M 0 (.string xn)
                  have hnE : Nonempty (CellW M 0 (.string xn)) := ⟨⟨w1, n0⟩⟩
                  repeat (go_big_quiet_step (fail))
                  refine wpQuiet_nil ?_
                  clear kc hnE
                  refine wpListC_plain rfl (fun K hK => ?_)
                  refine wp_append_cells (P := Tryd.prog) (w := w1.drew) (.tmp 72) (.tmp 76) 102 rfl 3 i0 1 Tryd.underlying102 HI1.out HIZ.out gk 0 k cap (by simp [Act.eval]) Ad (ks.length - (k + 1)) (cap - (k + 1)) (movedI .i64 (ks.map (Nat.cast : Nat → Int)) k) (by simp [Act.eval]) (by rw [S4.out, Nat.mul_one]) hnews.out hm1.out (by omega) ?c1 ?_
                  case c1 => exact fun j hj => S3.out j (by rw [← S4.out]; exact hj)
                  have hMk : M ≠ gk := fun e => hne (by rw [e]; rfl)
                  have hm' : (w1.drew.setCells gk (0 + k * 1) (movedI .i64 (ks.map (Nat.cast : Nat → Int)) k)).cell? ⟨M, 0, none⟩ = some (.string xn) := by
                    rw [World.cell?_of_block (w := w1.drew) (a := ⟨M, 0, none⟩) (heap_setCells_other gk hMk _ _ _)]
                    exact nd
                  have hbs : Below w.heap.size w (w1.drew.setCells gk (0 + k * 1) (movedI .i64 (ks.map (Nat.cast : Nat → Int)) k)) := below_setCells hbw1 (by omega) _ _
                  have hsz4 := size_setCells gk (movedI .i64 (ks.map (Nat.cast : Nat → Int)) k) (0 + k * 1) w1.drew
                  have hgr4 := (grown_of_below hw1 (some gk)).trans S2.out
                  have S5 := Lib.hid S1.out
                  have HG4 := Lib.hid hgr4
                  clear hgr4 S1 S2 S3 S4
                  generalize w1.drew.setCells gk (0 + k * 1) (movedI .i64 (ks.map (Nat.cast : Nat → Int)) k) = w4 at *
                  refine hK _ _ (cellcls_of hm') ?_
                  clear hK K
                  refine wpListC_nil ?_
                  refine wpList_plain rfl (fun K hK => ?_)
                  obtain ⟨w5, hrun5, hown5, hgr5⟩ := HBACK.out w4 (.slice (some ⟨gk, 0, none⟩) (k + (ks.length - (k + 1))) cap) _ HG4.out S5.out (by rw [List.length_eraseIdx]; simp; split <;> omega) (.inl rfl)
                  go_step
                  refine hK _ _ ?_
                  clear hK K
                  have hGr2 := hGr.out.2.put (free' := free.filter (fun n => n != jj)) (s := xn) S5.out (by rw [map_eraseIdx, idx_drop_same _ _ _ hGr.out.1 (by rw [HKS.out]; exact HJJ.out), HKS.out]) (fun t ht => idx_drop_other _ _ _ _ HMEM.out.2 ht)
                  have hbw5 := hbs.grown hgr5 (by have := hbw1.size; omega) (fun k e => by cases e; omega)
                  have hsz5 : w.heap.size + 1 ≤ w5.heap.size := by have := hgr5.size; have := hw1.size; omega
                  have HG2 := Lib.hid (And.intro (hGr.out.1.filter (fun n => n != jj)) hGr2)
                  have HO5 := Lib.hid hown5
                  clear hGr2 hown5 hgr5 hrun5 hbs
                  go_wp2
                  go_roundw
                  case rel => exact ⟨i + 1, by omega, by go_num, _, _, HFIN, HG2, HO5, hbw5, hsz5⟩
                  case measure => simp [intOf]; omega
              · have hfin : R = false := by
                  rw [HRX.out, idx_find, HKS.out, find_no (fun m b hm hb => hno.out m b (by omega) hb)]
                go_wp2_with fail
                go_ret
                exact ⟨ret_eq (by rw [hfin]; rfl), hbelW.trans (hbel2.mono hbelW.size)⟩
          · have hfin : R = true := by rw [hR.out, List.drop_of_length_le (by omega), pairFs_nil]
            go_wp2_with fail
            go_ret
            exact ⟨ret_eq (by rw [hfin]; rfl), hbel⟩
  · rw [decide_eq_false hln, Bool.false_and]
    go_enter Tryd.func87, Tryd.ntmps87
    go_wp2_with fail
    go_ret
    exact ⟨rfl, Below.refl _ _⟩
end Go.Proofs.YtnmnmkdmnohbmaaDoor
