/- Several texts in one: Helper text: the child to which a step leads: Find of the reference, spot of the program. Helper text: spot of the program: the address of the child to which a step leads. Helper text: the walks over Copy of the program and of the reference. Helper text: what stands at a path: the value, and Get of the program. Helper text: a value in blocks of its own, with another value put at a path. Helper text: Set of the program. Helper text: the walk over Copy of the reference. Conditions: none. -/
import Derived.Test.YtldjbgklmeigmaaGreatDoorPackC
import Derived.Test.YtldjbgklmeigmaaGreatDoorPackB
import Derived.Deep.CutBlock
import Derived.Test.YtldjbgklmeigmaaGreatDoorPackD
import Derived.Deep.MidRow
namespace Go.Proofs.YtldjbgklmeigmaaGreatDoor
open Go.RowKit
attribute [local go_sem] run_store_float St.cells

def nameIs (n : ByteArray) (x : ByteArray × V) : Bool := x.1.toList == n.toList

/-- Where the child stands among the items or the fields. -/
def childIx (v : V) (s : St) : Option Nat :=
  if s.it then (if kd v.kind = 5 ∧ 0 ≤ s.ix ∧ s.ix < v.its.length then some s.ix.toNat else none)
  else if kd v.kind = 6 then v.fs.findIdx? (nameIs s.nm) else none

def child (v : V) (s : St) : Option V := (childIx v s).bind fun n => if s.it then v.its[n]? else (v.fs[n]?).map (·.2)

end Go.Proofs.YtldjbgklmeigmaaGreatDoor

namespace Go.Proofs.YtldjbgklmeigmaaGreatDoor
open Go.RowKit
attribute [local go_sem] run_store_float St.cells

def shift (a : Addr) (n : Nat) : Addr := ⟨a.block, a.off + n, none⟩

/-- The address of the child. -/
def spotA (p q : Option Addr) (v : V) (s : St) : Option Addr := (childIx v s).bind fun n => if s.it then p.map (shift · (n * 8)) else q.map (shift · (n * 9 + 1))

end Go.Proofs.YtldjbgklmeigmaaGreatDoor

namespace Go.Proofs.YtldjbgklmeigmaaGreatDoor
open Go.RowKit
attribute [local go_sem] run_store_float

/-- What Copy answers: the same value in blocks of its own. -/
def CopyPost (v : V) (w : World) (e : Ending) (w' : World) : Prop :=
  ∃ cs bs, e = .returned (.agg cs) ∧ OwnV w' v cs bs ∧ bs.Nodup ∧ (∀ x ∈ bs, w.heap.size ≤ x ∧ x < w'.heap.size) ∧ Below w.heap.size w w'

set_option maxRecDepth 100000 in
set_option maxHeartbeats 1000000 in
theorem Copy_any : ∀ (N : Nat) (v : V), szV v ≤ N → ∀ (cs : Array Value) (w : World), IsV w.heap.size w v cs → szV v ≤ 1000000 →
    Calls Tryz.prog 13 #[.agg cs] w (CopyPost v w) := by
  intro N
  induction N with
  | zero => intro v hv; have := szV_pos v; omega
  | succ N ih =>
    intro v hN cs w hv hm
    obtain ⟨k, b, i, f, t, ty, its, fs⟩ := v
    have hv0 := hv
    obtain ⟨p, c, q, d, rfl, hi, hf, l1, l2⟩ := hv
    unfold lenMax at l1 l2
    have hln : its.length ≤ 1000000 ∧ fs.length ≤ 1000000 := by
      simp only [szV] at hm
      omega
    have IH := Lib.hid ih
    have HV := Lib.hid hv0
    have HI := Lib.hid hi
    have HF := Lib.hid hf
    have HN := Lib.hid hN
    clear ih hv0 hi hf hN
    go_enter Tryz.func13, Tryz.ntmps13
    go_wp2_with fail
    obtain ⟨wa, hW⟩ : ∃ wa, ((w.alloc (.cells (vcells k b i f t ty p its.length c q fs.length d) 34)).alloc (.cells (vcells 0 false 0 0 ⟨#[]⟩ ⟨#[]⟩ none 0 0 none 0 0) 34)).alloc (.cells (vcells k b i f t ty none 0 0 q fs.length d) 34) = wa := ⟨_, rfl⟩
    have hbel : Below w.heap.size w wa := by rw [← hW]; exact (((Below.refl _ _).alloc (Nat.le_refl _) _).alloc (by simp) _).alloc (by simp; omega) _
    have hsz : wa.heap.size = w.heap.size + 1 + 1 + 1 := by rw [← hW]; simp
    have h0 : wa.heap[w.heap.size]? = some (.cells (vcells k b i f t ty p its.length c q fs.length d) 34 (0, 0)) := by
      rw [← hW]; exact heap_old (heap_old (heap_new _ _) _) _
    have h1 : wa.heap[w.heap.size + 1]? = some (.cells (vcells 0 false 0 0 ⟨#[]⟩ ⟨#[]⟩ none 0 0 none 0 0) 34 (0, 0)) := by
      rw [← hW]; exact heap_old (by have := heap_new (w.alloc (.cells (vcells k b i f t ty p its.length c q fs.length d) 34)) (.cells (vcells 0 false 0 0 ⟨#[]⟩ ⟨#[]⟩ none 0 0 none 0 0) 34); rwa [World.size_alloc] at this) _
    have h2 : wa.heap[w.heap.size + 1 + 1]? = some (.cells (vcells k b i f t ty none 0 0 q fs.length d) 34 (0, 0)) := by
      rw [← hW]; have := heap_new ((w.alloc (.cells (vcells k b i f t ty p its.length c q fs.length d) 34)).alloc (.cells (vcells 0 false 0 0 ⟨#[]⟩ ⟨#[]⟩ none 0 0 none 0 0) 34)) (.cells (vcells k b i f t ty none 0 0 q fs.length d) 34); rwa [World.size_alloc, World.size_alloc] at this
    have H0 := Lib.hid h0
    have H1 := Lib.hid h1
    have H2 := Lib.hid h2
    have HSZ := Lib.hid hsz
    have e : ((w.alloc (.cells (vcells k b i f t ty p its.length c q fs.length d) 34)).alloc (.cells (vcells 0 false 0 0 ⟨#[]⟩ ⟨#[]⟩ none 0 0 none 0 0) 34)).alloc (.cells (vcells k b i f t ty none 0 0 q fs.length d) 34) = wa := hW
    clear h0 h1 h2 hsz hW
    rw [e]
    clear e
    go_loopw [13] (fun ii wr => ∃ j : Nat, j ≤ its.length ∧ ii = .int .i64 j ∧ ∃ sv css bs, Hid (wr.heap[w.heap.size + 1 + 1]? = some (.cells #[.int .i64 k, .bool b, .int .i64 i, .float .f64 f, .string t, .string ty, sv, .slice q fs.length d] 34 (0, 0))) ∧
        Gath (w.heap.size + 1 + 1 + 1) 34 8 wr sv j (css.flatMap (·.toList)) (its.take j) css bs ∧ Below (w.heap.size + 1 + 1) wa wr) (fun ii _ => its.length - (intOf ii).toNat)
    case atStart => exact ⟨0, by omega, rfl, _, [], [], H2, Gath.start _ _ _ _, Below.refl _ _⟩
    case round =>
      obtain ⟨j, hj, rfl, sv, css, bs, hL, hG, hbel2⟩ := hrel
      by_cases h1 : j < its.length
      · obtain ⟨x, hx⟩ : ∃ x, its[j]? = some x := ⟨its[j], by simp [h1]⟩
        obtain hi := HI.out
        rcases hi with hi | ⟨g, o, rfl, hg, hvs⟩
        · subst hi; simp at h1
        obtain ⟨csx, hcx, hvx⟩ := hvs.get hx
        have hbw := hbel.trans (hbel2.mono (by omega))
        have hcx' := hcx.below hbw hg
        have hvx' := hvx.on hbw
        have hx1 : szV x ≤ N ∧ szV x ≤ 1000000 := by
          have := szVs_get hx
          have := HN.out
          simp only [szV] at this hm
          omega
        obtain ⟨xk, xb, xi, xf, xt, xty, xits, xfs⟩ := x
        obtain ⟨xp, xc, xq, xd, rfl, _, _, _, _⟩ := hvx
        obtain ⟨c0, c1, c2, c3, c4, c5, c6, c7⟩ := hcx'.all
        have hcell : wr.cell? ⟨w.heap.size + 1 + 1, 6, none⟩ = some sv := by simp [World.cell?, hL.out]
        have HX := Lib.hid hx
        have HX1 := Lib.hid hx1
        have HVX := Lib.hid hvx'
        have HG := Lib.hid hG
        have hsL : w.heap.size + 1 + 1 < wr.heap.size := (Array.getElem?_eq_some_iff.1 hL.out).1
        clear hx hvs hcx hcx' hx1 hvx' hG
        go_wp2
        obtain ⟨W1, hW⟩ : ∃ W1, wr.alloc (.cells (vcells xk xb xi xf xt xty xp xits.length xc xq xfs.length xd) 34) = W1 := ⟨_, rfl⟩
        have hb1 : Below wr.heap.size wr W1 := by rw [← hW]; exact (Below.refl _ _).alloc (Nat.le_refl _) _
        have hs1 : wr.heap.size < W1.heap.size := by rw [← hW]; simp
        obtain ⟨d0, d1, d2, d3, d4, d5, d6, d7⟩ := (show CellsAt W1 wr.heap.size 0 (vcells xk xb xi xf xt xty xp xits.length xc xq xfs.length xd) by rw [← hW]; exact cellsAt_alloc _ _ _ _).all0
        have e : wr.alloc (.cells (vcells xk xb xi xf xt xty xp xits.length xc xq xfs.length xd) 34) = W1 := hW
        clear hW
        rw [e]
        clear e c0 c1 c2 c3 c4 c5 c6 c7
        have hcell' : W1.cell? ⟨w.heap.size + 1 + 1, 6, none⟩ = some sv := (hb1.cell (p := ⟨_, _, none⟩) hsL).trans hcell
        have hsL1 : w.heap.size + 1 + 1 < W1.heap.size := by omega
        have kc := cell_cls W1
        clear hcell
        refine wp_region_plan_below 5 [(0, [0, 1]), (1, [2, 3, 4]), (2, [5, 6, 7])] (by kernel_rfl) (by kernel_rfl) (fun _ _ _ _ h => h) ?_
        simp only [wpSegs, pickOps, List.getElem?_toArray, List.getElem?_cons_zero, List.getElem?_cons_succ]
        repeat (go_big_quiet_step (fail))
        refine wpQuiet_nil ?_
        clear kc
        refine wpListC_plain rfl (fun K hK => ?_)
        go_step
        refine hK _ _ (cls_drew _) ?_
        clear hK K
        refine wpListC_plain rfl (fun K hK => ?_)
        go_step
        refine (IH.out _ HX1.out.1 _ _ ((HVX.out.on hb1).on (Below.drew (Below.refl _ _))) HX1.out.2).mono ?_
        rintro e w1 ⟨cs', b', rfl, hown, hnod, hlow, hbc⟩
        have hbc1 := (Below.drew (Below.refl W1.heap.size W1)).trans hbc
        refine hK _ _ (cls_of_below hbc1) ?_
        clear hK K
        have HOWN := Lib.hid hown
        obtain ⟨p', c', q', d', bI, bF, rfl, _⟩ := hown
        refine wpListC_plain rfl (fun K hK => ?_)
        go_step
        have hb3 : Below w1.heap.size w1 (w1.alloc (.cells (vcells xk xb xi xf xt xty p' xits.length c' q' xfs.length d') 34)) := (Below.refl _ _).alloc (Nat.le_refl _) _
        have hnew := cellsAt_alloc w1 (vcells xk xb xi xf xt xty p' xits.length c' q' xfs.length d') 34 (0, 0)
        have hs3 : w1.heap.size < (w1.alloc (.cells (vcells xk xb xi xf xt xty p' xits.length c' q' xfs.length d') 34)).heap.size := by simp
        obtain ⟨W3, hW⟩ : ∃ W3, w1.alloc (.cells (vcells xk xb xi xf xt xty p' xits.length c' q' xfs.length d') 34) = W3 := ⟨_, rfl⟩
        rw [hW] at hb3 hnew hs3
        have e : w1.alloc (.cells (vcells xk xb xi xf xt xty p' xits.length c' q' xfs.length d') 34) = W3 := hW
        clear hW
        rw [e]
        clear e
        have hb13 := hbc1.trans (hb3.mono hbc1.size)
        refine hK _ _ (cls_of_below hb13) ?_
        clear hK K
        refine wpListC_nil ?_
        have hbr3 := hb1.trans (hb13.mono hb1.size)
        refine wpList_plain rfl (fun K hK => ?_)
        have HG3 := HG.out.below hbr3
        refine wp_append_x (P := Tryz.prog) W3 (.tmp 18) (.tmp 21) 31 rfl (w.heap.size + 1 + 1 + 1) 34 (.agg (vcells 0 false 0 0 ⟨#[]⟩ ⟨#[]⟩ none 0 0 none 0 0)) 8 112 Tryz.underlying31 (by kernel_rfl) rfl (by decide) sv j _ rfl HG3.row ⟨w1.heap.size, 0, none⟩ 1 1 (vcells xk xb xi xf xt xty p' xits.length c' q' xfs.length d').toList rfl (by decide) rfl ?c1 ?c2 ?c3 ?c4 ?c5 ?_
        case c1 =>
          intro m u hu
          have := hnew m u (by simpa using hu)
          rw [addr_add]
          exact this
        case c2 => intro u hu; simp at hu; rcases hu with rfl | rfl | rfl | rfl | rfl | rfl | rfl | rfl <;> rfl
        case c3 => unfold maxLen; omega
        case c4 => omega
        case c5 => have := HSZ.out; have := hbr3.size; omega
        intro v' w' hrow hgr hv'
        refine hK _ _ ?_
        clear hK K
        have hlow3 : ∀ y ∈ b', wr.heap.size ≤ y ∧ y < W3.heap.size := fun y hy => ⟨Nat.le_trans (Nat.le_of_lt hs1) (hlow y hy).1, Nat.lt_of_lt_of_le (hlow y hy).2 hb3.size⟩
        have hown3 : OwnV W3 (V.mk xk xb xi xf xt xty xits xfs) (vcells xk xb xi xf xt xty p' xits.length c' q' xfs.length d') b' := HOWN.out.kept (fun y hy => hb3.block y (hlow y hy).2)
        have hG' := HG.out.step hbr3 hown3 hnod hlow3 (by have := HSZ.out; have := hbel2.size; omega) hrow hgr hv'
        have hLw' : w'.heap[w.heap.size + 1 + 1]? = some (.cells #[.int .i64 k, .bool b, .int .i64 i, .float .f64 f, .string t, .string ty, sv, .slice q fs.length d] 34 (0, 0)) := by
          rw [hgr.block _ (by have := hbr3.size; omega) (fun e => by have := (HG.out.row.lt _ e.symm).1; omega), hbr3.block _ hsL]
          exact hL.out
        have hfin := heap_setCell_same (j := 6) hLw' v'
        have hbw' : Below (w.heap.size + 1 + 1) wa (w'.setCell ⟨w.heap.size + 1 + 1, 6, none⟩ v') :=
          ((hbel2.trans (hbr3.mono (by omega))).grown hgr (by have := hbr3.size; omega) (fun y hy => by have := (HG.out.row.lt y hy).1; omega)).setCell (Nat.le_refl _) _
        have hGf := hG'.setCell (L := w.heap.size + 1 + 1) (j := 6) (by omega) v'
        have hc6 : w'.cell? ⟨w.heap.size + 1 + 1, 6, none⟩ = some sv := by simp [World.cell?, hLw']
        have hf6 : w'.frozen? ⟨w.heap.size + 1 + 1, 6, none⟩ = false := by simp [World.frozen?, hLw']
        obtain ⟨g', cap', rfl⟩ : ∃ g' cap', v' = .slice (some ⟨g', 0, none⟩) (j + 1) cap' := by
          rcases hrow.2 with ⟨_, h⟩ | ⟨g', cap', cur, h, _⟩
          · omega
          · exact ⟨g', cap', h⟩
        have HFIN := Lib.hid hfin
        have HGF := Lib.hid hGf
        have HBW := Lib.hid hbw'
        clear hfin hGf hbw' hG' hLw' hrow hgr hv' hown3 hlow3 HG3 hbr3 hb13 hnew hb3 hbc1 hbc hlow hnod hcell'
        go_wp2
        go_roundw
        case rel =>
          refine ⟨j + 1, by omega, by go_num, .slice (some ⟨g', 0, none⟩) (j + 1) cap', css ++ [vcells xk xb xi xf xt xty p' xits.length c' q' xfs.length d'], bs ++ b', ?_, ?_, HBW.out⟩
          · exact HFIN
          · have h := HGF.out
            rw [List.flatMap_append, List.take_add_one, HX.out]
            simpa using h
        case measure => simp [intOf]; omega
      · obtain rfl : j = its.length := by omega
        rw [List.take_of_length_le (Nat.le_refl _)] at hG
        obtain ⟨p1, c1, b1, rfl, hIO, hnd1, hlow1⟩ := hG.items
        have hL' := hL.out
        have hc7 : wr.cell? ⟨w.heap.size + 1 + 1, 7, none⟩ = some (.slice q fs.length d) := by simp [World.cell?, hL']
        have hf7 : wr.frozen? ⟨w.heap.size + 1 + 1, 7, none⟩ = false := by simp [World.frozen?, hL']
        have hcb : wr.cell? ⟨w.heap.size, 7, none⟩ = some (.slice q fs.length d) := by
          rw [hbel2.cell (p := ⟨w.heap.size, 7, none⟩) (by simp only []; omega)]
          simp [World.cell?, H0.out, vcells]
        have hsL : w.heap.size + 1 + 1 < wr.heap.size := (Array.getElem?_eq_some_iff.1 hL').1
        have hne : ¬ w.heap.size + 1 + 1 = w.heap.size := by omega
        have HIO := Lib.hid hIO
        have HL := Lib.hid hL'
        clear hG hIO hL' hL
        go_wp2
        obtain ⟨wb, hW⟩ : ∃ wb, wr.setCell ⟨w.heap.size + 1 + 1, 7, none⟩ (.slice none 0 0) = wb := ⟨_, rfl⟩
        have hbb : Below (w.heap.size + 1 + 1) wa wb := by rw [← hW]; exact hbel2.setCell (Nat.le_refl _) _
        have hLb : wb.heap[w.heap.size + 1 + 1]? = some (.cells #[.int .i64 k, .bool b, .int .i64 i, .float .f64 f, .string t, .string ty, .slice p1 its.length c1, .slice none 0 0] 34 (0, 0)) := by rw [← hW]; exact heap_setCell_same HL.out _
        have hszb : wb.heap.size = wr.heap.size := by rw [← hW]; simp [World.setCell]
        have hIOb : ItemsOwn wb its p1 c1 b1 := HIO.out.kept (by rw [← hW]; exact Kept.setCell (fun _ _ => rfl) (fun h => by have := (hlow1 _ h).1; omega) _)
        have e : wr.setCell ⟨w.heap.size + 1 + 1, 7, none⟩ (.slice none 0 0) = wb := hW
        clear hW
        rw [e]
        clear e hc7 hf7 HL HIO hcb
        have hsb : w.heap.size + 1 + 1 + 1 ≤ wb.heap.size := by have := HSZ.out; have := hbel2.size; omega
        have HLB := Lib.hid hLb
        have HIOB := Lib.hid hIOb
        rw [← hszb] at hlow1
        clear hLb hIOb hszb
        go_loopw [29] (fun ii wr => ∃ j : Nat, j ≤ fs.length ∧ ii = .int .i64 j ∧ ∃ sv css bs, Hid (wr.heap[w.heap.size + 1 + 1]? = some (.cells #[.int .i64 k, .bool b, .int .i64 i, .float .f64 f, .string t, .string ty, .slice p1 its.length c1, sv] 34 (0, 0))) ∧
            Gath wb.heap.size 58 9 wr sv j (flatF ((fs.map (·.1)).take j) css) ((fs.map (·.2)).take j) css bs ∧ Below (w.heap.size + 1 + 1) wb wr ∧ Kept b1 wb wr) (fun ii _ => fs.length - (intOf ii).toNat)
        case atStart => exact ⟨0, by omega, rfl, _, [], [], HLB, Gath.start _ _ _ _, Below.refl _ _, fun _ _ => rfl⟩
        case round =>
          clear hbel2 hsL
          obtain ⟨j, hj, rfl, sv, css, bs, hL, hG, hbel2, hK1⟩ := hrel
          have hsL : w.heap.size + 1 + 1 < wr.heap.size := (Array.getElem?_eq_some_iff.1 hL.out).1
          by_cases h1 : j < fs.length
          · obtain ⟨x, hx⟩ : ∃ x, fs[j]? = some x := ⟨fs[j], by simp [h1]⟩
            obtain hf := HF.out
            rcases hf with hf | ⟨g, o, rfl, hg, hvs⟩
            · subst hf; simp at h1
            obtain ⟨hnm, csx, hcx, hvx⟩ := hvs.get hx
            have hbw := (hbel.trans (hbb.mono (by omega))).trans (hbel2.mono (by omega))
            have hcx' := hcx.below hbw hg
            have hvx' := hvx.on hbw
            have hnm' : wr.cell? ⟨g, o + j * 9, none⟩ = some (.string x.1) := (hbw.cell (p := ⟨g, _, none⟩) hg).trans hnm
            have hx1 : szV x.2 ≤ N ∧ szV x.2 ≤ 1000000 := by
              have := szFs_get hx
              have := HN.out
              simp only [szV] at this hm
              omega
            obtain ⟨xn, xk, xb, xi, xf, xt, xty, xits, xfs⟩ := x
            obtain ⟨xp, xc, xq, xd, rfl, _, _, _, _⟩ := hvx
            obtain ⟨c0, c1', c2, c3, c4, c5, c6, c7⟩ := hcx'.all
            have hcell : wr.cell? ⟨w.heap.size + 1 + 1, 7, none⟩ = some sv := by simp [World.cell?, hL.out]
            have HX := Lib.hid hx
            have HX1 := Lib.hid hx1
            have HVX := Lib.hid hvx'
            have HG := Lib.hid hG
            clear hx hvs hcx hcx' hx1 hvx' hG hnm
            go_wp2
            obtain ⟨W1, hW⟩ : ∃ W1, wr.alloc (.cells #[.string xn, .int .i64 xk, .bool xb, .int .i64 xi, .float .f64 xf, .string xt, .string xty, .slice xp xits.length xc, .slice xq xfs.length xd] 58) = W1 := ⟨_, rfl⟩
            have hb1 : Below wr.heap.size wr W1 := by rw [← hW]; exact (Below.refl _ _).alloc (Nat.le_refl _) _
            have hs1 : wr.heap.size < W1.heap.size := by rw [← hW]; simp
            have hcm : CellsAt W1 wr.heap.size 0 #[.string xn, .int .i64 xk, .bool xb, .int .i64 xi, .float .f64 xf, .string xt, .string xty, .slice xp xits.length xc, .slice xq xfs.length xd] := by rw [← hW]; exact cellsAt_alloc _ _ _ _
            have m0 : W1.cell? ⟨wr.heap.size, 0, none⟩ = some (.string xn) := hcm 0 _ rfl
            have m1 : W1.cell? ⟨wr.heap.size, 1, none⟩ = some (.int .i64 xk) := hcm 1 _ rfl
            have m2 : W1.cell? ⟨wr.heap.size, 2, none⟩ = some (.bool xb) := hcm 2 _ rfl
            have m3 : W1.cell? ⟨wr.heap.size, 3, none⟩ = some (.int .i64 xi) := hcm 3 _ rfl
            have m4 : W1.cell? ⟨wr.heap.size, 4, none⟩ = some (.float .f64 xf) := hcm 4 _ rfl
            have m5 : W1.cell? ⟨wr.heap.size, 5, none⟩ = some (.string xt) := hcm 5 _ rfl
            have m6 : W1.cell? ⟨wr.heap.size, 6, none⟩ = some (.string xty) := hcm 6 _ rfl
            have m7 : W1.cell? ⟨wr.heap.size, 7, none⟩ = some (.slice xp xits.length xc) := hcm 7 _ rfl
            have m8 : W1.cell? ⟨wr.heap.size, 8, none⟩ = some (.slice xq xfs.length xd) := hcm 8 _ rfl
            have e : wr.alloc (.cells #[.string xn, .int .i64 xk, .bool xb, .int .i64 xi, .float .f64 xf, .string xt, .string xty, .slice xp xits.length xc, .slice xq xfs.length xd] 58) = W1 := hW
            clear hW hcm
            rw [e]
            clear e c0 c1' c2 c3 c4 c5 c6 c7 hnm'
            have hcell' : W1.cell? ⟨w.heap.size + 1 + 1, 7, none⟩ = some sv := (hb1.cell (p := ⟨_, _, none⟩) hsL).trans hcell
            have hsL1 : w.heap.size + 1 + 1 < W1.heap.size := by omega
            have kc := cell_cls W1
            clear hcell
            refine wp_region_plan_below 9 [(0, [0, 1, 2, 3]), (1, [4, 5, 6, 7, 8]), (2, [9, 10, 11])] (by kernel_rfl) (by kernel_rfl) (fun _ _ _ _ h => h) ?_
            simp only [wpSegs, pickOps, List.getElem?_toArray, List.getElem?_cons_zero, List.getElem?_cons_succ]
            repeat (go_big_quiet_step (fail))
            refine wpQuiet_nil ?_
            clear kc
            refine wpListC_plain rfl (fun K hK => ?_)
            go_step
            refine hK _ _ (cls_drew _) ?_
            clear hK K
            refine wpListC_plain rfl (fun K hK => ?_)
            go_step
            refine hK _ _ (cls_drew _) ?_
            clear hK K
            refine wpListC_plain rfl (fun K hK => ?_)
            go_step
            refine (IH.out _ HX1.out.1 _ _ ((HVX.out.on hb1).on (Below.drew (Below.refl _ _))) HX1.out.2).mono ?_
            rintro e w1 ⟨cs', b', rfl, hown, hnod, hlow, hbc⟩
            have hbc1 := (Below.drew (Below.refl W1.heap.size W1)).trans hbc
            refine hK _ _ (cls_of_below hbc1) ?_
            clear hK K
            have HOWN := Lib.hid hown
            obtain ⟨p', c', q', d', bI, bF, rfl, _⟩ := hown
            refine wpListC_plain rfl (fun K hK => ?_)
            go_step
            refine hK _ _ (cls_of_below hbc1) ?_
            clear hK K
            refine wpListC_plain rfl (fun K hK => ?_)
            go_step
            have hb3 : Below w1.heap.size w1 (w1.alloc (.cells #[.string xn, .int .i64 xk, .bool xb, .int .i64 xi, .float .f64 xf, .string xt, .string xty, .slice p' xits.length c', .slice q' xfs.length d'] 58)) := (Below.refl _ _).alloc (Nat.le_refl _) _
            have hnew := cellsAt_alloc w1 #[.string xn, .int .i64 xk, .bool xb, .int .i64 xi, .float .f64 xf, .string xt, .string xty, .slice p' xits.length c', .slice q' xfs.length d'] 58 (0, 0)
            have hs3 : w1.heap.size < (w1.alloc (.cells #[.string xn, .int .i64 xk, .bool xb, .int .i64 xi, .float .f64 xf, .string xt, .string xty, .slice p' xits.length c', .slice q' xfs.length d'] 58)).heap.size := by simp
            obtain ⟨W3, hW⟩ : ∃ W3, w1.alloc (.cells #[.string xn, .int .i64 xk, .bool xb, .int .i64 xi, .float .f64 xf, .string xt, .string xty, .slice p' xits.length c', .slice q' xfs.length d'] 58) = W3 := ⟨_, rfl⟩
            rw [hW] at hb3 hnew hs3
            have e : w1.alloc (.cells #[.string xn, .int .i64 xk, .bool xb, .int .i64 xi, .float .f64 xf, .string xt, .string xty, .slice p' xits.length c', .slice q' xfs.length d'] 58) = W3 := hW
            clear hW
            rw [e]
            clear e m0 m1 m2 m3 m4 m5 m6 m7 m8
            have hb13 := hbc1.trans (hb3.mono hbc1.size)
            refine hK _ _ (cls_of_below hb13) ?_
            clear hK K
            refine wpListC_nil ?_
            have hbr3 := hb1.trans (hb13.mono hb1.size)
            refine wpList_plain rfl (fun K hK => ?_)
            have HG3 := HG.out.below hbr3
            refine wp_append_x (P := Tryz.prog) W3 (.tmp 34) (.tmp 41) 32 rfl wb.heap.size 58 (.agg (#[Value.string ⟨#[]⟩] ++ vcells 0 false 0 0 ⟨#[]⟩ ⟨#[]⟩ none 0 0 none 0 0)) 9 128 Tryz.underlying32 (by kernel_rfl) rfl (by decide) sv j _ rfl HG3.row ⟨w1.heap.size, 0, none⟩ 1 1 (#[Value.string xn] ++ vcells xk xb xi xf xt xty p' xits.length c' q' xfs.length d').toList rfl (by decide) rfl ?c1 ?c2 ?c3 ?c4 ?c5 ?_
            case c1 =>
              intro m u hu
              have := hnew m u (by simpa using hu)
              rw [addr_add]
              exact this
            case c2 => intro u hu; simp at hu; rcases hu with rfl | rfl | rfl | rfl | rfl | rfl | rfl | rfl | rfl <;> rfl
            case c3 => unfold maxLen; omega
            case c4 => omega
            case c5 => have := hbr3.size; have := hbel2.size; omega
            intro v' w' hrow hgr hv'
            refine hK _ _ ?_
            clear hK K
            have hlow3 : ∀ y ∈ b', wr.heap.size ≤ y ∧ y < W3.heap.size := fun y hy => ⟨Nat.le_trans (Nat.le_of_lt hs1) (hlow y hy).1, Nat.lt_of_lt_of_le (hlow y hy).2 hb3.size⟩
            have hown3 : OwnV W3 (V.mk xk xb xi xf xt xty xits xfs) (vcells xk xb xi xf xt xty p' xits.length c' q' xfs.length d') b' := HOWN.out.kept (fun y hy => hb3.block y (hlow y hy).2)
            have hG' := HG.out.step hbr3 hown3 hnod hlow3 hbel2.size hrow hgr hv'
            have hLw' : w'.heap[w.heap.size + 1 + 1]? = some (.cells #[.int .i64 k, .bool b, .int .i64 i, .float .f64 f, .string t, .string ty, .slice p1 its.length c1, sv] 34 (0, 0)) := by
              rw [hgr.block _ (by have := hbr3.size; omega) (fun e => by have := (HG.out.row.lt _ e.symm).1; omega), hbr3.block _ hsL]
              exact hL.out
            have hfin := heap_setCell_same (j := 7) hLw' v'
            have hbw' : Below (w.heap.size + 1 + 1) wb (w'.setCell ⟨w.heap.size + 1 + 1, 7, none⟩ v') :=
              ((hbel2.trans (hbr3.mono (by omega))).grown hgr (by have := hbr3.size; omega) (fun y hy => by have := (HG.out.row.lt y hy).1; omega)).setCell (Nat.le_refl _) _
            have hGf := hG'.setCell (L := w.heap.size + 1 + 1) (j := 7) (by omega) v'
            have hK1' : Kept b1 wb (w'.setCell ⟨w.heap.size + 1 + 1, 7, none⟩ v') :=
              ((hK1.trans (Kept.below hbr3 (fun y hy => by have := (hlow1 y hy).2; have := hbel2.size; omega))).grown hgr (fun y hy => by have := (hlow1 y hy).2; have := hbel2.size; have := hbr3.size; omega) (fun g hg hm => by have := (hlow1 g hm).2; have := (HG.out.row.lt g hg).1; omega)).setCell (fun h => by have := (hlow1 _ h).1; omega) _
            have hc6 : w'.cell? ⟨w.heap.size + 1 + 1, 7, none⟩ = some sv := by simp [World.cell?, hLw']
            have hf6 : w'.frozen? ⟨w.heap.size + 1 + 1, 7, none⟩ = false := by simp [World.frozen?, hLw']
            obtain ⟨g', cap', rfl⟩ : ∃ g' cap', v' = .slice (some ⟨g', 0, none⟩) (j + 1) cap' := by
              rcases hrow.2 with ⟨_, h⟩ | ⟨g', cap', cur, h, _⟩
              · omega
              · exact ⟨g', cap', h⟩
            have HFIN := Lib.hid hfin
            have HGF := Lib.hid hGf
            have HBW := Lib.hid hbw'
            have HK1 := Lib.hid hK1'
            clear hfin hGf hbw' hG' hLw' hrow hgr hv' hown3 hlow3 HG3 hbr3 hb13 hnew hb3 hbc1 hbc hlow hnod hcell' hK1'
            go_wp2
            go_roundw
            case rel =>
              refine ⟨j + 1, by omega, by go_num, .slice (some ⟨g', 0, none⟩) (j + 1) cap', css ++ [vcells xk xb xi xf xt xty p' xits.length c' q' xfs.length d'], bs ++ b', ?_, ?_, HBW.out, HK1.out⟩
              · exact HFIN
              · have h := HGF.out
                have hlen := HG.out.own.length
                have e1 : (fs.map (·.1)).take (j + 1) = (fs.map (·.1)).take j ++ [xn] := by rw [List.take_add_one]; simp [HX.out]
                have e2 : (fs.map (·.2)).take (j + 1) = (fs.map (·.2)).take j ++ [V.mk xk xb xi xf xt xty xits xfs] := by rw [List.take_add_one]; simp [HX.out]
                rw [e1, e2, flatF_snoc _ _ _ _ (by rw [hlen]; simp)]
                simpa using h
            case measure => simp [intOf]; omega
          · obtain rfl : j = fs.length := by omega
            rw [List.take_of_length_le (by simp), List.take_of_length_le (by simp)] at hG
            obtain ⟨q1, d1, b2, rfl, hFO, hnd2, hlow2⟩ := hG.fields
            have hL' := hL.out
            obtain ⟨e0, e1, e2, e3, e4, e5, e6, e7⟩ := (show CellsAt wr (w.heap.size + 1 + 1) 0 (vcells k b i f t ty p1 its.length c1 q1 fs.length d1) by intro m x hx; rw [Nat.zero_add]; simp only [World.cell?, hL']; exact hx).all0
            have hIO := HIOB.out.kept hK1
            have h1' : wr.heap[w.heap.size + 1]? = some (.cells (vcells 0 false 0 0 ⟨#[]⟩ ⟨#[]⟩ none 0 0 none 0 0) 34 (0, 0)) := by
              rw [hbel2.block _ (by omega), hbb.block _ (by omega)]; exact H1.out
            have H1' := Lib.hid h1'
            have HIO := Lib.hid hIO
            have HFO := Lib.hid hFO
            clear hL' hL hG hIO hFO h1'
            go_upto_region 14 with (fail)
            go_step
            refine wpList_plain rfl (fun K hK => ?_)
            go_step
            refine hK _ _ ?_
            clear hK K
            refine wpList_plain rfl (fun K hK => ?_)
            refine wp_store_row (P := Tryz.prog) 34 (.tmp 2) (.tmp 45) rfl (w.heap.size + 1) (vcells k b i f t ty p1 its.length c1 q1 fs.length d1) rfl rfl 34 _ H1'.out (by kernel_rfl) rfl (vcells_one ..) ?_
            refine hK _ _ ?_
            clear hK K
            have hnew : (wr.setRow (w.heap.size + 1) (vcells k b i f t ty p1 its.length c1 q1 fs.length d1)).heap[w.heap.size + 1]? = some (.cells (vcells k b i f t ty p1 its.length c1 q1 fs.length d1) 34 (0, 0)) := setRow_heap _ _ _ _ _ _ H1'.out
            have hwfin : Below w.heap.size w (wr.setRow (w.heap.size + 1) (vcells k b i f t ty p1 its.length c1 q1 fs.length d1)) := below_setRow ((hbel.trans (hbb.mono (by omega))).trans (hbel2.mono (by omega))) (by omega) _
            have hk1 : Kept b1 wr (wr.setRow (w.heap.size + 1) (vcells k b i f t ty p1 its.length c1 q1 fs.length d1)) := Kept.setRow (fun _ _ => rfl) (fun h => by have := (hlow1 _ h).1; omega) _
            have hk2 : Kept b2 wr (wr.setRow (w.heap.size + 1) (vcells k b i f t ty p1 its.length c1 q1 fs.length d1)) := Kept.setRow (fun _ _ => rfl) (fun h => by have := (hlow2 _ h).1; omega) _
            have hsz := setRow_size wr (w.heap.size + 1) (vcells k b i f t ty p1 its.length c1 q1 fs.length d1)
            generalize wr.setRow (w.heap.size + 1) (vcells k b i f t ty p1 its.length c1 q1 fs.length d1) = wz at *
            obtain ⟨r0, r1, r2, r3, r4, r5, r6, r7⟩ := (show CellsAt wz (w.heap.size + 1) 0 (vcells k b i f t ty p1 its.length c1 q1 fs.length d1) by intro m x hx; rw [Nat.zero_add]; simp only [World.cell?, hnew]; exact hx).all0
            have hpost : CopyPost (.mk k b i f t ty its fs) w (.returned (.agg (vcells k b i f t ty p1 its.length c1 q1 fs.length d1))) wz := by
              refine ⟨_, _, rfl, OwnV.intro l1 l2 (HIO.out.kept hk1) (HFO.out.kept hk2), ?_, ?_, hwfin⟩
              · exact List.nodup_append.2 ⟨hnd1, hnd2, fun x hx y hy e => by have := (hlow1 x hx).2; have := (hlow2 y hy).1; omega⟩
              · intro x hx
                rcases List.mem_append.1 hx with hx | hx
                · have := hlow1 x hx; have := hbel2.size; omega
                · have := hlow2 x hx; omega
            have HP := Lib.hid hpost
            clear hpost e0 e1 e2 e3 e4 e5 e6 e7 hwfin hk1 hk2 hnew
            go_wp2
            exact bodyPost_ret (v := .agg (vcells k b i f t ty p1 its.length c1 q1 fs.length d1)) (by simp [results, Tryz.results13, go_sem, r0, r1, r2, r3, r4, r5, r6, r7]) rfl HP.out
end Go.Proofs.YtldjbgklmeigmaaGreatDoor

namespace Go.Proofs.YtldjbgklmeigmaaGreatDoor
open Go.RowKit
attribute [local go_sem] run_store_float St.cells

@[reducible] def cells0 : Array Value := vcells 0 false 0 0 ⟨#[]⟩ ⟨#[]⟩ none 0 0 none 0 0

theorem child_size {v : V} {s : St} {u : V} (h : child v s = some u) : szV u < szV v ∧ (okV v → okV u) := by
  obtain ⟨k, b, i, f, t, ty, its, fs⟩ := v
  unfold child at h
  cases hc : childIx (.mk k b i f t ty its fs) s with
  | none => rw [hc] at h; cases h
  | some n =>
    rw [hc] at h
    by_cases hit : s.it = true
    · simp only [Option.bind_some, hit, if_true, V.its] at h
      have := szVs_get h
      exact ⟨by simp only [szV]; omega, fun hk => hk.2.1.get h⟩
    · simp only [Option.bind_some, hit, Bool.false_eq_true, if_false, V.fs] at h
      obtain ⟨x, hx, rfl⟩ : ∃ x, fs[n]? = some x ∧ x.2 = u := by simpa using h
      have := szFs_get hx
      exact ⟨by simp only [szV]; omega, fun hk => hk.2.2.get hx⟩

end Go.Proofs.YtldjbgklmeigmaaGreatDoor

namespace Go.Proofs.YtldjbgklmeigmaaGreatDoor
open Go.RowKit

/-- v, with x for the child to which s leads. -/
def putC (v : V) (s : St) (x : V) : V := match v, childIx v s with
  | .mk k b i f t ty its fs, some n => if s.it then .mk k b i f t ty (its.set n x) fs else .mk k b i f t ty its (fs.modify n (fun y => (y.1, x)))
  | v, none => v

def setV : V → List St → V → Option V
  | _, [], x => some x
  | v, s :: r, x => (child v s).bind fun c => (setV c r x).map (putC v s)

theorem OwnVs.from {w w' : World} : ∀ {l : List V} {g o : Nat} {bs : List Nat}, OwnVs w l g o bs → Kept bs w w' → (∀ j, o ≤ j → w'.cell? ⟨g, j, none⟩ = w.cell? ⟨g, j, none⟩) → OwnVs w' l g o bs
  | [], _, _, _, h, _, _ => h
  | v :: r, g, o, bs, h, hk, hc => by
    obtain ⟨b1, b2, cs, rfl, h1, h2, h3⟩ := h
    exact ⟨b1, b2, cs, rfl, fun j x hx => (hc _ (by omega)).trans (h1 j x hx), h2.kept (fun x hx => hk x (by simp [hx])), OwnVs.from h3 (fun x hx => hk x (by simp [hx])) (fun j hj => hc j (by omega))⟩

theorem OwnFs.from {w w' : World} : ∀ {l : List (ByteArray × V)} {g o : Nat} {bs : List Nat}, OwnFs w l g o bs → Kept bs w w' → (∀ j, o ≤ j → w'.cell? ⟨g, j, none⟩ = w.cell? ⟨g, j, none⟩) → OwnFs w' l g o bs
  | [], _, _, _, h, _, _ => h
  | v :: r, g, o, bs, h, hk, hc => by
    obtain ⟨b1, b2, cs, rfl, h0, h1, h2, h3⟩ := h
    exact ⟨b1, b2, cs, rfl, (hc _ (by omega)).trans h0, fun j x hx => (hc _ (by omega)).trans (h1 j x hx), h2.kept (fun x hx => hk x (by simp [hx])), OwnFs.from h3 (fun x hx => hk x (by simp [hx])) (fun j hj => hc j (by omega))⟩

/-- One of a list of values is put anew. -/
theorem OwnVs.put {w : World} : ∀ {l : List V} {g o n : Nat} {bs : List Nat} {c : V}, OwnVs w l g o bs → l[n]? = some c →
    ∃ A B C ccs, bs = A ++ (B ++ C) ∧ CellsAt w g (o + n * 8) ccs ∧ OwnV w c ccs B ∧
      ∀ w' c' ccs' B', CellsAt w' g (o + n * 8) ccs' → OwnV w' c' ccs' B' → Kept A w w' → Kept C w w' → (∀ j, (j < o + n * 8 ∨ o + n * 8 + 8 ≤ j) → w'.cell? ⟨g, j, none⟩ = w.cell? ⟨g, j, none⟩) →
        OwnVs w' (l.set n c') g o (A ++ (B' ++ C))
  | [], _, _, _, _, _, _, h => by simp at h
  | v :: r, g, o, 0, bs, c, h, hn => by
    obtain rfl : v = c := by simpa using hn
    obtain ⟨b1, b2, cs, rfl, h1, h2, h3⟩ := h
    refine ⟨[], b1, b2, cs, by simp, by simpa using h1, h2, fun w' c' ccs' B' k1 k2 _ k3 k4 => ?_⟩
    rw [List.set_cons_zero]
    exact ⟨B', b2, ccs', by simp, by simpa using k1, k2, h3.from k3 (fun j hj => k4 j (by omega))⟩
  | v :: r, g, o, n + 1, bs, c, h, hn => by
    obtain ⟨b1, b2, cs, rfl, h1, h2, h3⟩ := h
    have hv := vsize h2
    obtain ⟨A, B, C, ccs, rfl, g1, g2, g3⟩ := OwnVs.put (n := n) h3 (by simpa using hn)
    have e : o + (n + 1) * 8 = o + 8 + n * 8 := by omega
    refine ⟨b1 ++ A, B, C, ccs, by simp, by rw [e]; exact g1, g2, fun w' c' ccs' B' k1 k2 kA kC k4 => ?_⟩
    rw [List.set_cons_succ]
    refine ⟨b1, A ++ (B' ++ C), cs, by simp, fun j x hx => ?_, h2.kept (fun x hx => kA x (by simp [hx])), g3 w' c' ccs' B' (by rw [← e]; exact k1) k2 (fun x hx => kA x (by simp [hx])) kC (fun j hj => k4 j (by omega))⟩
    have hj := (Array.getElem?_eq_some_iff.1 hx).1
    exact (k4 _ (by omega)).trans (h1 j x hx)

theorem OwnFs.put {w : World} : ∀ {l : List (ByteArray × V)} {g o n : Nat} {bs : List Nat} {nm : ByteArray} {c : V}, OwnFs w l g o bs → l[n]? = some (nm, c) →
    ∃ A B C ccs, bs = A ++ (B ++ C) ∧ CellsAt w g (o + n * 9 + 1) ccs ∧ OwnV w c ccs B ∧
      ∀ w' c' ccs' B', CellsAt w' g (o + n * 9 + 1) ccs' → OwnV w' c' ccs' B' → Kept A w w' → Kept C w w' → (∀ j, (j < o + n * 9 + 1 ∨ o + n * 9 + 1 + 8 ≤ j) → w'.cell? ⟨g, j, none⟩ = w.cell? ⟨g, j, none⟩) →
        OwnFs w' (l.modify n (fun y => (y.1, c'))) g o (A ++ (B' ++ C))
  | [], _, _, _, _, _, _, _, h => by simp at h
  | v :: r, g, o, 0, bs, nm, c, h, hn => by
    obtain rfl : v = (nm, c) := by simpa using hn
    obtain ⟨b1, b2, cs, rfl, h0, h1, h2, h3⟩ := h
    refine ⟨[], b1, b2, cs, by simp, by simpa using h1, h2, fun w' c' ccs' B' k1 k2 _ k3 k4 => ?_⟩
    rw [List.modify_zero_cons]
    exact ⟨B', b2, ccs', by simp, (k4 _ (by omega)).trans h0, by simpa using k1, k2, h3.from k3 (fun j hj => k4 j (by omega))⟩
  | v :: r, g, o, n + 1, bs, nm, c, h, hn => by
    obtain ⟨b1, b2, cs, rfl, h0, h1, h2, h3⟩ := h
    have hv := vsize h2
    obtain ⟨A, B, C, ccs, rfl, g1, g2, g3⟩ := OwnFs.put (n := n) h3 (by simpa using hn)
    have e : o + (n + 1) * 9 = o + 9 + n * 9 := by omega
    refine ⟨b1 ++ A, B, C, ccs, by simp, by rw [e]; exact g1, g2, fun w' c' ccs' B' k1 k2 kA kC k4 => ?_⟩
    rw [List.modify_succ_cons]
    refine ⟨b1, A ++ (B' ++ C), cs, by simp, (k4 _ (by omega)).trans h0, fun j x hx => ?_, h2.kept (fun x hx => kA x (by simp [hx])), g3 w' c' ccs' B' (by rw [← e]; exact k1) k2 (fun x hx => kA x (by simp [hx])) kC (fun j hj => k4 j (by omega))⟩
    have hj := (Array.getElem?_eq_some_iff.1 hx).1
    exact (k4 _ (by omega)).trans (h1 j x hx)

/-- Block g is as it was but for eight cells from o on. -/
def SameBut (w w' : World) (g o : Nat) : Prop := ∀ cur e fz, w.heap[g]? = some (.cells cur e fz) → ∃ cur', w'.heap[g]? = some (.cells cur' e fz) ∧ cur'.size = cur.size ∧ ∀ j, (j < o ∨ o + 8 ≤ j) → cur'[j]? = cur[j]?

theorem SameBut.cell {w w' : World} {g o : Nat} (h : SameBut w w' g o) {cur : Array Value} {e : TypeId} {fz : Nat × Nat} (hg : w.heap[g]? = some (.cells cur e fz)) :
    ∀ j, (j < o ∨ o + 8 ≤ j) → w'.cell? ⟨g, j, none⟩ = w.cell? ⟨g, j, none⟩ := by
  intro j hj
  obtain ⟨cur', h1, _, h3⟩ := h _ _ _ hg
  simp only [World.cell?, h1, hg]
  exact h3 j hj

/-- A place: what is put at (g, o) leaves a value in blocks of its own at the head of block G. -/
def Plug (w : World) (F : V → V) (own : List Nat) (g o G : Nat) : Prop :=
  ∀ w' x xcs xb, CellsAt w' g o xcs → OwnV w' x xcs xb → xb.Nodup → (∀ y ∈ xb, y ∉ own) → (∀ y ∈ own, y ≠ g → w'.heap[y]? = w.heap[y]?) → SameBut w w' g o →
    ∃ cs bs, CellsAt w' G 0 cs ∧ OwnV w' (F x) cs bs ∧ bs.Nodup ∧ G ∉ bs ∧ ∀ y ∈ bs, y ∈ own ∨ y ∈ xb

theorem Plug.root (w : World) (G : Nat) : Plug w id [G] G 0 G := fun w' x xcs xb h1 h2 h3 h4 _ _ => ⟨xcs, xb, h1, h2, h3, fun h => h4 _ h (by simp), fun y hy => .inr hy⟩

theorem Plug.step {w : World} {F : V → V} {own : List Nat} {g o G : Nat} (hP : Plug w F own g o G) {u u1 : V} {s : St} {k : Int} {b : Bool} {i : Int} {f : Nat} {t ty : ByteArray} {its : List V} {fs : List (ByteArray × V)} {p q : Option Addr} {c d : Nat} {ub : List Nat}
    (hu : u = .mk k b i f t ty its fs) (hc : CellsAt w g o (vcells k b i f t ty p its.length c q fs.length d)) (ho : OwnV w u (vcells k b i f t ty p its.length c q fs.length d) ub) (hn : ub.Nodup) (hd : ∀ y ∈ ub, y ∉ own) (hg : g ∈ own)
    (hch : child u s = some u1) :
    ∃ g1 o1 ucs1 ub1 own1, spotA p q u s = some ⟨g1, o1, none⟩ ∧ CellsAt w g1 o1 ucs1 ∧ OwnV w u1 ucs1 ub1 ∧ ub1.Nodup ∧ (∀ y ∈ ub1, y ∉ own1) ∧ g1 ∈ own1 ∧ Plug w (fun x => F (putC u s x)) own1 g1 o1 G ∧
      (∀ y, y ∈ own1 ∨ y ∈ ub1 → y ∈ own ∨ y ∈ ub) ∧ (∀ j, j < 8 → w.frozen? ⟨g1, o1 + j, none⟩ = false) ∧ g1 ∈ ub := by
  subst hu
  obtain ⟨p', c', q', d', b1, b2, he, rfl, l1, l2, hi, hf⟩ := ho
  obtain ⟨⟨rfl, rfl⟩, rfl, rfl⟩ : (p = p' ∧ c = c') ∧ q = q' ∧ d = d' := by simpa [vcells] using he
  obtain ⟨n, hix, -, hxi, hxf⟩ : ∃ n : Nat, childIx (.mk k b i f t ty its fs) s = some n ∧ True ∧ (s.it = true → its[n]? = some u1) ∧ (s.it = false → ∃ nm, fs[n]? = some (nm, u1)) := by
    unfold child at hch
    cases hx : childIx (.mk k b i f t ty its fs) s with
    | none => rw [hx] at hch; cases hch
    | some n =>
      rw [hx] at hch
      refine ⟨n, rfl, trivial, fun hi => ?_, fun hi => ?_⟩
      · simpa [hi, V.its] using hch
      · obtain ⟨x, hx, rfl⟩ : ∃ x, fs[n]? = some x ∧ x.2 = u1 := by simpa [hi, V.fs] using hch
        exact ⟨x.1, hx⟩
  cases hit : s.it with
  | true =>
    have hx := hxi hit
    rcases hi with ⟨rfl, _⟩ | ⟨gi, br, cur, rfl, rfl, hh, e1, e2, e3, hvs⟩
    · simp at hx
    obtain ⟨A, B, C, ccs, rfl, g1, g2, g3⟩ := hvs.put hx
    have hgo : gi ∉ own := hd gi (by simp)
    have hgg : g ≠ gi := fun e => hgo (e ▸ hg)
    simp only [List.cons_append, List.nodup_cons, List.nodup_append, List.mem_append, not_or] at hn
    refine ⟨gi, 0 + n * 8, ccs, B, gi :: (own ++ (A ++ (C ++ b2))), ?_, g1, g2, hn.2.1.2.1.1, ?_, by simp, ?_, ?_, ?_, by simp⟩
    · simp [spotA, hix, hit, shift]
    · intro y hy hm
      have hyo := hd y (by simp [hy])
      simp only [List.mem_cons, List.mem_append] at hm
      rcases hm with rfl | hm | hm | hm | hm
      · exact hn.1.1.2.1 hy
      · exact hyo hm
      · exact hn.2.1.2.2 y hm y (.inl hy) rfl
      · exact hn.2.1.2.1.2.2 y hy y hm rfl
      · exact hn.2.2.2 y (.inr (.inl hy)) y hm rfl
    · intro w' x xcs xb k1 k2 k3 k4 k5 k6
      have kA : Kept A w w' := fun y hy => k5 y (by simp [hy]) (fun e => hn.1.1.1 (e ▸ hy))
      have kC : Kept C w w' := fun y hy => k5 y (by simp [hy]) (fun e => hn.1.1.2.2 (e ▸ hy))
      have kb : Kept b2 w w' := fun y hy => k5 y (by simp [hy]) (fun e => hn.1.2 (e ▸ hy))
      have hput := g3 w' x xcs xb k1 k2 kA kC (k6.cell hh)
      obtain ⟨cur', m1, m2, m3⟩ := k6 _ _ _ hh
      have hpc : putC (.mk k b i f t ty its fs) s x = .mk k b i f t ty (its.set n x) fs := by simp [putC, hix, hit]
      have hown : OwnV w' (putC (.mk k b i f t ty its fs) s x) (vcells k b i f t ty (some ⟨gi, 0, none⟩) its.length c q fs.length d) ((gi :: (A ++ (xb ++ C))) ++ b2) := by
        rw [hpc]
        have hI : ItemsOwn w' (its.set n x) (some ⟨gi, 0, none⟩) c (gi :: (A ++ (xb ++ C))) := .inr ⟨gi, _, cur', rfl, rfl, m1, by rw [m2, e1], by simpa using e2, e3, hput⟩
        have hF : FieldsOwn w' fs q d b2 := (show FieldsOwn w fs q d b2 from hf).kept kb
        have := OwnV.intro (k := k) (b := b) (i := i) (f := f) (t := t) (ty := ty) (by simpa using l1) l2 hI hF
        simpa using this
      have hcell : CellsAt w' g o (vcells k b i f t ty (some ⟨gi, 0, none⟩) its.length c q fs.length d) := hc.kept (k5 g (by simp [hg]) hgg)
      have hA : ((gi :: (A ++ (xb ++ C))) ++ b2).Nodup := by
        simp only [List.cons_append, List.nodup_cons, List.nodup_append, List.mem_append, not_or]
        refine ⟨⟨⟨hn.1.1.1, ⟨fun h => k4 gi h (by simp), hn.1.1.2.2⟩⟩, hn.1.2⟩, ⟨hn.2.1.1, ⟨k3, hn.2.1.2.1.2.1, fun a ha y hy e => k4 a ha (by subst e; simp [hy])⟩, fun a ha y hy e => ?_⟩, hn.2.2.1, fun a ha y hy e => ?_⟩
        · subst e
          rcases hy with hy | hy
          · exact k4 a hy (by simp [ha])
          · exact hn.2.1.2.2 a ha a (.inr hy) rfl
        · subst e
          rcases ha with ha | ha | ha
          · exact hn.2.2.2 a (.inl ha) a hy rfl
          · exact k4 a ha (by simp [hy])
          · exact hn.2.2.2 a (.inr (.inr ha)) a hy rfl
      have hB : ∀ y ∈ (gi :: (A ++ (xb ++ C))) ++ b2, y ∉ own := by
        intro y hy hyo
        simp only [List.mem_append, List.mem_cons] at hy
        rcases hy with (rfl | hy | hy | hy) | hy
        · exact hgo hyo
        · exact hd y (by simp [hy]) hyo
        · exact k4 y hy (by simp [hyo])
        · exact hd y (by simp [hy]) hyo
        · exact hd y (by simp [hy]) hyo
      obtain ⟨cs, bs, r1, r2, r3, r4, r5⟩ := hP w' _ _ _ hcell hown hA hB (fun y hy hyg => k5 y (by simp [hy]) (fun e => hgo (e ▸ hy))) (fun cur e fz h => ⟨cur, by rw [k5 g (by simp [hg]) hgg]; exact h, rfl, fun _ _ => rfl⟩)
      refine ⟨cs, bs, r1, r2, r3, r4, fun y hy => ?_⟩
      have := r5 y hy
      simp only [List.mem_append, List.mem_cons] at this ⊢
      grind
    · intro y hy
      simp only [List.mem_append, List.mem_cons] at hy ⊢
      grind
    · intro j hj
      simp [World.frozen?, hh]
  | false =>
    obtain ⟨nm, hx⟩ := hxf hit
    rcases hf with ⟨rfl, _⟩ | ⟨gi, br, cur, rfl, rfl, hh, e1, e2, e3, hvs⟩
    · simp at hx
    obtain ⟨A, B, C, ccs, rfl, g1, g2, g3⟩ := hvs.put hx
    have hgo : gi ∉ own := hd gi (by simp)
    have hgg : g ≠ gi := fun e => hgo (e ▸ hg)
    have hub : b1.Nodup ∧ gi ∉ b1 ∧ gi ∉ A ∧ gi ∉ B ∧ gi ∉ C ∧ A.Nodup ∧ B.Nodup ∧ C.Nodup ∧ (∀ y ∈ b1, y ∉ A ∧ y ∉ B ∧ y ∉ C) ∧ (∀ y ∈ A, y ∉ B ∧ y ∉ C) ∧ (∀ y ∈ B, y ∉ C) := by
      simp only [List.nodup_cons, List.nodup_append, List.mem_append, List.mem_cons, not_or] at hn
      grind
    obtain ⟨n1, n2, n3, n4, n5, n6, n7, n8, n9, n10, n11⟩ := hub
    refine ⟨gi, 0 + (n * 9 + 1), ccs, B, gi :: (own ++ (b1 ++ (A ++ C))), ?_, by rw [← Nat.add_assoc]; exact g1, g2, n7, ?_, by simp, ?_, ?_, ?_, by simp⟩
    · simp [spotA, hix, hit, shift]
    · intro y hy hm
      have hyo := hd y (by simp [hy])
      simp only [List.mem_cons, List.mem_append] at hm
      grind
    · rw [← Nat.add_assoc]
      intro w' x xcs xb k1 k2 k3 k4 k5 k6
      have kA : Kept A w w' := fun y hy => k5 y (by simp [hy]) (fun e => n3 (e ▸ hy))
      have kC : Kept C w w' := fun y hy => k5 y (by simp [hy]) (fun e => n5 (e ▸ hy))
      have kb : Kept b1 w w' := fun y hy => k5 y (by simp [hy]) (fun e => n2 (e ▸ hy))
      have hput := g3 w' x xcs xb k1 k2 kA kC (k6.cell hh)
      obtain ⟨cur', m1, m2, m3⟩ := k6 _ _ _ hh
      have hpc : putC (.mk k b i f t ty its fs) s x = .mk k b i f t ty its (fs.modify n (fun y => (y.1, x))) := by simp [putC, hix, hit]
      have hown : OwnV w' (putC (.mk k b i f t ty its fs) s x) (vcells k b i f t ty p its.length c (some ⟨gi, 0, none⟩) fs.length d) (b1 ++ (gi :: (A ++ (xb ++ C)))) := by
        rw [hpc]
        have hF : FieldsOwn w' (fs.modify n (fun y => (y.1, x))) (some ⟨gi, 0, none⟩) d (gi :: (A ++ (xb ++ C))) := .inr ⟨gi, _, cur', rfl, rfl, m1, by rw [m2, e1], by simpa using e2, e3, hput⟩
        have hI : ItemsOwn w' its p c b1 := (show ItemsOwn w its p c b1 from hi).kept kb
        have := OwnV.intro (k := k) (b := b) (i := i) (f := f) (t := t) (ty := ty) l1 (by simpa using l2) hI hF
        simpa using this
      have hcell : CellsAt w' g o (vcells k b i f t ty p its.length c (some ⟨gi, 0, none⟩) fs.length d) := hc.kept (k5 g (by simp [hg]) hgg)
      have hA : (b1 ++ (gi :: (A ++ (xb ++ C)))).Nodup := by
        have k4' : ∀ y ∈ xb, ¬ y = gi ∧ y ∉ b1 ∧ y ∉ A ∧ y ∉ C := fun y hy => by
          have := k4 y hy
          simp only [List.mem_append, List.mem_cons, not_or] at this
          grind
        simp only [List.nodup_cons, List.nodup_append, List.mem_append, List.mem_cons, not_or]
        grind
      have hB : ∀ y ∈ b1 ++ (gi :: (A ++ (xb ++ C))), y ∉ own := by
        intro y hy hyo
        simp only [List.mem_append, List.mem_cons] at hy
        rcases hy with hy | rfl | hy | hy | hy
        · exact hd y (by simp [hy]) hyo
        · exact hgo hyo
        · exact hd y (by simp [hy]) hyo
        · exact k4 y hy (by simp [hyo])
        · exact hd y (by simp [hy]) hyo
      obtain ⟨cs, bs, r1, r2, r3, r4, r5⟩ := hP w' _ _ _ hcell hown hA hB (fun y hy hyg => k5 y (by simp [hy]) (fun e => hgo (e ▸ hy))) (fun cur e fz h => ⟨cur, by rw [k5 g (by simp [hg]) hgg]; exact h, rfl, fun _ _ => rfl⟩)
      refine ⟨cs, bs, r1, r2, r3, r4, fun y hy => ?_⟩
      have := r5 y hy
      simp only [List.mem_append, List.mem_cons] at this ⊢
      grind
    · intro y hy
      simp only [List.mem_append, List.mem_cons] at hy ⊢
      grind
    · intro j hj
      simp [World.frozen?, hh]

theorem heap_setCells_other (g : Nat) {b : Nat} (hb : b ≠ g) : ∀ (vs : List Value) (o : Nat) (w : World), (w.setCells g o vs).heap[b]? = w.heap[b]?
  | [], _, _ => rfl
  | v :: r, o, w => by
    rw [World.setCells, heap_setCells_other g hb r (o + 1)]
    exact Below.heap_setCell _ _ _ _ hb

theorem heap_setCells_same (g : Nat) {e : TypeId} {fz : Nat × Nat} : ∀ (vs : List Value) (o : Nat) (w : World) (cur : Array Value), w.heap[g]? = some (.cells cur e fz) →
    ∃ cur', (w.setCells g o vs).heap[g]? = some (.cells cur' e fz) ∧ cur'.size = cur.size ∧ ∀ j, (j < o ∨ o + vs.length ≤ j) → cur'[j]? = cur[j]?
  | [], _, _, cur, h => ⟨cur, h, rfl, fun _ _ => rfl⟩
  | v :: r, o, w, cur, h => by
    obtain ⟨cur', h1, h2, h3⟩ := heap_setCells_same g r (o + 1) _ _ (heap_setCell_same (j := o) h v)
    refine ⟨cur', h1, by simpa using h2, fun j hj => ?_⟩
    rw [h3 j (by simp only [List.length_cons] at hj; omega)]
    rw [Array.getElem?_setIfInBounds_ne (by simp only [List.length_cons] at hj; omega)]

/-- Where the walk of Set stands: at (g, o) lies u, and what is put there makes the whole. -/
def Here (w : World) (G : Nat) (obs : List Nat) (v : V) (path : List St) (j g o : Nat) (u : V) (ucs : Array Value) : Prop :=
  ∃ ub own F, CellsAt w g o ucs ∧ OwnV w u ucs ub ∧ ub.Nodup ∧ (∀ y ∈ ub, y ∉ own) ∧ g ∈ own ∧ Plug w F own g o G ∧ (∀ y, y ∈ own ∨ y ∈ ub → y = G ∨ y ∈ obs) ∧
    (∀ j, j < 8 → w.frozen? ⟨g, o + j, none⟩ = false) ∧ (∀ x, setV v path x = (setV u (path.drop j) x).map F) ∧ szV u ≤ szV v

theorem Here.start {w : World} {G : Nat} {obs : List Nat} {v : V} {ocs : Array Value} (path : List St) {e : TypeId} (h0 : w.heap[G]? = some (.cells ocs e (0, 0))) (ho : OwnV w v ocs obs) (hn : obs.Nodup) (hG : G ∉ obs) : Here w G obs v path 0 G 0 v ocs := by
  refine ⟨obs, [G], id, ?_, ho, hn, fun y hy h => hG (by simp at h; exact h ▸ hy), by simp, Plug.root w G, by simp, fun j hj => by simp [World.frozen?, h0], fun x => by simp, Nat.le_refl _⟩
  intro m x hx
  rw [Nat.zero_add]
  simp only [World.cell?, h0]
  exact hx

theorem Here.next {w : World} {G : Nat} {obs : List Nat} {v : V} {path : List St} {j g o : Nat} {k : Int} {b : Bool} {i : Int} {f : Nat} {t ty : ByteArray} {its : List V} {fs : List (ByteArray × V)} {p q : Option Addr} {c d : Nat} {u1 : V} {s : St}
    (h : Here w G obs v path j g o (.mk k b i f t ty its fs) (vcells k b i f t ty p its.length c q fs.length d)) (hs : path[j]? = some s) (hch : child (.mk k b i f t ty its fs) s = some u1) :
    ∃ g1 o1 ucs1, spotA p q (.mk k b i f t ty its fs) s = some ⟨g1, o1, none⟩ ∧ Here w G obs v path (j + 1) g1 o1 u1 ucs1 := by
  obtain ⟨ub, own, F, h1, h2, h3, h4, h5, h6, h7, _, h9, h10⟩ := h
  obtain ⟨g1, o1, ucs1, ub1, own1, k1, k2, k3, k4, k5, k6, k7, k8, k9, _⟩ := h6.step rfl h1 h2 h3 h4 h5 hch
  refine ⟨g1, o1, ucs1, k1, ub1, own1, _, k2, k3, k4, k5, k6, k7, fun y hy => h7 y (k8 y hy), k9, fun x => ?_, ?_⟩
  · rw [h9, drop_some hs, setV, hch]
    simp [Option.map_map, Function.comp_def]
  · have := (child_size hch).1; omega

theorem Here.no {w : World} {G : Nat} {obs : List Nat} {v : V} {path : List St} {j g o : Nat} {u : V} {ucs : Array Value} {s : St} (h : Here w G obs v path j g o u ucs) (hs : path[j]? = some s) (hch : child u s = none) (x : V) : setV v path x = none := by
  obtain ⟨ub, own, F, _, _, _, _, _, _, _, _, h9, _⟩ := h
  rw [h9, drop_some hs, setV, hch]
  rfl

theorem Here.done {w wr : World} {G : Nat} {obs : List Nat} {v : V} {path : List St} {g o : Nat} {u : V} {ucs : Array Value} (h : Here w G obs v path path.length g o u ucs) (hbel : Below w.heap.size w wr) {x : V} {xcs : Array Value} {xb : List Nat}
    (hx : OwnV wr x xcs xb) (hn : xb.Nodup) (hlow : ∀ y ∈ xb, w.heap.size ≤ y ∧ y < wr.heap.size) (hG : G < w.heap.size) (ho : ∀ y ∈ obs, y < w.heap.size) :
    wr.there g o 8 ∧ (g = G ∨ g ∈ obs) ∧ ∃ y cs bs, setV v path x = some y ∧ CellsAt (wr.setCells g o xcs.toList) G 0 cs ∧ OwnV (wr.setCells g o xcs.toList) y cs bs ∧ bs.Nodup ∧ G ∉ bs ∧ ∀ z ∈ bs, (z = G ∨ z ∈ obs) ∨ z ∈ xb := by
  obtain ⟨ub, own, F, h1, h2, h3, h4, h5, h6, h7, h8, h9, h10⟩ := h
  have hgo := h7 g (.inl h5)
  have hgl : g < w.heap.size := by rcases hgo with rfl | hgo; exact hG; exact ho _ hgo
  have hlt : ∀ y, y ∈ own → y < w.heap.size := fun y hy => by rcases h7 y (.inl hy) with rfl | hy; exact hG; exact ho _ hy
  have hxs := vsize hx
  have hus := vsize h2
  have ht : wr.there g o 8 := fun j hj => by
    constructor
    · rw [hbel.cell (p := ⟨g, _, none⟩) hgl, h1 j ucs[j] (by simp [hus, hj])]
      rfl
    · have := h8 j hj
      simp only [World.frozen?] at this ⊢
      rw [hbel.block g hgl]
      exact this
  have hgx : g ∉ xb := fun hm => by have := (hlow g hm).1; omega
  have hr := World.rangeAt_setCells_same wr g o xcs.toList (by simpa [hxs] using ht)
  refine ⟨ht, hgo, ?_⟩
  obtain ⟨cs, bs, r1, r2, r3, r4, r5⟩ := h6 (wr.setCells g o xcs.toList) x xcs xb (fun m y hy => hr m y (by simpa using hy)) (hx.kept (fun y hy => heap_setCells_other g (fun e => hgx (e ▸ hy)) _ _ _)) hn
    (fun y hy hm => by have := (hlow y hy).1; have := hlt y hm; omega) (fun y hy hyg => (heap_setCells_other g hyg _ _ _).trans (hbel.block y (hlt y hy)))
    (fun cur e fz hc => by
      obtain ⟨cur', m1, m2, m3⟩ := heap_setCells_same g xcs.toList o wr cur (by rw [hbel.block g hgl]; exact hc)
      exact ⟨cur', m1, m2, fun j hj => m3 j (by simpa [hxs] using hj)⟩)
  refine ⟨F x, cs, bs, ?_, r1, r2, r3, r4, fun z hz => ?_⟩
  · rw [h9, List.drop_length]; rfl
  · rcases r5 z hz with hz | hz
    · exact .inl (h7 z (.inl hz))
    · exact .inr hz

end Go.Proofs.YtldjbgklmeigmaaGreatDoor

namespace Go.Proofs.YtldjbgklmeigmaaGreatDoor
open Go.RowKit
attribute [local go_sem] run_store_float St.cells

theorem block_of_cells {w : World} {g : Nat} {cs : Array Value} {e : TypeId} (h : w.heap[g]? = some (.cells cs e (0, 0))) : CellsAt w g 0 cs := by
  intro m x hx
  rw [Nat.zero_add]
  simp only [World.cell?, h]
  exact hx

end Go.Proofs.YtldjbgklmeigmaaGreatDoor

namespace Go.Proofs.YtldjbgklmeigmaaGreatDoor
open Go.RowKit
attribute [local go_sem] run_store_float

end Go.Proofs.YtldjbgklmeigmaaGreatDoor
