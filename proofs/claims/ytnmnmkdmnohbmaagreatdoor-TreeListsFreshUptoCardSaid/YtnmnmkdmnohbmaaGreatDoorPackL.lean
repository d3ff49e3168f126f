/- Several texts in one: Helper text: the statements' copy of a list of faults: memory of its own. Helper text: the calls over lists of faults, their answers between two sizes of the heap. Conditions: none. -/
import Derived.Test.YtnmnmkdmnohbmaaGreatDoorPackD
import Derived.Test.YtnmnmkdmnohbmaaGreatDoorPackE
namespace Go.Proofs.YtnmnmkdmnohbmaaGreatDoor
open Go.RowKit

set_option maxRecDepth 100000 in
set_option maxHeartbeats 8000000 in
theorem CopyFaults_any (l : List LF) (p : Option Addr) (c : Nat) (w : World) (hF : FsAt w.heap.size w p l) (hlen : l.length ≤ big) :
    Calls Tryz.prog 7 #[.slice p l.length c] w (fun e w' => ∃ p' c' r, e = .returned (.slice p' (List.length r) c') ∧ r.map LF.f = l.map (fun x => cleanF x.f) ∧ w'.ownsRow w.heap.size 42 3 (.slice p' (List.length r) c') (List.length r) (fC r) ∧ OwnFl w.heap.size w' r ∧ Below w.heap.size w w') := by
  unfold big at hlen
  have HFS := Lib.hid hF
  have HSZ := Lib.hid (Nat.le_refl w.heap.size)
  clear hF
  go_enter Tryz.func7, Tryz.ntmps7
  go_wp2
  go_loopw [3, 4] (fun s3 s4 wr => ∃ j : Nat, j ≤ l.length ∧ s4 = .int .i64 j ∧ ∃ r sp sc, s3 = .slice sp (List.length r) sc ∧ Hid (wr.ownsRow w.heap.size 42 3 (.slice sp (List.length r) sc) (List.length r) (fC r)) ∧ Hid (r.map LF.f = (l.take j).map (fun x => cleanF x.f)) ∧ Hid (OwnFl w.heap.size wr r) ∧ Hid (Below w.heap.size w wr)) (fun _ s4 _ => l.length - (intOf s4).toNat)
  case atStart => exact ⟨0, by omega, rfl, [], none, 0, rfl, Lib.hid (World.ownsRow_nil _ _ _ _), Lib.hid rfl, Lib.hid (OwnFl.nil _ _), Lib.hid (Below.refl _ _)⟩
  case round =>
    obtain ⟨j, hj, rfl, r, sp, sc, rfl, HO, HM, HW, HBwr⟩ := hrel
    by_cases hjl : j < l.length
    · obtain ⟨y, hy⟩ : ∃ y, l[j]? = some y := ⟨l[j], by simp [hjl]⟩
      obtain ⟨bl, ol, rfl, hBl, a1, a2, a3, oky⟩ := (HFS.out.below HBwr.out).get hy
      have HY := Lib.hid hy
      have hlr : Hid (r.length ≤ 4194304) := Lib.hid (by
        have h := congrArg List.length HM.out
        simp only [List.length_map, List.length_take] at h
        omega)
      have C1 : Hid (∀ W, Below wr.heap.size wr W → Calls Tryz.prog 23 #[.agg y.cells] W (fun e w' => ∃ x' : LF, e = .returned (.agg x'.cells) ∧ x'.f = cleanF y.f ∧ OwnLF W.heap.size w' x' ∧ Below W.heap.size W w')) := Lib.hid (fun W h => CopyFault_any y w.heap.size W (oky.below (h.mono HBwr.out.size)) (by have := h.size; have := HBwr.out.size; omega))
      obtain ⟨⟨yk, ypos, ypath⟩, yp, yq⟩ := y
      dsimp only at a1 a2 a3
      dsimp only [LF.cells] at C1
      have hwl : bl < wr.heap.size := by have := HBwr.out.size; omega
      clear hy oky
      go_upto_region 6 with (go_at_call 23; refine (C1.out _ (Below.refl _ _)).mono ?_; rintro e w4 ⟨⟨⟨xk, xpos, xpath⟩, xp, xq⟩, rfl, hf, hown, hb4⟩; obtain ⟨xpp, xpc, hxp⟩ := row_shape hown.1; obtain ⟨xqp, xqc, hxq⟩ := row_shape hown.2.1; dsimp only at hxp hxq; subst hxp hxq; have HF := Lib.hid hf; have HOWN := Lib.hid hown; have HB4 := Lib.hid hb4; clear hf hown hb4; dsimp only [LF.cells])
      have Hxo := Lib.hid HOWN.out.lok.one
      obtain ⟨W5, hW5⟩ : ∃ W5, w4.alloc (.cells #[.int .i64 xk, .slice xpp xpos.length xpc, .slice xqp xpath.length xqc] 42) = W5 := ⟨_, rfl⟩
      have hb5 : Below w4.heap.size w4 W5 := by rw [← hW5]; exact (Below.refl _ _).alloc (Nat.le_refl _) _
      have hd := cellsAt_alloc w4 #[.int .i64 xk, .slice xpp xpos.length xpc, .slice xqp xpath.length xqc] 42 (0, 0)
      rw [hW5] at hd
      have d0 : W5.cell? ⟨w4.heap.size, 0, none⟩ = some (.int .i64 xk) := hd 0 _ rfl
      have d1 : W5.cell? ⟨w4.heap.size, 1, none⟩ = some (.slice xpp xpos.length xpc) := hd 1 _ rfl
      have d2 : W5.cell? ⟨w4.heap.size, 2, none⟩ = some (.slice xqp xpath.length xqc) := hd 2 _ rfl
      rw [hW5]
      have hb45 : Below wr.heap.size wr W5 := HB4.out.trans (hb5.mono HB4.out.size)
      have HOW5 := Lib.hid (HO.out.kept (grown_ofb hb45 none) (by cases (Value.slice sp r.length sc).ownBlock <;> simp))
      have HBW5 := Lib.hid (HBwr.out.trans (hb45.mono HBwr.out.size))
      have HMEM : Hid (OwnFl w.heap.size W5 (r ++ [⟨⟨xk, xpos, xpath⟩, .slice xpp xpos.length xpc, .slice xqp xpath.length xqc⟩])) := Lib.hid (HW.out.snoc hb45 (x := ⟨⟨xk, xpos, xpath⟩, .slice xpp xpos.length xpc, .slice xqp xpath.length xqc⟩) ((HOWN.out.below hb5).lower (Nat.le_refl _)) HBwr.out.size)
      clear hW5 hb5 hd hb45 HO HBwr a1 a2 a3
      go_step
      iterate 3
        refine wpList_plain rfl (fun K hK => ?_)
        go_step
        refine hK _ _ ?_
        clear hK K
      obtain ⟨W3, hW⟩ : ∃ W3, W5.alloc (.cells #[.int .i64 xk, .slice xpp xpos.length xpc, .slice xqp xpath.length xqc] 42) = W3 := ⟨_, rfl⟩
      have hb3 : Below W5.heap.size W5 W3 := by rw [← hW]; exact (Below.refl W5.heap.size W5).alloc (Nat.le_refl _) _
      have hnew : CellsAt W3 W5.heap.size 0 #[.int .i64 xk, .slice xpp xpos.length xpc, .slice xqp xpath.length xqc] := by rw [← hW]; exact cellsAt_alloc W5 _ _ (0, 0)
      rw [hW]
      clear hW
      have HG3 := HOW5.out.kept (grown_ofb hb3 none) (by cases (Value.slice sp r.length sc).ownBlock <;> simp)
      refine wpList_plain rfl (fun K hK => ?_)
      refine wp_append_x (P := Tryz.prog) W3 (.tmp 17) (.tmp 19) 28 rfl w.heap.size 42 (.agg #[.int .i64 0, .slice none 0 0, .slice none 0 0]) 3 56 Tryz.underlying28 (by kernel_rfl) rfl (by decide) (.slice sp r.length sc) r.length _ rfl HG3 ⟨W5.heap.size, 0, none⟩ 1 1 [.int .i64 xk, .slice xpp xpos.length xpc, .slice xqp xpath.length xqc] rfl (by decide) rfl ?c1 ?c2 ?c3 ?c4 ?c5 ?_
      case c1 =>
        intro m u hu
        have := hnew m u (by simpa using hu)
        rw [addr_add]
        exact this
      case c2 => intro u hu; simp at hu; rcases hu with rfl | rfl | rfl <;> first | rfl | exact Hxo.out.1 | exact Hxo.out.2
      case c3 => unfold maxLen; have := hlr.out; omega
      case c4 => have := hlr.out; omega
      case c5 => have := hb3.size; have := HBW5.out.size; have := HSZ.out; omega
      intro v' w' hrow hgr _
      refine hK _ _ ?_
      clear hK K
      have hbw' : Below w.heap.size w w' := (HBW5.out.trans (hb3.mono (by have := HBW5.out.size; have := HSZ.out; omega))).grown hgr (by have := hb3.size; have := HBW5.out.size; have := HSZ.out; omega) (fun y hy => (HG3.lt y hy).1)
      obtain ⟨g', cap', rfl⟩ : ∃ g' cap', v' = .slice (some ⟨g', 0, none⟩) (r.length + 1) cap' := by
        rcases hrow.2 with ⟨_, h⟩ | ⟨g', cap', cur, h, _⟩
        · omega
        · exact ⟨g', cap', h⟩
      have hnew2 : OwnFl w.heap.size w' (r ++ [⟨⟨xk, xpos, xpath⟩, .slice xpp xpos.length xpc, .slice xqp xpath.length xqc⟩]) := (HMEM.out.below hb3).kept HG3 hgr
      have HNEW := Lib.hid hnew2
      clear hnew2
      have HRW := Lib.hid hrow
      have HBW := Lib.hid hbw'
      clear hrow hbw' hgr HG3 hb3 hnew
      go_wp2
      go_roundw
      case rel =>
        refine ⟨j + 1, by omega, by go_num, r ++ [⟨⟨xk, xpos, xpath⟩, .slice xpp xpos.length xpc, .slice xqp xpath.length xqc⟩], some ⟨g', 0, none⟩, cap', by rw [List.length_append]; rfl, Lib.hid ?_, Lib.hid ?_, HNEW, HBW⟩
        · have h := HRW.out
          rw [List.length_append, fC_app]
          exact h
        · rw [List.map_append, HM.out, List.take_add_one, HY.out]
          have h := HF.out
          dsimp only at h
          simp only [List.map_append, List.append_assoc, List.map_cons, List.map_nil, Option.toList]
          rw [h]
      case measure => simp [intOf]; omega
    · have hall := HM.out
      rw [List.take_of_length_le (by omega)] at hall
      have HALL := Lib.hid hall
      clear hall
      go_wp2
      go_ret
      exact ⟨sp, sc, r, rfl, HALL.out, HO.out, HW.out, HBwr.out⟩
end Go.Proofs.YtnmnmkdmnohbmaaGreatDoor

namespace Go.Proofs.YtnmnmkdmnohbmaaGreatDoor
open Go Go.RowKit

/-- A list of faults all of whose memory was laid between two sizes of the heap. -/
structure FsIn (lo hi : Nat) (w : World) (v : Value) (l : List LF) : Prop where
  own : FsOwn lo w v l
  top : ∀ b ∈ bF v l, b < hi
theorem FsIn.moved {lo hi : Nat} {w w' : World} {v : Value} {l : List LF} (h : FsIn lo hi w v l) (hm : ∀ b, lo ≤ b → b < hi → w'.heap[b]? = w.heap[b]?) : FsIn lo hi w' v l := ⟨h.own.moved (fun b hb => hm b (h.own.lt b hb).1 (h.top b hb)), h.top⟩
theorem FsIn.on {lo hi : Nat} {w w' : World} {v : Value} {l : List LF} (h : FsIn lo hi w v l) (hb : Below w.heap.size w w') : FsIn lo hi w' v l := ⟨h.own.on hb, h.top⟩
theorem FsOwn.fsIn {lo : Nat} {w : World} {v : Value} {l : List LF} (h : FsOwn lo w v l) : FsIn lo w.heap.size w v l := ⟨h, fun b hb => (h.lt b hb).2⟩
/-- An answer whose memory was all laid from a size on; lists in it may be shared. -/
structure WfAt (lo : Nat) (w : World) (p : Option Addr) (r : List LF) : Prop where
  at' : FsAt w.heap.size w p r
  head : ∀ ad, p = some ad → lo ≤ ad.block
  own : ∀ x ∈ r, OwnLF lo w x
theorem WfAt.moved {lo : Nat} {w w' : World} {p : Option Addr} {r : List LF} (h : WfAt lo w p r) (hm : ∀ b, lo ≤ b → b < w.heap.size → w'.heap[b]? = w.heap[b]?) (hs : w.heap.size ≤ w'.heap.size) : WfAt lo w' p r := by
  have ho : ∀ x ∈ r, OwnLF lo w' x := fun x hx => (h.own x hx).at (fun g e => by
    rcases e with e | e
    · exact hm g ((h.own x hx).1.lt g e).1 ((h.own x hx).1.lt g e).2
    · exact hm g ((h.own x hx).2.1.lt g e).1 ((h.own x hx).2.1.lt g e).2)
  refine ⟨⟨?_, fun x hx => (ho x hx).lok⟩, h.head, ho⟩
  rcases h.at'.1 with e | ⟨b, o, rfl, hb, hc⟩
  · exact .inl e
  · have hk := hm b (h.head _ rfl) hb
    refine .inr ⟨b, o, rfl, Nat.lt_of_lt_of_le hb hs, fun i s hi => ?_⟩
    obtain ⟨a0, a1, a2⟩ := hc i s hi
    exact ⟨(World.cell?_of_block (a := ⟨b, _, none⟩) hk).trans a0, (World.cell?_of_block (a := ⟨b, _, none⟩) hk).trans a1, (World.cell?_of_block (a := ⟨b, _, none⟩) hk).trans a2⟩
theorem WfAt.on {lo : Nat} {w w' : World} {p : Option Addr} {r : List LF} (h : WfAt lo w p r) (hb : Below w.heap.size w w') : WfAt lo w' p r := h.moved (fun b _ hl => hb.block b hl) hb.size
/-- Where a list of faults lies, out of what owns it. -/
theorem FsIn.fsAt {lo hi : Nat} {w : World} {p : Option Addr} {n c : Nat} {l : List LF} (h : FsIn lo hi w (.slice p n c) l) : FsAt w.heap.size w p l ∧ n = l.length := by
  obtain ⟨q, d, e, _, hF⟩ := h.own.arg
  cases e
  exact ⟨hF, rfl⟩

theorem copyFs (l : List LF) (v : Value) (W : World) (hF : ArgF W v l) (hl : l.length ≤ big) :
    Calls Tryz.prog 7 #[v] W (fun e w' => ∃ p c r, e = .returned (.slice p (List.length r) c) ∧ r.map LF.f = l.map (fun x => cleanF x.f) ∧ List.length r = l.length ∧ FsIn W.heap.size w'.heap.size w' (.slice p (List.length r) c) r ∧ Below W.heap.size W w') := by
  obtain ⟨q, d, rfl, _, hF⟩ := hF
  refine (CopyFaults_any l q d W hF hl).mono ?_
  rintro e w' ⟨p, c, r, rfl, hm, hrow, hown, hb⟩
  exact ⟨p, c, r, rfl, hm, by simpa using congrArg List.length hm, FsOwn.fsIn ⟨hrow, hown⟩, hb⟩
theorem treeFs (L : List (Value × List LF)) (vs : Array Value) (hvs : vs.toList = L.map (·.1)) (W : World) (hL : ∀ x ∈ L, ArgF W x.1 x.2) (hlen : L.length ≤ big) (hcat : (cat L).length ≤ big) (m : Nat) (hm : m = L.length) :
    Calls Tryz.prog 8 #[.slice (some ⟨W.heap.size, 0, none⟩) m m] (W.alloc (.cells vs 28)) (fun e w' => ∃ p c r, e = .returned (.slice p (List.length r) c) ∧ IsUnion (r.map LF.f) (cat L) ∧ FsIn W.heap.size w'.heap.size w' (.slice p (List.length r) c) r ∧ List.length r ≤ big ∧ Below W.heap.size W w') := by
  subst hm
  refine (Faults_own L _ L.length _ (lsAt_new hvs hL) hlen hcat).mono ?_
  rintro e w' ⟨p', c', r, S, rfl, hp, hs, hr, hF, hb, _, hrow, hown⟩
  have hsz : W.heap.size ≤ (W.alloc (.cells vs 28)).heap.size := by simp
  refine ⟨p', c', r, rfl, by rw [hr]; exact union_prog hp hs, (FsOwn.lower ⟨hrow, hown⟩ hsz).fsIn, ?_, ((Below.refl _ _).alloc (Nat.le_refl _) _).trans (hb.mono (by simp))⟩
  have h := congrArg List.length hr
  simp only [List.length_map] at h
  have := dedP_len S S.length
  have := hp.length_eq
  omega
theorem refFs (L : List (Value × List LF)) (vs : Array Value) (hvs : vs.toList = L.map (·.1)) (W : World) (hL : ∀ x ∈ L, ArgF W x.1 x.2) (hlen : L.length ≤ big) (hcat : (cat L).length ≤ big) (m : Nat) (hm : m = L.length) :
    Calls Tryz.prog 11 #[.slice (some ⟨W.heap.size, 0, none⟩) m m] (W.alloc (.cells vs 28)) (fun e w' => ∃ p c r, e = .returned (.slice p (List.length r) c) ∧ IsUnion (r.map LF.f) (cat L) ∧ WfAt W.heap.size w' p r ∧ List.length r ≤ big ∧ Below W.heap.size W w') := by
  subst hm
  have hsz : W.heap.size ≤ (W.alloc (.cells vs 28)).heap.size := by simp
  refine (refFaults_own L _ L.length _ (lsAt_new hvs hL) hlen hcat).mono ?_
  rintro e w' ⟨p', c', r, rfl, hr, hF, hb, hat, hown⟩
  refine ⟨p', c', ordL cF (List.length r) r, rfl, union_ref hr, ⟨hF, fun ad e => Nat.le_trans hsz (hat ad e), fun x hx => (hown x (ordL_mem cF _ r x hx)).lower hsz⟩, ?_, ((Below.refl _ _).alloc (Nat.le_refl _) _).trans (hb.mono (by simp))⟩
  have h := congrArg List.length hr
  simp only [List.length_map] at h
  have := ordL_len cF (List.length r) r
  omega
theorem sameFs (l l' : List LF) (he : l.map LF.f = l'.map LF.f) (p q : Option Addr) (c d : Nat) (w : World) (ha : FsAt w.heap.size w p l) (hb : FsAt w.heap.size w q l') (la : l.length ≤ big) (lb : l'.length ≤ big) :
    Calls Tryz.prog 13 #[.slice p l.length c, .slice q l'.length d] w (RetB (.bool true) w) := by
  refine (SameFaults_any l l' p q c d w ha hb la lb).mono ?_
  rintro e w' ⟨r, rfl, hr, hb⟩
  obtain rfl : r = true := hr.2 he
  exact ⟨rfl, hb⟩
theorem union_same {l l' : List LF} {L : List (Value × List LF)} (h : IsUnion (l.map LF.f) (cat L)) (h' : IsUnion (l'.map LF.f) (cat L)) : l.map LF.f = l'.map LF.f := h.unique h' (fun _ => Iff.rfl)
end Go.Proofs.YtnmnmkdmnohbmaaGreatDoor
