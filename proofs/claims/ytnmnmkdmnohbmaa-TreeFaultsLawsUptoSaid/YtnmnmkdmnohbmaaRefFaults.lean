/- The reference's union of lists of faults. Conditions: none. -/
import Derived.Test.YtnmnmkdmnohbmaaOrdered
namespace Go.Proofs.Ytnmnmkdmnohbmaa
open Go.RowKit

/-- Lists of faults in memory. -/
def LsAt (B : Nat) (w : World) (p : Option Addr) (L : List (Value × List LF)) : Prop :=
  (L = [] ∨ ∃ b o, p = some ⟨b, o, none⟩ ∧ b < B ∧ ∀ i x, L[i]? = some x → w.cell? ⟨b, o + i, none⟩ = some x.1) ∧ ∀ x ∈ L, ∃ q c, x.1 = .slice q x.2.length c ∧ x.2.length ≤ c ∧ FsAt B w q x.2

theorem LsAt.below {B : Nat} {w w' : World} {p : Option Addr} {L : List (Value × List LF)} (h : LsAt B w p L) (hb : Below B w w') : LsAt B w' p L := by
  refine ⟨?_, fun x hx => ?_⟩
  · rcases h.1 with h | ⟨b, o, rfl, hB, hc⟩
    · exact .inl h
    · exact .inr ⟨b, o, rfl, hB, fun i x hx => (hb.cell (p := ⟨b, _, none⟩) hB).trans (hc i x hx)⟩
  · obtain ⟨q, c, h1, h2, h3⟩ := h.2 x hx
    exact ⟨q, c, h1, h2, h3.below hb⟩

def cat (L : List (Value × List LF)) : List LF := L.flatMap (·.2)
theorem cat_take {L : List (Value × List LF)} {i : Nat} {x : Value × List LF} (h : L[i]? = some x) : cat (L.take (i + 1)) = cat (L.take i) ++ x.2 := by
  unfold cat
  rw [List.take_add_one, h]
  simp
theorem cat_len (L : List (Value × List LF)) : ∀ (i : Nat) (x : Value × List LF), L[i]? = some x → (cat (L.take i)).length + x.2.length ≤ (cat L).length := by
  intro i x h
  have e : L = L.take i ++ x :: L.drop (i + 1) := by
    obtain ⟨hi, rfl⟩ := List.getElem?_eq_some_iff.1 h
    rw [List.getElem_cons_drop, List.take_append_drop]
  have : cat L = cat (L.take i) ++ (x.2 ++ cat (L.drop (i + 1))) := by
    conv => lhs; rw [e]
    simp [cat]
  rw [this]
  simp only [List.length_append]
  omega

theorem row_cap {w : World} {B : Nat} {e : TypeId} {sz n : Nat} {p : Option Addr} {c : Nat} {xs : List Value} (h : w.ownsRow B e sz (.slice p n c) n xs) : n ≤ c := by
  rcases h.2 with ⟨h, rfl⟩ | ⟨g, cap, cur, h, _, _, hn, _⟩
  · omega
  · cases h
    exact hn

set_option maxRecDepth 100000 in
set_option maxHeartbeats 8000000 in
theorem refFaults_any (L : List (Value × List LF)) (p : Option Addr) (c : Nat) (w : World) (hL : LsAt w.heap.size w p L) (hlen : L.length ≤ big) (hcat : (cat L).length ≤ big) :
    Calls Try.prog 53 #[.slice p L.length c] w (fun e w' => ∃ p' c' r, e = .returned (.slice p' (ordL cF (List.length r) r).length c') ∧ r.map LF.f = (cat L).map (fun x => cleanF x.f) ∧ FsAt w'.heap.size w' p' (ordL cF (List.length r) r) ∧ Below w.heap.size w w') := by
  unfold big at hlen hcat
  have HL := Lib.hid hL
  have HCAT := Lib.hid hcat
  have HSZ := Lib.hid (Nat.le_refl w.heap.size)
  clear hL hcat
  go_enter Try.func53, Try.ntmps53
  go_wp2
  go_loopw [3, 4] (fun s3 s4 wr => ∃ i : Nat, i ≤ L.length ∧ s4 = .int .i64 i ∧ ∃ r sp sc, s3 = .slice sp (List.length r) sc ∧ Hid (wr.ownsRow w.heap.size 91 3 (.slice sp (List.length r) sc) (List.length r) (fC r)) ∧ Hid (r.map LF.f = (cat (L.take i)).map (fun x => cleanF x.f)) ∧ Hid (∀ x ∈ r, OwnLF w.heap.size wr x) ∧ Hid (Below w.heap.size w wr)) (fun _ s4 _ => L.length - (intOf s4).toNat)
  case atStart => exact ⟨0, by omega, rfl, [], none, 0, rfl, Lib.hid (World.ownsRow_nil _ _ _ _), Lib.hid rfl, Lib.hid (fun _ h => by cases h), Lib.hid (Below.refl _ _)⟩
  case round =>
    obtain ⟨i, hi, rfl, r, sp, sc, rfl, HO, HM, HW, HB⟩ := hrel
    by_cases h1 : i < L.length
    · obtain ⟨⟨lv, l⟩, hx⟩ : ∃ x, L[i]? = some x := ⟨L[i], by simp [h1]⟩
      obtain ⟨q, cq, hlv, hlc, _⟩ := HL.out.2 _ (List.mem_of_getElem? hx)
      dsimp only at hlv hlc
      subst hlv
      rcases HL.out.1 with h0 | ⟨b, o, rfl, hb, hc⟩
      · subst h0; simp at h1
      have hc0 := hc i _ hx
      have hlt : l.length ≤ 4194304 := by have h9 : (cat (L.take i)).length + l.length ≤ (cat L).length := cat_len L i _ hx; have := HCAT.out; omega
      have HX := Lib.hid hx
      have HC0 := Lib.hid hc0
      clear hx hc hc0
      go_wp2
      go_loopw [3, 5] (fun s3 s5 wr2 => ∃ j : Nat, j ≤ l.length ∧ s5 = .int .i64 j ∧ ∃ r sp sc, s3 = .slice sp (List.length r) sc ∧ Hid (wr2.ownsRow w.heap.size 91 3 (.slice sp (List.length r) sc) (List.length r) (fC r)) ∧ Hid (r.map LF.f = (cat (L.take i) ++ l.take j).map (fun x => cleanF x.f)) ∧ Hid (∀ x ∈ r, OwnLF w.heap.size wr2 x) ∧ Hid (Below w.heap.size w wr2)) (fun _ s5 _ => l.length - (intOf s5).toNat)
      case atStart => exact ⟨0, by omega, rfl, r, sp, sc, rfl, HO, Lib.hid (by rw [HM.out]; simp), HW, HB⟩
      case round =>
        clear HO HM HW HB
        obtain ⟨j, hj, rfl, r, sp, sc, rfl, HO, HM, HW, HBwr⟩ := hrel
        have g0 := (HBwr.out.cell (p := ⟨b, o + i, none⟩) hb).trans HC0.out
        by_cases hjl : j < l.length
        · obtain ⟨y, hy⟩ : ∃ y, l[j]? = some y := ⟨l[j], by simp [hjl]⟩
          have hFl : FsAt w.heap.size w q l := by
            obtain ⟨q', c', e1, _, h3⟩ := HL.out.2 _ (List.mem_of_getElem? HX.out)
            cases e1
            exact h3
          obtain ⟨bl, ol, rfl, hBl, a1, a2, a3, oky⟩ := (hFl.below HBwr.out).get hy
          have HY := Lib.hid hy
          have hlr : Hid (r.length ≤ 4194304) := Lib.hid (by
            have h := congrArg List.length HM.out
            simp only [List.length_map, List.length_append, List.length_take] at h
            have h9 : (cat (L.take i)).length + l.length ≤ (cat L).length := cat_len L i _ HX.out
            have := HCAT.out
            omega)
          have C1 : Hid (∀ W, Below wr.heap.size wr W → Calls Try.prog 80 #[.agg y.cells] W (fun e w' => ∃ x' : LF, e = .returned (.agg x'.cells) ∧ x'.f = cleanF y.f ∧ OwnLF W.heap.size w' x' ∧ Below W.heap.size W w')) := Lib.hid (fun W h => CopyFault_any y w.heap.size W (oky.below (h.mono HBwr.out.size)) (by have := h.size; have := HBwr.out.size; omega))
          obtain ⟨⟨yk, ypos, ypath⟩, yp, yq⟩ := y
          dsimp only at a1 a2 a3
          dsimp only [LF.cells] at C1
          have hwl : bl < wr.heap.size := by have := HBwr.out.size; omega
          clear hy oky hFl
          go_upto_region 9 with (go_at_call 80; refine (C1.out _ (Below.refl _ _)).mono ?_; rintro e w4 ⟨⟨⟨xk, xpos, xpath⟩, xp, xq⟩, rfl, hf, hown, hb4⟩; obtain ⟨xpp, xpc, hxp⟩ := row_shape hown.1; obtain ⟨xqp, xqc, hxq⟩ := row_shape hown.2.1; dsimp only at hxp hxq; subst hxp hxq; have HF := Lib.hid hf; have HOWN := Lib.hid hown; have HB4 := Lib.hid hb4; clear hf hown hb4; dsimp only [LF.cells])
          have Hxo := Lib.hid HOWN.out.lok.one
          obtain ⟨W5, hW5⟩ : ∃ W5, w4.alloc (.cells #[.int .i64 xk, .slice xpp xpos.length xpc, .slice xqp xpath.length xqc] 91) = W5 := ⟨_, rfl⟩
          have hb5 : Below w4.heap.size w4 W5 := by rw [← hW5]; exact (Below.refl _ _).alloc (Nat.le_refl _) _
          have hd := cellsAt_alloc w4 #[.int .i64 xk, .slice xpp xpos.length xpc, .slice xqp xpath.length xqc] 91 (0, 0)
          rw [hW5] at hd
          have d0 : W5.cell? ⟨w4.heap.size, 0, none⟩ = some (.int .i64 xk) := hd 0 _ rfl
          have d1 : W5.cell? ⟨w4.heap.size, 1, none⟩ = some (.slice xpp xpos.length xpc) := hd 1 _ rfl
          have d2 : W5.cell? ⟨w4.heap.size, 2, none⟩ = some (.slice xqp xpath.length xqc) := hd 2 _ rfl
          rw [hW5]
          have hb45 : Below wr.heap.size wr W5 := HB4.out.trans (hb5.mono HB4.out.size)
          have HOW5 := Lib.hid (HO.out.kept (grown_ofb hb45 none) (by cases (Value.slice sp r.length sc).ownBlock <;> simp))
          have HBW5 := Lib.hid (HBwr.out.trans (hb45.mono HBwr.out.size))
          have HMEM : Hid (∀ z ∈ r ++ [⟨⟨xk, xpos, xpath⟩, .slice xpp xpos.length xpc, .slice xqp xpath.length xqc⟩], OwnLF w.heap.size W5 z) := Lib.hid (fun z hz => by
            rcases List.mem_append.1 hz with hz | hz
            · exact (HW.out z hz).below hb45
            · obtain rfl : z = _ := by simpa using hz
              exact (HOWN.out.below hb5).lower HBwr.out.size)
          clear hW5 hb5 hd hb45 HO HBwr g0 a1 a2 a3
          go_step
          iterate 3
            refine wpList_plain rfl (fun K hK => ?_)
            go_step
            refine hK _ _ ?_
            clear hK K
          obtain ⟨W3, hW⟩ : ∃ W3, W5.alloc (.cells #[.int .i64 xk, .slice xpp xpos.length xpc, .slice xqp xpath.length xqc] 91) = W3 := ⟨_, rfl⟩
          have hb3 : Below W5.heap.size W5 W3 := by rw [← hW]; exact (Below.refl W5.heap.size W5).alloc (Nat.le_refl _) _
          have hnew : CellsAt W3 W5.heap.size 0 #[.int .i64 xk, .slice xpp xpos.length xpc, .slice xqp xpath.length xqc] := by rw [← hW]; exact cellsAt_alloc W5 _ _ (0, 0)
          rw [hW]
          clear hW
          have HG3 := HOW5.out.kept (grown_ofb hb3 none) (by cases (Value.slice sp r.length sc).ownBlock <;> simp)
          refine wpList_plain rfl (fun K hK => ?_)
          refine wp_append_x (P := Try.prog) W3 (.tmp 30) (.tmp 32) 85 rfl w.heap.size 91 (.agg #[.int .i64 0, .slice none 0 0, .slice none 0 0]) 3 56 Try.underlying85 (by kernel_rfl) rfl (by decide) (.slice sp r.length sc) r.length _ rfl HG3 ⟨W5.heap.size, 0, none⟩ 1 1 [.int .i64 xk, .slice xpp xpos.length xpc, .slice xqp xpath.length xqc] rfl (by decide) rfl ?c1 ?c2 ?c3 ?c4 ?c5 ?_
          case c1 =>
            intro m u hu
            have := hnew m u (by simpa using hu)
            rw [addr_add]
            exact this
          case c2 => intro u hu; simp at hu; rcases hu with rfl | rfl | rfl <;> first | rfl | exact Hxo.out.1 | exact Hxo.out.2
          case c3 => unfold maxLen; have := hlr.out; omega
          case c4 => have := hlr.out; omega
          case c5 => have := hb3.size; have := HBW5.out.size; have := HSZ.out; omega
          intro v' w' hrow hgr _
          refine hK _ _ ?_
          clear hK K
          have hbw' : Below w.heap.size w w' := (HBW5.out.trans (hb3.mono (by have := HBW5.out.size; have := HSZ.out; omega))).grown hgr (by have := hb3.size; have := HBW5.out.size; have := HSZ.out; omega) (fun y hy => (HG3.lt y hy).1)
          obtain ⟨g', cap', rfl⟩ : ∃ g' cap', v' = .slice (some ⟨g', 0, none⟩) (r.length + 1) cap' := by
            rcases hrow.2 with ⟨_, h⟩ | ⟨g', cap', cur, h, _⟩
            · omega
            · exact ⟨g', cap', h⟩
          have hnew2 : ∀ z ∈ r ++ [⟨⟨xk, xpos, xpath⟩, .slice xpp xpos.length xpc, .slice xqp xpath.length xqc⟩], OwnLF w.heap.size w' z := fun z hz => ((HMEM.out z hz).below hb3).kept HG3 hgr
          have HNEW := Lib.hid hnew2
          clear hnew2
          have HRW := Lib.hid hrow
          have HBW := Lib.hid hbw'
          clear hrow hbw' hgr HG3 hb3 hnew
          go_wp2
          go_roundw
          case rel =>
            refine ⟨j + 1, by omega, by go_num, r ++ [⟨⟨xk, xpos, xpath⟩, .slice xpp xpos.length xpc, .slice xqp xpath.length xqc⟩], some ⟨g', 0, none⟩, cap', by rw [List.length_append]; rfl, Lib.hid ?_, Lib.hid ?_, HNEW, HBW⟩
            · have h := HRW.out
              rw [List.length_append, fC_app]
              exact h
            · rw [List.map_append, HM.out, List.take_add_one, HY.out]
              have h := HF.out
              dsimp only at h
              simp only [List.map_append, List.append_assoc, List.map_cons, List.map_nil, Option.toList]
              rw [h]
          case measure => simp [intOf]; omega
        · go_wp2
          go_roundw
          case rel =>
            refine ⟨i + 1, by omega, by go_num, r, sp, sc, rfl, HO, Lib.hid ?_, HW, HBwr⟩
            rw [HM.out, cat_take HX.out, show l.take j = l from List.take_of_length_le (by omega)]
          case measure => simp [intOf]; omega
    · have hall := HM.out
      rw [List.take_of_length_le (by omega)] at hall
      have hlr : List.length r ≤ 4194304 := by
        have h := congrArg List.length hall
        simp only [List.length_map] at h
        have := HCAT.out
        omega
      have hF : FsAt wr.heap.size wr sp r := by
        obtain ⟨p', c', e1, h⟩ := fsAt_row HO.out (fun x hx => (HW.out x hx).lok)
        cases e1
        exact h
      have C2 := Lib.hid (ordered_any (List.length r) r (Nat.le_refl _) (by unfold big; omega) sp sc wr (row_cap HO.out) hF)
      have HALL := Lib.hid hall
      clear hall hF hlr
      go_wp2_with (go_at_call 81; refine C2.out.mono ?_; rintro e w5 ⟨p', c', rfl, hF, hb5⟩)
      go_ret
      exact ⟨p', c', r, rfl, HALL.out, hF, HB.out.trans (hb5.mono HB.out.size)⟩
end Go.Proofs.Ytnmnmkdmnohbmaa
