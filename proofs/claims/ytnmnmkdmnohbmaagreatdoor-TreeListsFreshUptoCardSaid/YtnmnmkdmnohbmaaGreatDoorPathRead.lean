/- tree.piece and tree.PathRead: what they answer. Conditions: none. -/
import Derived.Test.YtnmnmkdmnohbmaaGreatDoorPackM
import Derived.Test.YtnmnmkdmnohbmaaGreatDoorPackJ
import Derived.Test.YtnmnmkdmnohbmaaGreatDoorShelfB
import Derived.Test.YtnmnmkdmnohbmaaGreatDoorPackF
import Derived.Laws.BytesArg
import Derived.BigRegion
import Derived.Laws.IdiomStrings
namespace Go.Proofs.YtnmnmkdmnohbmaaGreatDoor
open Go.RowKit
attribute [local go_sem] St.cells

/-- A row of bytes as a text. -/
theorem row_str {w : World} {B : Nat} {sv : Value} {l : List UInt8} (h : w.ownsRow B 5 1 sv l.length (Lib.byteCells l)) :
    ∀ dst, Tryz.prog.underlying dst = some .string → (convert 101 dst sv).run Tryz.prog w = .ok (.string ⟨l.toArray⟩) w := by
  intro dst hd
  rcases h.2 with ⟨rfl, h0⟩ | ⟨g, cap, cur, rfl, hbg, hg, hnc, hcm, hcs, htake⟩
  · obtain rfl : l = [] := List.eq_nil_of_length_eq_zero h0
    exact run_convert_bytes_nil w 101 5 Tryz.underlying101 Tryz.underlying5 _ _ dst hd
  · refine run_convert_bytes_back w 101 dst 5 _ _ l Tryz.underlying101 Tryz.underlying5 hd (fun j hj => ?_)
    exact h.cells (g := g) rfl j _ (by simp [Lib.byteCells, hj])

/-- What the errors' variables hold. -/
def ErrIn (g : Nat) (w : World) : Prop := ∃ te pe, w.cell? ⟨g, 0, none⟩ = some (.iface te pe)
theorem ErrIn.on {g : Nat} {w w' : World} (h : ErrIn g w) (hb : Below w.heap.size w w') : ErrIn g w' := by
  obtain ⟨te, pe, h⟩ := h
  exact ⟨te, pe, (hb.cell (p := ⟨g, 0, none⟩) (World.block_lt_of_cell? w _ h)).trans h⟩

theorem end_cases (x : Lib.NumEnd Int) : (∃ v, x = .ok v) ∨ x = Lib.atoiAll [] ∨ x = .range := by
  cases x
  · exact .inl ⟨_, rfl⟩
  · exact .inr (.inl rfl)
  · exact .inr (.inr rfl)

/-- strconv.Atoi of every text. -/
theorem Atoi_any (s : ByteArray) (hs : s.size ≤ 16777216) (w : World) (h1 : ErrIn 4 w) (h2 : ErrIn 5 w) :
    Calls Tryz.prog 43 #[.string s] w (fun e w' => ∃ (n : Int) (ev : Value), e = .returned (.tuple #[.int .i64 n, ev]) ∧ Below w.heap.size w w' ∧
      ((Lib.atoiAll s.data.toList = .ok n ∧ ev = .nilIface) ∨ ((∀ m, Lib.atoiAll s.data.toList ≠ .ok m) ∧ ∃ t p, ev = .iface t (.pointer p)))) := by
  rcases end_cases (Lib.atoiAll s.data.toList) with ⟨v, h⟩ | h | h
  · refine (Tryz.strconv_Atoi_ok s (by omega) v h w).mono ?_
    rintro e w' ⟨rfl, hw⟩
    refine ⟨v, _, rfl, ?_, .inl ⟨h, rfl⟩⟩
    rcases hw with rfl | ⟨t, rfl⟩
    · exact Below.refl _ _
    · exact Lib.bytesWorld_below _ _ _
  · obtain ⟨te, pe, h1⟩ := h1
    refine (Tryz.strconv_Atoi_syntax s (by omega) h _ w h1 (.inr ⟨_, _, rfl⟩)).mono ?_
    rintro e w' ⟨N, rfl, _, _, hb⟩
    exact ⟨_, _, rfl, hb, .inr ⟨fun m e => (by rw [h] at e; cases e), _, _, rfl⟩⟩
  · obtain ⟨te, pe, h2⟩ := h2
    refine (Tryz.strconv_Atoi_range s (by omega) h _ w h2 (.inr ⟨_, _, rfl⟩)).mono ?_
    rintro e w' ⟨N, rfl, _, _, hb⟩
    exact ⟨_, _, rfl, hb, .inr ⟨fun m e => (by rw [h] at e; cases e), _, _, rfl⟩⟩

theorem drop_byte {u : ByteArray} {k : Nat} (h : k < u.size) {x : UInt8} (hx : u[k] = x) : u.data.toList.drop k = x :: u.data.toList.drop (k + 1) := by
  have h2 : u.data.toList[k]? = some x := by
    rw [Array.getElem?_toList, ← hx]
    exact Array.getElem?_eq_getElem h
  obtain ⟨h3, h4⟩ := List.getElem?_eq_some_iff.1 h2
  rw [List.drop_eq_getElem_cons h3, h4]
theorem grown_b {a b : World} (h : Below a.heap.size a b) (row : Option Nat) : a.grownBy b row := ⟨h.os, h.tape, h.output, h.size, fun k hk _ => h.block k hk⟩

def PieceP (s : ByteArray) (w : World) (e : Ending) (w' : World) : Prop :=
  ∃ (x : St) (b : Bool), e = .returned (.tuple #[.agg x.cells, .bool b]) ∧ (b = true → pieceL s.data.toList = some x) ∧ (b = false → pieceL s.data.toList = none) ∧ Below w.heap.size w w'

theorem set_same {w : World} {L j : Nat} {c : Array Value} {e : TypeId} {fz : Nat × Nat} (h : w.heap[L]? = some (.cells c e fz)) (v : Value) : (w.setCell ⟨L, j, none⟩ v).heap[L]? = some (.cells (c.setIfInBounds j v) e fz) := by
  simp [World.setCell, Array.getElem?_modify, h]

theorem close_piece {s : ByteArray} {w W : World} {a : Act} {g : Nat} {x : St} {b : Bool} (hL : W.heap[g]? = some (.cells x.cells 69 (0, 0)))
    (t2 : a.tmps[2]?.getD undef = .pointer (some ⟨g, 0, none⟩)) (t3 : a.tmps[3]?.getD undef = .bool b) (hd : a.defers = [])
    (h1 : b = true → pieceL s.data.toList = some x) (h2 : b = false → pieceL s.data.toList = none) (hb : Below w.heap.size w W) :
    bodyPost Tryz.prog Tryz.f21 (PieceP s w) .ret a W := by
  have c0 : W.cell? ⟨g, 0, none⟩ = some (.string x.nm) := by simp [World.cell?, hL, St.cells]
  have c1 : W.cell? ⟨g, 1, none⟩ = some (.int .i64 x.ix) := by simp [World.cell?, hL, St.cells]
  have c2 : W.cell? ⟨g, 2, none⟩ = some (.bool x.it) := by simp [World.cell?, hL, St.cells]
  refine bodyPost_ret (v := .tuple #[.agg x.cells, .bool b]) ?_ hd ⟨x, b, rfl, h1, h2, hb⟩
  simp only [results, Tryz.results21]
  simp [go_sem, t2, t3, c0, c1, c2]

set_option maxRecDepth 100000 in
set_option maxHeartbeats 4000000 in
theorem piece_any (s : ByteArray) (hs : s.size ≤ 16777216) (w : World) (h1 : ErrIn 4 w) (h2 : ErrIn 5 w) :
    Calls Tryz.prog 21 #[.string s] w (PieceP s w) := by
  by_cases h0 : s.size = 0
  · obtain rfl := ba_nil h0
    have hL4 := heap_new w (.cells #[.string ⟨#[]⟩, .int .i64 0, .bool false] 69)
    go_enter Tryz.func21, Tryz.ntmps21
    go_wp2
    exact close_piece (g := w.heap.size) (x := ⟨⟨#[]⟩, 0, false⟩) (b := false) hL4 rfl rfl rfl (fun h => by cases h) (fun _ => rfl) ((Below.refl _ _).alloc (Nat.le_refl _) _)
  · have hne : ¬ s.toList = [] := by
      obtain ⟨r, e⟩ := ba_head (s := s) (by omega)
      rw [ByteArray.toList_eq, e]; simp
    have hie : s.toList.isEmpty = false := by
      cases h : s.toList with
      | nil => exact absurd h hne
      | cons _ _ => rfl
    cases hm : markedL s.data.toList
    · have HM := Lib.hid hm
      obtain ⟨W0, hW0⟩ : ∃ W0, w.alloc (.cells #[.string ⟨#[]⟩, .int .i64 0, .bool false] 69) = W0 := ⟨_, rfl⟩
      have HB0 : Hid (Below w.heap.size w W0) := Lib.hid (by rw [← hW0]; exact (Below.refl _ _).alloc (Nat.le_refl _) _)
      have HS0 : Hid (W0.heap.size = w.heap.size + 1) := Lib.hid (by rw [← hW0]; simp)
      have HL0 : Hid (W0.heap[w.heap.size]? = some (.cells #[.string ⟨#[]⟩, .int .i64 0, .bool false] 69 (0, 0))) := Lib.hid (by rw [← hW0]; exact heap_new w _)
      clear h1 h2
      obtain ⟨u, hu⟩ : ∃ u : ByteArray, (⟨(Lib.trimPrefix s.data.toList [126, 50]).toArray⟩ : ByteArray) = u := ⟨_, rfl⟩
      have hu2 : u.data.toList = Lib.trimPrefix s.data.toList [126, 50] := by rw [← hu]
      have hul : u.size ≤ 16777216 := by
        rw [← ba_len, hu2]
        unfold Lib.trimPrefix
        have := ba_len s
        split
        · rw [List.length_drop]; omega
        · omega
      have HPL : Hid (pieceL s.data.toList = (unesc u.data.toList).map (fun n => ⟨⟨n.toArray⟩, 0, false⟩)) := Lib.hid (by
        unfold pieceL
        rw [if_neg (by intro e; exact hne (by rw [ByteArray.toList_eq, e])), HM.out, hu2]
        rfl)
      have HU := Lib.hid hu
      have HU2 := Lib.hid hu2
      clear hu hu2
      go_enter Tryz.func21, Tryz.ntmps21
      go_wp2_with fail
      try rw [hW0]
      clear hW0
      refine (marked_any s _).mono ?_
      rintro e w3 ⟨rfl, rfl⟩
      rw [hm]
      go_wp2_with (go_at_call 44; refine (Tryz.strings_TrimPrefix s ⟨#[126, 50]⟩ _).mono ?_; rintro e w4 ⟨rfl, hw4⟩; rw [hw4]; clear hw4; rw [show (⟨(Lib.trimPrefix s.data.toList (ByteArray.mk #[126, 50]).data.toList).toArray⟩ : ByteArray) = u from HU.out])
      clear hne hie hm
      go_loopw [6, 7] (fun sv kv wr => ∃ k : Nat, k ≤ u.size ∧ kv = .int .i64 k ∧ ∃ out : List UInt8, out.length ≤ k ∧ Hid (wr.ownsRow (w.heap.size + 1) 5 1 sv out.length (Lib.byteCells out)) ∧ Hid (unesc u.data.toList = (unesc (u.data.toList.drop k)).map (out ++ ·)) ∧ Hid (Below (w.heap.size + 1) W0 wr)) (fun _ kv _ => u.size - (intOf kv).toNat)
      case atStart => exact ⟨0, Nat.zero_le _, rfl, [], by simp, Lib.hid (World.ownsRow_nil _ _ _ _), Lib.hid (by simp), Lib.hid (Below.refl _ _)⟩
      case round =>
        obtain ⟨k, hk, rfl, out, hol, HR, HUN, HBW⟩ := hrel
        have hsz : w.heap.size < wr.heap.size := by have := HBW.out.size; have := HS0.out; omega
        by_cases h1 : k < u.size
        · obtain ⟨x, hx⟩ : ∃ x, u[k] = x := ⟨_, rfl⟩
          have HDR := Lib.hid (drop_byte h1 hx)
          by_cases g1 : (x.toNat : Int) = 126
          · have GX : Hid (x = 126) := Lib.hid (byte_num (k := 126) g1 (by omega))
            by_cases h2 : k + 1 < u.size
            · obtain ⟨y, hy⟩ : ∃ y, u[k + 1] = y := ⟨_, rfl⟩
              have HDR2 := Lib.hid (drop_byte h2 hy)
              have h2' : ((k : Int) + 1 == (u.size : Int)) = false := beq_eq_false_iff_ne.2 (by omega)
              have h2'' : ¬ (k : Int) + 1 = (u.size : Int) := by omega
              by_cases g2 : (y.toNat : Int) = 48
              · have GY : Hid (y = 48) := Lib.hid (byte_num (k := 48) g2 (by omega))
                go_upto_region 16 with (fail)
                go_step
                iterate 7
                  refine wpList_plain rfl (fun K hK => ?_)
                  go_step
                  refine hK _ _ ?_
                  clear hK K
                obtain ⟨W1, hW1⟩ : ∃ W1, wr.alloc (.cells #[.int .u8 (126)] 5) = W1 := ⟨_, rfl⟩
                have hb1 : Below wr.heap.size wr W1 := by rw [← hW1]; exact (Below.refl _ _).alloc (Nat.le_refl _) _
                have hn1 : W1.heap[wr.heap.size]? = some (.cells #[.int .u8 (126)] 5 (0, 0)) := by rw [← hW1]; exact heap_new wr _
                have e0 : wr.alloc (.cells #[.int .u8 (((⟨#[126, 47]⟩ : ByteArray)[0]'(by decide)).toNat : Int)] 5) = W1 := hW1
                rw [e0]
                clear e0
                clear hW1
                refine wpList_plain rfl (fun K hK => ?_)
                have HG3 := HR.out.kept (grown_b hb1 none) (by cases u6.ownBlock <;> simp)
                refine wp_append_1 (P := Tryz.prog) W1 (.tmp 59) (.tmp 65) 101 rfl (w.heap.size + 1) 5 (.int .u8 0) 1 1 Tryz.underlying101 (by kernel_rfl) rfl (by decide) u6 out.length _ rfl HG3 ⟨wr.heap.size, 0, none⟩ 1 1 [.int .u8 (126)] rfl (by decide) rfl ?c1 ?c2 ?c3 ?c4 ?c5 ?_
                case c1 =>
                  intro m v hv
                  cases m with
                  | zero => cases hv; rw [addr_add1]; simp [World.cell?, hn1]
                  | succ m => simp at hv
                case c2 => intro v hv; simp at hv; subst hv; rfl
                case c3 => unfold maxLen; omega
                case c4 => omega
                case c5 => have := HBW.out.size; have := hb1.size; have := HS0.out; omega
                intro v' w' hrow hgr hv'
                refine hK _ _ ?_
                clear hK K
                have HROW : Hid (w'.ownsRow (w.heap.size + 1) 5 1 v' (out ++ [126]).length (Lib.byteCells (out ++ [126]))) := Lib.hid (by
                  rw [List.length_append, Lib.byteCells_append]
                  exact hrow)
                have HBN : Hid (Below (w.heap.size + 1) W0 w') := Lib.hid ((HBW.out.trans (hb1.mono (by have := HBW.out.size; have := HS0.out; omega))).grown hgr (by have := HBW.out.size; have := hb1.size; have := HS0.out; omega) (fun y hy => (HG3.lt y hy).1))
                clear hrow hgr hv' HG3 hb1 hn1
                go_wp2
                go_roundw
                case rel => exact ⟨k + 1 + 1, by omega, by go_num, out ++ [126], by simp only [List.length_append, List.length_cons, List.length_nil]; omega, HROW, Lib.hid (by rw [HUN.out, HDR.out, HDR2.out, GX.out, GY.out, unesc_wave, if_pos rfl, Option.map_map]; congr 1; funext z; simp), HBN⟩
                case measure => simp [intOf]; omega
              · by_cases g3 : (y.toNat : Int) = 49
                · have GY : Hid (y = 49) := Lib.hid (byte_num (k := 49) g3 (by omega))
                  go_upto_region 16 with (fail)
                  go_step
                  iterate 7
                    refine wpList_plain rfl (fun K hK => ?_)
                    go_step
                    refine hK _ _ ?_
                    clear hK K
                  obtain ⟨W1, hW1⟩ : ∃ W1, wr.alloc (.cells #[.int .u8 (47)] 5) = W1 := ⟨_, rfl⟩
                  have hb1 : Below wr.heap.size wr W1 := by rw [← hW1]; exact (Below.refl _ _).alloc (Nat.le_refl _) _
                  have hn1 : W1.heap[wr.heap.size]? = some (.cells #[.int .u8 (47)] 5 (0, 0)) := by rw [← hW1]; exact heap_new wr _
                  have e0 : wr.alloc (.cells #[.int .u8 (((⟨#[126, 47]⟩ : ByteArray)[1]'(by decide)).toNat : Int)] 5) = W1 := hW1
                  rw [e0]
                  clear e0
                  clear hW1
                  refine wpList_plain rfl (fun K hK => ?_)
                  have HG3 := HR.out.kept (grown_b hb1 none) (by cases u6.ownBlock <;> simp)
                  refine wp_append_1 (P := Tryz.prog) W1 (.tmp 59) (.tmp 65) 101 rfl (w.heap.size + 1) 5 (.int .u8 0) 1 1 Tryz.underlying101 (by kernel_rfl) rfl (by decide) u6 out.length _ rfl HG3 ⟨wr.heap.size, 0, none⟩ 1 1 [.int .u8 (47)] rfl (by decide) rfl ?c1 ?c2 ?c3 ?c4 ?c5 ?_
                  case c1 =>
                    intro m v hv
                    cases m with
                    | zero => cases hv; rw [addr_add1]; simp [World.cell?, hn1]
                    | succ m => simp at hv
                  case c2 => intro v hv; simp at hv; subst hv; rfl
                  case c3 => unfold maxLen; omega
                  case c4 => omega
                  case c5 => have := HBW.out.size; have := hb1.size; have := HS0.out; omega
                  intro v' w' hrow hgr hv'
                  refine hK _ _ ?_
                  clear hK K
                  have HROW : Hid (w'.ownsRow (w.heap.size + 1) 5 1 v' (out ++ [47]).length (Lib.byteCells (out ++ [47]))) := Lib.hid (by
                    rw [List.length_append, Lib.byteCells_append]
                    exact hrow)
                  have HBN : Hid (Below (w.heap.size + 1) W0 w') := Lib.hid ((HBW.out.trans (hb1.mono (by have := HBW.out.size; have := HS0.out; omega))).grown hgr (by have := HBW.out.size; have := hb1.size; have := HS0.out; omega) (fun y hy => (HG3.lt y hy).1))
                  clear hrow hgr hv' HG3 hb1 hn1
                  go_wp2
                  go_roundw
                  case rel => exact ⟨k + 1 + 1, by omega, by go_num, out ++ [47], by simp only [List.length_append, List.length_cons, List.length_nil]; omega, HROW, Lib.hid (by rw [HUN.out, HDR.out, HDR2.out, GX.out, GY.out, unesc_wave, if_neg (by decide), if_pos rfl, Option.map_map]; congr 1; funext z; simp), HBN⟩
                  case measure => simp [intOf]; omega
                · have g2' : ((y.toNat : Int) != 48) = true := by simp [g2]
                  have g3' : ((y.toNat : Int) != 49) = true := by simp [g3]
                  have HNO : Hid (unesc u.data.toList = none) := Lib.hid (by
                    rw [HUN.out, HDR.out, HDR2.out, GX.out, unesc_wave, if_neg (fun e => g2 (by rw [e]; rfl)), if_neg (fun e => g3 (by rw [e]; rfl))]
                    rfl)
                  have hL := (HBW.out.block _ (by omega)).trans HL0.out
                  have f0 : wr.frozen? ⟨w.heap.size, 0, none⟩ = false := by simp [World.frozen?, hL]
                  have f1 : wr.frozen? ⟨w.heap.size, 1, none⟩ = false := by simp [World.frozen?, hL]
                  have f2 : wr.frozen? ⟨w.heap.size, 2, none⟩ = false := by simp [World.frozen?, hL]
                  have c0 : wr.cell? ⟨w.heap.size, 0, none⟩ = some (.string ⟨#[]⟩) := by simp [World.cell?, hL]
                  have c1 : wr.cell? ⟨w.heap.size, 1, none⟩ = some (.int .i64 0) := by simp [World.cell?, hL]
                  have c2 : wr.cell? ⟨w.heap.size, 2, none⟩ = some (.bool false) := by simp [World.cell?, hL]
                  go_wp2
                  have hl1 := set_same (j := 0) hL (.string ⟨#[]⟩)
                  have hl2 := set_same (j := 1) hl1 (.int .i64 0)
                  have hl3 := set_same (j := 2) hl2 (.bool false)
                  exact close_piece (g := w.heap.size) (x := ⟨⟨#[]⟩, 0, false⟩) (b := false) hl3 rfl rfl rfl (fun h => by cases h) (fun _ => by rw [HPL.out, HNO.out]; rfl) ((((HB0.out.trans (HBW.out.mono (by omega))).setCell (Nat.le_refl _) _).setCell (Nat.le_refl _) _).setCell (Nat.le_refl _) _)
            · have h2' : ((k : Int) + 1 == (u.size : Int)) = true := beq_iff_eq.2 (by omega)
              have h2'' : (k : Int) + 1 = (u.size : Int) := by omega
              have HNO : Hid (unesc u.data.toList = none) := Lib.hid (by
                have e : u.data.toList.drop (k + 1) = [] := List.drop_eq_nil_iff.2 (by rw [ba_len]; omega)
                rw [HUN.out, HDR.out, e, GX.out]
                rfl)
              have hL := (HBW.out.block _ (by omega)).trans HL0.out
              have f0 : wr.frozen? ⟨w.heap.size, 0, none⟩ = false := by simp [World.frozen?, hL]
              have f1 : wr.frozen? ⟨w.heap.size, 1, none⟩ = false := by simp [World.frozen?, hL]
              have f2 : wr.frozen? ⟨w.heap.size, 2, none⟩ = false := by simp [World.frozen?, hL]
              have c0 : wr.cell? ⟨w.heap.size, 0, none⟩ = some (.string ⟨#[]⟩) := by simp [World.cell?, hL]
              have c1 : wr.cell? ⟨w.heap.size, 1, none⟩ = some (.int .i64 0) := by simp [World.cell?, hL]
              have c2 : wr.cell? ⟨w.heap.size, 2, none⟩ = some (.bool false) := by simp [World.cell?, hL]
              go_wp2
              have hl1 := set_same (j := 0) hL (.string ⟨#[]⟩)
              have hl2 := set_same (j := 1) hl1 (.int .i64 0)
              have hl3 := set_same (j := 2) hl2 (.bool false)
              exact close_piece (g := w.heap.size) (x := ⟨⟨#[]⟩, 0, false⟩) (b := false) hl3 rfl rfl rfl (fun h => by cases h) (fun _ => by rw [HPL.out, HNO.out]; rfl) ((((HB0.out.trans (HBW.out.mono (by omega))).setCell (Nat.le_refl _) _).setCell (Nat.le_refl _) _).setCell (Nat.le_refl _) _)
          · have GX : Hid (x ≠ 126) := Lib.hid (fun e => g1 (by rw [e]; rfl))
            go_upto_region 12 with (fail)
            go_step
            iterate 5
              refine wpList_plain rfl (fun K hK => ?_)
              go_step
              refine hK _ _ ?_
              clear hK K
            obtain ⟨W1, hW1⟩ : ∃ W1, wr.alloc (.cells #[.int .u8 ((x.toNat : Int))] 5) = W1 := ⟨_, rfl⟩
            have hb1 : Below wr.heap.size wr W1 := by rw [← hW1]; exact (Below.refl _ _).alloc (Nat.le_refl _) _
            have hn1 : W1.heap[wr.heap.size]? = some (.cells #[.int .u8 ((x.toNat : Int))] 5 (0, 0)) := by rw [← hW1]; exact heap_new wr _
            try rw [hW1]
            clear hW1
            refine wpList_plain rfl (fun K hK => ?_)
            have HG3 := HR.out.kept (grown_b hb1 none) (by cases u6.ownBlock <;> simp)
            refine wp_append_1 (P := Tryz.prog) W1 (.tmp 34) (.tmp 38) 101 rfl (w.heap.size + 1) 5 (.int .u8 0) 1 1 Tryz.underlying101 (by kernel_rfl) rfl (by decide) u6 out.length _ rfl HG3 ⟨wr.heap.size, 0, none⟩ 1 1 [.int .u8 ((x.toNat : Int))] rfl (by decide) rfl ?c1 ?c2 ?c3 ?c4 ?c5 ?_
            case c1 =>
              intro m v hv
              cases m with
              | zero => cases hv; rw [addr_add1]; simp [World.cell?, hn1]
              | succ m => simp at hv
            case c2 => intro v hv; simp at hv; subst hv; rfl
            case c3 => unfold maxLen; omega
            case c4 => omega
            case c5 => have := HBW.out.size; have := hb1.size; have := HS0.out; omega
            intro v' w' hrow hgr hv'
            refine hK _ _ ?_
            clear hK K
            have HROW : Hid (w'.ownsRow (w.heap.size + 1) 5 1 v' (out ++ [x]).length (Lib.byteCells (out ++ [x]))) := Lib.hid (by
              rw [List.length_append, Lib.byteCells_append]
              exact hrow)
            have HBN : Hid (Below (w.heap.size + 1) W0 w') := Lib.hid ((HBW.out.trans (hb1.mono (by have := HBW.out.size; have := HS0.out; omega))).grown hgr (by have := HBW.out.size; have := hb1.size; have := HS0.out; omega) (fun y hy => (HG3.lt y hy).1))
            clear hrow hgr hv' HG3 hb1 hn1
            go_wp2
            go_roundw
            case rel => exact ⟨k + 1, by omega, by go_num, out ++ [x], by simp only [List.length_append, List.length_cons, List.length_nil]; omega, HROW, Lib.hid (by rw [HUN.out, HDR.out, unesc_plain GX.out, Option.map_map]; congr 1; funext z; simp), HBN⟩
            case measure => simp [intOf]; omega
        · have HEND : Hid (unesc u.data.toList = some out) := Lib.hid (by
            have e : u.data.toList.drop k = [] := List.drop_eq_nil_iff.2 (by rw [ba_len]; omega)
            rw [HUN.out, e]
            simp [unesc])
          have hcv := row_str HR.out 9 Tryz.underlying9
          have hL := (HBW.out.block _ (by omega)).trans HL0.out
          have f0 : wr.frozen? ⟨w.heap.size, 0, none⟩ = false := by simp [World.frozen?, hL]
          have f1 : wr.frozen? ⟨w.heap.size, 1, none⟩ = false := by simp [World.frozen?, hL]
          have f2 : wr.frozen? ⟨w.heap.size, 2, none⟩ = false := by simp [World.frozen?, hL]
          have c0 : wr.cell? ⟨w.heap.size, 0, none⟩ = some (.string ⟨#[]⟩) := by simp [World.cell?, hL]
          have c1 : wr.cell? ⟨w.heap.size, 1, none⟩ = some (.int .i64 0) := by simp [World.cell?, hL]
          have c2 : wr.cell? ⟨w.heap.size, 2, none⟩ = some (.bool false) := by simp [World.cell?, hL]
          go_wp2
          have hl1 := set_same (j := 0) hL (.string ⟨out.toArray⟩)
          have hl2 := set_same (j := 1) hl1 (.int .i64 0)
          have hl3 := set_same (j := 2) hl2 (.bool false)
          exact close_piece (g := w.heap.size) (x := ⟨⟨out.toArray⟩, 0, false⟩) (b := true) hl3 rfl rfl rfl (fun _ => by rw [HPL.out, HEND.out]; rfl) (fun h => by cases h) ((((HB0.out.trans (HBW.out.mono (by omega))).setCell (Nat.le_refl _) _).setCell (Nat.le_refl _) _).setCell (Nat.le_refl _) _)
    · have HM := Lib.hid hm
      obtain ⟨W0, hW0⟩ : ∃ W0, w.alloc (.cells #[.string ⟨#[]⟩, .int .i64 0, .bool false] 69) = W0 := ⟨_, rfl⟩
      have HB0 : Hid (Below w.heap.size w W0) := Lib.hid (by rw [← hW0]; exact (Below.refl _ _).alloc (Nat.le_refl _) _)
      have HS0 : Hid (W0.heap.size = w.heap.size + 1) := Lib.hid (by rw [← hW0]; simp)
      have HL0 : Hid (W0.heap[w.heap.size]? = some (.cells #[.string ⟨#[]⟩, .int .i64 0, .bool false] 69 (0, 0))) := Lib.hid (by rw [← hW0]; exact heap_new w _)
      have HC := Lib.hid (Atoi_any s hs W0 (h1.on HB0.out) (h2.on HB0.out))
      clear h1 h2
      go_enter Tryz.func21, Tryz.ntmps21
      go_wp2_with fail
      try rw [hW0]
      clear hW0
      refine (marked_any s _).mono ?_
      rintro e w3 ⟨rfl, rfl⟩
      rw [hm]
      go_wp2_with (first
        | (go_at_call 43; refine HC.out.mono ?_; rintro e w4 ⟨n, ev, rfl, hb, hor⟩))
      have hL4 : w4.heap[w.heap.size]? = some (.cells #[.string ⟨#[]⟩, .int .i64 0, .bool false] 69 (0, 0)) := (hb.block _ (by have := HS0.out; omega)).trans HL0.out
      have hlt : w.heap.size < w4.heap.size := by have := hb.size; have := HS0.out; omega
      have HB4 := Lib.hid (HB0.out.trans (hb.mono HB0.out.size))
      clear hb
      rcases hor with ⟨ho, rfl⟩ | ⟨ho, t, p, rfl⟩
      · have HO := Lib.hid ho
        clear ho
        have f0 : w4.frozen? ⟨w.heap.size, 0, none⟩ = false := by simp [World.frozen?, hL4]
        have f1 : w4.frozen? ⟨w.heap.size, 1, none⟩ = false := by simp [World.frozen?, hL4]
        have f2 : w4.frozen? ⟨w.heap.size, 2, none⟩ = false := by simp [World.frozen?, hL4]
        have c0 : w4.cell? ⟨w.heap.size, 0, none⟩ = some (.string ⟨#[]⟩) := by simp [World.cell?, hL4]
        have c1 : w4.cell? ⟨w.heap.size, 1, none⟩ = some (.int .i64 0) := by simp [World.cell?, hL4]
        have c2 : w4.cell? ⟨w.heap.size, 2, none⟩ = some (.bool false) := by simp [World.cell?, hL4]
        go_region
        all_goals go_wp2
        have hl1 := set_same (j := 0) hL4 (.string ⟨#[]⟩)
        have hl2 := set_same (j := 1) hl1 (.int .i64 n)
        have hl3 := set_same (j := 2) hl2 (.bool true)
        refine close_piece (g := w.heap.size) (x := ⟨⟨#[]⟩, n, true⟩) (b := true) hl3 rfl rfl rfl (fun _ => ?_) (fun h => by cases h) ((((HB4.out.setCell (Nat.le_refl _) _).setCell (Nat.le_refl _) _).setCell (Nat.le_refl _) _).drew)
        unfold pieceL
        rw [if_neg (by intro e; exact hne (by rw [ByteArray.toList_eq, e])), if_pos HM.out, HO.out]
        rfl
      · have HO := Lib.hid ho
        clear ho
        have f0 : w4.frozen? ⟨w.heap.size, 0, none⟩ = false := by simp [World.frozen?, hL4]
        have f1 : w4.frozen? ⟨w.heap.size, 1, none⟩ = false := by simp [World.frozen?, hL4]
        have f2 : w4.frozen? ⟨w.heap.size, 2, none⟩ = false := by simp [World.frozen?, hL4]
        have c0 : w4.cell? ⟨w.heap.size, 0, none⟩ = some (.string ⟨#[]⟩) := by simp [World.cell?, hL4]
        have c1 : w4.cell? ⟨w.heap.size, 1, none⟩ = some (.int .i64 0) := by simp [World.cell?, hL4]
        have c2 : w4.cell? ⟨w.heap.size, 2, none⟩ = some (.bool false) := by simp [World.cell?, hL4]
        go_region
        all_goals go_wp2
        have hl1 := set_same (j := 0) hL4 (.string ⟨#[]⟩)
        have hl2 := set_same (j := 1) hl1 (.int .i64 n)
        have hl3 := set_same (j := 2) hl2 (.bool true)
        refine close_piece (g := w.heap.size) (x := ⟨⟨#[]⟩, n, true⟩) (b := false) hl3 rfl rfl rfl (fun h => by cases h) (fun _ => ?_) ((((HB4.out.setCell (Nat.le_refl _) _).setCell (Nat.le_refl _) _).setCell (Nat.le_refl _) _).drew)
        unfold pieceL
        rw [if_neg (by intro e; exact hne (by rw [ByteArray.toList_eq, e])), if_pos HM.out]
        rcases end_cases (Lib.atoiAll s.data.toList) with ⟨m, hx⟩ | hx | hx
        · exact absurd hx (HO.out m)
        · rw [hx]; rfl
        · rw [hx]
end Go.Proofs.YtnmnmkdmnohbmaaGreatDoor
