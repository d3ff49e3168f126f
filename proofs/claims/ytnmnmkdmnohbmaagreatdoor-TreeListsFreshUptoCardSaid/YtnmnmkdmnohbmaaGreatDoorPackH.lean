/- Several texts in one: The calls of a nil table of texts. A table of texts that keeps its order: what its blocks hold; New, Len, Put. Helper text: the lists gathered: their rows of pointers, and one pointer more. Helper text: lists of steps and of places gathered: their rows of pointers, and one pointer more. Conditions: none. -/
import Derived.Test.YtnmnmkdmnohbmaaGreatDoorPackG
import Derived.Maps.OwnSet
import Derived.StillTailTactics
import Derived.Test.YtnmnmkdmnohbmaaGreatDoorPackF
namespace Go.Proofs.YtnmnmkdmnohbmaaGreatDoor
open Go.RowKit

theorem put_nil (s : ByteArray) (v : Int) (w : World) : Calls Tryz.prog 15 #[.pointer none, .string s, .int .i64 v] w (RetS (.bool false) w) := by
  go_enter Tryz.func15, Tryz.ntmps15
  go_wp2_with fail
  go_ret
  exact ⟨rfl, rfl⟩

theorem keys_nil (w : World) : Calls Tryz.prog 16 #[.pointer none] w (RetS (.slice none 0 0) w) := by
  go_enter Tryz.func16, Tryz.ntmps16
  go_wp2_with fail
  go_ret
  exact ⟨rfl, rfl⟩

end Go.Proofs.YtnmnmkdmnohbmaaGreatDoor

namespace Go.Proofs.YtnmnmkdmnohbmaaGreatDoor
open Go.RowKit Go.Maps

theorem lawS : Keyed Tryz.prog 9 := string_keyed Tryz.underlying9
theorem zeroI (w : World) : (zeroValue 3).run Tryz.prog w = .ok (.int .i64 0) w := by kernel_rfl

/-- Where a text stands among the keys. -/
def pos (ks : List ByteArray) (s : ByteArray) : Option Nat := ks.findIdx? (fun t => t.toList == s.toList)

structure IsTab (w : World) (B T bm : Nat) (kv vv : Value) (D : DataW Unit) (ks : List ByteArray) (vs : List Int) : Prop where
  block : w.heap[T]? = some (.cells #[.map (some bm), kv, vv] 88 (0, 0))
  map : w.ownsMap Tryz.prog 9 (plainElem Tryz.prog 3) bm ks.length D
  keys : w.ownsRow B 9 1 kv ks.length (ks.map Value.string)
  vals : w.ownsInts B 3 .i64 vv vs
  len : vs.length = ks.length
  has : ∀ s : ByteArray, s.size ≤ maxLen → Maps.has D (nkey s) = (pos ks s).isSome
  ix : ∀ (s : ByteArray) (i : Nat), s.size ≤ maxLen → pos ks s = some i → D.atKey (nkey s) (.lit (.int .i64 0)) = .lit (.int .i64 i)
  geT : B ≤ T
  gem : B ≤ bm
  d1 : T ≠ bm
  d2 : kv.ownBlock ≠ some T
  d3 : vv.ownBlock ≠ some T
  d4 : kv.ownBlock = none ∨ kv.ownBlock ≠ vv.ownBlock
  few : ks.length < 8796093022208

theorem new_any (w : World) : Calls Tryz.prog 14 #[] w (fun e w' => e = .returned (.pointer (some ⟨w.heap.size + 1, 0, none⟩)) ∧ IsTab w' w.heap.size (w.heap.size + 1) w.heap.size (.slice none 0 0) (.slice none 0 0) (.map []) [] [] ∧ Below w.heap.size w w') := by
  have hmm := @run_makeMap Tryz.prog
  go_enter Tryz.func14, Tryz.ntmps14
  go_wp2_with fail
  go_ret
  have h0 : w.heap.size < (w.alloc (.map #[] 0)).heap.size := by simp
  have hm := World.ownsMap_made (H := Unit) w Tryz.prog 9 (plainElem Tryz.prog 3)
  refine ⟨by simp, ⟨?_, hm.alloc _, World.ownsRow_nil _ _ _ _, World.ownsInts_nil _ _ _ _, rfl, fun s _ => rfl, fun s i _ h => by simp [pos] at h, by omega, Nat.le_refl _, by omega, by simp [Value.ownBlock], by simp [Value.ownBlock], .inl rfl, by decide⟩, ((Below.refl _ _).alloc (Nat.le_refl _) _).alloc (by simp) _⟩
  have := heap_new (w.alloc (.map #[] 0)) (.cells #[.map (some w.heap.size), .slice none 0 0, .slice none 0 0] 88)
  rwa [World.size_alloc] at this

theorem IsTab.facts {w : World} {B T bm : Nat} {kv vv : Value} {D : DataW Unit} {ks : List ByteArray} {vs : List Int} (h : IsTab w B T bm kv vv D ks vs) :
    w.cell? ⟨T, 0, none⟩ = some (.map (some bm)) ∧ w.cell? ⟨T, 1, none⟩ = some kv ∧ w.cell? ⟨T, 2, none⟩ = some vv ∧ w.frozen? ⟨T, 1, none⟩ = false ∧ w.frozen? ⟨T, 2, none⟩ = false ∧ T < w.heap.size := by
  have hb := h.block
  refine ⟨by simp [World.cell?, hb], by simp [World.cell?, hb], by simp [World.cell?, hb], by simp [World.frozen?, hb], by simp [World.frozen?, hb], (Array.getElem?_eq_some_iff.1 hb).1⟩

/-- A slice of one's own has its length. -/
theorem row_slice {w : World} {B : Nat} {e : TypeId} {sz : Nat} {v : Value} {n : Nat} {xs : List Value} (h : w.ownsRow B e sz v n xs) : ∃ p c, v = .slice p n c := by
  rcases h.2 with ⟨rfl, rfl⟩ | ⟨g, cap, cur, rfl, _⟩
  · exact ⟨_, _, rfl⟩
  · exact ⟨_, _, rfl⟩

/-- All but some blocks stand. -/
structure Moved (S : Nat → Prop) (w w' : World) : Prop where
  os : w'.os = w.os
  tape : w'.tape = w.tape
  output : w'.output = w.output
  size : w.heap.size ≤ w'.heap.size
  block : ∀ k, k < w.heap.size → ¬ S k → w'.heap[k]? = w.heap[k]?

theorem Moved.of_grown {S : Nat → Prop} {w w' : World} {row : Option Nat} (h : w.grownBy w' row) (hr : ∀ g, row = some g → S g ∨ w.heap.size ≤ g) : Moved S w w' :=
  ⟨h.os, h.tape, h.output, h.size, fun k hk hn => h.block k hk (fun e => by rcases hr k e.symm with h | h; exact hn h; omega)⟩
theorem Moved.trans {S : Nat → Prop} {a b c : World} (h : Moved S a b) (k : Moved S b c) : Moved S a c :=
  ⟨k.os.trans h.os, k.tape.trans h.tape, k.output.trans h.output, Nat.le_trans h.size k.size, fun i hi hn => (k.block i (Nat.lt_of_lt_of_le hi h.size) hn).trans (h.block i hi hn)⟩
theorem Moved.mono {S S' : Nat → Prop} {a b : World} (h : Moved S a b) (hs : ∀ k, k < a.heap.size → S k → S' k) : Moved S' a b :=
  ⟨h.os, h.tape, h.output, h.size, fun i hi hn => h.block i hi (fun e => hn (hs i hi e))⟩
theorem Moved.below {S : Nat → Prop} {a b : World} (h : Moved S a b) {B : Nat} (hB : B ≤ a.heap.size) (hs : ∀ k, S k → B ≤ k) : Below B a b :=
  ⟨h.os, h.tape, h.output, h.size, fun i hi => h.block i (by omega) (fun e => by have := hs i e; omega)⟩
theorem grown_setCell (w : World) (a : Addr) (v : Value) : w.grownBy (w.setCell a v) (some a.block) :=
  ⟨rfl, rfl, rfl, by simp [World.setCell], fun k _ hk => Below.heap_setCell w a v k (fun e => hk (by rw [e]))⟩

theorem row_ne_map {H : Type} {w : World} {B : Nat} {e k : TypeId} {sz n m b : Nat} {v : Value} {xs : List Value} {P : Program} {R : Value → Option (DataW H × List MemPlace)} {D : DataW H} (h : w.ownsRow B e sz v n xs) (hm : w.ownsMap P k R b m D) : v.ownBlock ≠ some b := by
  obtain ⟨es, clock, hb, _⟩ := hm
  rcases h.2 with ⟨rfl, _⟩ | ⟨g, cap, cur, rfl, _, hg, _⟩
  · simp [Value.ownBlock]
  · intro e
    simp only [Value.ownBlock, Option.some.injEq] at e
    subst e
    rw [hb] at hg
    cases hg

def PutPost (w : World) (B T bm : Nat) (kv vv : Value) (fresh : Bool) (ks : List ByteArray) (vs : List Int) (e : Ending) (w' : World) : Prop :=
  e = .returned (.bool fresh) ∧ ∃ kv' vv' D', IsTab w' B T bm kv' vv' D' ks vs ∧ Moved (fun g => g = T ∨ g = bm ∨ kv.ownBlock = some g ∨ vv.ownBlock = some g) w w' ∧
    (kv'.ownBlock = kv.ownBlock ∨ ∃ g, w.heap.size ≤ g ∧ kv'.ownBlock = some g) ∧ (vv'.ownBlock = vv.ownBlock ∨ ∃ g, w.heap.size ≤ g ∧ vv'.ownBlock = some g)

theorem pos_snoc (ks : List ByteArray) (s t : ByteArray) : pos (ks ++ [s]) t = (pos ks t).or (if s.toList = t.toList then some ks.length else none) := by
  unfold pos
  rw [List.findIdx?_append]
  by_cases h : s.toList = t.toList
  · simp [h]
  · simp [h]

theorem pos_eq {ks : List ByteArray} {s t : ByteArray} (h : s.toList = t.toList) : pos ks s = pos ks t := by simp [pos, h]

theorem keyS {s : ByteArray} (hs : s.size ≤ maxLen) : keyOf Tryz.prog 9 (.string s) = some (nkey s) := Go.WideMaps.keyOf_string_mk Tryz.underlying9 hs

set_option maxRecDepth 100000 in
set_option maxHeartbeats 2000000 in
theorem Put_new {w : World} {B T bm : Nat} {kv vv : Value} {D : DataW Unit} {ks : List ByteArray} {vs : List Int} (h : IsTab w B T bm kv vv D ks vs) (s : ByteArray) (v : Int) (hs : s.size ≤ maxLen) (hn : pos ks s = none) (room : ks.length + 1 < 8796093022208) (hv : (Lit.int .i64 v).wf = true) (hB : B ≤ w.heap.size) :
    Calls Tryz.prog 15 #[.pointer (some ⟨T, 0, none⟩), .string s, .int .i64 v] w (PutPost w B T bm kv vv true (ks ++ [s]) (vs ++ [v])) := by
  obtain ⟨c0, c1, c2, f1, f2, hT⟩ := h.facts
  obtain ⟨p, c, rfl⟩ := row_slice h.keys
  obtain ⟨p2, c2', rfl⟩ := row_slice h.vals.1
  have hhas := h.has s hs
  rw [hn] at hhas
  simp only [Option.isSome_none] at hhas
  have H := Lib.hid h
  have HV := Lib.hid hv
  have HN := Lib.hid hn
  have hkey := keyS hs
  have hmap := h.map
  clear h hv hn
  have heq : ∀ w' : World, (binOp BinOp.eql 85 (.map (some bm)) (.map none)).run Tryz.prog w' = .ok (.bool false) w' := fun w' => by first | rfl | kernel_rfl | simp [binOp, go_sem]
  go_enter Tryz.func15, Tryz.ntmps15
  go_upto_region 9 with (at_lookup; refine wpList_lookup_own_ok_int _ rfl _ _ 85 rfl 9 3 .i64 lawS Tryz.underlying85 Tryz.underlying3 (zeroI _) bm ks.length D rfl hmap _ _ rfl hkey ?_; intro x _ _; rw [hhas])
  go_still_tail 10, (by kernel_rfl)
  change wpList _ _ _ _ _ w.drew
  refine wpList_mapUpdate_own _ rfl _ _ _ 85 rfl 9 3 lawS Tryz.underlying85 _ bm ks.length D rfl hmap.drew (by unfold maxLen; omega) _ _ _ rfl rfl hkey _ [] (plainElem_int Tryz.underlying3 (WalkArith.wf_i64 (by omega))) ?_
  intro w1 hown1 hgr1
  have hgw1 : w.grownBy w1 (some bm) := ⟨hgr1.os, hgr1.tape, hgr1.output, hgr1.size, hgr1.block⟩
  have hb1 : w1.heap[T]? = some (.cells #[.map (some bm), .slice p ks.length c, .slice p2 vs.length c2'] 88 (0, 0)) := (hgw1.block T hT (fun e => H.out.d1 (by cases e; rfl))).trans H.out.block
  have hk1 := H.out.keys.kept hgw1 (.inr (row_ne_map H.out.keys H.out.map))
  have hv1 := H.out.vals.kept hgw1 (.inr (row_ne_map H.out.vals.1 H.out.map))
  have M1 : Moved (fun g => g = T ∨ g = bm ∨ (Value.slice p ks.length c).ownBlock = some g ∨ (Value.slice p2 vs.length c2').ownBlock = some g) w w1 := Moved.of_grown hgw1 (fun g e => .inl (.inr (.inl (by cases e; rfl))))
  have sz1 : w.heap.size ≤ w1.heap.size := hgw1.size
  clear hgr1 hgw1 hmap c0 c1 c2 f1 f2 heq hhas hkey
  have c1 : w1.cell? ⟨T, 1, none⟩ = some (.slice p ks.length c) := by simp [World.cell?, hb1]
  have HB1 := Lib.hid hb1
  have HK1 := Lib.hid hk1
  have HV1 := Lib.hid hv1
  have HM1 := Lib.hid hown1
  have HMV1 := Lib.hid M1
  have tT1 : T < w1.heap.size := by omega
  clear hb1 hk1 hv1 hown1 M1
  go_upto_region 10 with (fail)
  go_step
  iterate 7
    refine wpList_plain rfl (fun K hK => ?_)
    go_step
    refine hK _ _ ?_
    clear hK K
  obtain ⟨W1, hW1⟩ : ∃ W, w1.alloc (.cells #[.string s] 9) = W := ⟨_, rfl⟩
  have hb1 : Below w1.heap.size w1 W1 := by rw [← hW1]; exact (Below.refl _ _).alloc (Nat.le_refl _) _
  have hc1 : CellsAt W1 w1.heap.size 0 #[.string s] := by rw [← hW1]; exact cellsAt_alloc _ _ _ _
  have e := hW1
  clear hW1
  rw [e]
  clear e
  have hg1 := grown_of_below hb1 none
  have hkW := HK1.out.kept hg1 (by cases (Value.slice p ks.length c).ownBlock <;> simp)
  have hvW := HV1.out.kept hg1 (by cases (Value.slice p2 vs.length c2').ownBlock <;> simp)
  have hmW := HM1.out.kept hg1 (by simp)
  have hbW := (hb1.block T tT1).trans HB1.out
  have tTW : T < W1.heap.size := Nat.lt_of_lt_of_le tT1 hb1.size
  have MW : Moved (fun g => g = T ∨ g = bm ∨ (Value.slice p ks.length c).ownBlock = some g ∨ (Value.slice p2 vs.length c2').ownBlock = some g) w1 W1 := Moved.of_grown hg1 (fun g e => by cases e)
  refine wpList_plain rfl (fun K hK => ?_)
  refine wp_append_x (P := Tryz.prog) W1 (.tmp 51) (.tmp 53) 48 rfl B 9 (.string ⟨#[]⟩) 1 16 Tryz.underlying48 (by kernel_rfl) rfl (by decide) (.slice p ks.length c) ks.length _ rfl hkW ⟨w1.heap.size, 0, none⟩ 1 1 [.string s] rfl (by decide) rfl ?c1 ?c2 ?c3 ?c4 ?c5 ?_
  case c1 =>
    intro m u hu
    have := hc1 m u (by simpa using hu)
    rw [addr_add]
    exact this
  case c2 => intro u hu; simp at hu; subst hu; rfl
  case c3 => have := H.out.len; have := H.out.few; unfold maxLen; omega
  case c4 => have := H.out.len; have := H.out.few; omega
  case c5 => have := hb1.size; omega
  intro v' w2 hrow hgr hloc
  obtain ⟨pk, ck, rfl⟩ := row_slice hrow
  refine hK _ _ ?_
  clear hK K
  have hneT : (Value.slice pk (ks.length + 1) ck).ownBlock ≠ some T := by
    rcases hloc with h | h
    · rw [h]; exact H.out.d2
    · rw [h]; simp; omega
  have hnem : (Value.slice pk (ks.length + 1) ck).ownBlock ≠ some bm := row_ne_map hrow (hmW.kept hgr (fun e => row_ne_map hkW hmW e.symm))
  have hm2 := hmW.kept hgr (fun e => row_ne_map hkW hmW e.symm)
  have hv2 := hvW.kept hgr (by rcases H.out.d4 with h | h; rw [h]; cases (Value.slice p2 vs.length c2').ownBlock <;> simp; exact .inr (Ne.symm h))
  have hb2 := (hgr.block T tTW (fun e => H.out.d2 e.symm)).trans hbW
  have hd4 : (Value.slice pk (ks.length + 1) ck).ownBlock = none ∨ (Value.slice pk (ks.length + 1) ck).ownBlock ≠ (Value.slice p2 vs.length c2').ownBlock := by
    rcases hloc with h | h
    · rw [h]; exact H.out.d4
    · rw [h]
      refine .inr (fun hc => ?_)
      have := (hvW.1.lt _ hc.symm).2
      omega
  have hloc' : (Value.slice pk (ks.length + 1) ck).ownBlock = (Value.slice p ks.length c).ownBlock ∨ ∃ g, w.heap.size ≤ g ∧ (Value.slice pk (ks.length + 1) ck).ownBlock = some g := hloc.imp id (fun h => ⟨_, by have := hb1.size; omega, h⟩)
  have M2 := (HMV1.out.trans (MW.mono (fun _ _ h => h))).trans ((Moved.of_grown hgr (fun g e => .inl (.inr (.inr (.inl e)))) : Moved (fun g => g = T ∨ g = bm ∨ (Value.slice p ks.length c).ownBlock = some g ∨ (Value.slice p2 vs.length c2').ownBlock = some g) W1 w2))
  have tT2 : T < w2.heap.size := Nat.lt_of_lt_of_le tTW hgr.size
  have c1' : w2.cell? ⟨T, 1, none⟩ = some (.slice p ks.length c) := by simp [World.cell?, hb2]
  have f1 : w2.frozen? ⟨T, 1, none⟩ = false := by simp [World.frozen?, hb2]
  have HROW := Lib.hid hrow
  have HB2 := Lib.hid hb2
  have HV2 := Lib.hid hv2
  have HM2 := Lib.hid hm2
  have HMV2 := Lib.hid M2
  have HLOC := Lib.hid hloc'
  have HD4 := Lib.hid hd4
  have HNT := Lib.hid hneT
  have HNM := Lib.hid hnem
  clear hrow hb2 hv2 hm2 M2 hloc hloc' hd4 hneT hnem hgr MW hbW hmW hvW hkW hg1 hc1 HK1 HV1 HM1 HB1 HMV1 c1 tTW
  iterate 2
    refine wpList_plain rfl (fun K hK => ?_)
    go_step
    refine hK _ _ ?_
    clear hK K
  refine wpList_plain rfl (fun K hK => ?_)
  go_step
  refine hK _ _ ?_
  clear hK K
  have hb3 := heap_setCell_same (j := 1) HB2.out (Value.slice pk (ks.length + 1) ck)
  have hg3 := grown_setCell w2 ⟨T, 1, none⟩ (Value.slice pk (ks.length + 1) ck)
  generalize w2.setCell ⟨T, 1, none⟩ (Value.slice pk (ks.length + 1) ck) = w3 at *
  replace hb3 : w3.heap[T]? = some (.cells #[.map (some bm), .slice pk (ks.length + 1) ck, .slice p2 vs.length c2'] 88 (0, 0)) := hb3
  have hk3 := HROW.out.kept hg3 (.inr HNT.out)
  have hv3 := HV2.out.kept hg3 (.inr H.out.d3)
  have hm3 := HM2.out.kept hg3 (fun e => H.out.d1 (by cases e; rfl))
  have M3 := HMV2.out.trans ((Moved.of_grown hg3 (fun g e => .inl (.inl (by cases e; rfl))) : Moved (fun g => g = T ∨ g = bm ∨ (Value.slice p ks.length c).ownBlock = some g ∨ (Value.slice p2 vs.length c2').ownBlock = some g) w2 w3))
  have tT3 : T < w3.heap.size := Nat.lt_of_lt_of_le tT2 hg3.size
  have c2 : w3.cell? ⟨T, 2, none⟩ = some (.slice p2 vs.length c2') := by simp [World.cell?, hb3]
  have HB3 := Lib.hid hb3
  have HK3 := Lib.hid hk3
  have HV3 := Lib.hid hv3
  have HM3 := Lib.hid hm3
  have HMV3 := Lib.hid M3
  have sz3 : w.heap.size ≤ w3.heap.size := M3.size
  clear hb3 hk3 hv3 hm3 M3 hg3 HROW HB2 HV2 HM2 HMV2 c1' f1 tT2 hb1 tT1 sz1
  go_upto_region 11 with (fail)
  go_step
  iterate 7
    refine wpList_plain rfl (fun K hK => ?_)
    go_step
    refine hK _ _ ?_
    clear hK K
  obtain ⟨W3, hW3⟩ : ∃ W, w3.alloc (.cells #[.int .i64 v] 3) = W := ⟨_, rfl⟩
  have hb3 : Below w3.heap.size w3 W3 := by rw [← hW3]; exact (Below.refl _ _).alloc (Nat.le_refl _) _
  have hc3 : CellsAt W3 w3.heap.size 0 #[.int .i64 v] := by rw [← hW3]; exact cellsAt_alloc _ _ _ _
  have e := hW3
  clear hW3
  rw [e]
  clear e
  have hg3 := grown_of_below hb3 none
  have hkW := HK3.out.kept hg3 (by cases (Value.slice pk (ks.length + 1) ck).ownBlock <;> simp)
  have hvW := HV3.out.kept hg3 (by cases (Value.slice p2 vs.length c2').ownBlock <;> simp)
  have hmW := HM3.out.kept hg3 (by simp)
  have hbW := (hb3.block T tT3).trans HB3.out
  have tTW : T < W3.heap.size := Nat.lt_of_lt_of_le tT3 hb3.size
  have MW : Moved (fun g => g = T ∨ g = bm ∨ (Value.slice p ks.length c).ownBlock = some g ∨ (Value.slice p2 vs.length c2').ownBlock = some g) w3 W3 := Moved.of_grown hg3 (fun g e => by cases e)
  refine wpList_plain rfl (fun K hK => ?_)
  refine wp_append_x (P := Tryz.prog) W3 (.tmp 61) (.tmp 63) 86 rfl B 3 (.int .i64 0) 1 8 Tryz.underlying86 (by kernel_rfl) rfl (by decide) (.slice p2 vs.length c2') vs.length _ rfl hvW.1 ⟨w3.heap.size, 0, none⟩ 1 1 [.int .i64 v] rfl (by decide) rfl ?c1 ?c2 ?c3 ?c4 ?c5 ?_
  case c1 =>
    intro m u hu
    have := hc3 m u (by simpa using hu)
    rw [addr_add]
    exact this
  case c2 => intro u hu; simp at hu; subst hu; rfl
  case c3 => have := H.out.len; have := H.out.few; unfold maxLen; omega
  case c4 => have := H.out.len; have := H.out.few; omega
  case c5 => have := hb3.size; omega
  intro v' w4 hrow hgr hloc
  obtain ⟨pv, cv, rfl⟩ := row_slice hrow
  refine hK _ _ ?_
  clear hK K
  have hneT : (Value.slice pv (vs.length + 1) cv).ownBlock ≠ some T := by
    rcases hloc with h | h
    · rw [h]; exact H.out.d3
    · rw [h]; simp; omega
  have hnem : (Value.slice pv (vs.length + 1) cv).ownBlock ≠ some bm := row_ne_map hrow (hmW.kept hgr (fun e => row_ne_map hvW.1 hmW e.symm))
  have hm4 := hmW.kept hgr (fun e => row_ne_map hvW.1 hmW e.symm)
  have hk4 := hkW.kept hgr HD4.out
  have hb4 := (hgr.block T tTW (fun e => H.out.d3 e.symm)).trans hbW
  have hd4 : (Value.slice pk (ks.length + 1) ck).ownBlock = none ∨ (Value.slice pk (ks.length + 1) ck).ownBlock ≠ (Value.slice pv (vs.length + 1) cv).ownBlock := by
    rcases hloc with h | h
    · rw [h]; exact HD4.out
    · rw [h]
      refine (Classical.em ((Value.slice pk (ks.length + 1) ck).ownBlock = none)).imp id (fun _ hc => ?_)
      have := (hkW.lt _ hc).2
      omega
  have hloc' : (Value.slice pv (vs.length + 1) cv).ownBlock = (Value.slice p2 vs.length c2').ownBlock ∨ ∃ g, w.heap.size ≤ g ∧ (Value.slice pv (vs.length + 1) cv).ownBlock = some g := hloc.imp id (fun h => ⟨_, by have := hb3.size; omega, h⟩)
  have M4 := (HMV3.out.trans MW).trans ((Moved.of_grown hgr (fun g e => .inl (.inr (.inr (.inr e)))) : Moved (fun g => g = T ∨ g = bm ∨ (Value.slice p ks.length c).ownBlock = some g ∨ (Value.slice p2 vs.length c2').ownBlock = some g) W3 w4))
  have tT4 : T < w4.heap.size := Nat.lt_of_lt_of_le tTW hgr.size
  have c2 : w4.cell? ⟨T, 2, none⟩ = some (.slice p2 vs.length c2') := by simp [World.cell?, hb4]
  have f2 : w4.frozen? ⟨T, 2, none⟩ = false := by simp [World.frozen?, hb4]
  have hrow := HV3.out.appended hrow HV.out
  have HROW := Lib.hid hrow
  have HB4 := Lib.hid hb4
  have HK4 := Lib.hid hk4
  have HM4 := Lib.hid hm4
  have HMV4 := Lib.hid M4
  have HLOC4 := Lib.hid hloc'
  have HDD4 := Lib.hid hd4
  have HNT4 := Lib.hid hneT
  have HNM4 := Lib.hid hnem
  clear hrow hb4 hk4 hm4 M4 hloc hloc' hd4 hneT hnem hgr MW hbW hmW hvW hkW hg3 hc3 HK3 HV3 HM3 HB3 HMV3 tTW
  iterate 2
    refine wpList_plain rfl (fun K hK => ?_)
    go_step
    refine hK _ _ ?_
    clear hK K
  refine wpList_plain rfl (fun K hK => ?_)
  go_step
  refine hK _ _ ?_
  clear hK K
  have hb5 := heap_setCell_same (j := 2) HB4.out (Value.slice pv (vs.length + 1) cv)
  have hg5 := grown_setCell w4 ⟨T, 2, none⟩ (Value.slice pv (vs.length + 1) cv)
  generalize w4.setCell ⟨T, 2, none⟩ (Value.slice pv (vs.length + 1) cv) = w5 at *
  replace hb5 : w5.heap[T]? = some (.cells #[.map (some bm), .slice pk (ks.length + 1) ck, .slice pv (vs.length + 1) cv] 88 (0, 0)) := hb5
  have hk5 := HK4.out.kept hg5 (.inr HNT.out)
  have hv5 := HROW.out.kept hg5 (.inr HNT4.out)
  have hm5 := HM4.out.kept hg5 (fun e => H.out.d1 (by cases e; rfl))
  have M5 := HMV4.out.trans ((Moved.of_grown hg5 (fun g e => .inl (.inl (by cases e; rfl))) : Moved (fun g => g = T ∨ g = bm ∨ (Value.slice p ks.length c).ownBlock = some g ∨ (Value.slice p2 vs.length c2').ownBlock = some g) w4 w5))
  have sz5 : w.heap.size ≤ w5.heap.size := M5.size
  have hpost : PutPost w B T bm (.slice p ks.length c) (.slice p2 vs.length c2') true (ks ++ [s]) (vs ++ [v]) (.returned (.bool true)) w5 := by
    have hkl : WideAt.IsKeyLit (nkey s) := (trivial : WideAt.IsKeyLit (.string s.data.toList))
    refine ⟨rfl, _, _, _, ⟨hb5, by simpa using hm5, by simpa using hk5, hv5, by simpa using H.out.len, fun t ht => ?_, fun t i ht hi => ?_, H.out.geT, H.out.gem, H.out.d1, HNT.out, HNT4.out, HDD4.out, by simpa using room⟩, M5, HLOC.out, HLOC4.out⟩
    · rw [pos_snoc]
      by_cases e : s.toList = t.toList
      · rw [← nkey_eq.2 e, has_put_same H.out.map.isMap hkl, if_pos e]
        cases pos ks t <;> rfl
      · rw [has_put_other (fun hc => e (nkey_eq.1 hc).symm), H.out.has t ht, if_neg e, Option.or_none]
    · rw [pos_snoc] at hi
      by_cases e : s.toList = t.toList
      · rw [← pos_eq e, HN.out, if_pos e] at hi
        obtain rfl : ks.length = i := by simpa using hi
        rw [← nkey_eq.2 e, atKey_put_same H.out.map.isMap hkl]
      · rw [if_neg e, Option.or_none] at hi
        rw [atKey_put_other (fun hc => e (nkey_eq.1 hc).symm), H.out.ix t i ht hi]
  have HP := Lib.hid hpost
  clear hpost
  go_wp2_with fail
  go_ret
  exact HP.out

theorem ownsInts_set {w : World} {base : Nat} {e : TypeId} {q : IntKind} {g n cap i : Nat} {zs : List Int} (h : w.ownsInts base e q (.slice (some ⟨g, 0, none⟩) n cap) zs) {v : Int} (hv : (Lit.int q v).wf = true) :
    (w.setCell ⟨g, i, none⟩ (.int q v)).ownsInts base e q (.slice (some ⟨g, 0, none⟩) n cap) (zs.set i v) := by
  obtain ⟨⟨hl, h2⟩, hw⟩ := h
  rcases h2 with ⟨h0, _⟩ | ⟨g', cap', cur, h0, hb, hh, hn, hc, hs, ht⟩
  · cases h0
  · cases h0
    refine ⟨⟨by simp, .inr ⟨g, cap, cur.setIfInBounds i (.int q v), by rw [List.length_set], hb, heap_setCell_same hh _, by rw [List.length_set]; exact hn, hc, by simpa using hs, ?_⟩⟩, fun z hz => ?_⟩
    · rw [List.length_set, Array.toList_setIfInBounds, List.take_set, ht, List.map_set]
    · rcases List.mem_or_eq_of_mem_set hz with h | rfl
      · exact hw z h
      · exact hv

set_option maxRecDepth 100000 in
set_option maxHeartbeats 2000000 in
theorem Put_old {w : World} {B T bm : Nat} {kv vv : Value} {D : DataW Unit} {ks : List ByteArray} {vs : List Int} (h : IsTab w B T bm kv vv D ks vs) (s : ByteArray) (v : Int) (hs : s.size ≤ maxLen) {i : Nat} (hn : pos ks s = some i) (hv : (Lit.int .i64 v).wf = true) :
    Calls Tryz.prog 15 #[.pointer (some ⟨T, 0, none⟩), .string s, .int .i64 v] w (PutPost w B T bm kv vv false ks (vs.set i v)) := by
  obtain ⟨c0, c1, c2, f1, f2, hT⟩ := h.facts
  have hhas := h.has s hs
  have hat0 := h.ix s i hs hn
  rw [hn] at hhas
  simp only [Option.isSome_some] at hhas
  have hi : i < vs.length := by
    rw [h.len]
    unfold pos at hn
    rw [List.findIdx?_eq_some_iff_getElem] at hn
    exact hn.1
  have hkey := keyS hs
  have hmap := h.map
  obtain ⟨g, cap, rfl⟩ : ∃ g cap, vv = .slice (some ⟨g, 0, none⟩) vs.length cap := by
    rcases h.vals.1.2 with ⟨rfl, h0⟩ | ⟨g, cap, cur, rfl, _⟩
    · omega
    · exact ⟨_, _, rfl⟩
  obtain ⟨_, _, hcap, _, hg, hcells⟩ := ownsInts_cells h.vals
  have hz := hcells i _ (List.getElem?_eq_getElem hi)
  have hfz : w.frozen? ⟨g, i, none⟩ = false := by
    rcases h.vals.1.2 with ⟨h0, _⟩ | ⟨g', cap', cur, h0, hb, hh, _⟩
    · cases h0
    · cases h0; simp [World.frozen?, hh]
  have hlen : vs.length ≤ 8796093022208 := by have := h.len; have := h.few; omega
  have H := Lib.hid h
  have HV := Lib.hid hv
  clear h hv hn hcells
  unfold maxLen at hcap
  go_enter Tryz.func15, Tryz.ntmps15
  go_wp2_with (at_lookup; refine wpList_lookup_own_ok_int _ rfl _ _ 85 rfl 9 3 .i64 lawS Tryz.underlying85 Tryz.underlying3 (zeroI _) bm ks.length D rfl hmap _ _ rfl hkey ?_; intro x hat _; rw [hat0] at hat; obtain rfl : (i : Int) = x := (by cases hat; rfl); rw [hhas])
  go_ret
  have hg5 := grown_setCell w ⟨g, i, none⟩ (.int .i64 v)
  have hgT : g ≠ T := fun e => H.out.d3 (by rw [e]; rfl)
  refine ⟨rfl, _, _, _, ⟨?_, H.out.map.kept hg5 (fun e => row_ne_map H.out.vals.1 H.out.map e.symm), H.out.keys.kept hg5 H.out.d4, ownsInts_set H.out.vals HV.out, by rw [List.length_set]; exact H.out.len, H.out.has, H.out.ix, H.out.geT, H.out.gem, H.out.d1, H.out.d2, H.out.d3, H.out.d4, H.out.few⟩, Moved.of_grown hg5 (fun y e => .inl (.inr (.inr (.inr e)))), .inl rfl, .inl rfl⟩
  exact (hg5.block T hT (fun e => hgT (by cases e; rfl))).trans H.out.block
end Go.Proofs.YtnmnmkdmnohbmaaGreatDoor

namespace Go.Proofs.YtnmnmkdmnohbmaaGreatDoor
open Go Go.RowKit

/-- The block of what is gathered: two rows of pointers that grow, and two slices that stay. -/
structure Held2 (w : World) (B H : Nat) (s0 s1 s2 s3 : Value) (xI xF : List Value) : Prop where
  block : w.heap[H]? = some (.cells #[s0, s1, s2, s3] 57 (0, 0))
  r0 : w.ownsRow B 117 1 s0 xI.length xI
  r1 : w.ownsRow B 119 1 s1 xF.length xF
  geH : B ≤ H
  d0 : s0.ownBlock ≠ some H
  d1 : s1.ownBlock ≠ some H
  d01 : s0.ownBlock = none ∨ s0.ownBlock ≠ s1.ownBlock
  d10 : s1.ownBlock = none ∨ s1.ownBlock ≠ s0.ownBlock
theorem Held2.lt {w : World} {B H : Nat} {s0 s1 s2 s3 : Value} {xI xF : List Value} (h : Held2 w B H s0 s1 s2 s3 xI xF) : H < w.heap.size := (Array.getElem?_eq_some_iff.1 h.block).1
theorem Held2.grow {w w' : World} {B H : Nat} {s0 s1 s2 s3 : Value} {xI xF : List Value} (h : Held2 w B H s0 s1 s2 s3 xI xF) (hb : Below w.heap.size w w') : Held2 w' B H s0 s1 s2 s3 xI xF :=
  ⟨(hb.block _ h.lt).trans h.block, h.r0.kept (grown_of_below hb none) (by cases s0.ownBlock <;> simp), h.r1.kept (grown_of_below hb none) (by cases s1.ownBlock <;> simp), h.geH, h.d0, h.d1, h.d01, h.d10⟩
/-- A world where one cell stands. -/
structure OneW (H j : Nat) (v : Value) where
  w : World
  h : w.cell? ⟨H, j, none⟩ = some v
abbrev OneCls (H j : Nat) (v : Value) : World → Prop := fun w' => ∃ z : OneW H j v, w' = z.w
theorem one_of {H j : Nat} {v : Value} {w : World} (h : w.cell? ⟨H, j, none⟩ = some v) : OneCls H j v w := ⟨⟨w, h⟩, rfl⟩
/-- Behind the append and the store into the first slice. -/
theorem Held2.push0 {w w2 : World} {B H : Nat} {s0 s1 s2 s3 v' : Value} {xI xF : List Value} {x : Value} (h : Held2 w B H s0 s1 s2 s3 xI xF) (hB : B ≤ w.heap.size)
    (hrow : w2.ownsRow B 117 1 v' (xI.length + 1) (xI ++ [x])) (hgr : w.grownBy w2 s0.ownBlock) (hloc : v'.ownBlock = s0.ownBlock ∨ v'.ownBlock = some w.heap.size) :
    Held2 (w2.setCell ⟨H, 0, none⟩ v') B H v' s1 s2 s3 (xI ++ [x]) xF ∧ Below B w (w2.setCell ⟨H, 0, none⟩ v') := by
  have hb2 := (hgr.block H h.lt (fun e => h.d0 e.symm)).trans h.block
  have hneH : v'.ownBlock ≠ some H := by
    rcases hloc with e | e
    · rw [e]; exact h.d0
    · rw [e]; have := h.lt; simp; omega
  have hr1 := h.r1.kept hgr (by rcases h.d10 with e | e; rw [e]; cases s0.ownBlock <;> simp; exact .inr e)
  have hg3 := grown_setCell w2 ⟨H, 0, none⟩ v'
  have hd01 : v'.ownBlock = none ∨ v'.ownBlock ≠ s1.ownBlock := by
    rcases hloc with e | e
    · rw [e]; exact h.d01
    · rw [e]
      refine .inr (fun hc => ?_)
      have := (h.r1.lt _ hc.symm).2
      omega
  refine ⟨⟨heap_setCell_same (j := 0) hb2 v', by simpa using hrow.kept hg3 (.inr hneH), hr1.kept hg3 (.inr h.d1), h.geH, hneH, h.d1, hd01, ?_⟩, ?_⟩
  · rcases hd01 with e | e
    · by_cases hc : s1.ownBlock = none
      · exact .inl hc
      · exact .inr (by rw [e]; exact hc)
    · by_cases hc : s1.ownBlock = none
      · exact .inl hc
      · exact .inr (Ne.symm e)
  · exact ((Below.refl B w).grown hgr hB (fun y hy => (h.r0.lt y hy).1)).setCell (p := ⟨H, 0, none⟩) h.geH _
theorem Held2.push1 {w w2 : World} {B H : Nat} {s0 s1 s2 s3 v' : Value} {xI xF : List Value} {x : Value} (h : Held2 w B H s0 s1 s2 s3 xI xF) (hB : B ≤ w.heap.size)
    (hrow : w2.ownsRow B 119 1 v' (xF.length + 1) (xF ++ [x])) (hgr : w.grownBy w2 s1.ownBlock) (hloc : v'.ownBlock = s1.ownBlock ∨ v'.ownBlock = some w.heap.size) :
    Held2 (w2.setCell ⟨H, 1, none⟩ v') B H s0 v' s2 s3 xI (xF ++ [x]) ∧ Below B w (w2.setCell ⟨H, 1, none⟩ v') := by
  have hb2 := (hgr.block H h.lt (fun e => h.d1 e.symm)).trans h.block
  have hneH : v'.ownBlock ≠ some H := by
    rcases hloc with e | e
    · rw [e]; exact h.d1
    · rw [e]; have := h.lt; simp; omega
  have hr0 := h.r0.kept hgr (by rcases h.d01 with e | e; rw [e]; cases s1.ownBlock <;> simp; exact .inr e)
  have hg3 := grown_setCell w2 ⟨H, 1, none⟩ v'
  have hd10 : v'.ownBlock = none ∨ v'.ownBlock ≠ s0.ownBlock := by
    rcases hloc with e | e
    · rw [e]; exact h.d10
    · rw [e]
      refine .inr (fun hc => ?_)
      have := (h.r0.lt _ hc.symm).2
      omega
  refine ⟨⟨heap_setCell_same (j := 1) hb2 v', hr0.kept hg3 (.inr h.d0), by simpa using hrow.kept hg3 (.inr hneH), h.geH, h.d0, hneH, ?_, hd10⟩, ?_⟩
  · rcases hd10 with e | e
    · by_cases hc : s0.ownBlock = none
      · exact .inl hc
      · exact .inr (by rw [e]; exact hc)
    · by_cases hc : s0.ownBlock = none
      · exact .inl hc
      · exact .inr (Ne.symm e)
  · exact ((Below.refl B w).grown hgr hB (fun y hy => (h.r1.lt y hy).1)).setCell (p := ⟨H, 1, none⟩) h.geH _
end Go.Proofs.YtnmnmkdmnohbmaaGreatDoor

namespace Go.Proofs.YtnmnmkdmnohbmaaGreatDoor
open Go Go.RowKit

/-- The block of what is gathered: two rows of pointers that grow, and two slices that stay. -/
structure HeldS (w : World) (B H : Nat) (s0 s1 s2 s3 : Value) (xI xF : List Value) : Prop where
  block : w.heap[H]? = some (.cells #[s2, s3, s0, s1] 57 (0, 0))
  r0 : w.ownsRow B 51 1 s0 xI.length xI
  r1 : w.ownsRow B 59 1 s1 xF.length xF
  geH : B ≤ H
  d0 : s0.ownBlock ≠ some H
  d1 : s1.ownBlock ≠ some H
  d01 : s0.ownBlock = none ∨ s0.ownBlock ≠ s1.ownBlock
  d10 : s1.ownBlock = none ∨ s1.ownBlock ≠ s0.ownBlock
theorem HeldS.lt {w : World} {B H : Nat} {s0 s1 s2 s3 : Value} {xI xF : List Value} (h : HeldS w B H s0 s1 s2 s3 xI xF) : H < w.heap.size := (Array.getElem?_eq_some_iff.1 h.block).1
theorem HeldS.grow {w w' : World} {B H : Nat} {s0 s1 s2 s3 : Value} {xI xF : List Value} (h : HeldS w B H s0 s1 s2 s3 xI xF) (hb : Below w.heap.size w w') : HeldS w' B H s0 s1 s2 s3 xI xF :=
  ⟨(hb.block _ h.lt).trans h.block, h.r0.kept (grown_of_below hb none) (by cases s0.ownBlock <;> simp), h.r1.kept (grown_of_below hb none) (by cases s1.ownBlock <;> simp), h.geH, h.d0, h.d1, h.d01, h.d10⟩
/-- Behind the append and the store into the first slice. -/
theorem HeldS.push2 {w w2 : World} {B H : Nat} {s0 s1 s2 s3 v' : Value} {xI xF : List Value} {x : Value} (h : HeldS w B H s0 s1 s2 s3 xI xF) (hB : B ≤ w.heap.size)
    (hrow : w2.ownsRow B 51 1 v' (xI.length + 1) (xI ++ [x])) (hgr : w.grownBy w2 s0.ownBlock) (hloc : v'.ownBlock = s0.ownBlock ∨ v'.ownBlock = some w.heap.size) :
    HeldS (w2.setCell ⟨H, 2, none⟩ v') B H v' s1 s2 s3 (xI ++ [x]) xF ∧ Below B w (w2.setCell ⟨H, 2, none⟩ v') := by
  have hb2 := (hgr.block H h.lt (fun e => h.d0 e.symm)).trans h.block
  have hneH : v'.ownBlock ≠ some H := by
    rcases hloc with e | e
    · rw [e]; exact h.d0
    · rw [e]; have := h.lt; simp; omega
  have hr1 := h.r1.kept hgr (by rcases h.d10 with e | e; rw [e]; cases s0.ownBlock <;> simp; exact .inr e)
  have hg3 := grown_setCell w2 ⟨H, 2, none⟩ v'
  have hd01 : v'.ownBlock = none ∨ v'.ownBlock ≠ s1.ownBlock := by
    rcases hloc with e | e
    · rw [e]; exact h.d01
    · rw [e]
      refine .inr (fun hc => ?_)
      have := (h.r1.lt _ hc.symm).2
      omega
  refine ⟨⟨heap_setCell_same (j := 2) hb2 v', by simpa using hrow.kept hg3 (.inr hneH), hr1.kept hg3 (.inr h.d1), h.geH, hneH, h.d1, hd01, ?_⟩, ?_⟩
  · rcases hd01 with e | e
    · by_cases hc : s1.ownBlock = none
      · exact .inl hc
      · exact .inr (by rw [e]; exact hc)
    · by_cases hc : s1.ownBlock = none
      · exact .inl hc
      · exact .inr (Ne.symm e)
  · exact ((Below.refl B w).grown hgr hB (fun y hy => (h.r0.lt y hy).1)).setCell (p := ⟨H, 2, none⟩) h.geH _
theorem HeldS.push3 {w w2 : World} {B H : Nat} {s0 s1 s2 s3 v' : Value} {xI xF : List Value} {x : Value} (h : HeldS w B H s0 s1 s2 s3 xI xF) (hB : B ≤ w.heap.size)
    (hrow : w2.ownsRow B 59 1 v' (xF.length + 1) (xF ++ [x])) (hgr : w.grownBy w2 s1.ownBlock) (hloc : v'.ownBlock = s1.ownBlock ∨ v'.ownBlock = some w.heap.size) :
    HeldS (w2.setCell ⟨H, 3, none⟩ v') B H s0 v' s2 s3 xI (xF ++ [x]) ∧ Below B w (w2.setCell ⟨H, 3, none⟩ v') := by
  have hb2 := (hgr.block H h.lt (fun e => h.d1 e.symm)).trans h.block
  have hneH : v'.ownBlock ≠ some H := by
    rcases hloc with e | e
    · rw [e]; exact h.d1
    · rw [e]; have := h.lt; simp; omega
  have hr0 := h.r0.kept hgr (by rcases h.d01 with e | e; rw [e]; cases s1.ownBlock <;> simp; exact .inr e)
  have hg3 := grown_setCell w2 ⟨H, 3, none⟩ v'
  have hd10 : v'.ownBlock = none ∨ v'.ownBlock ≠ s0.ownBlock := by
    rcases hloc with e | e
    · rw [e]; exact h.d10
    · rw [e]
      refine .inr (fun hc => ?_)
      have := (h.r0.lt _ hc.symm).2
      omega
  refine ⟨⟨heap_setCell_same (j := 3) hb2 v', hr0.kept hg3 (.inr h.d0), by simpa using hrow.kept hg3 (.inr hneH), h.geH, h.d0, hneH, ?_, hd10⟩, ?_⟩
  · rcases hd10 with e | e
    · by_cases hc : s0.ownBlock = none
      · exact .inl hc
      · exact .inr (by rw [e]; exact hc)
    · by_cases hc : s0.ownBlock = none
      · exact .inl hc
      · exact .inr (Ne.symm e)
  · exact ((Below.refl B w).grown hgr hB (fun y hy => (h.r1.lt y hy).1)).setCell (p := ⟨H, 3, none⟩) h.geH _
end Go.Proofs.YtnmnmkdmnohbmaaGreatDoor
