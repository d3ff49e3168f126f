/- Several texts in one: The shelf's contracts of a builder's writing methods, laid by hand. tree.marked and tree.PathText: what they answer. Conditions: none. -/
import Derived.Test.YtnmnmkdmnohbmaaGreatDoorPackA
import Derived.Test.YtnmnmkdmnohbmaaGreatDoorShelf
import Derived.Shelf.Strings.BuilderK
import Derived.Shelf.Strings.MapGrows
import Derived.Lib.OthersKept
import Derived.Test.YtnmnmkdmnohbmaaGreatDoorPathLaw
import Derived.Lib.AppendIntMem
namespace Go.Proofs.YtnmnmkdmnohbmaaGreatDoor
open Go.Shelf Go.RowKit
def bld_ren : Go.Shelf.Ren := ⟨fun | 240 => 69 | 276 => 103 | 167 => 45 | 166 => 46 | n => n, fun | 0 => 0 | 3 => 3 | 4 => 4 | 5 => 5 | 9 => 9 | 20 => 20 | 37 => 101 | 70 => 102 | 72 => 104 | 75 => 97 | 80 => 107 | 164 => 165 | n => n, fun | n => n⟩
theorem bld167 : Go.Proofs.Lays.n167 Tryz.prog bld_ren := {
  mixed := by kernel_rfl
  f167 := Tryz.func45.trans (congrArg some (by kernel_rfl))
  f240 := Tryz.func69.trans (congrArg some (by kernel_rfl))
  f276 := Tryz.func103.trans (congrArg some (by kernel_rfl))
  t0 := Tryz.underlying0
  a0 := Tryz.isAgg0
  z0 := Tryz.sizeOf0
  v0 := Tryz.zeroValue0
  t4 := Tryz.underlying4
  a4 := Tryz.isAgg4
  z4 := Tryz.sizeOf4
  v4 := Tryz.zeroValue4
  t5 := Tryz.underlying5
  a5 := Tryz.isAgg5
  z5 := Tryz.sizeOf5
  v5 := Tryz.zeroValue5
  t9 := Tryz.underlying9
  a9 := Tryz.isAgg9
  z9 := Tryz.sizeOf9
  v9 := Tryz.zeroValue9
  t20 := Tryz.underlying20
  a20 := Tryz.isAgg20
  z20 := Tryz.sizeOf20
  v20 := Tryz.zeroValue20
  t37 := Tryz.underlying101
  a37 := Tryz.isAgg101
  z37 := Tryz.sizeOf101
  v37 := Tryz.zeroValue101
  t70 := Tryz.underlying102
  a70 := Tryz.isAgg102
  z70 := Tryz.sizeOf102
  v70 := Tryz.zeroValue102
  t72 := Tryz.underlying104
  a72 := Tryz.isAgg104
  z72 := Tryz.sizeOf104
  v72 := Tryz.zeroValue104
  t75 := Tryz.underlying97
  a75 := Tryz.isAgg97
  z75 := Tryz.sizeOf97
  v75 := Tryz.zeroValue97
  t164 := Tryz.underlying165
  a164 := Tryz.isAgg165
  z164 := Tryz.sizeOf165
  v164 := Tryz.zeroValue165 }
theorem bld166 : Go.Proofs.Lays.n166 Tryz.prog bld_ren := {
  mixed := by kernel_rfl
  f166 := Tryz.func46.trans (congrArg some (by kernel_rfl))
  f240 := Tryz.func69.trans (congrArg some (by kernel_rfl))
  f276 := Tryz.func103.trans (congrArg some (by kernel_rfl))
  t0 := Tryz.underlying0
  a0 := Tryz.isAgg0
  z0 := Tryz.sizeOf0
  v0 := Tryz.zeroValue0
  t3 := Tryz.underlying3
  a3 := Tryz.isAgg3
  z3 := Tryz.sizeOf3
  v3 := Tryz.zeroValue3
  t4 := Tryz.underlying4
  a4 := Tryz.isAgg4
  z4 := Tryz.sizeOf4
  v4 := Tryz.zeroValue4
  t9 := Tryz.underlying9
  a9 := Tryz.isAgg9
  z9 := Tryz.sizeOf9
  v9 := Tryz.zeroValue9
  t20 := Tryz.underlying20
  a20 := Tryz.isAgg20
  z20 := Tryz.sizeOf20
  v20 := Tryz.zeroValue20
  t37 := Tryz.underlying101
  a37 := Tryz.isAgg101
  z37 := Tryz.sizeOf101
  v37 := Tryz.zeroValue101
  t70 := Tryz.underlying102
  a70 := Tryz.isAgg102
  z70 := Tryz.sizeOf102
  v70 := Tryz.zeroValue102
  t72 := Tryz.underlying104
  a72 := Tryz.isAgg104
  z72 := Tryz.sizeOf104
  v72 := Tryz.zeroValue104
  t75 := Tryz.underlying97
  a75 := Tryz.isAgg97
  z75 := Tryz.sizeOf97
  v75 := Tryz.zeroValue97
  t164 := Tryz.underlying165
  a164 := Tryz.isAgg165
  z164 := Tryz.sizeOf165
  v164 := Tryz.zeroValue165 }
theorem bldX : Builder.Extra Tryz.prog bld_ren := {
  sizeBuilder := by kernel_rfl
  liesBuilder := by kernel_rfl
  t5 := Tryz.underlying5
  a5 := Tryz.isAgg5
  z5 := Tryz.sizeOf5
  v5 := Tryz.zeroValue5
  infoByte := by kernel_rfl
  cellsByte := by kernel_rfl
  sizeByte := by kernel_rfl
  neB5 := by decide }

/-- A builder at block b that holds the bytes l; its own blocks lie from B on. -/
def Bld (B b : Nat) (l : List UInt8) (w : World) : Prop := Lib.IsBuilderF 104 5 B b (Lib.byteCells l) w
/-- What a method of the builder leaves of the world. -/
def BldW (B b : Nat) (w w' : World) : Prop := Below B w w' ∧ Lib.OthersKept 5 (some b) w w'

theorem Bld.wbyte {B b : Nat} {l : List UInt8} {w : World} (h : Bld B b l w) (c : UInt8) (hl : l.length + 1 ≤ 140737488355328) (hB : B ≤ w.heap.size) :
    Calls Tryz.prog 45 #[.pointer (some ⟨b, 0, none⟩), .int .u8 (c.toNat : Int)] w (fun e w' => e = .returned .nilIface ∧ Bld B b (l ++ [c]) w' ∧ BldW B b w w') := by
  refine (Any.Builder_WriteByte_k bld167 bldX B b (Lib.byteCells l) c.toNat w h (by rw [Lib.byteCells_length]; exact hl) hB).mono ?_
  rintro e w' ⟨rfl, h1, h2, h3⟩
  exact ⟨rfl, .inr (by rw [Lib.byteCells_append]; exact h1), h2, h3⟩
theorem Bld.wstr {B b : Nat} {l : List UInt8} {w : World} (h : Bld B b l w) (s : ByteArray) (hl : l.length + s.data.toList.length ≤ 140737488355328) (hB : B ≤ w.heap.size) :
    Calls Tryz.prog 46 #[.pointer (some ⟨b, 0, none⟩), .string s] w (fun e w' => e = .returned (.tuple #[.int .i64 s.size, .nilIface]) ∧ Bld B b (l ++ s.data.toList) w' ∧ BldW B b w w') := by
  have hs : s.size = s.data.toList.length := by rw [Array.length_toList]; rfl
  refine (Any.Builder_WriteString_k bld166 bldX B b (Lib.byteCells l) s w h (by rw [Lib.byteCells_length, hs]; exact hl) hB).mono ?_
  rintro e w' ⟨rfl, h1, h2, h3⟩
  exact ⟨rfl, .inr (by rw [Lib.byteCells_append, ← Lib.strCells_eq]; exact h1), h2, h3⟩
theorem Bld.text {B b : Nat} {l : List UInt8} {w : World} (h : Bld B b l w) (hB : B ≤ w.heap.size) :
    Calls Tryz.prog 48 #[.pointer (some ⟨b, 0, none⟩)] w (fun e w' => e = .returned (.string ⟨l.toArray⟩) ∧ BldW B b w w') := by
  refine (Tryz.Builder_String_any_k B b l w h hB).mono ?_
  rintro e w' ⟨rfl, h1, h2, h3⟩
  exact ⟨rfl, h2, h3⟩

theorem Bld.alloc {B b : Nat} {l : List UInt8} {w : World} (h : Bld B b l w) (o : Obj) : Bld B b l (w.alloc o) := Lib.IsBuilderF.alloc h o
theorem Bld.below {B b : Nat} {l : List UInt8} {w w' : World} (h : Bld B b l w) (hb : Below w.heap.size w w') : Bld B b l w' := Lib.IsBuilderF.below h hb
theorem Bld.new {w : World} {B b : Nat} (hB : B ≤ b) (hb : w.heap[b]? = some (.cells #[.pointer none, .slice none 0 0] 104 (0, 0))) : Bld B b [] w :=
  Lib.IsBuilderF.of (.inl ⟨hB, _, hb, World.ownsRow_nil _ _ _ _, by simp [Value.ownBlock]⟩)
theorem BldW.cells {B b : Nat} {w w' : World} (h : BldW B b w w') {k : Nat} {arr : Array Value} {t : TypeId} {fz : Nat × Nat} (hk : w.heap[k]? = some (.cells arr t fz)) (hkb : k ≠ b) (ht : t ≠ 5) : w'.heap[k]? = some (.cells arr t fz) :=
  h.2 k _ hk (by simp [hkb]) (fun c f e => ht (by cases e; rfl))
end Go.Proofs.YtnmnmkdmnohbmaaGreatDoor

namespace Go.Proofs.YtnmnmkdmnohbmaaGreatDoor
open Go.RowKit
attribute [local go_sem] St.cells

theorem ba_nil {s : ByteArray} (h : s.size = 0) : s = ByteArray.empty := by
  obtain ⟨⟨l⟩⟩ := s
  have : l = [] := by simpa [ByteArray.size] using h
  subst this
  rfl
theorem ba_head {s : ByteArray} (h : 0 < s.size) : ∃ r, s.data.toList = s[0] :: r := by
  obtain ⟨⟨l⟩⟩ := s
  cases l with
  | nil => simp [ByteArray.size] at h
  | cons b r => exact ⟨r, rfl⟩

theorem mark_tell (b : UInt8) (r : List UInt8) : markedL (b :: r) = true ↔ ((b.toNat : Int) = 45 ∨ (48 ≤ (b.toNat : Int) ∧ (b.toNat : Int) ≤ 57)) := by
  have e45 : (45 : UInt8).toNat = 45 := rfl
  have e48 : (48 : UInt8).toNat = 48 := rfl
  have e57 : (57 : UInt8).toNat = 57 := rfl
  simp only [markedL, Bool.or_eq_true, beq_iff_eq, Bool.and_eq_true, decide_eq_true_eq, UInt8.le_iff_toNat_le, e48, e57, ← UInt8.toNat_inj, e45]
  omega

theorem marked_any (s : ByteArray) (w : World) : Calls Tryz.prog 42 #[.string s] w (RetS (.bool (markedL s.data.toList)) w) := by
  by_cases h0 : s.size = 0
  · obtain rfl := ba_nil h0
    go_enter Tryz.func42, Tryz.ntmps42
    go_wp2
    all_goals go_ret
    all_goals exact ⟨ret_eq (by first | rfl | (exfalso; simp_all)), rfl⟩
  · have h1 : 0 < s.size := by omega
    obtain ⟨r, e⟩ := ba_head h1
    have hne : ¬ s.toList = [] := by rw [ByteArray.toList_eq, e]; simp
    have E := Lib.hid e
    clear h0 e
    obtain ⟨b, hb⟩ : ∃ b, s[0] = b := ⟨_, rfl⟩
    have hm := mark_tell b r
    rw [hb] at E
    have HM := Lib.hid hm
    clear hm
    by_cases g1 : (b.toNat : Int) = 45
    · have M : Hid (markedL s.data.toList = true) := Lib.hid (by rw [E.out]; exact HM.out.2 (.inl g1))
      go_enter Tryz.func42, Tryz.ntmps42
      go_wp2
      all_goals go_ret
      all_goals exact ⟨ret_eq (by rw [M.out]; first | rfl | (simp_all; done)), rfl⟩
    · by_cases g2 : (48 : Int) ≤ b.toNat
      · by_cases g3 : (b.toNat : Int) ≤ 57
        · have M : Hid (markedL s.data.toList = true) := Lib.hid (by rw [E.out]; exact HM.out.2 (.inr ⟨g2, g3⟩))
          go_enter Tryz.func42, Tryz.ntmps42
          go_wp2
          all_goals go_ret
          all_goals exact ⟨ret_eq (by rw [M.out]; simp [*]), rfl⟩
        · have M : Hid (markedL s.data.toList = false) := Lib.hid (by
            rw [E.out]
            cases h : markedL (b :: r) with
            | false => rfl
            | true => rcases HM.out.1 h with h | ⟨_, h⟩
                      · exact absurd h g1
                      · exact absurd h g3)
          have g3' : decide ((b.toNat : Int) ≤ 57) = false := decide_eq_false g3
          go_enter Tryz.func42, Tryz.ntmps42
          go_wp2
          all_goals go_ret
          all_goals exact ⟨ret_eq (by rw [M.out]; simp_all), rfl⟩
      · have M : Hid (markedL s.data.toList = false) := Lib.hid (by
          rw [E.out]
          cases h : markedL (b :: r) with
          | false => rfl
          | true => rcases HM.out.1 h with h | ⟨h, _⟩
                    · exact absurd h g1
                    · exact absurd h g2)
        go_enter Tryz.func42, Tryz.ntmps42
        go_wp2
        all_goals go_ret
        all_goals exact ⟨ret_eq (by rw [M.out]; simp_all), rfl⟩

theorem others_of_below {e : TypeId} {b : Option Nat} {w w' : World} (h : Below w.heap.size w w') : Lib.OthersKept e b w w' := fun k o hk _ _ => by
  rw [h.block k (Array.getElem?_eq_some_iff.1 hk).1]
  exact hk
theorem BldW.refl (B b : Nat) (w : World) : BldW B b w w := ⟨Below.refl _ _, Lib.OthersKept.refl _ _ _⟩
theorem BldW.trans {B b : Nat} {a c d : World} (h : BldW B b a c) (k : BldW B b c d) : BldW B b a d := ⟨h.1.trans k.1, h.2.trans k.2⟩
theorem BldW.on {B b : Nat} {a c d : World} (h : BldW B b a c) (hB : B ≤ c.heap.size) (k : Below c.heap.size c d) : BldW B b a d := ⟨h.1.trans (k.mono hB), h.2.trans (others_of_below k)⟩
theorem below_grew (w : World) (k : Nat) (os : Array Obj) : Below w.heap.size w (Go.Sort.grow (w.drewN k) os) := Lib.below_grow _ w (Nat.le_refl _) k os

theorem pathT_snoc (l : List St) (s : St) : pathT (l ++ [s]) = pathT l ++ 47 :: stepT s := by simp [pathT]
theorem pathT_take {l : List St} {k : Nat} {s : St} (h : l[k]? = some s) : pathT (l.take (k + 1)) = pathT (l.take k) ++ 47 :: stepT s := by
  rw [List.take_add_one, h]
  exact pathT_snoc _ _
theorem pathT_room {l : List St} {k : Nat} {s : St} (h : l[k]? = some s) : (pathT (l.take k)).length + (stepT s).length + 1 ≤ (pathT l).length := by
  have e : pathT l = pathT (l.take (k + 1)) ++ pathT (l.drop (k + 1)) := by rw [← pathT_app, List.take_append_drop]
  rw [e, pathT_take h]
  simp only [List.length_append, List.length_cons]
  omega

theorem esc_step {n : ByteArray} {m : Nat} (h : m < n.size) {x : UInt8} (hx : n[m] = x) :
    (n.data.toList.take (m + 1)).flatMap escB = (n.data.toList.take m).flatMap escB ++ escB x ∧ ((n.data.toList.take m).flatMap escB).length + (escB x).length ≤ (n.data.toList.flatMap escB).length := by
  have h2 : n.data.toList[m]? = some x := by
    rw [Array.getElem?_toList, ← hx]
    exact Array.getElem?_eq_getElem h
  have e1 : n.data.toList.take (m + 1) = n.data.toList.take m ++ [x] := by rw [List.take_add_one, h2]; rfl
  have e2 : n.data.toList = (n.data.toList.take m ++ [x]) ++ n.data.toList.drop (m + 1) := by rw [← e1, List.take_append_drop]
  refine ⟨by rw [e1]; simp, ?_⟩
  have e3 := congrArg (fun l : List UInt8 => (l.flatMap escB).length) e2
  simp only [List.flatMap_append, List.length_append, List.flatMap_cons, List.flatMap_nil, List.length_nil] at e3
  omega
theorem ba_len (n : ByteArray) : n.data.toList.length = n.size := by rw [Array.length_toList]; rfl
theorem take_full {n : ByteArray} {m : Nat} (h : n.size ≤ m) : n.data.toList.take m = n.data.toList := List.take_of_length_le (by rw [ba_len]; exact h)
theorem byte_num {x : UInt8} {k : Nat} (h : (x.toNat : Int) = k) (hk : k < 256) : x = UInt8.ofNat k := by
  apply UInt8.toNat_inj.1
  rw [UInt8.toNat_ofNat_of_lt' hk]
  omega
theorem escB_wave {x : UInt8} (h : (x.toNat : Int) = 126) : escB x = [126, 48] := by
  have : x = 126 := byte_num (k := 126) h (by omega)
  subst this
  rfl
theorem escB_slant {x : UInt8} (h : (x.toNat : Int) = 47) : escB x = [126, 49] := by
  have : x = 47 := byte_num (k := 47) h (by omega)
  subst this
  rfl
theorem escB_same {x : UInt8} (h : ¬ (x.toNat : Int) = 126) (h2 : ¬ (x.toNat : Int) = 47) : escB x = [x] := by
  unfold escB
  rw [if_neg (fun e => h (by rw [e]; rfl)), if_neg (fun e => h2 (by rw [e]; rfl))]

set_option maxRecDepth 100000 in
set_option maxHeartbeats 4000000 in
theorem PathText_any (l : List St) (p : Option Addr) (c : Nat) (w : World) (hs : StepsAt w.heap.size w p l) (ll : l.length ≤ maxLen)
    (hi : ∀ s ∈ l, -9223372036854775808 ≤ s.ix ∧ s.ix ≤ 9223372036854775807) (hl : (pathT l).length ≤ 140737488355328) (hn : ∀ s ∈ l, s.nm.size ≤ maxLen)
    (htab : Lib.TabIs Tryz.prog w "internal/strconv.uint64pow10" .u64 Lib.pow10Tab) :
    Calls Tryz.prog 22 #[.slice p l.length c] w (RetB (.string ⟨(pathT l).toArray⟩) w) := by
  unfold maxLen at ll hn
  have HI := Lib.hid hi
  have HNM := Lib.hid hn
  have HL := Lib.hid hl
  have HT := Lib.hid (Lib.tabBelow_of_tabIs htab)
  clear hi hl htab hn
  obtain ⟨W0, hW0⟩ : ∃ W0, w.alloc (.cells #[.pointer none, .slice none 0 0] 104) = W0 := ⟨_, rfl⟩
  have HB0 : Hid (Below w.heap.size w W0) := Lib.hid (by rw [← hW0]; exact (Below.refl _ _).alloc (Nat.le_refl _) _)
  have HS0 : Hid (W0.heap.size = w.heap.size + 1) := Lib.hid (by rw [← hW0]; simp)
  have HBL : Hid (Bld w.heap.size w.heap.size [] W0) := Lib.hid (Bld.new (Nat.le_refl _) (by rw [← hW0]; exact heap_new w _))
  go_enter Tryz.func22, Tryz.ntmps22
  go_wp2
  try rw [hW0]
  clear hW0
  go_loopw [9] (fun i wr => ∃ k : Nat, k ≤ l.length ∧ i = .int .i64 k ∧ Hid (Bld w.heap.size w.heap.size (pathT (l.take k)) wr) ∧ Hid (BldW w.heap.size w.heap.size W0 wr)) (fun i _ => l.length - (intOf i).toNat)
  case atStart => exact ⟨0, Nat.zero_le _, rfl, HBL, Lib.hid (BldW.refl _ _ _)⟩
  case round =>
    obtain ⟨k, hka, rfl, HBk, HWk⟩ := hrel
    have HBW : Hid (Below w.heap.size w wr) := Lib.hid (HB0.out.trans HWk.out.1)
    by_cases h1 : k < l.length
    · obtain ⟨s, hx⟩ : ∃ s, l[k]? = some s := ⟨l[k], by simp [h1]⟩
      rcases hs with hs | ⟨b, o, rfl, hB, hc⟩
      · subst hs; simp at h1
      obtain ⟨c0, c1, c2⟩ := hc k s hx
      have c0 := (HBW.out.cell (p := ⟨b, _, none⟩) hB).trans c0
      have c1 := (HBW.out.cell (p := ⟨b, _, none⟩) hB).trans c1
      have c2 := (HBW.out.cell (p := ⟨b, _, none⟩) hB).trans c2
      have hbw : b < wr.heap.size := Nat.lt_of_lt_of_le hB HBW.out.size
      have HX := Lib.hid hx
      clear hc hx hB
      obtain ⟨W1, hW1⟩ : ∃ W1, wr.alloc (.cells s.cells 69) = W1 := ⟨_, rfl⟩
      have HB1 : Hid (Below wr.heap.size wr W1) := Lib.hid (by rw [← hW1]; exact (Below.refl _ _).alloc (Nat.le_refl _) _)
      have HG1 : Hid (W1.heap[wr.heap.size]? = some (.cells s.cells 69 (0, 0))) := Lib.hid (by rw [← hW1]; exact heap_new wr _)
      have HBD1 : Hid (Bld w.heap.size w.heap.size (pathT (l.take k)) W1) := Lib.hid (by rw [← hW1]; exact HBk.out.alloc _)
      have HSZ : Hid (w.heap.size < wr.heap.size ∧ wr.heap.size < W1.heap.size) := Lib.hid ⟨by have := HWk.out.1.size; have := HS0.out; omega, by rw [← hW1]; simp⟩
      obtain ⟨n, i, t⟩ := s
      unfold St.cells at hW1 HG1
      have HRD : Hid (∀ w1, BldW w.heap.size w.heap.size W1 w1 → w1.cell? ⟨wr.heap.size, 0, none⟩ = some (.string n) ∧ w1.cell? ⟨wr.heap.size, 1, none⟩ = some (.int .i64 i) ∧ w1.cell? ⟨wr.heap.size, 2, none⟩ = some (.bool t) ∧ wr.heap.size < w1.heap.size) := Lib.hid (fun w1 hw => by
        have h1 := hw.cells HG1.out (by have := HSZ.out.1; omega) (by decide)
        exact ⟨by simp [World.cell?, h1], by simp [World.cell?, h1], by simp [World.cell?, h1], Nat.lt_of_lt_of_le HSZ.out.2 hw.1.size⟩)
      have HROOM := Lib.hid (pathT_room HX.out)
      have HW1 : Hid (BldW w.heap.size w.heap.size W0 W1) := Lib.hid (HWk.out.on (by have := HSZ.out.1; omega) HB1.out)
      have HNEXT : Hid (∀ Wn, Bld w.heap.size w.heap.size (pathT (l.take k) ++ 47 :: stepT ⟨n, i, t⟩) Wn → BldW w.heap.size w.heap.size W1 Wn → Hid (Bld w.heap.size w.heap.size (pathT (l.take (k + 1))) Wn) ∧ Hid (BldW w.heap.size w.heap.size W0 Wn)) := Lib.hid (fun Wn h1 h2 => ⟨Lib.hid (by rw [pathT_take HX.out]; exact h1), Lib.hid (HW1.out.trans h2)⟩)
      have HROOM2 : Hid ((pathT (l.take k)).length + (stepT ⟨n, i, t⟩).length + 1 ≤ 140737488355328) := Lib.hid (by have := HROOM.out; have := HL.out; omega)
      have HBB : Hid (∀ w1, BldW w.heap.size w.heap.size W1 w1 → w.heap.size ≤ w1.heap.size) := Lib.hid (fun w1 h => by have := h.1.size; have := HSZ.out; omega)
      have HBT : Hid (∀ w1, BldW w.heap.size w.heap.size W1 w1 → Below w.heap.size w w1) := Lib.hid (fun w1 h => HB0.out.trans ((HW1.out.trans h).1))
      have HII := Lib.hid (HI.out _ (List.mem_of_getElem? HX.out))
      have HNN := Lib.hid (HNM.out _ (List.mem_of_getElem? HX.out))
      dsimp only at HII HNN
      go_upto_region 5 with (fail)
      try rw [hW1]
      clear hW1 c0 c1 c2 hbw
      clear c0 c1 c2
      cases t
      · obtain ⟨mk, hmk⟩ : ∃ mk, (if markedL n.data.toList then [126, 50] else []) = (mk : List UInt8) := ⟨_, rfl⟩
        have HST : Hid (stepT ⟨n, i, false⟩ = mk ++ n.data.toList.flatMap escB) := Lib.hid (by rw [← hmk]; rfl)
        have HMK := Lib.hid hmk
        clear hmk
        rw [HST.out] at HROOM2 HNEXT
        cases hm : markedL n.data.toList
        all_goals
          have HMM : Hid (markedL n.data.toList = _) := Lib.hid hm
          go_wp2_with (first
            | (go_at_call 45; refine (HBD1.out.wbyte 47 (by have := HROOM2.out; omega) (HBB.out _ (BldW.refl _ _ _))).mono ?_; rintro e w2 ⟨rfl, hb2, hr2⟩; have HB2 := Lib.hid hb2; have HR2 := Lib.hid hr2; obtain ⟨r0, r1, r2, r3⟩ := HRD.out _ hr2; clear hb2 hr2)
            | (go_at_call 42; refine (marked_any n _).mono ?_; rintro e w3 ⟨rfl, rfl⟩; rw [hm])
            | (go_at_call 46; refine (HB2.out.wstr ⟨#[126, 50]⟩ (by have := HROOM2.out; have h := HMK.out; rw [hm] at h; subst h; simp only [List.length_append, List.length_cons, List.length_nil, if_true] at *; omega) (HBB.out _ HR2.out)).mono ?_; rintro e w4 ⟨rfl, hb4, hr4⟩; have HB2 := Lib.hid hb4; have HR2 := Lib.hid (HR2.out.trans hr4); clear r0 r1 r2 r3; obtain ⟨r0, r1, r2, r3⟩ := HRD.out _ HR2.out; clear hb4 hr4))
          have HSTART := Lib.hid (show Bld w.heap.size w.heap.size (pathT (l.take k) ++ 47 :: (mk ++ (n.data.toList.take 0).flatMap escB)) _ from by
            have h := HB2.out
            have h2 := HMK.out
            rw [hm] at h2
            subst h2
            simpa using h)
          clear hm r0 r1 r2 r3
          go_loopw [6] (fun j wj => ∃ m : Nat, m ≤ n.size ∧ j = .int .i64 m ∧ Hid (Bld w.heap.size w.heap.size (pathT (l.take k) ++ 47 :: (mk ++ (n.data.toList.take m).flatMap escB)) wj) ∧ Hid (BldW w.heap.size w.heap.size W1 wj)) (fun j _ => n.size - (intOf j).toNat)
          case atStart => exact ⟨0, Nat.zero_le _, rfl, HSTART, HR2⟩
          case round =>
            obtain ⟨m, hmn, rfl, HBm, HWm⟩ := hrel
            obtain ⟨r0, r1, r2, r3⟩ := HRD.out _ HWm.out
            by_cases h2 : m < n.size
            · obtain ⟨x, hx⟩ : ∃ x, n[m] = x := ⟨_, rfl⟩
              have HESC := Lib.hid (esc_step h2 hx)
              have hnn := HNN.out
              by_cases g1 : (x.toNat : Int) = 126
              · have HE : Hid (escB x = [126, 48]) := Lib.hid (escB_wave g1)
                go_wp2_with (go_at_call 46; refine (HBm.out.wstr ⟨#[126, 48]⟩ (by have := HROOM2.out; have := HESC.out.2; have h := HE.out; rw [h] at this; simp only [List.length_append, List.length_cons, List.length_nil] at *; omega) (HBB.out _ HWm.out)).mono ?_; rintro e w5 ⟨rfl, hb5, hr5⟩; have HB5 := Lib.hid hb5; have HR5 := Lib.hid (HWm.out.trans hr5); clear hb5 hr5)
                go_roundw
                case rel => exact ⟨m + 1, by omega, by go_num, Lib.hid (by have h := HB5.out; rw [HESC.out.1, HE.out]; simpa using h), HR5⟩
                case measure => simp [intOf]; omega
              · by_cases g2 : (x.toNat : Int) = 47
                · have HE : Hid (escB x = [126, 49]) := Lib.hid (escB_slant g2)
                  go_wp2_with (go_at_call 46; refine (HBm.out.wstr ⟨#[126, 49]⟩ (by have := HROOM2.out; have := HESC.out.2; have h := HE.out; rw [h] at this; simp only [List.length_append, List.length_cons, List.length_nil] at *; omega) (HBB.out _ HWm.out)).mono ?_; rintro e w5 ⟨rfl, hb5, hr5⟩; have HB5 := Lib.hid hb5; have HR5 := Lib.hid (HWm.out.trans hr5); clear hb5 hr5)
                  go_roundw
                  case rel => exact ⟨m + 1, by omega, by go_num, Lib.hid (by have h := HB5.out; rw [HESC.out.1, HE.out]; simpa using h), HR5⟩
                  case measure => simp [intOf]; omega
                · have HE : Hid (escB x = [x]) := Lib.hid (escB_same g1 g2)
                  go_wp2_with (go_at_call 45; refine (HBm.out.wbyte x (by have := HROOM2.out; have := HESC.out.2; have h := HE.out; rw [h] at this; simp only [List.length_append, List.length_cons, List.length_nil] at *; omega) (HBB.out _ HWm.out)).mono ?_; rintro e w5 ⟨rfl, hb5, hr5⟩; have HB5 := Lib.hid hb5; have HR5 := Lib.hid (HWm.out.trans hr5); clear hb5 hr5)
                  go_roundw
                  case rel => exact ⟨m + 1, by omega, by go_num, Lib.hid (by have h := HB5.out; rw [HESC.out.1, HE.out]; simpa using h), HR5⟩
                  case measure => simp [intOf]; omega
            · have HALL : Hid (n.data.toList.take m = n.data.toList) := Lib.hid (take_full (by omega))
              go_wp2
              go_roundw
              case rel => exact ⟨k + 1, by omega, by go_num, HNEXT.out _ (by have h := HBm.out; rw [HALL.out] at h; exact h) HWm.out⟩
              case measure => simp [intOf]; omega
      · have HST : Hid (stepT ⟨n, i, true⟩ = Lib.itoa i) := Lib.hid rfl
        rw [HST.out] at HROOM2 HNEXT
        go_wp2_with (first
          | (go_at_call 45; refine (HBD1.out.wbyte 47 (by have := HROOM2.out; omega) (HBB.out _ (BldW.refl _ _ _))).mono ?_; rintro e w2 ⟨rfl, hb2, hr2⟩; have HB2 := Lib.hid hb2; have HR2 := Lib.hid hr2; obtain ⟨r0, r1, r2, r3⟩ := HRD.out _ hr2; clear hb2 hr2)
          | (go_at_call 47; refine (Tryz.strconv_Itoa i HII.out.1 HII.out.2 _ (HT.out _ (HBT.out _ HR2.out))).mono ?_; rintro e w3 ⟨rfl, kk, os, hw3⟩; have HB3 := Lib.hid (show Below w2.heap.size w2 w3 from by rw [hw3]; exact below_grew _ _ _); clear hw3)
          | (go_at_call 46; refine ((HB2.out.below HB3.out).wstr ⟨(Lib.itoa i).toArray⟩ (by have := HROOM2.out; simp only [List.length_append, List.length_cons, List.length_nil]; omega) (Nat.le_trans (HBB.out _ HR2.out) HB3.out.size)).mono ?_; rintro e w4 ⟨rfl, hb4, hr4⟩; have HB4 := Lib.hid hb4; have HR4 := Lib.hid hr4; clear hb4 hr4))
        go_roundw
        case rel => exact ⟨k + 1, by omega, by go_num, HNEXT.out _ (by have h := HB4.out; simpa using h) ((HR2.out.on (HBB.out _ HR2.out) HB3.out).trans HR4.out)⟩
        case measure => simp [intOf]; omega
    · have HK : Hid (pathT (l.take k) = pathT l) := Lib.hid (by rw [List.take_of_length_le (by omega)])
      go_wp2_with (go_at_call 48; refine (HBk.out.text HBW.out.size).mono ?_; rintro e w2 ⟨rfl, hr2⟩; have HR2 := Lib.hid hr2; clear hr2)
      go_ret
      exact ⟨ret_eq (by rw [HK.out]; rfl), HBW.out.trans HR2.out.1⟩
end Go.Proofs.YtnmnmkdmnohbmaaGreatDoor
