/- The shelf's contracts of a builder's writing methods, laid by hand. Conditions: none. -/
import Derived.Test.YtnmnmkdmnohbmaaDoorSteps
import Derived.Test.YtnmnmkdmnohbmaaDoorShelf
import Derived.Shelf.Strings.BuilderK
import Derived.Shelf.Strings.MapGrows
import Derived.Lib.OthersKept
namespace Go.Proofs.YtnmnmkdmnohbmaaDoor
open Go.Shelf Go.RowKit
def bld_ren : Go.Shelf.Ren := ⟨fun | 240 => 110 | 276 => 124 | 167 => 80 | 166 => 81 | n => n, fun | 0 => 0 | 3 => 3 | 4 => 4 | 5 => 5 | 9 => 9 | 20 => 20 | 37 => 125 | 70 => 124 | 72 => 127 | 75 => 129 | 80 => 133 | 164 => 173 | n => n, fun | n => n⟩
theorem bld167 : Go.Proofs.Lays.n167 Tryd.prog bld_ren := {
  mixed := by kernel_rfl
  f167 := Tryd.func80.trans (congrArg some (by kernel_rfl))
  f240 := Tryd.func110.trans (congrArg some (by kernel_rfl))
  f276 := Tryd.func124.trans (congrArg some (by kernel_rfl))
  t0 := Tryd.underlying0
  a0 := Tryd.isAgg0
  z0 := Tryd.sizeOf0
  v0 := Tryd.zeroValue0
  t4 := Tryd.underlying4
  a4 := Tryd.isAgg4
  z4 := Tryd.sizeOf4
  v4 := Tryd.zeroValue4
  t5 := Tryd.underlying5
  a5 := Tryd.isAgg5
  z5 := Tryd.sizeOf5
  v5 := Tryd.zeroValue5
  t9 := Tryd.underlying9
  a9 := Tryd.isAgg9
  z9 := Tryd.sizeOf9
  v9 := Tryd.zeroValue9
  t20 := Tryd.underlying20
  a20 := Tryd.isAgg20
  z20 := Tryd.sizeOf20
  v20 := Tryd.zeroValue20
  t37 := Tryd.underlying125
  a37 := Tryd.isAgg125
  z37 := Tryd.sizeOf125
  v37 := Tryd.zeroValue125
  t70 := Tryd.underlying124
  a70 := Tryd.isAgg124
  z70 := Tryd.sizeOf124
  v70 := Tryd.zeroValue124
  t72 := Tryd.underlying127
  a72 := Tryd.isAgg127
  z72 := Tryd.sizeOf127
  v72 := Tryd.zeroValue127
  t75 := Tryd.underlying129
  a75 := Tryd.isAgg129
  z75 := Tryd.sizeOf129
  v75 := Tryd.zeroValue129
  t164 := Tryd.underlying173
  a164 := Tryd.isAgg173
  z164 := Tryd.sizeOf173
  v164 := Tryd.zeroValue173 }
theorem bld166 : Go.Proofs.Lays.n166 Tryd.prog bld_ren := {
  mixed := by kernel_rfl
  f166 := Tryd.func81.trans (congrArg some (by kernel_rfl))
  f240 := Tryd.func110.trans (congrArg some (by kernel_rfl))
  f276 := Tryd.func124.trans (congrArg some (by kernel_rfl))
  t0 := Tryd.underlying0
  a0 := Tryd.isAgg0
  z0 := Tryd.sizeOf0
  v0 := Tryd.zeroValue0
  t3 := Tryd.underlying3
  a3 := Tryd.isAgg3
  z3 := Tryd.sizeOf3
  v3 := Tryd.zeroValue3
  t4 := Tryd.underlying4
  a4 := Tryd.isAgg4
  z4 := Tryd.sizeOf4
  v4 := Tryd.zeroValue4
  t9 := Tryd.underlying9
  a9 := Tryd.isAgg9
  z9 := Tryd.sizeOf9
  v9 := Tryd.zeroValue9
  t20 := Tryd.underlying20
  a20 := Tryd.isAgg20
  z20 := Tryd.sizeOf20
  v20 := Tryd.zeroValue20
  t37 := Tryd.underlying125
  a37 := Tryd.isAgg125
  z37 := Tryd.sizeOf125
  v37 := Tryd.zeroValue125
  t70 := Tryd.underlying124
  a70 := Tryd.isAgg124
  z70 := Tryd.sizeOf124
  v70 := Tryd.zeroValue124
  t72 := Tryd.underlying127
  a72 := Tryd.isAgg127
  z72 := Tryd.sizeOf127
  v72 := Tryd.zeroValue127
  t75 := Tryd.underlying129
  a75 := Tryd.isAgg129
  z75 := Tryd.sizeOf129
  v75 := Tryd.zeroValue129
  t164 := Tryd.underlying173
  a164 := Tryd.isAgg173
  z164 := Tryd.sizeOf173
  v164 := Tryd.zeroValue173 }
theorem bldX : Builder.Extra Tryd.prog bld_ren := {
  sizeBuilder := by kernel_rfl
  liesBuilder := by kernel_rfl
  t5 := Tryd.underlying5
  a5 := Tryd.isAgg5
  z5 := Tryd.sizeOf5
  v5 := Tryd.zeroValue5
  infoByte := by kernel_rfl
  cellsByte := by kernel_rfl
  sizeByte := by kernel_rfl
  neB5 := by decide }

/-- A builder at block b that holds the bytes l; its own blocks lie from B on. -/
def Bld (B b : Nat) (l : List UInt8) (w : World) : Prop := Lib.IsBuilderF 127 5 B b (Lib.byteCells l) w
/-- What a method of the builder leaves of the world. -/
def BldW (B b : Nat) (w w' : World) : Prop := Below B w w' ∧ Lib.OthersKept 5 (some b) w w'

theorem Bld.wbyte {B b : Nat} {l : List UInt8} {w : World} (h : Bld B b l w) (c : UInt8) (hl : l.length + 1 ≤ 140737488355328) (hB : B ≤ w.heap.size) :
    Calls Tryd.prog 80 #[.pointer (some ⟨b, 0, none⟩), .int .u8 (c.toNat : Int)] w (fun e w' => e = .returned .nilIface ∧ Bld B b (l ++ [c]) w' ∧ BldW B b w w') := by
  refine (Any.Builder_WriteByte_k bld167 bldX B b (Lib.byteCells l) c.toNat w h (by rw [Lib.byteCells_length]; exact hl) hB).mono ?_
  rintro e w' ⟨rfl, h1, h2, h3⟩
  exact ⟨rfl, .inr (by rw [Lib.byteCells_append]; exact h1), h2, h3⟩
theorem Bld.wstr {B b : Nat} {l : List UInt8} {w : World} (h : Bld B b l w) (s : ByteArray) (hl : l.length + s.data.toList.length ≤ 140737488355328) (hB : B ≤ w.heap.size) :
    Calls Tryd.prog 81 #[.pointer (some ⟨b, 0, none⟩), .string s] w (fun e w' => e = .returned (.tuple #[.int .i64 s.size, .nilIface]) ∧ Bld B b (l ++ s.data.toList) w' ∧ BldW B b w w') := by
  have hs : s.size = s.data.toList.length := by rw [Array.length_toList]; rfl
  refine (Any.Builder_WriteString_k bld166 bldX B b (Lib.byteCells l) s w h (by rw [Lib.byteCells_length, hs]; exact hl) hB).mono ?_
  rintro e w' ⟨rfl, h1, h2, h3⟩
  exact ⟨rfl, .inr (by rw [Lib.byteCells_append, ← Lib.strCells_eq]; exact h1), h2, h3⟩
theorem Bld.text {B b : Nat} {l : List UInt8} {w : World} (h : Bld B b l w) (hB : B ≤ w.heap.size) :
    Calls Tryd.prog 84 #[.pointer (some ⟨b, 0, none⟩)] w (fun e w' => e = .returned (.string ⟨l.toArray⟩) ∧ BldW B b w w') := by
  refine (Tryd.Builder_String_any_k B b l w h hB).mono ?_
  rintro e w' ⟨rfl, h1, h2, h3⟩
  exact ⟨rfl, h2, h3⟩

theorem Bld.alloc {B b : Nat} {l : List UInt8} {w : World} (h : Bld B b l w) (o : Obj) : Bld B b l (w.alloc o) := Lib.IsBuilderF.alloc h o
theorem Bld.below {B b : Nat} {l : List UInt8} {w w' : World} (h : Bld B b l w) (hb : Below w.heap.size w w') : Bld B b l w' := Lib.IsBuilderF.below h hb
theorem Bld.new {w : World} {B b : Nat} (hB : B ≤ b) (hb : w.heap[b]? = some (.cells #[.pointer none, .slice none 0 0] 127 (0, 0))) : Bld B b [] w :=
  Lib.IsBuilderF.of (.inl ⟨hB, _, hb, World.ownsRow_nil _ _ _ _, by simp [Value.ownBlock]⟩)
theorem BldW.cells {B b : Nat} {w w' : World} (h : BldW B b w w') {k : Nat} {arr : Array Value} {t : TypeId} {fz : Nat × Nat} (hk : w.heap[k]? = some (.cells arr t fz)) (hkb : k ≠ b) (ht : t ≠ 5) : w'.heap[k]? = some (.cells arr t fz) :=
  h.2 k _ hk (by simp [hkb]) (fun c f e => ht (by cases e; rfl))
end Go.Proofs.YtnmnmkdmnohbmaaDoor
