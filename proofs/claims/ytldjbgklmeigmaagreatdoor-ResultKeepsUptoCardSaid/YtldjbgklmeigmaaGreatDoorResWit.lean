/- Helper text: a world that fits the row's list (strconv's great tables among it), for the witness. Conditions: none. -/
import Derived.Test.YtldjbgklmeigmaaGreatDoorRows
import Derived.WalkKit
import Derived.ProofKit
import Derived.OpenShut
import Derived.JoinedCond
import Derived.Deep.DeepHandedRow
import Derived.Deep.DeepWitnessRowRef
import Derived.Deep.DeepLaidRun
import Derived.LaidLaws
import Derived.Lib.LaidU8T
namespace Go.Proofs.YtldjbgklmeigmaaGreatDoor.resultKeeps
open Go.ChangeShapes Go.WideShapes Go.ChangeAt Go.RowKit
set_option linter.unusedVariables false

noncomputable def low : Nat := (World.holding Tryz.prog default ⟨#[], #[], []⟩).heap.size
def cheatCells : List (Nat × List UInt8) → List Value
  | [] => []
  | x :: l => .int .i64 x.1 :: .string ⟨x.2.toArray⟩ :: cheatCells l
def powCells : List (Nat × Nat) → List Value
  | [] => []
  | x :: l => .int .u64 x.1 :: .int .u64 x.2 :: powCells l
/-- A world for the witness: the settled one, the listed tables holding what their initialisers lay. -/
noncomputable def laidWorld (os : Os) : World :=
  { World.holding Tryz.prog os ⟨#[.cells (cheatCells Go.Pinned.cheatRows).toArray 411], #[], []⟩ with heap := (((((((((World.holding Tryz.prog os ⟨#[.cells (cheatCells Go.Pinned.cheatRows).toArray 411], #[], []⟩).heap.modify 5 fun
      | .cells _ t frozen => .cells #[.int .u8 0, .int .u8 1, .int .u8 28, .int .u8 2, .int .u8 29, .int .u8 14, .int .u8 24, .int .u8 3, .int .u8 30, .int .u8 22, .int .u8 20, .int .u8 15, .int .u8 25, .int .u8 17, .int .u8 4, .int .u8 8, .int .u8 31, .int .u8 27, .int .u8 13, .int .u8 23, .int .u8 21, .int .u8 19, .int .u8 16, .int .u8 7, .int .u8 26, .int .u8 12, .int .u8 18, .int .u8 6, .int .u8 11, .int .u8 5, .int .u8 10, .int .u8 9] t frozen
      | o => o).modify 6 fun
      | .cells _ t frozen => .cells #[.int .u8 0, .int .u8 1, .int .u8 56, .int .u8 2, .int .u8 57, .int .u8 49, .int .u8 28, .int .u8 3, .int .u8 61, .int .u8 58, .int .u8 42, .int .u8 50, .int .u8 38, .int .u8 29, .int .u8 17, .int .u8 4, .int .u8 62, .int .u8 47, .int .u8 59, .int .u8 36, .int .u8 45, .int .u8 43, .int .u8 51, .int .u8 22, .int .u8 53, .int .u8 39, .int .u8 33, .int .u8 30, .int .u8 24, .int .u8 18, .int .u8 12, .int .u8 5, .int .u8 63, .int .u8 55, .int .u8 48, .int .u8 27, .int .u8 60, .int .u8 41, .int .u8 37, .int .u8 16, .int .u8 46, .int .u8 35, .int .u8 44, .int .u8 21, .int .u8 52, .int .u8 32, .int .u8 23, .int .u8 11, .int .u8 54, .int .u8 26, .int .u8 40, .int .u8 15, .int .u8 34, .int .u8 20, .int .u8 31, .int .u8 10, .int .u8 25, .int .u8 14, .int .u8 19, .int .u8 9, .int .u8 13, .int .u8 8, .int .u8 7, .int .u8 6] t frozen
      | o => o).modify 4 fun
      | .cells _ t frozen => .cells #[.bool true] t frozen
      | o => o).modify 3 fun
      | .cells _ t frozen => .cells #[.int .u64 1, .int .u64 10, .int .u64 100, .int .u64 1000, .int .u64 10000, .int .u64 100000, .int .u64 1000000, .int .u64 10000000, .int .u64 100000000, .int .u64 1000000000, .int .u64 10000000000, .int .u64 100000000000, .int .u64 1000000000000, .int .u64 10000000000000, .int .u64 100000000000000, .int .u64 1000000000000000, .int .u64 10000000000000000, .int .u64 100000000000000000, .int .u64 1000000000000000000, .int .u64 10000000000000000000] t frozen
      | o => o).modify 2 fun
      | .cells _ t frozen => .cells #[.int .u8 128, .int .u8 191, .int .u8 160, .int .u8 191, .int .u8 128, .int .u8 159, .int .u8 144, .int .u8 191, .int .u8 128, .int .u8 143, .int .u8 0, .int .u8 0, .int .u8 0, .int .u8 0, .int .u8 0, .int .u8 0, .int .u8 0, .int .u8 0, .int .u8 0, .int .u8 0, .int .u8 0, .int .u8 0, .int .u8 0, .int .u8 0, .int .u8 0, .int .u8 0, .int .u8 0, .int .u8 0, .int .u8 0, .int .u8 0, .int .u8 0, .int .u8 0] t frozen
      | o => o).modify 8 fun
      | .cells _ t frozen => .cells #[.slice (some ⟨low + 0, 0, none⟩) Go.Pinned.cheatRows.length Go.Pinned.cheatRows.length] t frozen
      | o => o).modify 7 fun
      | .cells _ t frozen => .cells (powCells Go.Pinned.pow10Rows).toArray t frozen
      | o => o).modify 1 fun
      | .cells _ t frozen => .cells (Lib.firstTab.map fun z => Value.int .u8 z).toArray t frozen
      | o => o) }

noncomputable def wit (os : Os) : World := (laidWorld os).forCall (fun _ _ => 0) ⟨#[], #[.agg #[.int .i64 0, .bool false, .int .i64 0, .float .f64 0, .string ByteArray.empty, .string ByteArray.empty, .slice none 0 0, .slice none 0 0], .agg #[.int .i64 0, .bool false, .int .i64 0, .float .f64 0, .string ByteArray.empty, .string ByteArray.empty, .slice none 0 0, .slice none 0 0]], []⟩

theorem mapM_some {α β : Type} {f : α → Option β} {g : α → β} : ∀ {l : List α}, (∀ i ∈ l, f i = some (g i)) → l.mapM f = some (l.map g)
  | [], _ => rfl
  | a :: l, h => by
    rw [List.mapM_cons, h a (List.mem_cons_self ..), mapM_some (fun i hi => h i (List.mem_cons_of_mem _ hi))]
    rfl
theorem pow_len : ∀ L : List (Nat × Nat), (powCells L).length = L.length * 2
  | [] => rfl
  | x :: L => by simp only [powCells, List.length_cons, pow_len L]; omega
theorem pow_at : ∀ {L : List (Nat × Nat)} {i : Nat} {x : Nat × Nat}, L[i]? = some x → ((powCells L).drop (i * 2)).take 2 = [.int .u64 x.1, .int .u64 x.2]
  | [], i, x, h => by simp at h
  | y :: L, 0, x, h => by
    obtain rfl : y = x := by simpa using h
    rfl
  | y :: L, i + 1, x, h => by
    have h2 := pow_at (L := L) (i := i) (x := x) (by simpa using h)
    have e : (i + 1) * 2 = i * 2 + 1 + 1 := by omega
    rw [e]
    simpa [powCells] using h2
theorem pow_mem : ∀ {L : List (Nat × Nat)} {v : Value}, v ∈ powCells L → ∃ n : Nat, (∃ x ∈ L, n = x.1 ∨ n = x.2) ∧ v = .int .u64 n
  | [], v, h => by simp [powCells] at h
  | x :: L, v, h => by
    simp only [powCells, List.mem_cons] at h
    rcases h with rfl | rfl | h
    · exact ⟨x.1, ⟨x, List.mem_cons_self .., .inl rfl⟩, rfl⟩
    · exact ⟨x.2, ⟨x, List.mem_cons_self .., .inr rfl⟩, rfl⟩
    · obtain ⟨n, ⟨y, hy, hn⟩, hv⟩ := pow_mem h
      exact ⟨n, ⟨y, List.mem_cons_of_mem _ hy, hn⟩, hv⟩
/-- Two numbers, read as a structure of two. -/
theorem trod_two {P : Program} {w : World} {fuel : Nat} {tP tU : TypeId} {fs : Array Field} (hP : P.underlying tP = some (.struct fs)) (hf : (fs.toList.map fun f => (f.type, f.offset)) = [(tU, 0), (tU, 1)])
    (hU : P.underlying tU = some (.int .u64)) (cP : P.cellsOf tP = 2) (cU : P.cellsOf tU = 1) (x : Nat × Nat) (h1 : (Lit.int .u64 x.1).wf = true) (h2 : (Lit.int .u64 x.2).wf = true) :
    DataW.trod (fun _ => ()) P w 0 (fun _ => true) false (fuel + 2) tP [.int .u64 x.1, .int .u64 x.2] = some (.agg [.lit (.int .u64 x.1), .lit (.int .u64 x.2)], []) := by
  have ht : ∀ n : Nat, (Lit.int .u64 n).wf = true → DataW.trod (fun _ => ()) P w 0 (fun _ => true) false (fuel + 1) tU [.int .u64 n] = some (.lit (.int .u64 n), []) := fun n hn => by
    unfold DataW.trod
    simp only [hU]
    exact if_pos ⟨trivial, hn⟩
  unfold DataW.trod
  simp only [hP, cP]
  rw [if_pos (show [Value.int .u64 (x.1 : Int), Value.int .u64 (x.2 : Int)].length = 2 from rfl)]
  rcases hl : fs.toList with _ | ⟨f1, _ | ⟨f2, _ | ⟨f3, r⟩⟩⟩
  · rw [hl] at hf; simp at hf
  · rw [hl] at hf; simp at hf
  · rw [hl] at hf
    simp only [List.map_cons, List.map_nil, List.cons.injEq, Prod.mk.injEq, and_true] at hf
    obtain ⟨⟨t1, o1⟩, t2, o2⟩ := hf
    simp only [List.mapM_cons, List.mapM_nil, t1, o1, t2, o2, cU]
    rw [show List.take 1 (List.drop 0 [Value.int .u64 (x.1 : Int), Value.int .u64 (x.2 : Int)]) = [Value.int .u64 (x.1 : Int)] from rfl, show List.take 1 (List.drop 1 [Value.int .u64 (x.1 : Int), Value.int .u64 (x.2 : Int)]) = [Value.int .u64 (x.2 : Int)] from rfl, ht _ h1, ht _ h2]
    rfl
  · rw [hl] at hf; simp at hf
/-- The table of powers, read. -/
theorem trod_pow {P : Program} {w : World} {fuel : Nat} {tA tP tU : TypeId} {L : List (Nat × Nat)} (hA : P.underlying tA = some (.array L.length tP)) (cA : P.cellsOf tA = L.length * 2)
    {fs : Array Field} (hP : P.underlying tP = some (.struct fs)) (hf : (fs.toList.map fun f => (f.type, f.offset)) = [(tU, 0), (tU, 1)]) (hU : P.underlying tU = some (.int .u64)) (cP : P.cellsOf tP = 2) (cU : P.cellsOf tU = 1) (hL : ∀ x ∈ L, (Lit.int .u64 x.1).wf = true ∧ (Lit.int .u64 x.2).wf = true) :
    DataW.trod (fun _ => ()) P w 0 (fun _ => true) false (fuel + 3) tA (powCells L) = some (.agg (L.map fun x => .agg [.lit (.int .u64 x.1), .lit (.int .u64 x.2)]), []) := by
  unfold DataW.trod
  simp only [hA, cA, cP]
  rw [if_pos (pow_len L)]
  rw [mapM_some (g := fun i => (.agg [.lit (.int .u64 (L.getD i (0, 0)).1), .lit (.int .u64 (L.getD i (0, 0)).2)], [])) (fun i hi => by
    have hlt : i < L.length := by simpa using hi
    have he : L[i]? = some L[i] := List.getElem?_eq_getElem hlt
    rw [pow_at he]
    have hm := hL _ (List.getElem_mem hlt)
    rw [trod_two hP hf hU cP cU L[i] hm.1 hm.2]
    simp [List.getD_eq_getElem?_getD, he])]
  simp only [Option.map_some, List.map_map, Option.some.injEq, Prod.mk.injEq]
  constructor
  · congr 1
    apply List.ext_getElem
    · simp
    · intro n a b
      simp only [List.length_map, List.length_range] at a b
      simp [List.getD_eq_getElem?_getD, List.getElem?_eq_getElem a]
  · rw [List.flatMap_eq_nil_iff]
    intro y hy
    obtain ⟨i, _, rfl⟩ := List.mem_map.1 hy
    rfl

theorem laidVars_append {P : Program} {w : World} : ∀ {l m : List (String × DataW Unit)} {p q : List MemPlace}, DataW.LaidVars P w l p → DataW.LaidVars P w m q → DataW.LaidVars P w (l ++ m) (p ++ q)
  | [], m, p, q, h, k => by
    obtain rfl : p = [] := h
    exact k
  | (n, d) :: r, m, p, q, h, k => by
    obtain ⟨g, t, cs, fuel, p1, q1, h1, h2, h3, h4, h5, rfl⟩ := h
    exact ⟨g, t, cs, fuel, p1, q1 ++ q, h1, h2, h3, h4, laidVars_append h5 k, by simp [List.append_assoc]⟩

/-- The places of whole blocks. -/
def rowsOf (l : List (Nat × Nat)) : List MemPlace := l.flatMap fun x => MemPlace.row ⟨x.1, 0, none⟩ x.2
theorem rowsOf_append (l m : List (Nat × Nat)) : rowsOf (l ++ m) = rowsOf l ++ rowsOf m := by simp [rowsOf]
theorem rowsOf_mem {l : List (Nat × Nat)} {b off : Nat} (h : MemPlace.cell b off ∈ rowsOf l) : ∃ n, (b, n) ∈ l := by
  simp only [rowsOf, List.mem_flatMap, MemPlace.row, List.mem_map, List.mem_range] at h
  obtain ⟨x, hx, i, _, hi⟩ := h
  cases hi
  exact ⟨x.2, hx⟩
theorem row_nodup (a : Addr) (n : Nat) : (MemPlace.row a n).Nodup := by
  unfold MemPlace.row
  rw [List.Nodup, List.pairwise_map]
  exact List.nodup_range.imp (fun h e => h (by have := (MemPlace.cell.inj e).2; omega))
theorem rowsOf_nodup : ∀ {l : List (Nat × Nat)}, (l.map (·.1)).Nodup → (rowsOf l).Nodup
  | [], _ => List.nodup_nil
  | x :: l, h => by
    have h' := List.nodup_cons.1 h
    have e : rowsOf (x :: l) = MemPlace.row ⟨x.1, 0, none⟩ x.2 ++ rowsOf l := by simp [rowsOf]
    rw [e, List.nodup_append]
    refine ⟨row_nodup _ _, rowsOf_nodup h'.2, fun a ha b hb => ?_⟩
    simp only [MemPlace.row, List.mem_map, List.mem_range] at ha
    obtain ⟨i, _, rfl⟩ := ha
    rintro rfl
    obtain ⟨n, hn⟩ := rowsOf_mem hb
    exact h'.1 (List.mem_map.2 ⟨_, hn, rfl⟩)

/-- Does a block stand unfrozen, no interface in it (but where ifaces are let by)? -/
def noIface : Value → Bool
  | .iface _ _ => false
  | _ => true
def rowB (w : World) (b : Nat) : Bool := match w.heap[b]? with
  | some (.cells cs _ (0, 0)) => cs.toList.all noIface
  | _ => false
theorem rowB_ok {P : Program} {w : World} {b : Nat} (h : rowB w b = true) (off : Nat) : (∃ c t, w.heap[b]? = some (.cells c t (0, 0))) ∧ ∀ u v, w.cell? ⟨b, off, none⟩ = some (.iface u v) → Value.okWide P w .any 0 u v := by
  unfold rowB at h
  split at h
  · rename_i cs t hb
    refine ⟨⟨cs, t, hb⟩, fun u v hc => ?_⟩
    simp only [World.cell?, hb] at hc
    have hm : Value.iface u v ∈ cs.toList := by
      have := Array.mem_of_getElem? (show cs[off]? = some (Value.iface u v) by simpa using hc)
      exact this.1
    have := List.all_eq_true.1 h _ hm
    cases this
  · cases h
theorem laidMet_rows {P : Program} {w : World} {l : List (String × DataW Unit)} {bs : List (Nat × Nat)} (h : DataW.LaidVars P w l (rowsOf bs)) (hn : (bs.map (·.1)).Nodup) (hr : (bs.all fun x => rowB w x.1) = true) : laidMet P l w :=
  ⟨_, h, rowsOf_nodup hn, fun b off hb => by
    obtain ⟨n, hm⟩ := rowsOf_mem hb
    exact rowB_ok (List.all_eq_true.1 hr _ hm) off⟩

/-- Are all variables but one as they should be? -/
def varsBut (P : Program) (w : World) (gp : Nat) : Bool :=
  let w₀ := (begin P (fun _ _ => 0) default).world
  (List.range P.globals.size).all fun g => g == gp ||
    match (w₀.heap[g]?).bind Obj.row? with
    | none => true
    | some (zero, t) =>
      match w.heap[g]? with
      | some (.cells cs t' frozen) => decide (t' = t) && decide (frozen = (0, 0)) && cs.size == zero.size && (!P.buildable t || Row.okRefB P w t cs)
      | _ => false
theorem shaped_but {P : Program} {w : World} {gp tA : Nat} {cs : Array Value} (hv : varsBut P w gp = true) (h0 : (((begin P (fun _ _ => 0) default).world.heap[gp]?).bind Obj.row?).map (fun x => (x.1.size, x.2)) = some (cs.size, tA))
    (hw : w.heap[gp]? = some (.cells cs tA (0, 0))) (hk : Row.ok P w .any 0 tA cs)
    (hr : (w.heap.toList.drop P.globals.size).take ((begin P (fun _ _ => 0) default).world.heap.size - P.globals.size) =
      (begin P (fun _ _ => 0) default).world.heap.toList.drop P.globals.size) : w.Shaped P := by
  refine ⟨fun g zero t hg hz => ?_, fun k h1 h2 => ?_⟩
  case refine_2 =>
    have := congrArg (·[k - P.globals.size]?) hr
    simp only [List.getElem?_take, List.getElem?_drop, Array.getElem?_toList] at this
    rw [if_pos (by omega), Nat.add_sub_cancel' h1] at this
    exact this
  by_cases hgp : g = gp
  · subst hgp
    rw [hz] at h0
    simp only [Option.map_some, Option.some.injEq, Prod.mk.injEq] at h0
    obtain ⟨h01, rfl⟩ := h0
    exact ⟨cs, hw, h01.symm, fun _ => hk⟩
  unfold varsBut at hv
  simp only [List.all_eq_true, List.mem_range] at hv
  have := hv g hg
  rw [hz] at this
  have hgp' : (g == gp) = false := by simp [hgp]
  rw [hgp'] at this
  simp only [Bool.false_or] at this
  split at this
  · rename_i cs t' fr hw
    simp only [Bool.and_eq_true, decide_eq_true_eq, beq_iff_eq, Bool.or_eq_true, Bool.not_eq_true'] at this
    obtain ⟨⟨⟨rfl, rfl⟩, hs⟩, hb⟩ := this
    refine ⟨cs, hw, hs, fun hbuild => ?_⟩
    rcases hb with hb | hb
    · rw [hbuild] at hb; cases hb
    · exact Row.ok_of_okRefB hb
  · cases this
theorem row_pow {P : Program} {w : World} {tA tU : TypeId} {L : List (Nat × Nat)} (hc : P.cellTypes P.depth tA = some (List.replicate (L.length * 2) tU)) (hU : P.underlying tU = some (.int .u64))
    (hL : ∀ x ∈ L, (x.1 : Int) ≤ IntKind.u64.max ∧ (x.2 : Int) ≤ IntKind.u64.max) : Row.ok P w .any 0 tA (powCells L).toArray := by
  refine ⟨_, hc, ⟨1, by simp [pow_len]⟩, fun i v hv => ⟨tU, ?_, ?_⟩⟩
  · have hi : i < L.length * 2 := by
      have := (Array.getElem?_eq_some_iff.1 hv).1
      simpa [pow_len] using this
    rw [List.length_replicate, Nat.mod_eq_of_lt hi, List.getElem?_replicate, if_pos hi]
  · have hm : v ∈ powCells L := by
      have := Array.mem_of_getElem? hv
      simpa using this
    obtain ⟨n, ⟨x, hx, hn⟩, rfl⟩ := pow_mem hm
    unfold Cell.ok
    rw [hU]
    refine ⟨rfl, ?_⟩
    have := hL x hx
    unfold IntKind.has
    constructor
    · show (0 : Int) ≤ n
      omega
    · rcases hn with rfl | rfl
      · exact this.1
      · exact this.2

/-- A witness, its world shaped. -/
theorem wit_shaped {H : Type} {enc : TypeId × Value → H} {C : Checked} {os : Os} {f : FuncId} {fn : Func} {s : OpenSpec} {conds : List PathCond} {apart : Bool} {laid : List (String × DataW Unit)} (modest : Bool) (w0 : World) (args : Array Value) (hos : w0.os = os)
    (hsh : (w0.forCall (fun _ _ => 0) ⟨#[], args, []⟩).Shaped C.prog)
    (hok : Input.okWideB C.prog (w0.forCall (fun _ _ => 0) ⟨#[], args, []⟩) f ⟨#[], args, []⟩ = true)
    (hrow : s.preRow enc C.prog fn conds apart laid (w0.forCall (fun _ _ => 0) ⟨#[], args, []⟩).memory args) :
    ∃ (w : World) (tape : Tape) (i : Input), w.os = os ∧ (w.forCall tape i).Shaped C.prog ∧ i.vars = [] ∧ Input.okWide C.prog (w.forCall tape i) .any w.heap.size f i ∧
      s.preRow enc C.prog fn conds apart laid (w.forCall tape i).memory i.args ∧ ({ modest := modest } : Assume).holds C.prog (lone (Frame.enter C.prog f i.args .normal) [] (w.forCall tape i)) :=
  ⟨w0, fun _ _ => 0, ⟨#[], args, []⟩, hos, hsh, (Input.okWide_of_okWideB (base := 0) hok).1, (Input.okWide_of_okWideB hok).2, hrow, by
    simp only [Assume.holds]
    exact ⟨by simp, by simp, fun _ => Modest.zero, by simp, by simp⟩⟩

def fsOf (P : Program) (t : TypeId) : Array Field := match P.underlying t with | some (.struct fs) => fs | _ => #[]
noncomputable def b6 : List (Nat × Nat) := [(5, 32), (6, 64), (4, 1), (3, 20), (2, 32), (8, 1), (low + 0, Go.Pinned.cheatRows.length * 2)]
def b8 : List (Nat × Nat) := [(1, 256)]
def bP : List (Nat × Nat) := [(7, (powCells Go.Pinned.pow10Rows).toArray.size)]
set_option maxRecDepth 100000 in
theorem part6 (os : Os) : DataW.laidRun Tryz.prog (wit os).memory 40 ((Rows.resultKeepsUptoRow.laid.take 6).map (·.1)) = some (Rows.resultKeepsUptoRow.laid.take 6, rowsOf b6) := by kernel_rfl
set_option maxRecDepth 100000 in
theorem part8 (os : Os) : DataW.laidRun Tryz.prog (wit os).memory 40 ((Rows.resultKeepsUptoRow.laid.drop 7).map (·.1)) = some (Rows.resultKeepsUptoRow.laid.drop 7, rowsOf b8) := by kernel_rfl
theorem pow_var (os : Os) : (wit os).memory.var? Tryz.prog "internal/strconv.pow10Tab" = some (powCells Go.Pinned.pow10Rows).toArray := by kernel_rfl
theorem pow_wf : (Go.Pinned.pow10Rows.all fun x => (Lit.int .u64 x.1).wf && (Lit.int .u64 x.2).wf) = true := by kernel_rfl
theorem pow_max : (Go.Pinned.pow10Rows.all fun x => Nat.ble x.1 18446744073709551615 && Nat.ble x.2 18446744073709551615) = true := by kernel_rfl
theorem partP (os : Os) : DataW.LaidVars Tryz.prog (wit os).memory [("internal/strconv.pow10Tab", Rows.laid_internal_strconv_pow10Tab)] (rowsOf bP) :=
  ⟨7, 405, _, 3, [], [], by kernel_rfl, by kernel_rfl, pow_var os,
    trod_pow (fuel := 0) (tP := 404) (tU := 264) (fs := fsOf Tryz.prog 404) (L := Go.Pinned.pow10Rows) (by kernel_rfl) (by kernel_rfl) (by kernel_rfl) (by kernel_rfl) (by kernel_rfl) (by kernel_rfl) (by kernel_rfl) (fun x hx => by
      have := List.all_eq_true.1 pow_wf x hx
      simpa using this), rfl, by simp [rowsOf, bP]⟩
theorem laidV (os : Os) : DataW.LaidVars Tryz.prog (wit os).memory Rows.resultKeepsUptoRow.laid (rowsOf (b6 ++ (bP ++ b8))) := by
  rw [rowsOf_append, rowsOf_append]
  exact laidVars_append (DataW.LaidVars_of_laidRun (part6 os)) (laidVars_append (partP os) (DataW.LaidVars_of_laidRun (part8 os)))
set_option maxRecDepth 100000 in
theorem laid_met (os : Os) : laidMet Tryz.prog Rows.resultKeepsUptoRow.laid (wit os).memory :=
  laidMet_rows (laidV os) (of_decide_eq_true (by kernel_rfl)) (by kernel_rfl)
set_option maxRecDepth 100000 in
theorem shaped (os : Os) : (wit os).Shaped Tryz.prog :=
  shaped_but (gp := 7) (tA := 405) (cs := (powCells Go.Pinned.pow10Rows).toArray) (by kernel_rfl) (by kernel_rfl) (by kernel_rfl)
    (row_pow (tU := 264) (by kernel_rfl) (by kernel_rfl) (fun x hx => by
      have := List.all_eq_true.1 pow_max x hx
      simp only [Bool.and_eq_true] at this
      have h1 := Nat.le_of_ble_eq_true this.1
      have h2 := Nat.le_of_ble_eq_true this.2
      exact ⟨by show (x.1 : Int) ≤ 18446744073709551615; omega, by show (x.2 : Int) ≤ 18446744073709551615; omega⟩)) (by kernel_rfl)
end Go.Proofs.YtldjbgklmeigmaaGreatDoor.resultKeeps
