/- Several texts in one: Helper text: an evaluator's struct and slice literals. Helper text: an evaluator's operations as data; how an operation of the program becomes one. Helper text: an evaluator's operations say what the program's do. Helper text: an evaluator's operations say what the program's do: all together. Helper text: an evaluator's operations one by one. Helper text: an evaluator's ranges over maps, and functions that the model itself stands in for. Helper text: an evaluator's operations one by one, the second half. Helper text: an evaluator of calls. Helper text: what an evaluator comes to, the program comes to. Conditions: none. -/
import Derived.Test.YtldjbgklmeigmaaGreatDoorEvPA
import Derived.Laws.Tables
import Derived.BigCall
import Derived.KernelRfl
import Derived.Laws.IdiomRangeMap
import Derived.Scope
import Derived.Orders
set_option linter.unusedVariables false
set_option linter.unusedSimpArgs false
namespace Go.Proofs.YtldjbgklmeigmaaGreatDoor.Ev
open Go Go.RowKit
noncomputable section

/-- Parts laid over a row of cells; of each part is known where it lies and how many cells it has. -/
def fillA : List (Nat × Nat) → List AV → List AV → Option (List AV)
  | [], cells, [] => some cells
  | (off, sz) :: pl, cells, a :: as =>
    if Nat.beq (lenL a.cells) sz then
      match over off a.cells cells with
      | some c => fillA pl c as
      | none => none
    else none
  | _, _, _ => none
/-- So many times a list. -/
def repL {α : Type} (z : List α) : Nat → List α
  | 0 => []
  | n + 1 => z ++ repL z n
/-- A list in pieces of z. -/
def chunk (z : Nat) : Nat → List AV → Option (List (List AV))
  | 0, l => match l with
    | [] => some []
    | _ :: _ => none
  | n + 1, l => match takeS z l with
    | some a => match chunk z n (dropS z l) with
      | some r => some (a :: r)
      | none => none
    | none => none

theorem foldl_set {α : Type} (off : Nat) : ∀ (vs : List α) (j : Nat) (arr : Array α), (vs.zipIdx j).foldl (fun cs (p : α × Nat) => cs.setIfInBounds (off + p.2) p.1) arr =
    (vs.zipIdx j).foldl (fun cs (p : α × Nat) => cs.setIfInBounds (off + p.2) p.1) arr ∧
    ((vs.zipIdx j).foldl (fun cs (p : α × Nat) => cs.setIfInBounds (off + p.2) p.1) arr).size = arr.size ∧
    ∀ i, i < arr.size → ((vs.zipIdx j).foldl (fun cs (p : α × Nat) => cs.setIfInBounds (off + p.2) p.1) arr)[i]? = if off + j ≤ i ∧ i < off + j + vs.length then vs[i - (off + j)]? else arr[i]?
  | [], j, arr => ⟨rfl, rfl, fun i _ => by rw [if_neg (by simp)]; rfl⟩
  | v :: vs, j, arr => by
    obtain ⟨_, h1, h2⟩ := foldl_set off vs (j + 1) (arr.setIfInBounds (off + j) v)
    refine ⟨rfl, by simp only [List.zipIdx_cons, List.foldl_cons]; rw [h1]; simp, fun i hi => ?_⟩
    simp only [List.zipIdx_cons, List.foldl_cons]
    rw [h2 i (by simpa using hi)]
    by_cases hij : i = off + j
    · subst hij
      rw [if_neg (by omega), if_pos (by simp), Array.getElem?_setIfInBounds]
      simp [hi]
    · by_cases hr : off + (j + 1) ≤ i ∧ i < off + (j + 1) + vs.length
      · rw [if_pos hr, if_pos (by simp; omega), show i - (off + j) = (i - (off + (j + 1))) + 1 by omega]
        simp
      · rw [if_neg hr, if_neg (by simp; omega), Array.getElem?_setIfInBounds, if_neg (fun e => hij e.symm)]

section
variable {P : Program} {W : World} {Fr : Nat → Prop} {σ : Map} {x : Ps} {H : Heap} {w : World}

theorem over_conc {off : Nat} {m l r : List AV} {ms ls : List Value} (h : over off m l = some r) (hm : concL σ m = some ms) (hl : concL σ l = some ls) (hfit : off + m.length ≤ l.length) :
    concL σ r = some ((ms.zipIdx 0).foldl (fun cs (p : Value × Nat) => cs.setIfInBounds (off + p.2) p.1) ls.toArray).toList := by
  obtain ⟨h1, h2⟩ := over_spec _ _ _ _ h
  obtain ⟨m1, m2⟩ := concL_get hm
  obtain ⟨l1, l2⟩ := concL_get hl
  obtain ⟨_, f1, f2⟩ := foldl_set off ms 0 ls.toArray
  refine concL_of (by rw [h1, l1]; simpa using f1.symm) (fun j a ha => ?_)
  have hj : j < ls.toArray.size := by
    have := (List.getElem?_eq_some_iff.1 ha).1
    simp; omega
  rw [Array.getElem?_toList, f2 j hj]
  rw [h2 j] at ha
  simp only [Nat.add_zero]
  split at ha
  · rename_i hc
    rw [if_pos ⟨hc.1, by omega⟩]
    exact m2 _ a ha
  · rename_i hc
    rw [if_neg (by omega)]
    simpa using l2 j a ha
theorem over_fits {α : Type} : ∀ (j : Nat) (m l r : List α), over j m l = some r → m = [] ∨ j + m.length ≤ l.length
  | j, [], l, r, e => .inl rfl
  | 0, a :: m, [], r, e => by simp [over] at e
  | 0, a :: m, b :: l, r, e => by
    rw [over] at e
    split at e
    · rename_i q hq
      rcases over_fits 0 m l q hq with rfl | h
      · right; simp
      · right; simp at h ⊢; omega
    · cases e
  | j + 1, a :: m, [], r, e => by simp [over] at e
  | j + 1, a :: m, b :: l, r, e => by
    rw [over] at e
    split at e
    · rename_i q hq
      rcases over_fits j (a :: m) l q hq with h | h
      · cases h
      · right; simp at h ⊢; omega
    · cases e
    · intro h; cases h
/-- Filling says what it says: pl the places of the parts numbered as in ns. -/
theorem fill_spec (place : Nat → Option (Nat × Nat)) : ∀ (pl : List (Nat × Nat)) (ns : List Nat) (cells as r : List AV) (cs vs : List Value), ns.map place = pl.map some → fillA pl cells as = some r →
    concL σ cells = some cs → concL σ as = some vs → (∀ a ∈ as, ∀ l, a ≠ .tup l) → (∀ p ∈ pl, 0 < p.2) →
    ∃ rs, concL σ r = some rs ∧ Instr.fill place cs.toArray (ns.zip vs) = some rs.toArray ∧ rs.length = cs.length
  | [], ns, cells, as, r, cs, vs, hp, h, hc, hv, hn, hz => by
    have : ns = [] := by simpa using hp
    subst this
    cases as with
    | nil =>
      simp only [fillA, Option.some.injEq] at h
      subst h
      exact ⟨cs, hc, by simp [Instr.fill], rfl⟩
    | cons a as => simp [fillA] at h
  | (off, sz) :: pl, [], cells, as, r, cs, vs, hp, h, hc, hv, hn, hz => by simp at hp
  | (off, sz) :: pl, n :: ns, cells, [], r, cs, vs, hp, h, hc, hv, hn, hz => by simp [fillA] at h
  | (off, sz) :: pl, n :: ns, cells, a :: as, r, cs, vs, hp, h, hc, hv, hn, hz => by
    simp only [List.map_cons, List.cons.injEq] at hp
    simp only [fillA] at h
    split at h
    · rename_i hsz
      have hsz := Nat.eq_of_beq_eq_true hsz
      rw [lenL_eq] at hsz
      split at h
      · rename_i c hov
        cases ha : conc σ a with
        | none => simp [concL, ha] at hv
        | some u =>
          cases has : concL σ as with
          | none => simp [concL, ha, has] at hv
          | some us =>
            simp only [concL, ha, has, Option.bind_some, Option.map_some, Option.some.injEq] at hv
            subst hv
            have hcell := conc_cells ha (hn a (by simp))
            have hlen := (concL_get hcell).1
            have hcl := (concL_get hc).1
            have hpos := hz (off, sz) (by simp)
            have hfit : off + a.cells.length ≤ cells.length := by
              rcases over_fits _ _ _ _ hov with he | he
              · rw [he] at hsz; simp at hsz; simp at hpos; omega
              · exact he
            have hcc := over_conc hov hcell hc hfit
            obtain ⟨_, f1, _⟩ := foldl_set off u.cells.toList 0 cs.toArray
            obtain ⟨rs, r1, r2, r3⟩ := fill_spec place pl ns c as r _ us hp.2 h hcc has (fun b hb => hn b (by simp [hb])) (fun p hp' => hz p (by simp [hp']))
            refine ⟨rs, r1, ?_, by rw [r3]; simpa using f1⟩
            simp only [List.zip_cons_cons, Instr.fill, hp.1]
            have hcond : ¬ ((u.cells.size ≠ sz || off + u.cells.size > cs.toArray.size) = true) := by
              have e1 : u.cells.size = a.cells.length := by rw [hlen]; simp
              simp only [List.size_toArray, Bool.or_eq_true, decide_eq_true_eq, not_or]
              constructor
              · simp; omega
              · omega
            rw [if_neg hcond, ← r2]
            congr 1
            rw [Array.toArray_toList]
            rw [← Array.foldl_toList, Array.toList_zipIdx]
      · cases h
    · cases h
end
end
end Go.Proofs.YtldjbgklmeigmaaGreatDoor.Ev

namespace Go.Proofs.YtldjbgklmeigmaaGreatDoor.Ev
open Go Go.RowKit
noncomputable section

/-- A function without a body that the model itself stands in for. -/
inductive XK where
  | trunc
  | bits
  | from_
  | bits32
  deriving Inhabited
/-- An operation, its types looked up. -/
inductive COp where
  | mv
  | pick
  | alloc (e : TypeId) (z : List AV)
  | box (e : TypeId)
  | build (z : List AV) (pl : List (Nat × Nat))
  | buildS (e : TypeId) (sz len : Nat) (z : List AV) (pl : List (Nat × Nat))
  | load (agg : Bool) (n : Nat)
  | store (n : Nat)
  | nck
  | bin (op : BinOp)
  | eq (E : EqT) (neg : Bool)
  | not
  | neg
  | toInt (k : IntKind)
  | same
  | s2b (e : TypeId)
  | b2s
  | mkI (t : TypeId)
  | fieldA (off : Nat)
  | field (agg : Bool) (n off : Nat)
  | idxA (sz : Nat)
  | idxR (sz len : Nat)
  | idxS
  | slc (sz : Nat) (lo hi : Bool)
  | slcS (lo hi : Bool)
  | ext (i : Nat)
  | call (f : FuncId)
  | callv
  | app (e : TypeId) (sz bytes : Nat) (byte : Bool)
  | len (k : Nat)
  | mkfn (fn : Fn) (first : Nat)
  | mkmap
  | look (E : EqT) (z : AV) (ok : Bool)
  | upd (E : EqT)
  | mx
  | mn
  | mark
  | mks (e : TypeId) (sz bytes : Nat) (z : List AV)
  | shf (left : Bool)
  | toFlt (k : FloatKind)
  | fltInt (k : IntKind)
  | fltSame (k : FloatKind)
  | slcR (len sz : Nat) (lo hi : Bool)
  | rngm
  | nxt
  | ent
  | xt (k : XK)
  deriving Inhabited

def ordIs (o : Option Ordering) (p : Ordering) : Bool :=
  match o, p with
  | some .lt, .lt => true
  | some .eq, .eq => true
  | some .gt, .gt => true
  | _, _ => false
def fltO (k : FloatKind) : Option Nat → Option AV
  | some r => some (.flt k r)
  | none => none
/-- Floats held against one another, and reckoned. -/
def fltA (op : BinOp) (k : FloatKind) (a b : Nat) : Option AV :=
  match op with
  | .add => fltO k (k.format.add a b)
  | .sub => fltO k (k.format.sub a b)
  | .mul => fltO k (k.format.mul a b)
  | .quo => fltO k (k.format.div a b)
  | .eql => some (.bool (ordIs (k.format.order a b) .eq))
  | .neq => some (.bool (!(ordIs (k.format.order a b) .eq)))
  | .lss => some (.bool (ordIs (k.format.order a b) .lt))
  | .leq => some (.bool (ordIs (k.format.order a b) .lt || ordIs (k.format.order a b) .eq))
  | .gtr => some (.bool (ordIs (k.format.order a b) .gt))
  | .geq => some (.bool (ordIs (k.format.order a b) .gt || ordIs (k.format.order a b) .eq))
  | _ => none
def repRow (z : List AV) : Nat → List (List AV)
  | 0 => []
  | n + 1 => z :: repRow z n
/-- A slice of an array behind a pointer. -/
def sliceR (len sz : Nat) (lo hi : Option AV) : AV → Option AV
  | .ptr n o => match bndsA len len lo hi with
    | some (l, h) => some (.slc n (if Nat.beq len l then o else o + l * sz) (h - l) (.known (len - l)))
    | none => none
  | _ => none
/-- A number added, and the like. -/
def binA (op : BinOp) : AV → AV → Option AV
  | .int k a, .int j b => match decEq k j with
    | .isFalse _ => none
    | .isTrue _ => match op with
      | .add => some (.int k (wrapI k (a + b)))
      | .sub => some (.int k (wrapI k (a - b)))
      | .mul => some (.int k (wrapI k (a * b)))
      | .quo => if ieq b 0 then none else some (.int k (wrapI k (a.tdiv b)))
      | .rem => if ieq b 0 then none else some (.int k (a.tmod b))
      | .eql => some (.bool (ieq a b))
      | .neq => some (.bool (!(ieq a b)))
      | .lss => some (.bool (ilt a b))
      | .leq => some (.bool (!(ilt b a)))
      | .gtr => some (.bool (ilt b a))
      | .geq => some (.bool (!(ilt a b)))
      | .and => some (.int k (wrapI k ((BitVec.ofInt k.bits a &&& BitVec.ofInt k.bits b).toNat)))
      | .or => some (.int k (wrapI k ((BitVec.ofInt k.bits a ||| BitVec.ofInt k.bits b).toNat)))
      | .xor => some (.int k (wrapI k ((BitVec.ofInt k.bits a ^^^ BitVec.ofInt k.bits b).toNat)))
      | .andNot => some (.int k (wrapI k ((BitVec.ofInt k.bits a &&& ~~~(BitVec.ofInt k.bits b)).toNat)))
      | _ => none
  | .flt k a, .flt j b => match decEq k j with
    | .isFalse _ => none
    | .isTrue _ => fltA op k a b
  | .str l a, .str m b => match op with
    | .add => if Nat.ble (l + m) 8388608 then some (.str (l + m) (a + b * 256 ^ l)) else none
    | .eql => some (.bool (if Nat.beq l m then Nat.beq a b else false))
    | .neq => some (.bool (!(if Nat.beq l m then Nat.beq a b else false)))
    | _ => none
  | _, _ => none

def isNoTup : AV → Bool
  | .tup _ => false
  | _ => true
def noTups : List AV → Bool
  | [] => true
  | a :: l => if isNoTup a then noTups l else false
/-- The first n of a list, and the rest. -/
def splitS {α : Type} : Nat → List α → Option (List α × List α)
  | 0, l => some ([], l)
  | _ + 1, [] => none
  | n + 1, a :: l => match splitS n l with
    | some (b, c) => some (a :: b, c)
    | none => none
/-- A length (k: 0 a text's, 1 a slice's, 2 a map's). -/
def lenA (H : Heap) : Nat → AV → Option Nat
  | 0, .str l _ => some l
  | 1, .nils l _ => some l
  | 1, .slc _ _ l _ => some l
  | 2, .nilm => some 0
  | 2, .mp n => match PT.get n H with
    | some (.map es _) => some (lenL es)
    | _ => none
  | _, _ => none

/-- A slice expression. -/
def slcWith (f : Option AV → Option AV → AV → Option AV) (lo hi : Bool) (vs : List AV) : OR :=
  match lo, hi, vs with
  | false, false, [a] => (match f none none a with | some r => .val r | none => .no)
  | true, false, [a, l] => (match f (some l) none a with | some r => .val r | none => .no)
  | false, true, [a, h] => (match f none (some h) a with | some r => .val r | none => .no)
  | true, true, [a, l, h] => (match f (some l) (some h) a with | some r => .val r | none => .no)
  | _, _, _ => .no
def bornIn (b : Nat) : List Nat → Bool
  | [] => false
  | c :: l => if Nat.beq b c then true else bornIn b l
/-- The entries not yet handed out. -/
def leftA (seen : List Nat) : List (AV × AV × Nat) → List (AV × AV × Nat)
  | [] => []
  | e :: l => if bornIn e.2.2 seen then leftA seen l else e :: leftA seen l
def someLt (last : Nat) : List (AV × AV × Nat) → Bool
  | [] => false
  | e :: l => if Nat.blt e.2.2 last then true else someLt last l
/-- Is the look that the step makes ahead of all else surely in vain? -/
def nextOk (seen : List Nat) (es : List (AV × AV × Nat)) (last : Nat) : Bool :=
  match seen with
  | [] => true
  | _ :: _ => match es with
    | [] => true
    | _ :: _ => someLt last es
/-- A step of a range over a map: where at most one entry is left. -/
def nextA (H : Heap) (x r : Ps) : OR :=
  match PT.get r H with
  | some (.iter none _ _ _) => .val (.tup [.bool false])
  | some (.iter (some m) since seen last) => match PT.get m H with
    | some (.map es clock) => if nextOk seen es last then (match leftA seen es with
      | [] => .val (.tup [.bool false])
      | [e] => if Nat.blt e.2.2 since then .eff (.tup [.bool true, e.1, e.2.1]) x (PT.put (some (.iter (some m) since (seen ++ [e.2.2]) clock)) r H) else .no
      | _ => .no) else .no
    | _ => .no
  | _ => .no
def lastN : List Nat → Option Nat
  | [] => none
  | [a] => some a
  | _ :: b :: l => lastN (b :: l)
def findB (b : Nat) : List (AV × AV × Nat) → Option (AV × AV × Nat)
  | [] => none
  | e :: l => if Nat.beq e.2.2 b then some e else findB b l
/-- The entry that the last step has handed out. -/
def entryA (H : Heap) (r : Ps) : OR :=
  match PT.get r H with
  | some (.iter (some m) _ seen last) => match PT.get m H with
    | some (.map es clock) => if Nat.beq clock last then (match lastN seen with
      | some b => match findB b es with
        | some e => .val (.tup [e.1, e.2.1])
        | none => .no
      | none => .no) else .no
    | _ => .no
  | _ => .no
/-- What the model's own functions answer. -/
def xtA : XK → List AV → OR
  | .trunc, [.flt .f64 b] => match FloatKind.f64.decode b with
    | .nan _ _ => .no
    | d => .val (.flt .f64 (FloatKind.f64.encode (d.integral .zero)))
  | .bits, [.flt .f64 b] => .val (.int .u64 (.ofNat b))
  | .from_, [.int .u64 (.ofNat n)] => .val (.flt .f64 n)
  | .bits32, [.flt .f32 b] => .val (.int .u32 (.ofNat b))
  | _, _ => .no
/-- Which of them a function is. -/
def xkOf (P : Program) (f : FuncId) : Option XK :=
  match P.funcs[f]? with
  | some fn => match fn.body with
    | some _ => none
    | none => if fn.origin == "" then (if fn.name == "math.archTrunc" then some .trunc else if fn.name == "math.Float64bits" then some .bits else if fn.name == "internal/strconv.float64bits" then some .bits else if fn.name == "math.Float64frombits" then some .from_ else if fn.name == "internal/strconv.float64frombits" then some .from_ else if fn.name == "internal/strconv.float32bits" then some .bits32 else none) else none
  | none => none
/-- What an operation comes to. -/
def exec (c : COp) (vs : List AV) (x : Ps) (H : Heap) : OR :=
  match c with
  | .mv => match vs with
    | [a] => .val a
    | _ => .no
  | .pick => match vs with
    | [.bool b, p, q] => .val (match b with | true => p | false => q)
    | _ => .no
  | .alloc e z => match vs with
    | [] => .new (.cells e (lenL z) false 1 (PT.one (some z) .h)) .ptr
    | _ => .no
  | .box e => match vs with
    | [a] => if isNoTup a then .new (.cells e (lenL a.cells) false 1 (PT.one (some a.cells) .h)) .ptr else .no
    | _ => .no
  | .build z pl => if noTups vs then (match fillA pl z vs with
    | some l => .val (.agg l)
    | none => .no) else .no
  | .buildS e sz len z pl => if noTups vs then (match fillA pl (repL z len) vs with
    | some l => match chunk sz len l with
      | some r => match layRow r 0 .lf with
        | some t => .new (.cells e sz false len t) (.slc len (.known len))
        | none => .no
      | none => .no
    | none => .no) else .no
  | .load agg n => match vs with
    | [.ptr p off] => match loadA H p off n with
      | some l => match agg with
        | true => .val (.agg l)
        | false => match l with
          | [a] => .val a
          | _ => .no
      | none => .no
    | _ => .no
  | .store n => match vs with
    | [.ptr p off, a] => if Nat.beq (lenL a.cells) n && isNoTup a then (match storeA H p off a.cells with
      | some H' => .eff (.tup []) x H'
      | none => .no) else .no
    | _ => .no
  | .nck => match vs with
    | [.ptr n o] => .val (.ptr n o)
    | [.ifc t v] => .val (.ifc t v)
    | [.fn (.func f) a b] => .val (.fn (.func f) a b)
    | _ => .no
  | .bin op => match vs with
    | [a, b] => match binA op a b with
      | some r => .val r
      | none => .no
    | _ => .no
  | .eq E neg => match vs with
    | [a, b] => match eqE E a b with
      | some r => .val (.bool (match neg with | true => !r | false => r))
      | none => .no
    | _ => .no
  | .not => match vs with
    | [.bool b] => .val (.bool (!b))
    | _ => .no
  | .neg => match vs with
    | [.int k n] => .val (.int k (wrapI k (0 - n)))
    | _ => .no
  | .toInt k => match vs with
    | [.int _ n] => .val (.int k (wrapI k n))
    | _ => .no
  | .same => match vs with
    | [.str l n] => .val (.str l n)
    | _ => .no
  | .s2b e => match vs with
    | [.str l n] => match layRow (bytesE l n) 0 .lf with
      | some t => .new (.cells e 1 false l t) (.slc l (.open_ 0))
      | none => .no
    | _ => .no
  | .b2s => match vs with
    | [a] => match bytesStr H a with
      | some r => .val r
      | none => .no
    | _ => .no
  | .mkI t => match vs with
    | [a] => .val (.ifc t a)
    | _ => .no
  | .fieldA off => match vs with
    | [.ptr n o] => .val (.ptr n (o + off))
    | _ => .no
  | .field agg n off => match vs with
    | [.agg l] => match partA agg n off l with
      | some a => .val a
      | none => .no
    | _ => .no
  | .idxA sz => match vs with
    | [.slc n o l _, .int _ (.ofNat i)] => if Nat.blt i l then .val (.ptr n (o + i * sz)) else .no
    | _ => .no
  | .idxR sz len => match vs with
    | [.ptr n o, .int _ (.ofNat i)] => if Nat.blt i len then .val (.ptr n (o + i * sz)) else .no
    | _ => .no
  | .idxS => match vs with
    | [.str l n, .int _ (.ofNat i)] => if Nat.blt i l then .val (.int .u8 (.ofNat (n / 256 ^ i % 256))) else .no
    | _ => .no
  | .slc sz lo hi => slcWith (sliceA sz) lo hi vs
  | .slcS lo hi => slcWith sliceS lo hi vs
  | .ext i => match vs with
    | [.tup l] => match dropS i l with
      | a :: _ => .val a
      | [] => .no
    | _ => .no
  | .call f => .call f vs
  | .callv => match vs with
    | .fn (.func f) a b :: r => .call f (a ++ (r ++ b))
    | _ => .no
  | .app e sz bytes byte => match vs with
    | [s, y] => appA e sz bytes byte x H s y
    | _ => .no
  | .len k => match vs with
    | [a] => match lenA H k a with
      | some n => .val (.int .i64 (.ofNat n))
      | none => .no
    | _ => .no
  | .mkfn fn k => match splitS k vs with
    | some (a, b) => .val (.fn fn a b)
    | none => .no
  | .mkmap => match vs with
    | [] => .new (.map [] 0) .mp
    | [.int _ _] => .new (.map [] 0) .mp
    | _ => .no
  | .look E z ok => match vs with
    | [m, k] => match lookA E z ok H m k with
      | some r => .val r
      | none => .no
    | _ => .no
  | .upd E => match vs with
    | [m, k, v] => match updA E H m k v with
      | some H' => .eff (.tup []) x H'
      | none => .no
    | _ => .no
  | .mx => match vs with
    | [.int k a, .int _ b] => .val (.int k (if ilt a b then b else a))
    | _ => .no
  | .mn => match vs with
    | [.int k a, .int _ b] => .val (.int k (if ilt b a then b else a))
    | _ => .no
  | .mark => match vs with
    | [.slc n o l c] => match PT.get n H with
      | some (.cells e sz false k t) => .eff (.slc n o l c) x (PT.put (some (.cells e sz false k t)) n H)
      | _ => .no
    | _ => .no
  | .mks e sz bytes z => match vs with
    | [.int _ (.ofNat l), .int _ (.ofNat c)] => if Nat.ble l c && (Nat.ble (bytes * c) 281474976710656 && Nat.ble c 16777216) then (match layRow (repRow z c) 0 .lf with
      | some t => .new (.cells e sz false c t) (.slc l (.known c))
      | none => .no) else .no
    | _ => .no
  | .shf left => match vs with
    | [.int k a, .int _ (.ofNat b)] => .val (.int k (match left with
      | true => wrapI k (a * ((2 ^ (min b k.bits) : Nat) : Int))
      | false => a.fdiv ((2 ^ (min b k.bits) : Nat) : Int)))
    | _ => .no
  | .toFlt k => match vs with
    | [.int _ n] => .val (.flt k (k.nearest n))
    | _ => .no
  | .fltInt k => match vs with
    | [.flt s b] => match (s.decode b).toInt .zero with
      | some n => if !(ilt n k.min) && !(ilt k.max n) then .val (.int k n) else .no
      | none => .no
    | _ => .no
  | .fltSame k => match vs with
    | [.flt s b] => match decEq s k with
      | .isTrue _ => .val (.flt k b)
      | .isFalse _ => .no
    | _ => .no
  | .slcR len sz lo hi => slcWith (sliceR len sz) lo hi vs
  | .rngm => match vs with
    | [.nilm] => .new (.iter none 0 [] 0) .ptr
    | [.mp n] => match PT.get n H with
      | some (.map _ clock) => .new (.iter (some n) clock [] clock) .ptr
      | _ => .no
    | _ => .no
  | .nxt => match vs with
    | [.ptr r 0] => nextA H x r
    | _ => .no
  | .ent => match vs with
    | [.ptr r 0] => entryA H r
    | _ => .no
  | .xt k => xtA k vs

def lookAll (place : Nat → Option (Nat × Nat)) : List Nat → Option (List (Nat × Nat))
  | [] => some []
  | n :: l => match place n with
    | some p => if Nat.blt 0 p.2 then (match lookAll place l with
      | some r => some (p :: r)
      | none => none) else none
    | none => none
def isConst : Operand → Bool
  | .const _ => true
  | _ => false
/-- Where two values of a type are held against one another, the model looks no further. -/
def eqFree (P : Program) (t : TypeId) (x y : Operand) : Bool :=
  match P.underlying t with
  | some (.interface _) => isConst x || isConst y
  | some (.struct _) => !(P.eqGuardType P.depth t)
  | some .bool | some (.pointer _) | some (.slice _) | some (.map _ _) | some (.func _ _ _) => true
  | _ => false

/-- An operation of the program as the evaluator has it, and its operands. -/
def cop (P : Program) (o : Oper) : Option (List Operand × COp) :=
  match o.op with
  | .move x => some ([x], .mv)
  | .assign x => some ([x], .mv)
  | .pick c a b => some ([c, a, b], .pick)
  | .alloc e => match P.info? e with
    | some i => match i.zero with
      | some z => match toAVs z.cells.toList with
        | some l => some ([], .alloc e l)
        | none => none
      | none => none
    | none => none
  | .box e x => some ([x], .box e)
  | .build t parts => match P.info? t, P.underlying t with
    | some it, some (.struct fs) => match it.zero, fs.toList.mapM (fun f => (P.info? f.type).map fun i => (f.offset, i.size)) with
      | some z, some places => match toAVs z.cells.toList, lookAll (places.toArray[·]?) (parts.toList.map (·.1)) with
        | some l, some pl => some (parts.toList.map (·.2), .build l pl)
        | _, _ => none
      | _, _ => none
    | _, _ => none
  | .buildSlice t len parts => match P.underlying t with
    | some (.slice e) => match P.info? e with
      | some i => match i.zero with
        | some z => match toAVs z.cells.toList, lookAll (fun k => some (k * i.size, i.size)) (parts.toList.map (·.1)) with
          | some l, some pl => if Nat.beq z.cells.size i.size && Nat.blt 0 i.size && Nat.ble (len * i.size) 16777216 then some (parts.toList.map (·.2), .buildS e i.size len l pl) else none
          | _, _ => none
        | none => none
      | none => none
    | _ => none
  | .load t a => match P.underlying t, P.info? t with
    | some d, some i => some ([a], .load (aggT d) (if aggT d then i.size else 1))
    | _, _ => none
  | .store t a x => match P.info? t with
    | some i => some ([a, x], .store i.size)
    | none => none
  | .nilCheck x => some ([x], .nck)
  | .binOp op t x y _ => match op with
    | .shl => match P.underlying t with
      | some (.int _) => some ([x, y], .shf true)
      | _ => none
    | .shr => match P.underlying t with
      | some (.int _) => some ([x, y], .shf false)
      | _ => none
    | op => match P.underlying t with
      | some (.int _) => some ([x, y], .bin op)
      | some (.float _) => some ([x, y], .bin op)
      | some .string => some ([x, y], .bin op)
      | _ => match op with
        | .eql => if eqFree P t x y then (match eqT P 60 t with | some E => some ([x, y], .eq E false) | none => none) else none
        | .neq => if eqFree P t x y then (match eqT P 60 t with | some E => some ([x, y], .eq E true) | none => none) else none
        | _ => none
  | .unOp op _ x => match op with
    | .not => some ([x], .not)
    | .neg => some ([x], .neg)
    | _ => none
  | .convert src dst x => match P.underlying src, P.underlying dst with
    | some (.int _), some (.int k) => some ([x], .toInt k)
    | some .string, some .string => some ([x], .same)
    | some .string, some (.slice e) => match P.underlying e with
      | some (.int .u8) => some ([x], .s2b e)
      | _ => none
    | some (.slice e), some .string => match P.underlying e with
      | some (.int .u8) => some ([x], .b2s)
      | _ => none
    | some (.slice _), some (.slice e) => match Nat.beq src dst, P.underlying e with
      | true, some (.int .u8) => some ([x], .mark)
      | _, _ => none
    | some (.int _), some (.float k) => some ([x], .toFlt k)
    | some (.float _), some (.int k) => some ([x], .fltInt k)
    | some (.float _), some (.float k) => some ([x], .fltSame k)
    | _, _ => none
  | .makeInterface t x => if P.concrete t then some ([x], .mkI t) else none
  | .fieldAddr s x f => match P.underlying s with
    | some (.struct fs) => match fs[f]? with
      | some fd => match P.info? fd.type with
        | some i => if Nat.beq i.size 0 then none else some ([x], .fieldA fd.offset)
        | none => none
      | none => none
    | _ => none
  | .field t x f => match P.underlying t with
    | some (.struct fs) => match fs[f]? with
      | some fd => match P.underlying fd.type, P.info? fd.type with
        | some d, some i => some ([x], .field (aggT d) i.size fd.offset)
        | _, _ => none
      | none => none
    | _ => none
  | .indexAddr t x ix => match P.underlying t with
    | some (.slice e) => match P.info? e with
      | some i => some ([x, ix], .idxA i.size)
      | none => none
    | some (.array len e) => match P.info? e with
      | some i => some ([x, ix], .idxR i.size len)
      | none => none
    | _ => none
  | .index t x ix => match P.underlying t with
    | some .string => some ([x, ix], .idxS)
    | _ => none
  | .slice t x lo hi mx => match mx with
    | some _ => none
    | none => match P.underlying t with
      | some (.slice e) => match P.info? e with
        | some i => some (x :: (lo.toList ++ hi.toList), .slc i.size lo.isSome hi.isSome)
        | none => none
      | some .string => some (x :: (lo.toList ++ hi.toList), .slcS lo.isSome hi.isSome)
      | some (.array n e) => match P.info? e with
        | some i => some (x :: (lo.toList ++ hi.toList), .slcR n i.size lo.isSome hi.isSome)
        | none => none
      | _ => none
  | .makeSlice t l c => match P.underlying t with
    | some (.slice e) => match P.info? e with
      | some i => match i.zero with
        | some z => match toAVs z.cells.toList with
          | some za => if Nat.beq z.cells.size i.size && Nat.blt 0 i.size then some ([l, c], .mks e i.size i.bytes za) else none
          | none => none
        | none => none
      | none => none
    | _ => none
  | .extract t i => some ([t], .ext i)
  | .range t x => match P.underlying t with
    | some (.map _ _) => some ([x], .rngm)
    | _ => none
  | .next it isS => match isS with
    | false => some ([it], .nxt)
    | true => none
  | .entry it => some ([it], .ent)
  | .makeFunc fn first captured => some (first.toList ++ captured.toList, .mkfn fn (lenL first.toList))
  | .makeMap t r => match P.underlying t with
    | some (.map _ _) => some (r.toList, .mkmap)
    | _ => none
  | .lookup t x ix ok => match P.underlying t with
    | some (.map kt et) => match eqT P 60 kt, P.underlying kt, P.info? et with
      | some E, some _, some i => match i.zero with
        | some z => match toAVa z with
          | some za => some ([x, ix], .look E za ok)
          | none => none
        | none => none
      | _, _, _ => none
    | _ => none
  | .mapUpdate t m k v => match P.underlying t with
    | some (.map kt _) => match eqT P 60 kt, P.underlying kt with
      | some E, some _ => some ([m, k, v], .upd E)
      | _, _ => none
    | _ => none
  | .insert t m k v => match P.underlying t with
    | some (.map kt _) => match eqT P 60 kt, P.underlying kt with
      | some E, some _ => some ([m, k, v], .upd E)
      | _, _ => none
    | _ => none
  | .call c => match c.callee with
    | .value (.func f) => match xkOf P f with
      | some k => some (c.args.toList, .xt k)
      | none => some (c.args.toList, .call f)
    | .value x => some (x :: c.args.toList, .callv)
    | .builtin .append => match c.argTypes.toList with
      | [t, u] => match P.underlying t, P.underlying u with
        | some (.slice e), some d => match P.info? e with
          | some i => match i.zero with
            | some z => if notInt d && Nat.beq z.cells.size i.size then some (c.args.toList, .app e i.size i.bytes (Nat.beq i.size 1)) else none
            | none => none
          | none => none
        | _, _ => none
      | _ => none
    | .builtin .len => match c.argTypes.toList with
      | [t] => match P.underlying t with
        | some .string => some (c.args.toList, .len 0)
        | some (.slice _) => some (c.args.toList, .len 1)
        | some (.map _ _) => some (c.args.toList, .len 2)
        | _ => none
      | _ => none
    | .builtin .max => some (c.args.toList, .mx)
    | .builtin .min => some (c.args.toList, .mn)
    | _ => none
  | _ => none
end
end Go.Proofs.YtldjbgklmeigmaaGreatDoor.Ev

namespace Go.Proofs.YtldjbgklmeigmaaGreatDoor.Ev
open Go Go.RowKit
noncomputable section
section
variable {P : Program} {W : World} {Fr : Nat → Prop} {σ : Map} {x : Ps} {H : Heap} {w : World}

theorem Spec.of_val {r : Result Value} {a : AV} {u : Value} (h1 : conc σ a = some u) (h2 : r = .ok u w) : Spec P W Fr σ x w (r.andThen fun v w' => .ok (.value v) w') (.val a) :=
  ⟨u, h1, .inl (by rw [h2]; rfl)⟩
theorem run_v (s : Sem Value) : (do pure (Next.value (← s)) : Sem Next).run P w = (s.run P w).andThen fun v w' => .ok (.value v) w' := by simp
theorem run_u (s : Sem Unit) : (do s; pure Next.skip : Sem Next).run P w = (s.run P w).andThen fun _ w' => .ok .skip w' := by simp

theorem concL1 {u : Value} {vs : List AV} (h : concL σ vs = some [u]) : ∃ b, vs = [b] ∧ conc σ b = some u := by
  obtain ⟨h1, h2⟩ := concL_get h
  match vs, h1 with
  | [b], _ => obtain ⟨v, e1, e2⟩ := h2 0 b (by simp); simp at e1; subst e1; exact ⟨b, rfl, e2⟩
theorem concL_cons {a : AV} {l : List AV} {us : List Value} (h : concL σ (a :: l) = some us) : ∃ u vs, us = u :: vs ∧ conc σ a = some u ∧ concL σ l = some vs := by
  cases ha : conc σ a with
  | none => simp [concL, ha] at h
  | some u =>
    cases hl : concL σ l with
    | none => simp [concL, ha, hl] at h
    | some vs => simp [concL, ha, hl] at h; exact ⟨u, vs, h.symm, rfl, rfl⟩
theorem concL_nil {us : List Value} (h : concL σ [] = some us) : us = [] := by simpa [concL] using h.symm

theorem ordIs_eq (o : Option Ordering) (p : Ordering) : ordIs o p = (o == some p) := by cases o with
  | none => cases p <;> rfl
  | some q => cases q <;> cases p <;> rfl
theorem fltA_spec {op : BinOp} {t : TypeId} {k : FloatKind} {a b : Nat} {r : AV} (h : fltA op k a b = some r) : ∃ q, conc σ r = some q ∧ (binOp op t (.float k a) (.float k b)).run P w = .ok q w := by
  have ho : ∀ o : Option Nat, fltO k o = some r → ∃ n, o = some n ∧ r = .flt k n := fun o h => by
    cases o with
    | none => cases h
    | some n => cases h; exact ⟨n, rfl, rfl⟩
  cases op <;> simp only [fltA] at h <;> try (cases h; done)
  case add => obtain ⟨n, h1, rfl⟩ := ho _ h; exact ⟨_, by simp only [conc]; rfl, by simp [binOp, Op.floatArith, h1]⟩
  case sub => obtain ⟨n, h1, rfl⟩ := ho _ h; exact ⟨_, by simp only [conc]; rfl, by simp [binOp, Op.floatArith, h1]⟩
  case mul => obtain ⟨n, h1, rfl⟩ := ho _ h; exact ⟨_, by simp only [conc]; rfl, by simp [binOp, Op.floatArith, h1]⟩
  case quo => obtain ⟨n, h1, rfl⟩ := ho _ h; exact ⟨_, by simp only [conc]; rfl, by simp [binOp, Op.floatArith, h1]⟩
  all_goals
    simp only [ordIs_eq, Option.some.injEq] at h
    subst h
    exact ⟨_, by simp only [conc]; rfl, by simp [binOp, Op.floatCmp, bne]⟩
/-- What a result binary operation says. -/
theorem binA_spec {op : BinOp} {t : TypeId} {a b r : AV} {u v : Value} (ha : conc σ a = some u) (hb : conc σ b = some v) (h : binA op a b = some r) (hs : op ≠ .shl) (hs' : op ≠ .shr) :
    ∃ q, conc σ r = some q ∧ (binOp op t u v).run P w = .ok q w := by
  unfold binA at h
  split at h
  · rename_i k x1 j x2
    simp only [conc, Option.some.injEq] at ha hb
    subst ha hb
    split at h
    · cases h
    · rename_i hjk _
      subst hjk
      have hlt : ∀ a b : Int, (!(ilt a b)) = decide (b ≤ a) := fun a b => by rw [ilt_iff]; by_cases h : a < b <;> simp [h] <;> omega
      have hz : ieq x2 0 = decide (x2 = 0) := by rw [ieq_eq]; by_cases h : x2 = 0 <;> simp [h]
      cases op <;> try (cases h; done)
      case add => simp only [Option.some.injEq] at h; subst h; exact ⟨_, by simp only [conc]; rfl, by simp [binOp, Op.intArith, wrapI_eq]⟩
      case sub => simp only [Option.some.injEq] at h; subst h; exact ⟨_, by simp only [conc]; rfl, by simp [binOp, Op.intArith, wrapI_eq]⟩
      case mul => simp only [Option.some.injEq] at h; subst h; exact ⟨_, by simp only [conc]; rfl, by simp [binOp, Op.intArith, wrapI_eq]⟩
      case quo =>
        simp only [hz] at h
        split at h
        · cases h
        · rename_i hne
          have hne : x2 ≠ 0 := by simpa using hne
          simp only [Option.some.injEq] at h; subst h
          exact ⟨_, by simp only [conc]; rfl, by simp [binOp, Op.intDiv, hne, wrapI_eq]⟩
      case rem =>
        simp only [hz] at h
        split at h
        · cases h
        · rename_i hne
          have hne : x2 ≠ 0 := by simpa using hne
          simp only [Option.some.injEq] at h; subst h
          exact ⟨_, by simp only [conc]; rfl, by simp [binOp, Op.intDiv, hne]⟩
      case eql => simp only [Option.some.injEq] at h; subst h; exact ⟨_, by simp only [conc]; rfl, by simp [binOp, Op.intCmp, ieq_eq]⟩
      case neq => simp only [Option.some.injEq] at h; subst h; exact ⟨_, by simp only [conc]; rfl, by simp [binOp, Op.intCmp, ieq_eq, bne]⟩
      case lss => simp only [Option.some.injEq] at h; subst h; exact ⟨_, by simp only [conc]; rfl, by simp [binOp, Op.intCmp, ilt_iff]⟩
      case gtr => simp only [Option.some.injEq] at h; subst h; exact ⟨_, by simp only [conc]; rfl, by simp [binOp, Op.intCmp, ilt_iff]⟩
      case leq => simp only [Option.some.injEq, hlt] at h; subst h; exact ⟨_, by simp only [conc]; rfl, by simp [binOp, Op.intCmp]⟩
      case geq => simp only [Option.some.injEq, hlt] at h; subst h; exact ⟨_, by simp only [conc]; rfl, by simp [binOp, Op.intCmp]⟩
      case and => simp only [Option.some.injEq] at h; subst h; exact ⟨_, by simp only [conc]; rfl, by simp [binOp, Op.intBits, wrapI_eq]⟩
      case or => simp only [Option.some.injEq] at h; subst h; exact ⟨_, by simp only [conc]; rfl, by simp [binOp, Op.intBits, wrapI_eq]⟩
      case xor => simp only [Option.some.injEq] at h; subst h; exact ⟨_, by simp only [conc]; rfl, by simp [binOp, Op.intBits, wrapI_eq]⟩
      case andNot => simp only [Option.some.injEq] at h; subst h; exact ⟨_, by simp only [conc]; rfl, by simp [binOp, Op.intBits, wrapI_eq]⟩
  · rename_i k x1 j x2
    simp only [conc, Option.some.injEq] at ha hb
    subst ha hb
    split at h
    · cases h
    · rename_i hjk _
      subst hjk
      exact fltA_spec h
  · rename_i l n m q
    obtain ⟨h1, rfl⟩ := conc_str ha
    obtain ⟨h2, rfl⟩ := conc_str hb
    have hsz : ∀ l n, (⟨(dec l n).toArray⟩ : ByteArray).size = l := fun l n => by simp [ByteArray.size, length_dec]
    split at h
    · split at h
      · rename_i hle
        have hle := Nat.le_of_ble_eq_true hle
        simp only [Option.some.injEq] at h
        subst h
        refine ⟨.string (⟨(dec l n).toArray⟩ ++ ⟨(dec m q).toArray⟩), ?_, ?_⟩
        · simp only [conc]
          rw [if_pos (by
            rw [Nat.pow_add]
            have : q + 1 ≤ 256 ^ m := h2
            have := Nat.mul_le_mul_right (256 ^ l) this
            rw [Nat.add_mul, Nat.mul_comm (256 ^ m)] at this
            omega)]
          rw [dec_append l m n q h1]
          congr 2
        · have := run_string_add_sum (P := P) w ⟨(dec l n).toArray⟩ ⟨(dec m q).toArray⟩ (by rw [hsz, hsz]; omega)
          simpa [binOp] using this
      · cases h
    · simp only [Option.some.injEq] at h
      subst h
      rw [str_eq h1 h2]
      exact ⟨_, by simp only [conc]; rfl, by simp [binOp, Op.stringOp]⟩
    · simp only [Option.some.injEq] at h
      subst h
      rw [str_eq h1 h2]
      exact ⟨_, by simp only [conc]; rfl, by simp [binOp, Op.stringOp]⟩
    · cases h
  · cases h

theorem eqGuard_plain (op : BinOp) (t : TypeId) (X Y : Operand) : ∀ (u v : Value), ¬ (u = .nilIface ∧ v = .nilIface) → (¬ ∃ xs ys, u = .agg xs ∧ v = .agg ys) → (eqGuard op t X Y u v).run P w = .ok () w := by
  intro u v h1 h2
  have key : eqGuard op t X Y u v = (if (!(match op with | .eql | .neq => true | _ => false)) = true then pure () else pure () : Sem Unit) := by
    cases u <;> first
      | (cases v <;> first | (exact absurd ⟨rfl, rfl⟩ h1) | rfl)
      | (cases v <;> first | (exact absurd ⟨_, _, rfl, rfl⟩ h2) | rfl)
      | rfl
  rw [key]
  split <;> rfl
theorem conc_nili {a : AV} (h : conc σ a = some .nilIface) : a = .nili := by
  cases a with
  | nili => rfl
  | str l n => obtain ⟨_, h⟩ := conc_str h; cases h
  | slc n o l c =>
    cases hn : σ n with
    | none => cases c <;> simp [conc, hn] at h
    | some s =>
      cases c with
      | known c => simp [conc, hn] at h
      | open_ k => simp only [conc, hn, Option.bind_some] at h; split at h <;> simp at h
  | fn f a b =>
    cases ha : concL σ a with
    | none => simp [conc, ha] at h
    | some x =>
      cases hb : concL σ b with
      | none => simp [conc, ha, hb] at h
      | some y => simp [conc, ha, hb] at h
  | _ => simp [conc] at h
theorem conc_agg {a : AV} {xs : Array Value} (h : conc σ a = some (.agg xs)) : ∃ l, a = .agg l := by
  cases a with
  | agg l => exact ⟨l, rfl⟩
  | str l n => obtain ⟨_, h⟩ := conc_str h; cases h
  | slc n o l c =>
    cases hn : σ n with
    | none => cases c <;> simp [conc, hn] at h
    | some s =>
      cases c with
      | known c => simp [conc, hn] at h
      | open_ k => simp only [conc, hn, Option.bind_some] at h; split at h <;> simp at h
  | fn f a b =>
    cases ha : concL σ a with
    | none => simp [conc, ha] at h
    | some x =>
      cases hb : concL σ b with
      | none => simp [conc, ha, hb] at h
      | some y => simp [conc, ha, hb] at h
  | _ => simp [conc] at h
theorem eqT_ifc {f : Nat} {t : TypeId} (h : eqT P f t = some .ifc) : ∃ ms, P.underlying t = some (.interface ms) := by
  cases f with
  | zero => simp [eqT] at h
  | succ f =>
    rw [eqT] at h
    cases ht : P.underlying t with
    | none => simp [ht] at h
    | some d =>
      simp only [ht] at h
      cases d <;> (try (simp at h; done))
      · simp only at h
        split at h
        · cases h
        · split at h <;> cases h
      · exact ⟨_, rfl⟩
theorem eqT_st {f : Nat} {t : TypeId} {l : List (Nat × Bool × Nat × EqT)} (h : eqT P f t = some (.st l)) : ∃ fs, P.underlying t = some (.struct fs) := by
  cases f with
  | zero => simp [eqT] at h
  | succ f =>
    rw [eqT] at h
    cases ht : P.underlying t with
    | none => simp [ht] at h
    | some d =>
      simp only [ht] at h
      cases d <;> (try (simp at h; done))
      exact ⟨_, rfl⟩
/-- A comparison of values that are no numbers and no texts. -/
theorem run_eqGuard {f : Nat} {t : TypeId} {E : EqT} (hE : eqT P f t = some E) {X Y : Operand} (hfree : eqFree P t X Y = true) {a b : AV} {u v : Value} {r : Bool} (ha : conc σ a = some u) (hb : conc σ b = some v)
    (h : eqE E a b = some r) (op : BinOp) : (eqGuard op t X Y u v).run P w = .ok () w := by
  by_cases h1 : u = .nilIface ∧ v = .nilIface
  · obtain ⟨rfl, rfl⟩ := h1
    have e1 := conc_nili ha
    have e2 := conc_nili hb
    subst e1 e2
    cases E <;> (try (simp [eqE] at h; done))
    obtain ⟨ms, ht⟩ := eqT_ifc hE
    have hc : (isConst X || isConst Y) = true := by simpa [eqFree, ht] using hfree
    unfold eqGuard
    cases op <;> (try rfl) <;> (cases X <;> cases Y <;> (try (simp [isConst] at hc; done)) <;> simp)
  · by_cases h2 : ∃ xs ys, u = .agg xs ∧ v = .agg ys
    · obtain ⟨xs, ys, rfl, rfl⟩ := h2
      obtain ⟨l, rfl⟩ := conc_agg ha
      obtain ⟨m, rfl⟩ := conc_agg hb
      cases E <;> (try (simp [eqE] at h; done))
      obtain ⟨fs, ht⟩ := eqT_st hE
      have hc : P.eqGuardType P.depth t = false := by simpa [eqFree, ht] using hfree
      exact run_eqGuard_agg w op t X Y xs ys hc
    · exact eqGuard_plain op t X Y u v h1 h2
theorem run_eq_gen {f : Nat} {t : TypeId} {E : EqT} (hE : eqT P f t = some E) (hf : f ≤ 10000) {X Y : Operand} (hfree : eqFree P t X Y = true) {a b : AV} {u v : Value} {r : Bool} (ha : conc σ a = some u) (hb : conc σ b = some v)
    (h : eqE E a b = some r) : (do eqGuard .eql t X Y u v; binOp .eql t u v : Sem Value).run P w = .ok (.bool r) w ∧ (do eqGuard .neq t X Y u v; binOp .neq t u v : Sem Value).run P w = .ok (.bool (!r)) w := by
  have heq := eqT_spec (P := P) (w := w) f t E hE 10000 hf a b u v r ha hb h
  have g1 := run_eqGuard (w := w) hE hfree ha hb h .eql
  have g2 := run_eqGuard (w := w) hE hfree ha hb h .neq
  have hbin : binOp .eql t u v = (do pure (.bool (← Op.equal t u v))) ∧ binOp .neq t u v = (do pure (.bool (!(← Op.equal t u v)))) := by
    have hi : E ≠ .int ∧ E ≠ .str := by
      constructor
      · rintro rfl
        cases f with
        | zero => simp [eqT] at hE
        | succ f =>
          rw [eqT] at hE
          cases ht : P.underlying t with
          | none => simp [ht] at hE
          | some d =>
            simp only [ht] at hE
            cases d <;> (try (simp at hE; done)) <;> (try (simp [eqFree, ht] at hfree; done))
            simp only at hE
            split at hE
            · cases hE
            · split at hE <;> cases hE
      · rintro rfl
        cases f with
        | zero => simp [eqT] at hE
        | succ f =>
          rw [eqT] at hE
          cases ht : P.underlying t with
          | none => simp [ht] at hE
          | some d =>
            simp only [ht] at hE
            cases d <;> (try (simp at hE; done)) <;> (try (simp [eqFree, ht] at hfree; done))
            simp only at hE
            split at hE
            · cases hE
            · split at hE <;> cases hE
    have hslc : ∀ {n : Ps} {o l : Nat} {c : Room} {v : Value}, conc σ (.slc n o l c) = some v → ∃ p l c, v = .slice p l c := by
      intro n o l c v h
      cases hn : σ n with
      | none => cases c <;> simp [conc, hn] at h
      | some s =>
        cases c with
        | known c => simp [conc, hn] at h; exact ⟨_, _, _, h.symm⟩
        | open_ k => simp only [conc, hn, Option.bind_some] at h; split at h <;> simp at h; exact ⟨_, _, _, h.symm⟩
    have hfn : ∀ {f : Fn} {a b : List AV} {v : Value}, conc σ (.fn f a b) = some v → ∃ x y, v = .func f x y := by
      intro f a b v h
      cases ha : concL σ a with
      | none => simp [conc, ha] at h
      | some x =>
        cases hb : concL σ b with
        | none => simp [conc, ha, hb] at h
        | some y => simp [conc, ha, hb] at h; exact ⟨_, _, h.symm⟩
    cases E with
    | int => exact absurd rfl hi.1
    | str => exact absurd rfl hi.2
    | bool =>
      cases a <;> try (simp [eqE] at h; done)
      simp only [conc, Option.some.injEq] at ha
      subst ha
      cases v <;> exact ⟨rfl, rfl⟩
    | ptr =>
      cases a <;> try (simp [eqE] at h; done)
      · cases b <;> try (simp [eqE] at h; done)
        all_goals
          simp only [conc, Option.some.injEq, Option.map_eq_some_iff] at ha hb
          first
            | (subst ha hb; exact ⟨rfl, rfl⟩)
            | (obtain ⟨_, _, rfl⟩ := hb; subst ha; exact ⟨rfl, rfl⟩)
      · cases b <;> try (simp [eqE] at h; done)
        simp only [conc, Option.some.injEq, Option.map_eq_some_iff] at ha hb
        obtain ⟨_, _, rfl⟩ := ha; subst hb; exact ⟨rfl, rfl⟩
    | slc =>
      have : ∃ p l c, u = .slice p l c := by
        cases a <;> try (simp [eqE] at h; done)
        · simp only [conc, Option.some.injEq] at ha; exact ⟨_, _, _, ha.symm⟩
        · exact hslc ha
      obtain ⟨p, l, c, rfl⟩ := this
      have : ∃ p l c, v = .slice p l c := by
        cases a <;> try (simp [eqE] at h; done)
        all_goals cases b <;> try (simp [eqE] at h; done)
        · simp only [conc, Option.some.injEq] at hb; exact ⟨_, _, _, hb.symm⟩
        · exact hslc hb
        · simp only [conc, Option.some.injEq] at hb; exact ⟨_, _, _, hb.symm⟩
      obtain ⟨p, l, c, rfl⟩ := this
      exact ⟨rfl, rfl⟩
    | mp =>
      cases a <;> try (simp [eqE] at h; done)
      all_goals cases b <;> try (simp [eqE] at h; done)
      all_goals
        simp only [conc, Option.some.injEq, Option.map_eq_some_iff] at ha hb
        first
          | (subst ha hb; exact ⟨rfl, rfl⟩)
          | (obtain ⟨_, _, rfl⟩ := hb; subst ha; exact ⟨rfl, rfl⟩)
          | (obtain ⟨_, _, rfl⟩ := ha; subst hb; exact ⟨rfl, rfl⟩)
    | fn =>
      cases a <;> try (simp [eqE] at h; done)
      all_goals cases b <;> try (simp [eqE] at h; done)
      · obtain ⟨_, _, rfl⟩ := hfn ha
        simp only [conc, Option.some.injEq] at hb
        subst hb; exact ⟨rfl, rfl⟩
      · obtain ⟨_, _, rfl⟩ := hfn hb
        simp only [conc, Option.some.injEq] at ha
        subst ha; exact ⟨rfl, rfl⟩
      · simp only [conc, Option.some.injEq] at ha hb
        subst ha hb; exact ⟨rfl, rfl⟩
    | ifc =>
      cases a <;> try (simp [eqE] at h; done)
      all_goals cases b <;> try (simp [eqE] at h; done)
      all_goals
        simp only [conc, Option.some.injEq, Option.map_eq_some_iff] at ha hb
        first
          | (subst ha hb; exact ⟨rfl, rfl⟩)
          | (obtain ⟨_, _, rfl⟩ := hb; subst ha; exact ⟨rfl, rfl⟩)
          | (obtain ⟨_, _, rfl⟩ := ha; subst hb; exact ⟨rfl, rfl⟩)
    | st fs =>
      cases a <;> try (simp [eqE] at h; done)
      cases b <;> try (simp [eqE] at h; done)
      simp only [conc, Option.map_eq_some_iff] at ha hb
      obtain ⟨_, _, rfl⟩ := ha
      obtain ⟨_, _, rfl⟩ := hb
      exact ⟨rfl, rfl⟩
  constructor
  · simp only [Sem.run_bind, g1, Result.andThen_ok, hbin.1, Op.equal, Op.maxDepth, heq, Sem.run_pure]
  · simp only [Sem.run_bind, g2, Result.andThen_ok, hbin.2, Op.equal, Op.maxDepth, heq, Sem.run_pure]
end
end
end Go.Proofs.YtldjbgklmeigmaaGreatDoor.Ev

namespace Go.Proofs.YtldjbgklmeigmaaGreatDoor.Ev
open Go Go.RowKit
noncomputable section
section
variable {P : Program} {W : World} {Fr : Nat → Prop} {σ : Map} {x : Ps} {H : Heap} {w : World}

theorem spec_val {s : Sem Value} {a : AV} {u : Value} (h1 : conc σ a = some u) (h2 : s.run P w = .ok u w) : Spec P W Fr σ x w ((do pure (Next.value (← s)) : Sem Next).run P w) (.val a) := by
  rw [run_v, h2]
  exact ⟨u, h1, .inl rfl⟩
theorem spec_eff {s : Sem Unit} {H' : Heap} {w' : World} (h1 : s.run P w = .ok () w') (h2 : Rel P W Fr σ x H' w') : Spec P W Fr σ x w ((do s; pure Next.skip : Sem Next).run P w) (.eff (.tup []) x H') := by
  rw [run_u, h1]
  exact ⟨undef, w', σ, .inr ⟨rfl, rfl⟩, FExt.refl _ _, Nat.le_refl _, h2, by simp [conc, concL, undef]⟩
theorem spec_var {s : Sem Value} {e : TypeId} {l : List AV} {vs : List Value} (hl : concL σ l = some vs) (h : s.run P w = .ok (.pointer (some ⟨w.heap.size, 0, none⟩)) (w.alloc (.cells vs.toArray e))) :
    Spec P W Fr σ x w ((do pure (Next.value (← s)) : Sem Next).run P w) (.new (.cells e (lenL l) false 1 (PT.one (some l) .h)) .ptr) := by
  rw [run_v, h]
  intro yn hyn
  have hex := Map.upd_ext (s := (⟨w.heap.size, 0, 0⟩ : Spot)) hyn
  refine ⟨_, ⟨w.heap.size, 0, 0⟩, _, .inl rfl, NewW.alloc w _, rfl, by simp [Kn.av, conc, Map.upd_same], ?_⟩
  rw [lenL_eq]
  exact ObjOk.var (concL_mono hex _ _ hl) (heap_alloc_at w _) rfl rfl
theorem conc_ptr {n : Ps} {off : Nat} {u : Value} (h : conc σ (.ptr n off) = some u) : ∃ p, u = .pointer (some p) := by
  cases hn : σ n with
  | none => simp [conc, hn] at h
  | some s => simp [conc, hn] at h; exact ⟨_, h.symm⟩
theorem noTups_spec : ∀ {l : List AV}, noTups l = true → ∀ a ∈ l, ∀ m, a ≠ .tup m
  | [], _ => by simp
  | b :: l, h => by
    simp only [noTups] at h
    split at h
    · rename_i hb
      intro a ha m
      rcases List.mem_cons.1 ha with rfl | ha
      · rintro rfl; simp [isNoTup] at hb
      · exact noTups_spec h a ha m
    · cases h
theorem isNoTup_spec {a : AV} (h : isNoTup a = true) : ∀ m, a ≠ .tup m := fun m e => by subst e; simp [isNoTup] at h
theorem lookAll_spec {place : Nat → Option (Nat × Nat)} : ∀ {ns : List Nat} {pl : List (Nat × Nat)}, lookAll place ns = some pl → ns.map place = pl.map some ∧ ∀ p ∈ pl, 0 < p.2
  | [], pl, h => by simp [lookAll] at h; subst h; simp
  | n :: ns, pl, h => by
    simp only [lookAll] at h
    split at h
    · rename_i p hp
      split at h
      · rename_i hz
        split at h
        · rename_i r hr
          cases h
          obtain ⟨h1, h2⟩ := lookAll_spec hr
          refine ⟨by simp [hp, h1], fun q hq => ?_⟩
          rcases List.mem_cons.1 hq with rfl | hq
          · exact blt_lt hz
          · exact h2 q hq
        · cases h
      · cases h
    · cases h
theorem splitS_spec {α : Type} : ∀ (n : Nat) (l a b : List α), splitS n l = some (a, b) → l = a ++ b ∧ a.length = n
  | 0, l, a, b, h => by simp [splitS] at h; obtain ⟨rfl, rfl⟩ := h; simp
  | n + 1, [], a, b, h => by simp [splitS] at h
  | n + 1, c :: l, a, b, h => by
    simp only [splitS] at h
    split at h
    · rename_i p q hpq
      cases h
      obtain ⟨h1, h2⟩ := splitS_spec n l p b hpq
      simp [h1, h2]
    · cases h
theorem concL_append {l m : List AV} {us : List Value} (h : concL σ (l ++ m) = some us) : ∃ a b, us = a ++ b ∧ concL σ l = some a ∧ concL σ m = some b := by
  induction l generalizing us with
  | nil => exact ⟨[], us, rfl, by simp [concL], h⟩
  | cons c l ih =>
    obtain ⟨u, vs, rfl, h1, h2⟩ := concL_cons h
    obtain ⟨a, b, rfl, h3, h4⟩ := ih h2
    exact ⟨u :: a, b, rfl, by simp [concL, h1, h3], h4⟩
theorem concL_append_mk {l m : List AV} {a b : List Value} (h1 : concL σ l = some a) (h2 : concL σ m = some b) : concL σ (l ++ m) = some (a ++ b) := by
  induction l generalizing a with
  | nil => simp [concL] at h1; subst h1; exact h2
  | cons c l ih =>
    obtain ⟨u, vs, rfl, k1, k2⟩ := concL_cons h1
    have := ih k2
    simp [concL, k1, this]
theorem conc_fn {f : Fn} {a b : List AV} {u : Value} (h : conc σ (.fn f a b) = some u) : ∃ x y, concL σ a = some x ∧ concL σ b = some y ∧ u = .func f x.toArray y.toArray := by
  cases ha : concL σ a with
  | none => simp [conc, ha] at h
  | some x =>
    cases hb : concL σ b with
    | none => simp [conc, ha, hb] at h
    | some y => simp [conc, ha, hb] at h; exact ⟨x, y, rfl, rfl, h.symm⟩
theorem run_callFunc {f : FuncId} (h : okFn P f = true) (args : Array Value) : (callFunc f args).run P w = .ok (.enter f args) w := by
  unfold okFn at h
  split at h
  · rename_i fn hf
    simp only [Bool.and_eq_true, Bool.not_eq_true'] at h
    obtain ⟨h1, h2⟩ := h
    have h1' : ¬ fn.name = "runtime.NumGoroutine" := by simpa using h1
    have h3 : ¬ fn.body = none := by cases hb : fn.body <;> simp [hb] at h2 ⊢
    simp [callFunc, program, Sem.run, hf, h1', h3]
  · cases h
theorem chunk_spec {z : Nat} : ∀ (n : Nat) (l : List AV) (r : List (List AV)), chunk z n l = some r → r.flatten = l ∧ r.length = n ∧ ∀ m ∈ r, m.length = z
  | 0, l, r, h => by
    cases l with
    | nil => simp [chunk] at h; subst h; simp
    | cons a l => simp [chunk] at h
  | n + 1, l, r, h => by
    simp only [chunk] at h
    split at h
    · rename_i a ha
      split at h
      · rename_i q hq
        cases h
        obtain ⟨h1, h2⟩ := takeS_spec _ _ _ ha
        obtain ⟨h3, h4, h5⟩ := chunk_spec n _ q hq
        refine ⟨by rw [List.flatten_cons, h3, h1, dropS_spec, List.take_append_drop], by simp [h4], fun m hm => ?_⟩
        rcases List.mem_cons.1 hm with rfl | hm
        · exact h2
        · exact h5 m hm
      · cases h
    · cases h
theorem allLen_of {z : Nat} : ∀ (r : List (List AV)), (∀ l ∈ r, l.length = z) → allLen z r = true := by
  intro r hr
  induction r with
  | nil => rfl
  | cons a r ih =>
    have := hr a (by simp)
    simp only [allLen, this, Nat.beq_refl, if_true]
    exact ih (fun l hl => hr l (by simp [hl]))
theorem repL_get {z : List AV} {n j : Nat} (hz : 0 < z.length) : (repL z n)[j]? = if j < n * z.length then z[j % z.length]? else none := by
  induction n generalizing j with
  | zero => simp [repL]
  | succ n ih =>
    simp only [repL]
    by_cases hj : j < z.length
    · rw [List.getElem?_append_left hj, if_pos (by rw [Nat.add_mul]; omega), Nat.mod_eq_of_lt hj]
    · rw [List.getElem?_append_right (by omega), ih]
      have : j % z.length = (j - z.length) % z.length := by
        rw [← Nat.mod_eq_sub_mod (by omega)]
      rw [this]
      by_cases h : j - z.length < n * z.length
      · rw [if_pos h, if_pos (by rw [Nat.add_mul]; omega)]
      · rw [if_neg h, if_neg (by rw [Nat.add_mul]; omega)]
theorem repL_len {z : List AV} : ∀ n, (repL z n).length = n * z.length
  | 0 => by simp [repL]
  | n + 1 => by simp [repL, repL_len n, Nat.add_mul]; omega
theorem repL_conc {z : List AV} {zs : Array Value} (h : concL σ z = some zs.toList) (hz : 0 < zs.size) (n : Nat) : concL σ (repL z n) = some ((Array.range (n * zs.size)).map (zs[· % zs.size]!)).toList := by
  obtain ⟨h1, h2⟩ := concL_get h
  have hl : z.length = zs.size := by simpa using h1
  refine concL_of (by rw [repL_len]; simp [hl]) (fun j a ha => ?_)
  rw [repL_get (by omega)] at ha
  split at ha
  · rename_i hj
    obtain ⟨v, e1, e2⟩ := h2 _ a ha
    refine ⟨v, ?_, e2⟩
    rw [Array.getElem?_toList, Array.getElem?_map, hl] at *
    rw [Array.getElem?_range]
    rw [hl] at hj
    simp only [hj, if_true, Option.map_some]
    have hm : j % zs.size < zs.size := Nat.mod_lt _ hz
    rw [hl] at e1
    rw [Array.getElem?_eq_getElem hm] at e1
    simp only [Option.some.injEq] at e1 ⊢
    rw [getElem!_pos zs _ hm]; exact e1
  · cases ha

theorem exec_buildS (ρ : Operand → Value) (dst : Option Tmp) (t : TypeId) (len : Nat) (parts : Array (Nat × Operand)) (ty : TypeId) (pos : String) (after : Array Edge) (guard : Option (Nat × Bool)) :
    execOp ρ ⟨dst, .buildSlice t len parts, ty, pos, after, guard⟩ = (do pure (Next.value (← Instr.buildSlice t len (parts.map fun (i, X) => (i, ρ X))))) := rfl
theorem run_buildS {t e : TypeId} {i : TypeInfo} {z : Value} (hu : P.underlying t = some (.slice e)) (hi : P.info? e = some i) (hz : i.zero = some z) (c1 : z.cells.size = i.size) {len : Nat} (c3 : ¬ (len * i.size > 2 ^ 24))
    {pz : Array (Nat × Value)} {rs : Array Value} (r2 : Instr.fill (fun k => some (k * i.size, i.size)) ((Array.range (len * i.size)).map (fun x => z.cells[x % i.size]!)) pz.toList = some rs) :
    (Instr.buildSlice t len pz).run P w = .ok (.slice (some ⟨w.heap.size, 0, none⟩) len len) (w.alloc (.cells rs e)) := by
  unfold Instr.buildSlice
  simp only [Sem.run_bind, run_underlying hu, Result.andThen_ok, run_sizeOf hi, if_neg c3]
  by_cases h0 : len * i.size = 0
  · rw [if_pos h0]
    simp only [h0, Array.range_zero'] at r2 ⊢
    have e1 : ∀ f : Nat → Value, Array.map f #[] = #[] := fun f => by simp
    rw [e1] at r2
    simp only [Sem.run_bind, Sem.run_pure, Result.andThen_ok]
    rw [e1, r2]
    simp [newRow]
  · rw [if_neg h0]
    simp only [Sem.run_bind, run_zeroValue hi hz, Result.andThen_ok, Sem.run_pure, c1]
    rw [r2]
    simp [newRow]
end
end
end Go.Proofs.YtldjbgklmeigmaaGreatDoor.Ev

namespace Go.Proofs.YtldjbgklmeigmaaGreatDoor.Ev
open Go Go.RowKit
noncomputable section
section
variable {P : Program} {W : World} {Fr : Nat → Prop} {σ : Map} {x : Ps} {H : Heap} {w : World}
/-- What an operation must say. -/
def Says (P : Program) (W : World) (Fr : Nat → Prop) (σ : Map) (x : Ps) (H : Heap) (w : World) (op : Op) : Prop :=
  ∀ (dst : Option Tmp) (ty : TypeId) (pos : String) (after : Array Edge) (guard : Option (Nat × Bool)) (os : List Operand) (c : COp), cop P ⟨dst, op, ty, pos, after, guard⟩ = some (os, c) → ∀ (ρ : Operand → Value) (vs : List AV),
    concL σ vs = some (os.map ρ) → Spec P W Fr σ x w ((execOp ρ ⟨dst, op, ty, pos, after, guard⟩).run P w) (exec c vs x H)
theorem says_move (X : Operand) : Says P W Fr σ x H w (.move X) := by
  intro dst ty pos after guard os c hc ρ vs hv
  simp only [cop, Option.some.injEq, Prod.mk.injEq] at hc
  obtain ⟨rfl, rfl⟩ := hc
  obtain ⟨a, rfl, ha⟩ := concL1 hv
  exact ⟨_, ha, .inl (by simp [execOp])⟩
theorem says_assign (X : Operand) : Says P W Fr σ x H w (.assign X) := by
  intro dst ty pos after guard os c hc ρ vs hv
  simp only [cop, Option.some.injEq, Prod.mk.injEq] at hc
  obtain ⟨rfl, rfl⟩ := hc
  obtain ⟨a, rfl, ha⟩ := concL1 hv
  exact ⟨_, ha, .inl (by simp [execOp])⟩
theorem says_pick (X Y Z : Operand) : Says P W Fr σ x H w (.pick X Y Z) := by
  intro dst ty pos after guard os c hc ρ vs hv
  simp only [cop, Option.some.injEq, Prod.mk.injEq] at hc
  obtain ⟨rfl, rfl⟩ := hc
  simp only [exec]
  split
  · rename_i b p q
    obtain ⟨u1, r1, e1, h1, hr⟩ := concL_cons hv
    obtain ⟨u2, r2, e2, h2, hr2⟩ := concL_cons hr
    obtain ⟨u3, r3, e3, h3, hr3⟩ := concL_cons hr2
    subst e2 e3
    simp only [List.map_cons, List.map_nil, List.cons.injEq] at e1
    obtain ⟨e1, e2, e3, _⟩ := e1
    simp only [conc, Option.some.injEq] at h1
    refine ⟨if b then ρ Y else ρ Z, by cases b <;> simp [e2, e3, h2, h3], .inl ?_⟩
    simp [execOp, e1, ← h1, asBool]
  · trivial
theorem says_alloc (e : TypeId) : Says P W Fr σ x H w (.alloc e) := by
  intro dst ty pos after guard os c hc ρ vs hv
  simp only [cop] at hc
  split at hc
  · rename_i i hi
    split at hc
    · rename_i z hz
      split at hc
      · rename_i l hl
        cases hc
        simp only [exec]
        split
        · have hcl := concL_toAVs (σ := σ) hl
          refine spec_var (s := Instr.alloc e true (.tuple #[])) hcl ?_
          simp [Instr.alloc, run_zeroValue hi hz, newVar, newRow]
        · trivial
      · cases hc
    · cases hc
  · cases hc
theorem says_box (e : TypeId) (X : Operand) : Says P W Fr σ x H w (.box e X) := by
  intro dst ty pos after guard os c hc ρ vs hv
  simp only [cop, Option.some.injEq, Prod.mk.injEq] at hc
  obtain ⟨rfl, rfl⟩ := hc
  obtain ⟨a, rfl, ha⟩ := concL1 hv
  simp only [exec]
  split
  · rename_i hn
    refine spec_var (s := Instr.box e (ρ X)) (conc_cells ha (isNoTup_spec hn)) ?_
    simp [Instr.box, newVar, newRow]
  · trivial
theorem says_build (t : TypeId) (parts : Array (Nat × Operand)) : Says P W Fr σ x H w (.build t parts) := by
  intro dst ty pos after guard os c hc ρ vs hv
  simp only [cop] at hc
  split at hc
  · rename_i it fs hit hu
    split at hc
    · rename_i z places hz hp
      split at hc
      · rename_i l pl hl hpl
        cases hc
        simp only [exec]
        split
        · rename_i hn
          split
          · rename_i r hr
            have hcl := concL_toAVs (σ := σ) hl
            obtain ⟨q1, q2⟩ := lookAll_spec hpl
            obtain ⟨rs, r1, r2, _⟩ := fill_spec (places.toArray[·]?) pl (parts.toList.map (·.1)) l vs r z.cells.toList _ q1 hr hcl hv (noTups_spec hn) q2
            have hb : P.built t (parts.map fun (i, X) => (i, ρ X)).toList = some rs.toArray := by
              simp only [Program.built, hit, hu, hz, hp]
              rw [← r2]
              congr 1
              rw [Array.toList_map]
              generalize parts.toList = pp
              induction pp with
              | nil => rfl
              | cons p pp ih => simp [ih]
            have hrun := run_build (P := P) w t (parts.map fun (i, X) => (i, ρ X)) rs.toArray hb
            show Spec P W Fr σ x w ((do pure (Next.value (← Instr.build t (parts.map fun (i, X) => (i, ρ X)))) : Sem Next).run P w) _
            rw [run_v, hrun]
            exact ⟨.agg rs.toArray, by simp [conc, r1], .inl rfl⟩
          · trivial
        · trivial
      · cases hc
    · cases hc
  · cases hc
theorem says_buildSlice (t : TypeId) (len : Nat) (parts : Array (Nat × Operand)) : Says P W Fr σ x H w (.buildSlice t len parts) := by
  intro dst ty pos after guard os c hc ρ vs hv
  simp only [cop] at hc
  split at hc
  · rename_i e hu
    split at hc
    · rename_i i hi
      split at hc
      · rename_i z hz
        split at hc
        · rename_i l pl hl hpl
          split at hc
          · rename_i hcond
            cases hc
            simp only [Bool.and_eq_true] at hcond
            obtain ⟨⟨c1, c2⟩, c3⟩ := hcond
            have c1 := Nat.eq_of_beq_eq_true c1
            have c2 := blt_lt c2
            have c3 := Nat.le_of_ble_eq_true c3
            simp only [exec]
            split
            · rename_i hn
              split
              · rename_i r hr
                split
                · rename_i rr hrr
                  split
                  · rename_i T hT
                    have hcl := concL_toAVs (σ := σ) hl
                    have hrep := repL_conc hcl (by omega) len
                    obtain ⟨q1, q2⟩ := lookAll_spec hpl
                    obtain ⟨rs, r1, r2, r3⟩ := fill_spec _ pl (parts.toList.map (·.1)) _ vs r _ _ q1 hr hrep hv (noTups_spec hn) q2
                    obtain ⟨k1, k2, k3⟩ := chunk_spec _ _ _ hrr
                    have hrun : (Instr.buildSlice t len (parts.map fun (i, X) => (i, ρ X))).run P w = .ok (.slice (some ⟨w.heap.size, 0, none⟩) len len) (w.alloc (.cells rs.toArray e)) := by
                      have hzip : (parts.map fun (i, X) => (i, ρ X)).toList = (parts.toList.map (·.1)).zip (List.map ρ (parts.toList.map (·.2))) := by
                        rw [Array.toList_map]
                        generalize parts.toList = pp
                        induction pp with
                        | nil => rfl
                        | cons p pp ih => simp [ih]
                      generalize (parts.toList.map (·.1)).zip (List.map ρ (parts.toList.map (·.2))) = pz at hzip r2
                      rw [Array.toArray_toList, c1, ← hzip] at r2
                      exact run_buildS hu hi hz c1 (by omega) r2
                    rw [exec_buildS]
                    rw [run_v, hrun]
                    intro yn hyn
                    have hex := Map.upd_ext (s := (⟨w.heap.size, 0, 0⟩ : Spot)) hyn
                    refine ⟨_, ⟨w.heap.size, 0, 0⟩, _, .inl rfl, NewW.alloc w _, rfl, by simp [Kn.av, conc, Map.upd_same], ?_⟩
                    have hsz : rs.toArray.size = len * i.size := by simp [r3, c1]
                    have := ObjOk.row (σ := σ.upd yn ⟨w.heap.size, 0, 0⟩) (e := e) (s := ⟨w.heap.size, 0, 0⟩) (w := w.alloc (.cells rs.toArray e)) (c := rs.toArray) (lo := 0) (hi := 0) (allLen_of rr k3) hT
                      (by rw [k1]; exact concL_mono hex _ _ r1) (heap_alloc_at w _) (.inr rfl) ⟨by simp, by rw [k2, hsz]; simp⟩ (fun j v hj => by simpa using hj)
                    rw [k2] at this
                    exact this
                  · trivial
                · trivial
              · trivial
            · trivial
          · cases hc
        · cases hc
      · cases hc
    · cases hc
  · cases hc

theorem says_load (h : Rel P W Fr σ x H w) (t : TypeId) (X : Operand) : Says P W Fr σ x H w (.load t X) := by
  intro dst ty pos after guard os c hc ρ vs hv
  simp only [cop] at hc
  split at hc
  · rename_i d i hd hi
    cases hc
    simp only [exec]
    split
    · rename_i n off
      obtain ⟨u, r, e1, hu, hr⟩ := concL_cons hv
      simp only [List.map_cons, List.map_nil, List.cons.injEq] at e1
      obtain ⟨e1, _⟩ := e1
      subst e1
      split
      · rename_i l hl
        obtain ⟨v, h1, h2⟩ := run_load h hd hi hu hl
        split
        · rename_i ha
          rw [if_pos ha] at h1
          exact spec_val (s := Instr.loadAt t (ρ X)) h1 h2
        · rename_i ha
          rw [if_neg (by simp [ha])] at h1
          split
          · exact spec_val (s := Instr.loadAt t (ρ X)) (by simpa using h1) h2
          · trivial
      · trivial
    · trivial
  · cases hc
theorem says_store (h : Rel P W Fr σ x H w) (t : TypeId) (X Y : Operand) : Says P W Fr σ x H w (.store t X Y) := by
  intro dst ty pos after guard os c hc ρ vs hv
  simp only [cop] at hc
  split at hc
  · rename_i i hi
    cases hc
    simp only [exec]
    split
    · rename_i n off a
      obtain ⟨u, r, e1, hu, hr⟩ := concL_cons hv
      obtain ⟨u2, r2, e2, hu2, hr2⟩ := concL_cons hr
      subst e2
      simp only [List.map_cons, List.map_nil, List.cons.injEq] at e1
      obtain ⟨e1, e2, _⟩ := e1
      subst e1 e2
      split
      · rename_i hcond
        rw [Bool.and_eq_true] at hcond
        have hsz := Nat.eq_of_beq_eq_true hcond.1
        rw [lenL_eq] at hsz
        split
        · rename_i H' hH
          obtain ⟨w', h1, h2⟩ := run_store_ev h hi hu hu2 (isNoTup_spec hcond.2) hsz hH
          exact spec_eff (s := Instr.storeAt t (ρ X) (ρ Y)) h1 h2
        · trivial
      · trivial
    · trivial
  · cases hc
theorem says_nilCheck (X : Operand) : Says P W Fr σ x H w (.nilCheck X) := by
  intro dst ty pos after guard os c hc ρ vs hv
  simp only [cop, Option.some.injEq, Prod.mk.injEq] at hc
  obtain ⟨rfl, rfl⟩ := hc
  obtain ⟨a, rfl, ha⟩ := concL1 hv
  simp only [exec]
  split
  · rename_i n o e
    cases e
    obtain ⟨p, hp⟩ := conc_ptr ha
    exact ⟨_, ha, .inl (by simp [execOp, hp])⟩
  · rename_i t v e
    cases e
    have : ∃ u, ρ X = .iface t u := by
      cases hb : conc σ v with
      | none => simp [conc, hb] at ha
      | some u => simp [conc, hb] at ha; exact ⟨u, ha.symm⟩
    obtain ⟨u, hp⟩ := this
    exact ⟨_, ha, .inl (by simp [execOp, hp])⟩
  · rename_i f p q e
    cases e
    obtain ⟨y, z, _, _, hp⟩ := conc_fn ha
    exact ⟨_, ha, .inl (by simp [execOp, hp])⟩
  · trivial
theorem says_binOp (op : BinOp) (t : TypeId) (X Y : Operand) (u : TypeId) : Says P W Fr σ x H w (.binOp op t X Y u) := by
  intro dst ty pos after guard os c hc ρ vs hv
  have hguard : ∀ a b, (∃ k n, ρ X = .int k n) ∨ (∃ s, ρ X = .string s) ∨ (∃ k n, ρ X = .float k n) → (do eqGuard op t X Y (ρ X) (ρ Y); a : Sem Value).run P b = (a.run P b) := fun a b hh => by
    have : (eqGuard op t X Y (ρ X) (ρ Y)).run P b = .ok () b := by
      refine eqGuard_plain op t X Y _ _ ?_ ?_
      · rintro ⟨h1, _⟩
        rcases hh with ⟨k, n, h⟩ | ⟨s, h⟩ | ⟨k, n, h⟩ <;> rw [h] at h1 <;> cases h1
      · rintro ⟨xs, ys, h1, _⟩
        rcases hh with ⟨k, n, h⟩ | ⟨s, h⟩ | ⟨k, n, h⟩ <;> rw [h] at h1 <;> cases h1
    simp only [Sem.run_bind, this, Result.andThen_ok]
  have hbin : op ≠ .shl → op ≠ .shr → ∀ os' : List Operand, os' = [X, Y] → concL σ vs = some (os'.map ρ) → Spec P W Fr σ x w ((execOp ρ ⟨dst, .binOp op t X Y u, ty, pos, after, guard⟩).run P w) (exec (.bin op) vs x H) := by
    intro h1 h2 os' ho hv'
    subst ho
    simp only [exec]
    split
    · rename_i a b
      obtain ⟨u1, r, e1, hu, hr⟩ := concL_cons hv'
      obtain ⟨u2, r2, e2, hu2, hr2⟩ := concL_cons hr
      subst e2
      simp only [List.map_cons, List.map_nil, List.cons.injEq] at e1
      obtain ⟨e1, e2, _⟩ := e1
      subst e1 e2
      split
      · rename_i q hq
        obtain ⟨v, k1, k2⟩ := binA_spec (P := P) (w := w) (t := t) hu hu2 hq h1 h2
        have hsh : (∃ k n, ρ X = .int k n) ∨ (∃ s, ρ X = .string s) ∨ (∃ k n, ρ X = .float k n) := by
          unfold binA at hq
          split at hq
          · simp only [conc, Option.some.injEq] at hu; exact .inl ⟨_, _, hu.symm⟩
          · simp only [conc, Option.some.injEq] at hu; exact .inr (.inr ⟨_, _, hu.symm⟩)
          · obtain ⟨_, h⟩ := conc_str hu; exact .inr (.inl ⟨_, h⟩)
          · cases hq
        exact spec_val (s := (do eqGuard op t X Y (ρ X) (ρ Y); binOp op t (ρ X) (ρ Y))) k1 (by rw [hguard _ _ hsh]; exact k2)
      · trivial
    · trivial
  have heq : ∀ (neg : Bool) (E : EqT), (op = if neg then .neq else .eql) → eqFree P t X Y = true → eqT P 60 t = some E → ∀ os' : List Operand, os' = [X, Y] → concL σ vs = some (os'.map ρ) →
      Spec P W Fr σ x w ((execOp ρ ⟨dst, .binOp op t X Y u, ty, pos, after, guard⟩).run P w) (exec (.eq E neg) vs x H) := by
    intro neg E hop hfree hE os' ho hv'
    subst ho
    simp only [exec]
    split
    · rename_i a b
      obtain ⟨u1, r, e1, hu, hr⟩ := concL_cons hv'
      obtain ⟨u2, r2, e2, hu2, hr2⟩ := concL_cons hr
      subst e2
      simp only [List.map_cons, List.map_nil, List.cons.injEq] at e1
      obtain ⟨e1, e2, _⟩ := e1
      subst e1 e2
      split
      · rename_i q hq
        obtain ⟨k1, k2⟩ := run_eq_gen (w := w) hE (by omega) hfree hu hu2 hq
        cases neg with
        | false => subst hop; exact spec_val (s := (do eqGuard .eql t X Y (ρ X) (ρ Y); binOp .eql t (ρ X) (ρ Y))) (by simp [conc]) k1
        | true => subst hop; exact spec_val (s := (do eqGuard .neq t X Y (ρ X) (ρ Y); binOp .neq t (ρ X) (ρ Y))) (by simp [conc]) k2
      · trivial
    · trivial
  have hshf : ∀ (left : Bool), (op = if left then .shl else .shr) → ∀ os' : List Operand, os' = [X, Y] → concL σ vs = some (os'.map ρ) →
      Spec P W Fr σ x w ((execOp ρ ⟨dst, .binOp op t X Y u, ty, pos, after, guard⟩).run P w) (exec (.shf left) vs x H) := by
    intro left hop os' ho hv'
    subst ho
    simp only [exec]
    split
    · rename_i k a k2 b
      obtain ⟨u1, r, e1, hu, hr⟩ := concL_cons hv'
      obtain ⟨u2, r2, e2, hu2, hr2⟩ := concL_cons hr
      subst e2
      simp only [List.map_cons, List.map_nil, List.cons.injEq] at e1
      obtain ⟨e1, e2, _⟩ := e1
      subst e1 e2
      simp only [conc, Option.some.injEq] at hu hu2
      have hnn : ¬ ((Int.ofNat b) < 0) := by simp
      have hpow : ∀ n : Nat, ((2 : Int) ^ n) = ((2 ^ n : Nat) : Int) := fun n => by simp
      cases left with
      | true =>
        have hop : op = .shl := hop
        subst hop
        exact spec_val (s := (do eqGuard .shl t X Y (ρ X) (ρ Y); binOp .shl t (ρ X) (ρ Y))) (by simp only [conc]; rfl) (by rw [hguard _ _ (.inl ⟨_, _, hu.symm⟩), ← hu, ← hu2]; simp only [binOp, Op.shift, if_neg hnn, wrapI_eq, hpow]; rfl)
      | false =>
        have hop : op = .shr := hop
        subst hop
        exact spec_val (s := (do eqGuard .shr t X Y (ρ X) (ρ Y); binOp .shr t (ρ X) (ρ Y))) (by simp only [conc]; rfl) (by rw [hguard _ _ (.inl ⟨_, _, hu.symm⟩), ← hu, ← hu2]; simp only [binOp, Op.shift, if_neg hnn, hpow]; rfl)
    · trivial
  simp only [cop] at hc
  split at hc
  · split at hc
    · cases hc; exact hshf true rfl _ rfl hv
    · cases hc
  · split at hc
    · cases hc; exact hshf false rfl _ rfl hv
    · cases hc
  · rename_i hshl hshr
    split at hc
    · cases hc; exact hbin hshl hshr _ rfl hv
    · cases hc; exact hbin hshl hshr _ rfl hv
    · cases hc; exact hbin hshl hshr _ rfl hv
    · split at hc
      · split at hc
        · rename_i hfree
          split at hc
          · rename_i E hE
            cases hc; exact heq false E rfl hfree hE _ rfl hv
          · cases hc
        · cases hc
      · split at hc
        · rename_i hfree
          split at hc
          · rename_i E hE
            cases hc; exact heq true E rfl hfree hE _ rfl hv
          · cases hc
        · cases hc
      · cases hc
theorem says_unOp (op : UnOp) (t : TypeId) (X : Operand) : Says P W Fr σ x H w (.unOp op t X) := by
  intro dst ty pos after guard os c hc ρ vs hv
  simp only [cop] at hc
  split at hc
  · cases hc
    obtain ⟨a, rfl, ha⟩ := concL1 hv
    simp only [exec]
    split
    · rename_i b e
      cases e
      simp only [conc, Option.some.injEq] at ha
      exact spec_val (s := Op.unary .not (ρ X)) (by simp only [conc]; rfl) (by rw [← ha]; simp [Op.unary])
    · trivial
  · cases hc
    obtain ⟨a, rfl, ha⟩ := concL1 hv
    simp only [exec]
    split
    · rename_i k n e
      cases e
      simp only [conc, Option.some.injEq] at ha
      exact spec_val (s := Op.unary .neg (ρ X)) (by simp only [conc]; rfl) (by rw [← ha]; simp [Op.unary, Op.intArith, wrapI_eq])
    · trivial
  · cases hc
/-- A row of bytes is marked; nothing of it changes. -/
theorem spec_mark (h : Rel P W Fr σ x H w) {src e0 e : TypeId} (hs : P.underlying src = some (.slice e0)) (hd : P.underlying src = some (.slice e)) (he : P.underlying e = some (.int .u8)) {n : Ps} {o l : Nat} {cp : Room} {v : Value} (hv : conc σ (.slc n o l cp) = some v)
    {e2 : TypeId} {sz k : Nat} {t : PT (List AV)} (ho : PT.get n H = some (.cells e2 sz false k t)) :
    Spec P W Fr σ x w ((do pure (Next.value (← convert src src v)) : Sem Next).run P w) (.eff (.slc n o l cp) x (PT.put (some (.cells e2 sz false k t)) n H)) := by
  obtain ⟨s, hsn⟩ : ∃ s, σ n = some s := by
    cases hq : σ n with
    | some s => exact ⟨s, rfl⟩
    | none => cases cp <;> simp [conc, hq] at hv
  obtain ⟨c, lo, hi, hh, hfz, hcap, hcell⟩ := h.obj n _ s ho hsn
  have hsl : ∃ a len cap, v = .slice (some ⟨s.block, a, none⟩) len cap := by
    cases cp with
    | known c => simp [conc, hsn] at hv; exact ⟨_, _, _, hv.symm⟩
    | open_ k =>
      simp only [conc, hsn, Option.bind_some] at hv
      split at hv
      · cases hv; exact ⟨_, _, _, rfl⟩
      · cases hv
  obtain ⟨a, len, cap, rfl⟩ := hsl
  have hsh : w.shape? s.block = some (e2, c.size) := by simp [World.shape?, hh]
  have hee : e0 = e := by rw [hs] at hd; cases hd; rfl
  subst hee
  have hmk : (markStringish ⟨s.block, a, none⟩).run P w = .ok () (w.freeze ⟨s.block, c.size, none⟩ 1) := by
    simp only [markStringish, shape, freeze, bind, Sem.bind, Sem.run, hsh]
  have hrun : (convert src src (.slice (some ⟨s.block, a, none⟩) len cap)).run P w = .ok (.slice (some ⟨s.block, a, none⟩) len cap) (w.freeze ⟨s.block, c.size, none⟩ 1) := by
    simp only [convert, Sem.run_bind, run_underlying hs, run_underlying he, Result.andThen_ok, beq_self_eq_true, hmk, Sem.run_pure]
  rw [run_v, hrun]
  refine ⟨_, _, σ, .inl rfl, FExt.refl _ _, Nat.le_refl _, ?_, hv⟩
  have hlt : s.block < w.heap.size := (Array.getElem?_eq_some_iff.1 hh).1
  have hnew : (w.freeze ⟨s.block, c.size, none⟩ 1).heap[s.block]? = some (.cells c e2 (if lo == hi then (c.size, c.size + 1) else (min lo c.size, max hi (c.size + 1)))) := by
    simp [World.freeze, Array.getElem?_modify, hh]
  refine h.put ho hsn rfl rfl ?_ rfl rfl rfl (by simp [World.freeze]) (fun j hj => ?_)
  · obtain ⟨q, hq⟩ : ∃ q : Nat × Nat, q = (if lo == hi then (c.size, c.size + 1) else (min lo c.size, max hi (c.size + 1))) := ⟨_, rfl⟩
    refine ⟨c, q.1, q.2, by rw [hnew, hq], ?_, hcap, hcell⟩
    rw [hq]
    split
    · exact .inl (Nat.le_refl _)
    · rename_i hne
      rcases hfz with h1 | h1
      · exact .inl (by simp only; omega)
      · subst h1; simp at hne
  · simp only [World.freeze]
    rw [if_neg (by omega)]
    simp only [Array.getElem?_modify]
    rw [if_neg (fun e => hj e.symm)]
theorem says_convert (h : Rel P W Fr σ x H w) (src dt : TypeId) (X : Operand) : Says P W Fr σ x H w (.convert src dt X) := by
  intro dst ty pos after guard os c hc ρ vs hv
  simp only [cop] at hc
  split at hc
  · rename_i k1 k hs hd
    cases hc
    obtain ⟨a, rfl, ha⟩ := concL1 hv
    simp only [exec]
    split
    · rename_i k2 n e
      cases e
      simp only [conc, Option.some.injEq] at ha
      exact spec_val (s := convert src dt (ρ X)) (by simp only [conc]; rfl) (by rw [← ha]; simp [convert, run_underlying hs, run_underlying hd, Conv.intToInt, wrapI_eq])
    · trivial
  · rename_i hs hd
    cases hc
    obtain ⟨a, rfl, ha⟩ := concL1 hv
    simp only [exec]
    split
    · rename_i l n e
      cases e
      obtain ⟨_, hp⟩ := conc_str ha
      exact spec_val (s := convert src dt (ρ X)) ha (by rw [hp]; simp [convert, run_underlying hs, run_underlying hd])
    · trivial
  · rename_i e hs hd
    split at hc
    · rename_i he
      cases hc
      obtain ⟨a, rfl, ha⟩ := concL1 hv
      simp only [exec]
      split
      · rename_i l n e
        cases e
        split
        · rename_i T hT
          show Spec P W Fr σ x w ((do pure (Next.value (← convert src dt (ρ X))) : Sem Next).run P w) _
          rw [run_v]
          exact spec_s2b hs hd he ha hT
        · trivial
      · trivial
    · cases hc
  · rename_i e hs hd
    split at hc
    · rename_i he
      cases hc
      obtain ⟨a, rfl, ha⟩ := concL1 hv
      simp only [exec]
      split
      · rename_i r hr
        obtain ⟨u, k1, k2⟩ := run_b2s h hs he hd ha hr
        exact spec_val (s := convert src dt (ρ X)) k1 k2
      · trivial
    · cases hc
  · rename_i e0 e hs hd
    split at hc
    · rename_i hsd he
      cases hc
      have hsd := Nat.eq_of_beq_eq_true hsd
      subst hsd
      obtain ⟨a, rfl, ha⟩ := concL1 hv
      simp only [exec]
      split
      · rename_i n o l cp e1
        cases e1
        split
        · rename_i e2 sz k tt ho
          exact spec_mark h hs hd he ha ho
        · trivial
      · trivial
    · cases hc
  · rename_i k1 k hs hd
    cases hc
    obtain ⟨a, rfl, ha⟩ := concL1 hv
    simp only [exec]
    split
    · rename_i k2 n e
      cases e
      simp only [conc, Option.some.injEq] at ha
      exact spec_val (s := convert src dt (ρ X)) (by simp only [conc]; rfl) (by rw [← ha]; simp [convert, run_underlying hs, run_underlying hd, Conv.intToFloat])
    · trivial
  · rename_i k1 k hs hd
    cases hc
    obtain ⟨a, rfl, ha⟩ := concL1 hv
    simp only [exec]
    split
    · rename_i s b e
      cases e
      simp only [conc, Option.some.injEq] at ha
      split
      · rename_i n hn
        split
        · rename_i hr
          rw [Bool.and_eq_true] at hr
          have hlt : ∀ a b : Int, (!(ilt a b)) = true → b ≤ a := fun a b e => by rw [ilt_iff] at e; simp at e; omega
          have h1 := hlt _ _ hr.1
          have h2 := hlt _ _ hr.2
          exact spec_val (s := convert src dt (ρ X)) (by simp only [conc]; rfl) (by rw [← ha]; simp [convert, run_underlying hs, run_underlying hd, Conv.floatToInt, hn, h1, h2])
        · trivial
      · trivial
    · trivial
  · rename_i k1 k hs hd
    cases hc
    obtain ⟨a, rfl, ha⟩ := concL1 hv
    simp only [exec]
    split
    · rename_i s b e
      cases e
      split
      · rename_i hk _
        subst hk
        simp only [conc, Option.some.injEq] at ha
        exact spec_val (s := convert src dt (ρ X)) (by simp only [conc]; rfl) (by rw [← ha]; simp [convert, run_underlying hs, run_underlying hd, Conv.floatToFloat])
      · trivial
    · trivial
  · cases hc
end
end
end Go.Proofs.YtldjbgklmeigmaaGreatDoor.Ev

namespace Go.Proofs.YtldjbgklmeigmaaGreatDoor.Ev
open Go Go.RowKit
noncomputable section
section
variable {P : Program} {W : World} {Fr : Nat → Prop} {σ : Map} {x : Ps} {H : Heap} {w : World}

/-- Entries, one by one. -/
inductive Ents (σ : Map) : List (AV × AV × Nat) → List MapEntry → Prop
  | nil : Ents σ [] []
  | cons {k v : AV} {b : Nat} {m : MapEntry} {es : List (AV × AV × Nat)} {l : List MapEntry} (h1 : conc σ k = some m.key) (h2 : conc σ v = some m.val) (h3 : m.born = b) (h : Ents σ es l) : Ents σ ((k, v, b) :: es) (m :: l)
theorem Ents.of {σ : Map} : ∀ {es : List (AV × AV × Nat)} {l : List MapEntry}, l.length = es.length → (∀ (i : Nat) (k v : AV) (b : Nat) (m : MapEntry), es[i]? = some (k, v, b) → l[i]? = some m → conc σ k = some m.key ∧ conc σ v = some m.val ∧ m.born = b) → Ents σ es l
  | [], [], _, _ => .nil
  | [], _ :: _, h, _ => by simp at h
  | _ :: _, [], h, _ => by simp at h
  | (k, v, b) :: es, m :: l, h, g => by
    obtain ⟨a, b, c⟩ := g 0 k v b m (by simp) (by simp)
    exact .cons a b c (Ents.of (by simpa using h) (fun i k v b m h1 h2 => g (i + 1) k v b m (by simpa using h1) (by simpa using h2)))
theorem bornIn_iff {b : Nat} : ∀ {l : List Nat}, bornIn b l = l.contains b
  | [] => rfl
  | c :: l => by
    simp only [bornIn, List.contains_cons]
    by_cases h : b = c
    · subst h; simp
    · rw [if_neg (fun e => h (Nat.eq_of_beq_eq_true e)), bornIn_iff]
      simp [h]
theorem Ents.left {σ : Map} {seen : List Nat} {es : List (AV × AV × Nat)} {l : List MapEntry} (h : Ents σ es l) : Ents σ (leftA seen es) (l.filter fun e => !seen.contains e.born) := by
  induction h with
  | nil => exact .nil
  | cons h1 h2 h3 h ih =>
    simp only [leftA, bornIn_iff, List.filter_cons, h3]
    cases hs : seen.contains _ with
    | true => simp only [Bool.not_true, Bool.false_eq_true, if_false, if_true]; exact ih
    | false => simp only [Bool.not_false, Bool.false_eq_true, if_false, if_true]; exact .cons h1 h2 h3 ih
theorem Ents.someLt {σ : Map} {last : Nat} {es : List (AV × AV × Nat)} {l : List MapEntry} (h : Ents σ es l) (hs : someLt last es = true) : l.all (fun e => decide (e.born ≥ last)) = false := by
  induction h with
  | nil => cases hs
  | @cons k v b m es l h1 h2 h3 h ih =>
    simp only [Ev.someLt] at hs
    by_cases hb : b < last
    · simp [h3]; intro h; omega
    · rw [if_neg (fun e => hb (blt_lt e))] at hs
      rw [List.all_cons, ih hs, Bool.and_false]
theorem Ents.find {σ : Map} {b : Nat} {es : List (AV × AV × Nat)} {l : List MapEntry} (h : Ents σ es l) {e : AV × AV × Nat} (hf : findB b es = some e) : ∃ m, l.find? (·.born == b) = some m ∧ conc σ e.1 = some m.key ∧ conc σ e.2.1 = some m.val := by
  induction h with
  | nil => cases hf
  | @cons k v c m es l h1 h2 h3 h ih =>
    simp only [findB] at hf
    by_cases hb : c = b
    · subst hb
      rw [if_pos (Nat.beq_refl _)] at hf
      cases hf
      exact ⟨m, by simp [h3], h1, h2⟩
    · rw [if_neg (fun e => hb (Nat.eq_of_beq_eq_true e))] at hf
      obtain ⟨m', e1, e2⟩ := ih hf
      exact ⟨m', by rw [List.find?_cons, show (m.born == b) = false by rw [h3]; simpa using hb]; exact e1, e2⟩
theorem lastN_eq : ∀ (l : List Nat), lastN l = l.getLast?
  | [] => rfl
  | [a] => rfl
  | a :: b :: l => by rw [lastN, lastN_eq (b :: l)]; simp [List.getLast?_cons_cons]

theorem says_range (h : Rel P W Fr σ x H w) (t : TypeId) (X : Operand) : Says P W Fr σ x H w (.range t X) := by
  intro dst ty pos after guard os c hc ρ vs hv
  simp only [cop] at hc
  split at hc
  · rename_i kt et ht
    cases hc
    obtain ⟨a, rfl, ha⟩ := concL1 (u := ρ X) hv
    simp only [exec]
    show Spec P W Fr σ x w ((do pure (Next.value (← Instr.range t (ρ X))) : Sem Next).run P w) _
    rw [run_v]
    split
    · rename_i e
      cases e
      simp only [conc, Option.some.injEq] at ha
      rw [← ha, run_range_nilMap w t kt et ht]
      intro yn hyn
      exact ⟨_, ⟨w.heap.size, 0, 0⟩, _, .inl rfl, NewW.alloc w _, rfl, by simp [Kn.av, conc, Map.upd_same], rfl, none, rfl, heap_alloc_at w _⟩
    · rename_i n e
      cases e
      split
      · rename_i es clock ho
        cases hs : σ n with
        | none => simp [conc, hs] at ha
        | some s =>
          simp only [conc, hs, Option.map_some, Option.some.injEq] at ha
          obtain ⟨_, l, hb, _, _⟩ := h.obj n _ s ho hs
          rw [← ha, run_range_map w t kt et s.block _ clock ht hb]
          intro yn hyn
          refine ⟨_, ⟨w.heap.size, 0, 0⟩, _, .inl rfl, NewW.alloc w _, rfl, by simp [Kn.av, conc, Map.upd_same], rfl, some s.block, ⟨s, Map.upd_ext hyn n s hs, rfl⟩, heap_alloc_at w _⟩
      · trivial
    · trivial
  · cases hc

theorem setObj_iter (h : Rel P W Fr σ x H w) {n : Ps} {s : Spot} {m : Option Ps} {mb : Option Nat} {a c a' c' : Nat} {b b' : List Nat} (ho : PT.get n H = some (.iter m a b c)) (hn : σ n = some s) (hm : MbOk σ m mb)
    (hb : w.heap[s.block]? = some (.mapIter mb a b.toArray c)) :
    ∃ w', (setObj s.block (.mapIter mb a' b'.toArray c')).run P w = .ok () w' ∧ Rel P W Fr σ x (PT.put (some (.iter m a' b' c')) n H) w' := by
  refine ⟨{ w with heap := w.heap.setIfInBounds s.block (.mapIter mb a' b'.toArray c') }, by simp [setObj, Sem.run, hb], ?_⟩
  have hlt : s.block < w.heap.size := (Array.getElem?_eq_some_iff.1 hb).1
  obtain ⟨h0, _⟩ := h.obj n _ s ho hn
  refine h.put ho hn rfl rfl ⟨h0, mb, hm, ?_⟩ rfl rfl rfl (by simp) (fun k hk => ?_)
  · simp [hlt]
  · simp only [Array.getElem?_setIfInBounds]
    rw [if_neg (fun e => hk e.symm)]

theorem says_next (h : Rel P W Fr σ x H w) (X : Operand) (isS : Bool) : Says P W Fr σ x H w (.next X isS) := by
  intro dst ty pos after guard os c hc ρ vs hv
  cases isS with
  | true => simp [cop] at hc
  | false =>
    simp only [cop] at hc
    cases hc
    obtain ⟨a, rfl, ha⟩ := concL1 (u := ρ X) hv
    simp only [exec]
    show Spec P W Fr σ x w ((do pure (Next.value (← Instr.next (ρ X) false ty)) : Sem Next).run P w) _
    rw [run_v]
    split
    · rename_i r e
      cases e
      cases hs : σ r with
      | none => simp [conc, hs] at ha
      | some s =>
        simp only [conc, hs, Option.map_some, Option.some.injEq] at ha
        unfold nextA
        split
        · rename_i ho
          obtain ⟨h0, mb, hm, hb⟩ := h.obj r _ s ho hs
          have hm : mb = none := hm
          subst hm
          refine Spec.of_val (u := .tuple #[.bool false]) (by simp [conc, concL]) ?_
          rw [← ha, h0]
          simp only [Instr.next, getObj, Sem.run_bind, Sem.run, hb, Result.andThen]
          rfl
        · rename_i m since seen last ho
          obtain ⟨h0, mb, ⟨t, ht, rfl⟩, hb⟩ := h.obj r _ s ho hs
          split
          · rename_i es clock hmo
            obtain ⟨_, l, hl, hl2, hl3⟩ := h.obj m _ t hmo ht
            have hE := Ents.of hl2 hl3
            split
            · rename_i hok
              have htest : (!seen.toArray.isEmpty && !l.toArray.isEmpty && l.toArray.all (fun e => decide (e.born ≥ last))) = false := by
                cases seen with
                | nil => simp
                | cons s0 seen =>
                  cases hE with
                  | nil => simp
                  | cons h1 h2 h3 hE' =>
                    have := (Ents.cons h1 h2 h3 hE').someLt (by simpa [nextOk] using hok)
                    rw [List.all_toArray, this]
                    simp
              have hleft := hE.left (seen := seen)
              have hfil : l.toArray.filter (fun e => !seen.toArray.contains e.born) = (l.filter fun e => !seen.contains e.born).toArray := by
                simp
              split
              · rename_i hn
                rw [hn] at hleft
                have hnil : l.filter (fun e => !seen.contains e.born) = [] := by
                  generalize l.filter (fun e => !seen.contains e.born) = q at hleft
                  cases hleft; rfl
                refine Spec.of_val (u := .tuple #[.bool false]) (by simp [conc, concL]) ?_
                rw [← ha, h0]
                simp only [Instr.next, getObj, Sem.run_bind, Sem.run, hb, hl, Result.andThen, htest, hfil, hnil, Bool.false_eq_true, if_false]
                simp [choose, Sem.run, Question.forced]
              · rename_i e hn
                split
                · rename_i hlt
                  have hlt := blt_lt hlt
                  rw [hn] at hleft
                  obtain ⟨k, v, b⟩ := e
                  obtain ⟨me, hone, h1, h2, h3⟩ : ∃ me, l.filter (fun e => !seen.contains e.born) = [me] ∧ conc σ k = some me.key ∧ conc σ v = some me.val ∧ me.born = b := by
                    generalize l.filter (fun e => !seen.contains e.born) = q at hleft
                    cases hleft with
                    | cons h1 h2 h3 hh => cases hh; exact ⟨_, rfl, h1, h2, h3⟩
                  obtain ⟨w', hw, hr⟩ := setObj_iter (a' := since) (b' := seen ++ [b]) (c' := clock) h ho hs ⟨t, ht, rfl⟩ hb
                  have hlt' : me.born < since := by rw [h3]; exact hlt
                  have hnge : ¬ since ≤ me.born := by omega
                  refine ⟨.tuple #[.bool true, me.key, me.val], w', σ, .inl ?_, FExt.refl _ _, Nat.le_refl _, hr, by simp [conc, concL, h1, h2]⟩
                  rw [← ha, h0]
                  simp only [Instr.next, getObj, Sem.run_bind, Sem.run, hb, hl, Result.andThen, htest, hfil, hone, Bool.false_eq_true, if_false]
                  have hpush : (seen.toArray.push me.born) = (seen ++ [b]).toArray := by rw [h3]; simp
                  simp [choose, Sem.run, Question.forced, hlt', hnge, hpush, hw]
                · trivial
              · trivial
            · trivial
          · trivial
        · trivial
    · trivial

theorem says_entry (h : Rel P W Fr σ x H w) (X : Operand) : Says P W Fr σ x H w (.entry X) := by
  intro dst ty pos after guard os c hc ρ vs hv
  simp only [cop] at hc
  cases hc
  obtain ⟨a, rfl, ha⟩ := concL1 (u := ρ X) hv
  simp only [exec]
  show Spec P W Fr σ x w ((do pure (Next.value (← Instr.entry (ρ X))) : Sem Next).run P w) _
  rw [run_v]
  split
  · rename_i r e
    cases e
    cases hs : σ r with
    | none => simp [conc, hs] at ha
    | some s =>
      simp only [conc, hs, Option.map_some, Option.some.injEq] at ha
      unfold entryA
      split
      · rename_i m since seen last ho
        obtain ⟨h0, mb, ⟨t, ht, rfl⟩, hb⟩ := h.obj r _ s ho hs
        split
        · rename_i es clock hmo
          obtain ⟨_, l, hl, hl2, hl3⟩ := h.obj m _ t hmo ht
          have hE := Ents.of hl2 hl3
          split
          · rename_i hcl
            have hcl := Nat.eq_of_beq_eq_true hcl
            subst hcl
            split
            · rename_i b hb'
              split
              · rename_i e he
                obtain ⟨me, e1, e2, e3⟩ := hE.find he
                rw [lastN_eq] at hb'
                refine Spec.of_val (u := .tuple #[me.key, me.val]) (by simp [conc, concL, e2, e3]) ?_
                rw [← ha, h0]
                have hback : seen.toArray.back? = some b := by rw [← hb']; simp
                simp only [Instr.entry, getObj, Sem.run_bind, Sem.run, hb, hl, Result.andThen, hback, bne_self_eq_false, Bool.false_eq_true, if_false]
                rw [List.find?_toArray, e1]
                rfl
              · trivial
            · trivial
          · trivial
        · trivial
      · trivial
  · trivial

theorem xk_next {fn : Func} {n : String} (h1 : fn.name = n) (h2 : fn.origin = "") (hn : Extern.allNextRows.lookup n = none) : Extern.findNext fn = none := by
  have h0 : Extern.allNextRows.lookup "" = none := by kernel_rfl
  unfold Extern.findNext
  rw [h2, h1]
  simp [hn, h0]
theorem xk_find {fn : Func} {n : String} {e : Array Value → Sem Value} (h1 : fn.name = n) (ha : Extern.allGenericRows.lookup n = none) (hb : Extern.allTypedRows.lookup n = none) (hc : Extern.allRows.lookup n = some e) : Extern.find fn = some e := by
  unfold Extern.find
  rw [h1]
  simp [ha, hb, hc]
theorem run_x {f : FuncId} {fn : Func} {n : String} {e : Array Value → Sem Value} (hf : P.funcs[f]? = some fn) (hb : fn.body = none) (h1 : fn.name = n) (h2 : fn.origin = "") (h0 : (n == "runtime.NumGoroutine") = false)
    (hn : Extern.allNextRows.lookup n = none) (ha : Extern.allGenericRows.lookup n = none) (hb' : Extern.allTypedRows.lookup n = none) (hc : Extern.allRows.lookup n = some e) (args : Array Value) :
    (callFunc f args).run P w = ((e args).run P w).andThen fun v w' => .ok (.value v) w' := by
  simp only [callFunc, program, Sem.run_bind, Sem.run, hf, h1, h0, hb, Result.andThen, Bool.false_eq_true, if_false, Option.isNone_none, if_true, mark, xk_next h1 h2 hn, xk_find h1 ha hb' hc]
  cases (e args).run P w <;> rfl
theorem run_xt {f : FuncId} {k : XK} (hk : xkOf P f = some k) {vs : List AV} {us : List Value} (hv : concL σ vs = some us) : Spec P W Fr σ x w ((callFunc f us.toArray).run P w) (xtA k vs) := by
  unfold xkOf at hk
  split at hk
  · rename_i fn hf
    split at hk
    · cases hk
    · rename_i hb
      split at hk
      · rename_i ho
        have ho := eq_of_beq ho
        have trunc : ∀ (e : Array Value → Sem Value), e = Extern.MathFloor.toIntegral "math.archTrunc" .zero → Spec P W Fr σ x w (((e us.toArray).run P w).andThen fun v w' => .ok (.value v) w') (xtA .trunc vs) := by
          rintro e rfl
          unfold xtA
          split <;> try trivial
          all_goals try contradiction
          rename_i b _
          obtain ⟨u1, us', e1, h1, h2⟩ := concL_cons hv
          have hn := concL_nil h2
          subst hn e1
          simp only [conc, Option.some.injEq] at h1
          split
          · trivial
          · rename_i d hd
            refine Spec.of_val (by simp only [conc]; rfl) ?_
            rw [← h1]
            obtain ⟨F, hF⟩ : ∃ F : Bool → Nat → Sem Value, Extern.MathFloor.toIntegral "math.archTrunc" .zero #[.float .f64 b] = (match FloatKind.f64.decode b with | .nan s t => F s t | d => pure (Value.float .f64 (FloatKind.f64.encode (d.integral .zero)))) := ⟨_, rfl⟩
            rw [hF]
            split
            · rename_i s t hs
              exact absurd hs (hd s t)
            · rfl
        have bits : ∀ (e : Array Value → Sem Value), e = Extern.MathFloatBits.float64bits → Spec P W Fr σ x w (((e us.toArray).run P w).andThen fun v w' => .ok (.value v) w') (xtA .bits vs) := by
          rintro e rfl
          unfold xtA
          split <;> try trivial
          all_goals try contradiction
          rename_i b _
          obtain ⟨u1, us', e1, h1, h2⟩ := concL_cons hv
          have hn := concL_nil h2
          subst hn e1
          simp only [conc, Option.some.injEq] at h1
          exact Spec.of_val (by simp only [conc]; rfl) (by rw [← h1]; rfl)
        have bits32 : ∀ (e : Array Value → Sem Value), e = Extern.MathFloatBits.float32bits → Spec P W Fr σ x w (((e us.toArray).run P w).andThen fun v w' => .ok (.value v) w') (xtA .bits32 vs) := by
          rintro e rfl
          unfold xtA
          split <;> try trivial
          all_goals try contradiction
          rename_i b _
          obtain ⟨u1, us', e1, h1, h2⟩ := concL_cons hv
          have hn := concL_nil h2
          subst hn e1
          simp only [conc, Option.some.injEq] at h1
          exact Spec.of_val (by simp only [conc]; rfl) (by rw [← h1]; rfl)
        have frm : ∀ (e : Array Value → Sem Value), e = Extern.MathFloatBits.float64frombits → Spec P W Fr σ x w (((e us.toArray).run P w).andThen fun v w' => .ok (.value v) w') (xtA .from_ vs) := by
          rintro e rfl
          unfold xtA
          split <;> try trivial
          all_goals try contradiction
          rename_i b _
          obtain ⟨u1, us', e1, h1, h2⟩ := concL_cons hv
          have hn := concL_nil h2
          subst hn e1
          simp only [conc, Option.some.injEq] at h1
          exact Spec.of_val (by simp only [conc]; rfl) (by rw [← h1]; rfl)
        repeat' split at hk
        · rename_i hq
          cases hk
          rw [run_x hf hb (eq_of_beq hq) ho (by kernel_rfl) (by kernel_rfl) (by kernel_rfl) (by kernel_rfl) (e := Extern.MathFloor.toIntegral "math.archTrunc" .zero) (by kernel_rfl)]
          exact trunc _ rfl
        · rename_i hq
          cases hk
          rw [run_x hf hb (eq_of_beq hq) ho (by kernel_rfl) (by kernel_rfl) (by kernel_rfl) (by kernel_rfl) (e := Extern.MathFloatBits.float64bits) (by kernel_rfl)]
          exact bits _ rfl
        · rename_i hq
          cases hk
          rw [run_x hf hb (eq_of_beq hq) ho (by kernel_rfl) (by kernel_rfl) (by kernel_rfl) (by kernel_rfl) (e := Extern.MathFloatBits.float64bits) (by kernel_rfl)]
          exact bits _ rfl
        · rename_i hq
          cases hk
          rw [run_x hf hb (eq_of_beq hq) ho (by kernel_rfl) (by kernel_rfl) (by kernel_rfl) (by kernel_rfl) (e := Extern.MathFloatBits.float64frombits) (by kernel_rfl)]
          exact frm _ rfl
        · rename_i hq
          cases hk
          rw [run_x hf hb (eq_of_beq hq) ho (by kernel_rfl) (by kernel_rfl) (by kernel_rfl) (by kernel_rfl) (e := Extern.MathFloatBits.float64frombits) (by kernel_rfl)]
          exact frm _ rfl
        · rename_i hq
          cases hk
          rw [run_x hf hb (eq_of_beq hq) ho (by kernel_rfl) (by kernel_rfl) (by kernel_rfl) (by kernel_rfl) (e := Extern.MathFloatBits.float32bits) (by kernel_rfl)]
          exact bits32 _ rfl
        · cases hk
      · cases hk
  · cases hk
end
end
end Go.Proofs.YtldjbgklmeigmaaGreatDoor.Ev

namespace Go.Proofs.YtldjbgklmeigmaaGreatDoor.Ev
open Go Go.RowKit
noncomputable section
section
variable {P : Program} {W : World} {Fr : Nat → Prop} {σ : Map} {x : Ps} {H : Heap} {w : World}

theorem map1 {ρ : Operand → Value} {X : Operand} {u : Value} {r : List Value} (e : List.map ρ [X] = u :: r) : ρ X = u ∧ r = [] := by simpa using e
theorem map2 {ρ : Operand → Value} {X Y : Operand} {u v : Value} {r : List Value} (e : List.map ρ [X, Y] = u :: v :: r) : ρ X = u ∧ ρ Y = v ∧ r = [] := by simpa using e
theorem concL2 {u v : Value} {vs : List AV} (h : concL σ vs = some [u, v]) : ∃ a b, vs = [a, b] ∧ conc σ a = some u ∧ conc σ b = some v := by
  cases vs with
  | nil => simp [concL] at h
  | cons a l =>
    obtain ⟨u', r, e, h1, h2⟩ := concL_cons h
    cases e
    obtain ⟨b, rfl, h3⟩ := concL1 h2
    exact ⟨a, b, rfl, h1, h3⟩
theorem concL3 {u v q : Value} {vs : List AV} (h : concL σ vs = some [u, v, q]) : ∃ a b c, vs = [a, b, c] ∧ conc σ a = some u ∧ conc σ b = some v ∧ conc σ c = some q := by
  cases vs with
  | nil => simp [concL] at h
  | cons a l =>
    obtain ⟨u', r, e, h1, h2⟩ := concL_cons h
    cases e
    obtain ⟨b, c, rfl, h3, h4⟩ := concL2 h2
    exact ⟨a, b, c, rfl, h1, h3, h4⟩
theorem says_makeInterface (t : TypeId) (X : Operand) : Says P W Fr σ x H w (.makeInterface t X) := by
  intro dst ty pos after guard os c hc ρ vs hv
  simp only [cop] at hc
  split at hc
  · rename_i ht
    cases hc
    obtain ⟨a, rfl, ha⟩ := concL1 hv
    simp only [exec]
    exact spec_val (s := Instr.makeInterface t (ρ X)) (by simp [conc, ha]) (run_makeInterface w t (ρ X) ht)
  · cases hc
theorem says_fieldAddr (t : TypeId) (X : Operand) (f : Nat) : Says P W Fr σ x H w (.fieldAddr t X f) := by
  intro dst ty pos after guard os c hc ρ vs hv
  simp only [cop] at hc
  split at hc
  · rename_i fs hs
    split at hc
    · rename_i fd hf
      split at hc
      · rename_i i hi
        split at hc
        · cases hc
        · rename_i hz
          cases hc
          simp only [exec]
          split
          · rename_i n o
            obtain ⟨u, r, e1, hu, hr⟩ := concL_cons hv
            obtain ⟨e1, _⟩ := map1 e1
            subst e1
            have hz' : i.size ≠ 0 := fun e => hz (by rw [e]; rfl)
            obtain ⟨v, k1, k2⟩ := run_fieldAt (w := w) hs hf hi hz' hu
            exact spec_val (s := Instr.fieldAt t (ρ X) f) k1 k2
          · trivial
      · cases hc
    · cases hc
  · cases hc
theorem says_field (t : TypeId) (X : Operand) (f : Nat) : Says P W Fr σ x H w (.field t X f) := by
  intro dst ty pos after guard os c hc ρ vs hv
  simp only [cop] at hc
  split at hc
  · rename_i fs hs
    split at hc
    · rename_i fd hf
      split at hc
      · rename_i d i hd hi
        cases hc
        simp only [exec]
        split
        · rename_i l
          obtain ⟨u, r, e1, hu, hr⟩ := concL_cons hv
          obtain ⟨e1, _⟩ := map1 e1
          split
          · rename_i a ha
            cases hl : concL σ l with
            | none => simp [conc, hl] at hu
            | some us =>
              simp only [conc, hl, Option.map_some, Option.some.injEq] at hu
              obtain ⟨v, k1, k2⟩ := run_part (P := P) (w := w) hd hi hl ha
              refine spec_val (s := Instr.field t (ρ X) f) k1 ?_
              rw [e1, ← hu]
              simp [Instr.field, run_underlying hs, hf, asAgg, k2]
          · trivial
        · trivial
      · cases hc
    · cases hc
  · cases hc
theorem says_indexAddr (t : TypeId) (X Y : Operand) : Says P W Fr σ x H w (.indexAddr t X Y) := by
  intro dst ty pos after guard os c hc ρ vs hv
  simp only [cop] at hc
  split at hc
  · rename_i e ht
    split at hc
    · rename_i i hi
      cases hc
      simp only [exec]
      split
      · rename_i n o l c k j
        obtain ⟨u, r, e1, hu, hr⟩ := concL_cons hv
        obtain ⟨u2, r2, e2, hu2, hr2⟩ := concL_cons hr
        subst e2
        obtain ⟨e1, e2, _⟩ := map2 e1
        split
        · rename_i hlt
          have hlt := blt_lt hlt
          simp only [conc, Option.some.injEq] at hu2
          obtain ⟨v, k1, k2⟩ := run_indexAt_slc (w := w) (k := k) (j := (j : Int)) ht hi hu ⟨by omega, by omega⟩
          simp only [Int.toNat_natCast] at k1
          exact spec_val (s := Instr.indexAt t (ρ X) (ρ Y)) k1 (by rw [e1, e2, ← hu2]; exact k2)
        · trivial
      · trivial
    · cases hc
  · rename_i len e ht
    split at hc
    · rename_i i hi
      cases hc
      simp only [exec]
      split
      · rename_i n o k j
        obtain ⟨u, r, e1, hu, hr⟩ := concL_cons hv
        obtain ⟨u2, r2, e2, hu2, hr2⟩ := concL_cons hr
        subst e2
        obtain ⟨e1, e2, _⟩ := map2 e1
        split
        · rename_i hlt
          have hlt := blt_lt hlt
          simp only [conc, Option.some.injEq] at hu2
          obtain ⟨v, k1, k2⟩ := run_indexAt_arr (w := w) (k := k) (j := (j : Int)) ht hi hu ⟨by omega, by omega⟩
          simp only [Int.toNat_natCast] at k1
          exact spec_val (s := Instr.indexAt t (ρ X) (ρ Y)) k1 (by rw [e1, e2, ← hu2]; exact k2)
        · trivial
      · trivial
    · cases hc
  · cases hc
theorem says_index (t : TypeId) (X Y : Operand) : Says P W Fr σ x H w (.index t X Y) := by
  intro dst ty pos after guard os c hc ρ vs hv
  simp only [cop] at hc
  split at hc
  · rename_i ht
    cases hc
    simp only [exec]
    split
    · rename_i l n k j
      obtain ⟨u, r, e1, hu, hr⟩ := concL_cons hv
      obtain ⟨u2, r2, e2, hu2, hr2⟩ := concL_cons hr
      subst e2
      obtain ⟨e1, e2, _⟩ := map2 e1
      split
      · rename_i hlt
        have hlt := blt_lt hlt
        simp only [conc, Option.some.injEq] at hu2
        have := run_index_str (P := P) (w := w) (k := k) ht hu hlt
        exact spec_val (s := Instr.index t (ρ X) (ρ Y)) (by simp only [conc]; rfl) (by rw [e1, e2, ← hu2]; exact this)
      · trivial
    · trivial
  · cases hc
theorem run_sliceR {t e : TypeId} {n : Nat} {i : TypeInfo} (ht : P.underlying t = some (.array n e)) (hi : P.info? e = some i) {a r : AV} {v : Value} {lo hb : Option AV} {vlo vhi : Option Value} (hv : conc σ a = some v)
    (h1 : OptC σ lo vlo) (h2 : OptC σ hb vhi) (h : sliceR n i.size lo hb a = some r) : ∃ u, conc σ r = some u ∧ (Instr.sliceAt t v vlo vhi none).run P w = .ok u w := by
  unfold sliceR at h
  split at h
  · rename_i nm o
    split at h
    · rename_i l hh hq
      cases h
      obtain ⟨_, k⟩ := bndsA_spec (P := P) (w := w) hq h1 h2 false
      cases hs : σ nm with
      | none => simp [conc, hs] at hv
      | some s =>
        simp only [conc, hs, Option.map_some, Option.some.injEq] at hv
        subst hv
        refine ⟨.slice (some (if n = l then ⟨s.block, s.off + o, none⟩ else ⟨s.block, s.off + (o + l * i.size), none⟩)) (hh - l) (n - l), ?_, ?_⟩
        · by_cases hnl : n = l
          · subst hnl; simp [conc, hs]
          · have : Nat.beq n l = false := by
              cases hb' : Nat.beq n l with
              | false => rfl
              | true => exact absurd (Nat.eq_of_beq_eq_true hb') hnl
            simp [conc, hs, hnl]
        · simp only [Instr.sliceAt, Sem.run_bind, run_underlying ht, Result.andThen_ok, Instr.sureAddr, Sem.run_pure, k, run_sizeOf hi, add_plain, Nat.add_assoc]
    · cases h
  · cases h
theorem says_slice (t : TypeId) (X : Operand) (lo hi mx : Option Operand) : Says P W Fr σ x H w (.slice t X lo hi mx) := by
  intro dst ty pos after guard os c hc ρ vs hv
  simp only [cop] at hc
  split at hc
  · cases hc
  · rename_i hmx
    have key : ∀ (f : Option AV → Option AV → AV → Option AV), (∀ (a : AV) (v : Value) (l h : Option AV) (vl vh : Option Value) (r : AV), conc σ a = some v → OptC σ l vl → OptC σ h vh → f l h a = some r →
        ∃ u, conc σ r = some u ∧ (Instr.sliceAt t v vl vh none).run P w = .ok u w) → ∀ os', os' = X :: (lo.toList ++ hi.toList) → concL σ vs = some (List.map ρ os') →
        Spec P W Fr σ x w ((execOp ρ ⟨dst, .slice t X lo hi none, ty, pos, after, guard⟩).run P w) (slcWith f lo.isSome hi.isSome vs) := by
      intro f hf os' ho hv'
      subst ho
      cases lo with
      | none =>
        cases hi with
        | none =>
          obtain ⟨a, rfl, ha⟩ := concL1 hv'
          simp only [slcWith, Option.isSome_none]
          split
          · rename_i q hq
            obtain ⟨v, k1, k2⟩ := hf a _ none none none none q ha .none .none hq
            exact spec_val (s := Instr.sliceAt t (ρ X) none none none) k1 k2
          · trivial
        | some Z =>
          obtain ⟨a, b, rfl, ha, hb⟩ := concL2 hv'
          simp only [slcWith, Option.isSome_none, Option.isSome_some]
          split
          · rename_i q hq
            obtain ⟨v, k1, k2⟩ := hf a _ none (some b) none (some (ρ Z)) q ha .none (.some hb) hq
            exact spec_val (s := Instr.sliceAt t (ρ X) none (some (ρ Z)) none) k1 k2
          · trivial
      | some Y =>
        cases hi with
        | none =>
          obtain ⟨a, b, rfl, ha, hb⟩ := concL2 hv'
          simp only [slcWith, Option.isSome_none, Option.isSome_some]
          split
          · rename_i q hq
            obtain ⟨v, k1, k2⟩ := hf a _ (some b) none (some (ρ Y)) none q ha (.some hb) .none hq
            exact spec_val (s := Instr.sliceAt t (ρ X) (some (ρ Y)) none none) k1 k2
          · trivial
        | some Z =>
          obtain ⟨a, b, d, rfl, ha, hb, hd⟩ := concL3 hv'
          simp only [slcWith, Option.isSome_some]
          split
          · rename_i q hq
            obtain ⟨v, k1, k2⟩ := hf a _ (some b) (some d) (some (ρ Y)) (some (ρ Z)) q ha (.some hb) (.some hd) hq
            exact spec_val (s := Instr.sliceAt t (ρ X) (some (ρ Y)) (some (ρ Z)) none) k1 k2
          · trivial
    split at hc
    · rename_i e ht
      split at hc
      · rename_i i hi'
        cases hc
        exact key (sliceA i.size) (fun a v l h vl vh r h1 h2 h3 h4 => run_slice ht hi' h1 h2 h3 h4) _ rfl hv
      · cases hc
    · rename_i ht
      cases hc
      exact key sliceS (fun a v l h vl vh r h1 h2 h3 h4 => run_slice_str ht h1 h2 h3 h4) _ rfl hv
    · rename_i n e ht
      split at hc
      · rename_i i hi'
        cases hc
        exact key (sliceR n i.size) (fun a v l h vl vh r h1 h2 h3 h4 => run_sliceR ht hi' h1 h2 h3 h4) _ rfl hv
      · cases hc
    · cases hc
theorem repRow_len (z : List AV) : ∀ n, (repRow z n).length = n
  | 0 => rfl
  | n + 1 => by simp [repRow, repRow_len z n]
theorem repRow_flat (z : List AV) : ∀ n, (repRow z n).flatten = repL z n
  | 0 => rfl
  | n + 1 => by simp [repRow, repL, repRow_flat z n]
theorem repRow_all (z : List AV) : ∀ n, ∀ l ∈ repRow z n, l = z
  | 0, l, h => by simp [repRow] at h
  | n + 1, l, h => by
    rcases List.mem_cons.1 h with rfl | h
    · rfl
    · exact repRow_all z n l h
theorem says_makeSlice (t : TypeId) (X Y : Operand) : Says P W Fr σ x H w (.makeSlice t X Y) := by
  intro dst ty pos after guard os c hc ρ vs hv
  simp only [cop] at hc
  split at hc
  · rename_i e ht
    split at hc
    · rename_i i hi
      split at hc
      · rename_i z hz
        split at hc
        · rename_i za hza
          split at hc
          · rename_i hcond
            cases hc
            simp only [Bool.and_eq_true] at hcond
            have c1 := Nat.eq_of_beq_eq_true hcond.1
            have c2 := blt_lt hcond.2
            simp only [exec]
            split
            · rename_i kl l kc c
              split
              · rename_i hb
                simp only [Bool.and_eq_true] at hb
                have b1 := Nat.le_of_ble_eq_true hb.1
                have b2 := Nat.le_of_ble_eq_true hb.2.1
                have b3 := Nat.le_of_ble_eq_true hb.2.2
                split
                · rename_i T hT
                  obtain ⟨a, b, e1, ha, hb'⟩ := concL2 hv
                  cases e1
                  simp only [conc, Option.some.injEq] at ha hb'
                  have hcl := concL_toAVs (σ := σ) hza
                  have hrep := repL_conc hcl (by omega) c
                  have hrun : (Instr.makeSlice t (ρ X) (ρ Y)).run P w = .ok (.slice (some ⟨w.heap.size, 0, none⟩) l c) (w.alloc (.cells (madeCells z.cells (c * i.size)) e)) := by
                    rw [← ha, ← hb']
                    have := run_make (P := P) w t e i z ht hi hz kl kc l c (by omega) (by omega) (by
                      have : ((i.bytes * c : Nat) : Int) ≤ 281474976710656 := by omega
                      rwa [Int.natCast_mul] at this) (by omega)
                    simpa using this
                  show Spec P W Fr σ x w ((do pure (Next.value (← Instr.makeSlice t (ρ X) (ρ Y))) : Sem Next).run P w) _
                  rw [run_v, hrun]
                  intro yn hyn
                  have hex := Map.upd_ext (s := (⟨w.heap.size, 0, 0⟩ : Spot)) hyn
                  refine ⟨_, ⟨w.heap.size, 0, 0⟩, _, .inl rfl, NewW.alloc w _, rfl, by simp [Kn.av, conc, Map.upd_same], ?_⟩
                  have hlen : za.length = i.size := by
                    have := (concL_get hcl).1
                    rw [this, ← c1]; simp
                  have hmade : madeCells z.cells (c * i.size) = (Array.range (c * z.cells.size)).map (z.cells[· % z.cells.size]!) := by rw [show c * i.size = c * z.cells.size by rw [c1]]; rfl
                  have := ObjOk.row (σ := σ.upd yn ⟨w.heap.size, 0, 0⟩) (e := e) (z := i.size) (s := ⟨w.heap.size, 0, 0⟩) (w := w.alloc (.cells (madeCells z.cells (c * i.size)) e)) (c := madeCells z.cells (c * i.size)) (lo := 0) (hi := 0)
                    (allLen_of (repRow za c) (fun q hq => by rw [repRow_all za c q hq, hlen])) hT
                    (by rw [repRow_flat]; exact concL_mono hex _ _ hrep) (heap_alloc_at w _) (.inr rfl) ⟨by simp, by rw [repRow_len, hmade]; simp [c1]⟩ (fun j v hj => by rw [hmade, Nat.zero_add, ← Array.getElem?_toList]; exact hj)
                  rw [repRow_len] at this
                  exact this
                · trivial
              · trivial
            · trivial
          · cases hc
        · cases hc
      · cases hc
    · cases hc
  · cases hc

theorem says_extract (X : Operand) (i : Nat) : Says P W Fr σ x H w (.extract X i) := by
  intro dst ty pos after guard os c hc ρ vs hv
  simp only [cop, Option.some.injEq, Prod.mk.injEq] at hc
  obtain ⟨rfl, rfl⟩ := hc
  obtain ⟨a, rfl, ha⟩ := concL1 hv
  simp only [exec]
  split
  · rename_i l e
    cases e
    split
    · rename_i b r hb
      rw [dropS_spec] at hb
      cases hl : concL σ l with
      | none => simp [conc, hl] at ha
      | some us =>
        simp only [conc, hl, Option.map_some, Option.some.injEq] at ha
        have h0 : l[i]? = some b := by
          have := congrArg (fun l => l[0]?) hb
          simpa [List.getElem?_drop] using this
        obtain ⟨v, e1, e2⟩ := (concL_get hl).2 i b h0
        refine spec_val (s := Instr.extract (ρ X) i) e2 ?_
        rw [← ha]
        simp [Instr.extract, e1]
    · trivial
  · trivial
theorem says_makeFunc (fn : Fn) (first captured : Array Operand) : Says P W Fr σ x H w (.makeFunc fn first captured) := by
  intro dst ty pos after guard os c hc ρ vs hv
  simp only [cop, Option.some.injEq, Prod.mk.injEq] at hc
  obtain ⟨rfl, rfl⟩ := hc
  simp only [exec]
  split
  · rename_i a b hab
    obtain ⟨e1, e2⟩ := splitS_spec _ _ _ _ hab
    subst e1
    obtain ⟨ua, ub, e3, h1, h2⟩ := concL_append hv
    have hl := (concL_get h1).1
    rw [lenL_eq] at e2
    rw [List.map_append] at e3
    have hlen : (first.toList.map ρ).length = ua.length := by simp; rw [← hl, e2]; simp
    obtain ⟨e4, e5⟩ := List.append_inj e3 hlen
    refine spec_val (s := Instr.makeFunc fn (first.map ρ) (captured.map ρ)) (u := .func fn (first.map ρ) (captured.map ρ)) ?_ (by simp [Instr.makeFunc])
    simp only [conc, h1, h2, Option.bind_some, Option.map_some, ← e4, ← e5]
    have k1 : (List.map ρ first.toList).toArray = first.map ρ := by apply Array.toList_inj.1; simp
    have k2 : (List.map ρ captured.toList).toArray = captured.map ρ := by apply Array.toList_inj.1; simp
    rw [k1, k2]
  · trivial
theorem says_makeMap (t : TypeId) (X : Option Operand) : Says P W Fr σ x H w (.makeMap t X) := by
  intro dst ty pos after guard os c hc ρ vs hv
  simp only [cop] at hc
  have hnew : ∀ {r : Result Value}, r = .ok (.map (some w.heap.size)) (w.alloc (.map #[] 0)) → Spec P W Fr σ x w (r.andThen fun v w' => .ok (.value v) w') (.new (.map [] 0) .mp) := by
    intro r hr
    rw [hr]
    intro yn hyn
    refine ⟨_, ⟨w.heap.size, 0, 0⟩, _, .inl rfl, NewW.alloc w _, rfl, by simp [Kn.av, conc, Map.upd_same], rfl, [], heap_alloc_at w _, rfl, fun i k v b m h => by simp at h⟩
  split at hc
  · rename_i kt et ht
    cases hc
    cases X with
    | none =>
      simp only [Option.toList, List.map_nil] at hv
      have : vs = [] := by
        have := (concL_get hv).1
        simpa using this
      subst this
      simp only [exec]
      show Spec P W Fr σ x w ((do pure (Next.value (← Instr.makeMap t none)) : Sem Next).run P w) _
      rw [run_v]
      exact hnew (by simp [Instr.makeMap, newObj, Sem.run])
    | some X =>
      obtain ⟨a, rfl, ha⟩ := concL1 (u := ρ X) hv
      simp only [exec]
      split
      · contradiction
      · rename_i k n e
        cases e
        simp only [conc, Option.some.injEq] at ha
        show Spec P W Fr σ x w ((do pure (Next.value (← Instr.makeMap t (some (ρ X)))) : Sem Next).run P w) _
        rw [run_v]
        exact hnew (by rw [← ha]; simp [Instr.makeMap, run_underlying ht, asInt, asIntOf, newObj, Sem.run])
      · trivial
  · cases hc
theorem says_lookup (h : Rel P W Fr σ x H w) (t : TypeId) (X Y : Operand) (ok : Bool) : Says P W Fr σ x H w (.lookup t X Y ok) := by
  intro dst ty pos after guard os c hc ρ vs hv
  simp only [cop] at hc
  split at hc
  · rename_i kt et ht
    split at hc
    · rename_i E d i hE hk hi
      split at hc
      · rename_i z hz
        split at hc
        · rename_i za hza
          cases hc
          obtain ⟨a, b, rfl, ha, hb⟩ := concL2 hv
          simp only [exec]
          split
          · rename_i r hr
            obtain ⟨q, k1, k2⟩ := run_look h ht hE hk (by omega) hi hz (conc_toAVa hza) ha hb hr
            exact spec_val (s := Instr.lookup t (ρ X) (ρ Y) ok) k1 k2
          · trivial
        · cases hc
      · cases hc
    · cases hc
  · cases hc
theorem says_upd (h : Rel P W Fr σ x H w) (t : TypeId) (X Y Z : Operand) : Says P W Fr σ x H w (.mapUpdate t X Y Z) ∧ Says P W Fr σ x H w (.insert t X Y Z) := by
  constructor <;>
  · intro dst ty pos after guard os c hc ρ vs hv
    simp only [cop] at hc
    split at hc
    · rename_i kt et ht
      split at hc
      · rename_i E d hE hk
        cases hc
        obtain ⟨a, b, q, rfl, ha, hb, hq⟩ := concL3 hv
        simp only [exec]
        split
        · rename_i H' hH
          obtain ⟨w', k1, k2⟩ := run_upd h ht hE hk (by omega) ha hb hq hH
          exact spec_eff (s := Instr.mapUpdate t (ρ X) (ρ Y) (ρ Z)) k1 k2
        · trivial
      · cases hc
    · cases hc

theorem exec_call (ρ : Operand → Value) (dst : Option Tmp) (c : Call) (ty : TypeId) (pos : String) (after : Array Edge) (guard : Option (Nat × Bool)) :
    execOp ρ ⟨dst, .call c, ty, pos, after, guard⟩ = (do let d ← resolve ρ c ty; invoke d.target d.args) := rfl
theorem toArray_map {ρ : Operand → Value} (xs : Array Operand) : (List.map ρ xs.toList).toArray = xs.map ρ := by apply Array.toList_inj.1; simp
theorem run_builtin1 (b : Builtin) (f : Array TypeId → TypeId → Array Value → Sem Value) (hf : ∀ ats ty cs args, builtin b ats ty cs args = (do pure (.value (← f ats ty args)))) (ρ : Operand → Value) (xs : Array Operand) (ats : Array TypeId) (ty : TypeId) :
    (do let d ← resolve ρ { callee := .builtin b, args := xs, argTypes := ats } ty; invoke d.target d.args : Sem Next).run P w = ((f ats ty (xs.map ρ)).run P w).andThen fun v w' => .ok (.value v) w' := by
  simp [resolve, invoke, hf]
theorem says_call (h : Rel P W Fr σ x H w) (cl : Call) (dst : Option Tmp) (ty : TypeId) (pos : String) (after : Array Edge) (guard : Option (Nat × Bool)) (os : List Operand) (c : COp)
    (hc : cop P ⟨dst, .call cl, ty, pos, after, guard⟩ = some (os, c)) (ρ : Operand → Value) (hρ : ∀ f, ρ (.func f) = .func (.func f) #[] #[]) (vs : List AV) (hv : concL σ vs = some (os.map ρ)) :
    Spec P W Fr σ x w ((execOp ρ ⟨dst, .call cl, ty, pos, after, guard⟩).run P w) (exec c vs x H) := by
  obtain ⟨callee, args, ats⟩ := cl
  rw [exec_call]
  simp only [cop] at hc
  have hvalue : ∀ (X : Operand), concL σ vs = some ((X :: args.toList).map ρ) → Spec P W Fr σ x w ((do let d ← resolve ρ { callee := .value X, args := args, argTypes := ats } ty; invoke d.target d.args : Sem Next).run P w) (exec .callv vs x H) := by
    intro X hv'
    simp only [exec]
    split
    · rename_i f a b r
      obtain ⟨u, us, e, h1, h2⟩ := concL_cons hv'
      simp only [List.map_cons, List.cons.injEq] at e
      obtain ⟨e1, e2⟩ := e
      obtain ⟨ya, yb, h3, h4, h5⟩ := conc_fn h1
      refine ⟨ya ++ (us ++ yb), concL_append_mk h3 (concL_append_mk h2 h4), fun hok => ?_⟩
      have hx : ρ X = .func (.func f) ya.toArray yb.toArray := by rw [e1, h5]
      have := run_callFunc (P := P) (w := w) hok (ya.toArray ++ args.map ρ ++ yb.toArray)
      simp only [resolve, Sem.run_bind, Sem.run_pure, Result.andThen_ok, hx, Deferred.ofValue, invoke]
      rw [this]
      congr 2
      rw [← toArray_map args, e2]
      simp
    · trivial
  split at hc
  · rename_i f
    split at hc
    · rename_i k hk
      cases hc
      simp only [exec]
      simp only [resolve, Sem.run_bind, Sem.run_pure, Result.andThen_ok, hρ, Deferred.ofValue, invoke]
      simp only [Array.empty_append, Array.append_empty]
      rw [← toArray_map]
      exact run_xt hk hv
    cases hc
    simp only [exec]
    refine ⟨_, hv, fun hok => ?_⟩
    have := run_callFunc (P := P) (w := w) hok (args.map ρ)
    simp only [resolve, Sem.run_bind, Sem.run_pure, Result.andThen_ok, hρ, Deferred.ofValue, invoke]
    simp only [Array.empty_append, Array.append_empty]
    rw [this, toArray_map]
  · rename_i X hX
    cases hc
    exact hvalue X hv
  · split at hc
    · rename_i t u hat
      split at hc
      · rename_i e d ht hu
        split at hc
        · rename_i i hi
          split at hc
          · rename_i z hz
            split at hc
            · rename_i hcond
              cases hc
              rw [Bool.and_eq_true] at hcond
              rw [run_builtin1 .append Builtin.append_ (fun _ _ _ _ => rfl)]
              simp only [exec]
              split
              · rename_i s y
                obtain ⟨u1, us, e1, h1, h2⟩ := concL_cons hv
                obtain ⟨u2, us2, e2, h3, h4⟩ := concL_cons h2
                have hn := concL_nil h4
                subst hn e2
                have hat' : ats = #[t, u] := by apply Array.toList_inj.1; simpa using hat
                have har : args.map ρ = #[u1, u2] := by rw [← toArray_map, e1]
                rw [hat', har]
                exact appA_spec h ht hi hz hu hcond.1 (Nat.eq_of_beq_eq_true hcond.2) (fun hb => Nat.eq_of_beq_eq_true hb) h1 h3
              · trivial
            · cases hc
          · cases hc
        · cases hc
      · cases hc
    · cases hc
  · have hlen : ∀ (k : Nat) (t : TypeId) (d : TypeDesc), ats = #[t] → P.underlying t = some d → ((k = 0 ∧ d = .string) ∨ (k = 1 ∧ ∃ e, d = .slice e) ∨ (k = 2 ∧ ∃ a b, d = .map a b)) →
        concL σ vs = some (args.toList.map ρ) → Spec P W Fr σ x w ((do let d ← resolve ρ { callee := .builtin .len, args := args, argTypes := ats } ty; invoke d.target d.args : Sem Next).run P w) (exec (.len k) vs x H) := by
      intro k t d hat hd hk hv'
      rw [run_builtin1 .len Builtin.len_ (fun _ _ _ _ => rfl)]
      simp only [exec]
      split
      · rename_i a
        obtain ⟨u1, us, e1, h1, h2⟩ := concL_cons hv'
        have hn := concL_nil h2
        subst hn
        have har : args.map ρ = #[u1] := by rw [← toArray_map, e1]
        rw [hat, har]
        split
        · rename_i n hn
          refine ⟨.int .i64 n, by simp [conc], .inl ?_⟩
          have hr : (Builtin.len_ #[t] ty #[u1]).run P w = .ok (.int .i64 n) w := by
            rcases hk with ⟨rfl, rfl⟩ | ⟨rfl, e, rfl⟩ | ⟨rfl, p, q, rfl⟩
            · cases a <;> try (simp [lenA] at hn; done)
              simp only [lenA, Option.some.injEq] at hn
              subst hn
              obtain ⟨_, rfl⟩ := conc_str h1
              have hsz : ∀ l n, (⟨(dec l n).toArray⟩ : ByteArray).size = l := fun l n => by simp [ByteArray.size, length_dec]
              simp [Builtin.len_, run_underlying hd, goInt, hsz]
            · cases a <;> try (simp [lenA] at hn; done)
              · simp only [lenA, Option.some.injEq] at hn
                subst hn
                simp only [conc, Option.some.injEq] at h1
                subst h1
                simp [Builtin.len_, run_underlying hd, goInt]
              · rename_i m o l c
                simp only [lenA, Option.some.injEq] at hn
                subst hn
                obtain ⟨p, cp, rfl⟩ : ∃ p cp, u1 = .slice p l cp := by
                  cases hs : σ m with
                  | none => cases c <;> simp [conc, hs] at h1
                  | some s =>
                    cases c with
                    | known c => simp [conc, hs] at h1; exact ⟨_, _, h1.symm⟩
                    | open_ k => simp only [conc, hs, Option.bind_some] at h1; split at h1 <;> simp at h1; exact ⟨_, _, h1.symm⟩
                simp [Builtin.len_, run_underlying hd, goInt]
            · cases a <;> try (simp [lenA] at hn; done)
              · simp only [lenA, Option.some.injEq] at hn
                subst hn
                simp only [conc, Option.some.injEq] at h1
                subst h1
                simp [Builtin.len_, run_underlying hd, goInt]
              · rename_i m
                simp only [lenA] at hn
                split at hn
                · rename_i es cl ho
                  simp only [Option.some.injEq] at hn
                  cases hs : σ m with
                  | none => simp [conc, hs] at h1
                  | some s =>
                    simp only [conc, hs, Option.map_some, Option.some.injEq] at h1
                    subst h1
                    obtain ⟨_, l, hb, hl, _⟩ := h.obj m _ s ho hs
                    rw [lenL_eq] at hn
                    subst hn
                    simp [Builtin.len_, run_underlying hd, goInt, run_getObj_map hb, hl]
                · cases hn
          rw [hr]; rfl
        · trivial
      · trivial
    split at hc
    · rename_i t hat
      have hat' : ats = #[t] := by apply Array.toList_inj.1; simpa using hat
      split at hc
      · rename_i hd; cases hc; exact hlen 0 t _ hat' hd (.inl ⟨rfl, rfl⟩) hv
      · rename_i e hd; cases hc; exact hlen 1 t _ hat' hd (.inr (.inl ⟨rfl, e, rfl⟩)) hv
      · rename_i a b hd; cases hc; exact hlen 2 t _ hat' hd (.inr (.inr ⟨rfl, a, b, rfl⟩)) hv
      · cases hc
    · cases hc
  · cases hc
    rw [run_builtin1 .max Builtin.max_ (fun _ _ _ _ => rfl)]
    simp only [exec]
    split
    · rename_i k a j b
      obtain ⟨u1, us, e1, h1, h2⟩ := concL_cons hv
      obtain ⟨u2, us2, e2, h3, h4⟩ := concL_cons h2
      have hn := concL_nil h4
      subst hn e2
      have har : args.map ρ = #[u1, u2] := by rw [← toArray_map, e1]
      simp only [conc, Option.some.injEq] at h1 h3
      rw [har, ← h1, ← h3]
      exact ⟨_, by simp only [conc]; rfl, .inl (by simp [Builtin.max_, Builtin.max2, ilt_iff])⟩
    · trivial
  · cases hc
    rw [run_builtin1 .min Builtin.min_ (fun _ _ _ _ => rfl)]
    simp only [exec]
    split
    · rename_i k a j b
      obtain ⟨u1, us, e1, h1, h2⟩ := concL_cons hv
      obtain ⟨u2, us2, e2, h3, h4⟩ := concL_cons h2
      have hn := concL_nil h4
      subst hn e2
      have har : args.map ρ = #[u1, u2] := by rw [← toArray_map, e1]
      simp only [conc, Option.some.injEq] at h1 h3
      rw [har, ← h1, ← h3]
      exact ⟨_, by simp only [conc]; rfl, .inl (by simp [Builtin.min_, Builtin.min2, ilt_iff])⟩
    · trivial
  · cases hc

/-- Each operation says what it says. -/
theorem exec_spec (h : Rel P W Fr σ x H w) {o : Oper} {os : List Operand} {c : COp} (hc : cop P o = some (os, c)) {ρ : Operand → Value} (hρ : ∀ f, ρ (.func f) = .func (.func f) #[] #[]) {vs : List AV} (hv : concL σ vs = some (os.map ρ)) :
    Spec P W Fr σ x w ((execOp ρ o).run P w) (exec c vs x H) := by
  obtain ⟨dst, op, ty, pos, after, guard⟩ := o
  cases op with
  | move X => exact says_move X _ _ _ _ _ _ _ hc _ _ hv
  | assign X => exact says_assign X _ _ _ _ _ _ _ hc _ _ hv
  | pick X Y Z => exact says_pick X Y Z _ _ _ _ _ _ _ hc _ _ hv
  | alloc e => exact says_alloc e _ _ _ _ _ _ _ hc _ _ hv
  | box e X => exact says_box e X _ _ _ _ _ _ _ hc _ _ hv
  | build t parts => exact says_build t parts _ _ _ _ _ _ _ hc _ _ hv
  | buildSlice t len parts => exact says_buildSlice t len parts _ _ _ _ _ _ _ hc _ _ hv
  | load t X => exact says_load h t X _ _ _ _ _ _ _ hc _ _ hv
  | store t X Y => exact says_store h t X Y _ _ _ _ _ _ _ hc _ _ hv
  | nilCheck X => exact says_nilCheck X _ _ _ _ _ _ _ hc _ _ hv
  | binOp op t X Y u => exact says_binOp op t X Y u _ _ _ _ _ _ _ hc _ _ hv
  | unOp op t X => exact says_unOp op t X _ _ _ _ _ _ _ hc _ _ hv
  | convert s t X => exact says_convert h s t X _ _ _ _ _ _ _ hc _ _ hv
  | makeInterface t X => exact says_makeInterface t X _ _ _ _ _ _ _ hc _ _ hv
  | makeFunc f a b => exact says_makeFunc f a b _ _ _ _ _ _ _ hc _ _ hv
  | makeMap t X => exact says_makeMap t X _ _ _ _ _ _ _ hc _ _ hv
  | makeSlice t X Y => exact says_makeSlice t X Y _ _ _ _ _ _ _ hc _ _ hv
  | slice t X lo hi mx => exact says_slice t X lo hi mx _ _ _ _ _ _ _ hc _ _ hv
  | fieldAddr t X f => exact says_fieldAddr t X f _ _ _ _ _ _ _ hc _ _ hv
  | field t X f => exact says_field t X f _ _ _ _ _ _ _ hc _ _ hv
  | indexAddr t X Y => exact says_indexAddr t X Y _ _ _ _ _ _ _ hc _ _ hv
  | index t X Y => exact says_index t X Y _ _ _ _ _ _ _ hc _ _ hv
  | lookup t X Y ok => exact says_lookup h t X Y ok _ _ _ _ _ _ _ hc _ _ hv
  | mapUpdate t X Y Z => exact (says_upd h t X Y Z).1 _ _ _ _ _ _ _ hc _ _ hv
  | insert t X Y Z => exact (says_upd h t X Y Z).2 _ _ _ _ _ _ _ hc _ _ hv
  | range t X => exact says_range h t X _ _ _ _ _ _ _ hc _ _ hv
  | next X b => exact says_next h X b _ _ _ _ _ _ _ hc _ _ hv
  | entry X => exact says_entry h X _ _ _ _ _ _ _ hc _ _ hv
  | extract X i => exact says_extract X i _ _ _ _ _ _ _ hc _ _ hv
  | call cl => exact says_call h cl _ _ _ _ _ _ _ hc _ hρ _ hv
  | _ => simp [cop] at hc
end
end
end Go.Proofs.YtldjbgklmeigmaaGreatDoor.Ev

namespace Go.Proofs.YtldjbgklmeigmaaGreatDoor.Ev
open Go Go.RowKit
noncomputable section
set_option linter.unusedVariables false

/-- An operand: a slot of the frame, the value of an operation so far back in the region, a constant. -/
inductive XOpd where
  | slot (p : Ps)
  | res (d : Nat)
  | cst (a : AV)
  deriving Inhabited
/-- An operation with its operands, the slot that is kept, and what it waits for. -/
structure XOper where
  keep : Option Ps
  guard : Option (Nat × Bool)
  opds : List XOpd
  c : COp
  deriving Inhabited
/-- Numbers of operations back to the one that wrote a slot last. -/
def findD : List (Option Tmp) → Tmp → Nat → Option Nat
  | [], _, _ => none
  | o :: l, t, d => match o with
    | none => findD l t (Nat.succ d)
    | some u => if Nat.beq u t then some d else findD l t (Nat.succ d)
def xopd (P : Program) (pre : List (Option Tmp)) : Operand → Option XOpd
  | .tmp t => match findD pre t 0 with
    | some d => some (.res d)
    | none => match ix t with
      | some p => some (.slot p)
      | none => none
  | .const v => match toAVa v with
    | some a => some (.cst a)
    | none => none
  | .global g => if Nat.blt g P.globals.size then (match ix g with
    | some p => some (.cst (.ptr p 0))
    | none => none) else none
  | .func f => some (.cst (.fn (.func f) [] []))
def xopds (P : Program) (pre : List (Option Tmp)) : List Operand → Option (List XOpd)
  | [] => some []
  | X :: l => match xopd P pre X with
    | some c => match xopds P pre l with
      | some r => some (c :: r)
      | none => none
    | none => none
/-- The slots that are kept beyond a region. -/
abbrev Keep := PT Unit
/-- Is the slot kept? (nt: how many slots there are.) -/
def xkeep (kp : Keep) (nt : Nat) : Option Tmp → Option (Option Ps)
  | none => some none
  | some d => if Nat.blt d nt then (match ix d with
    | some p => match PT.get p kp with
      | some _ => some (some p)
      | none => some none
    | none => none) else none
/-- What an operation waits for, as a number of operations back. -/
def xguard (ops : Array Oper) (pre : List (Option Tmp)) : Option (Nat × Bool) → Option (Option (Nat × Bool))
  | none => some none
  | some (j, want) => match (ops[j]?).bind (·.dst) with
    | some g => match findD pre g 0 with
      | some d => some (some (d, want))
      | none => none
    | none => none
def xoper (P : Program) (kp : Keep) (nt : Nat) (ops : Array Oper) (pre : List (Option Tmp)) (o : Oper) : Option XOper :=
  match cop P o with
  | some (os, c) => match xopds P pre os with
    | some opds => match xkeep kp nt o.dst with
      | some keep => match xguard ops pre o.guard with
        | some guard => some { keep, guard, opds, c }
        | none => none
      | none => none
    | none => none
  | none => none
def xopers (P : Program) (kp : Keep) (nt : Nat) (ops : Array Oper) : List (Option Tmp) → List Oper → List (Option XOper)
  | _, [] => []
  | pre, o :: l => xoper P kp nt ops pre o :: xopers P kp nt ops (o.dst :: pre) l

/-- Does the operation change memory? -/
def isEff : COp → Bool
  | .store _ | .upd _ | .app .. | .call _ | .callv | .mark | .nxt => true
  | _ => false
/-- A number's digit. -/
def tb (m i : Nat) : Bool := Nat.beq (Nat.land (Nat.shiftRight m i) 1) 1
def nthN : List Nat → Nat → Option Nat
  | [], _ => none
  | a :: l, d => match d with
    | 0 => some a
    | d + 1 => nthN l d
/-- What an operation of a region that draws waits for. -/
def depL (o : Oper) : List Nat := (o.after.toList.filter (Region.binds .any)).map (·.on)
/-- Those it waits for, and those that they wait for. -/
def maskD (ms : List Nat) : List Nat → Option Nat
  | [] => some 0
  | d :: ds => match nthN ms d with
    | some m => match maskD ms ds with
      | some r => some (Nat.lor (Nat.lor (Nat.shiftLeft 1 d) m) r)
      | none => none
    | none => none
def masks : List Oper → List Nat → Option (List Nat)
  | [], ms => some ms
  | o :: l, ms => match maskD ms (depL o) with
    | some m => masks l (ms ++ [m])
    | none => none
/-- An operation that is done: its number, whether it changes memory, its slot. -/
structure Dn where
  i : Nat
  eff : Bool
  dst : Option Tmp
  deriving Inhabited
def findJ : List Dn → Tmp → Option Nat
  | [], _ => none
  | j :: l, t => match j.dst with
    | none => findJ l t
    | some u => if Nat.beq u t then some j.i else findJ l t
def readOk (mask : Nat) (L : List Dn) : Operand → Bool
  | .tmp t => match findJ L t with
    | some m => tb mask m
    | none => true
  | _ => true
def readsOk (mask : Nat) (L : List Dn) : List Operand → Bool
  | [] => true
  | X :: l => if readOk mask L X then readsOk mask L l else false
def guardOk (ops : Array Oper) (mask : Nat) (L : List Dn) : Option (Nat × Bool) → Bool
  | none => true
  | some (j, _) => match (ops[j]?).bind (·.dst) with
    | some g => readOk mask L (.tmp g)
    | none => false
def ordOne (mask : Nat) (j : Dn) : Bool :=
  match j.eff with
  | true => tb mask j.i
  | false => true
def allOrd (mask : Nat) : List Dn → Bool
  | [] => true
  | j :: l => if ordOne mask j then allOrd mask l else false
def dstOk (L : List Dn) : Option Tmp → Bool
  | none => true
  | some t => match findJ L t with
    | some _ => false
    | none => true
def needOne (mask : Nat) (j : Dn) : Bool :=
  match j.eff with
  | true => false
  | false => !(tb mask j.i)
def needOf (mask : Nat) : List Dn → List Bool
  | [] => []
  | j :: l => needOne mask j :: needOf mask l
/-- An operation of a region that draws; need: which of those done before may still come behind it. -/
structure DOper where
  o : XOper
  eff : Bool
  need : List Bool
  deriving Inhabited
def doper (P : Program) (kp : Keep) (nt : Nat) (ops : Array Oper) (ms : List Nat) (L : List Dn) (seen : Nat) (i : Nat) : Option (DOper × Oper) :=
  match ops[i]? with
  | none => none
  | some o => match nthN ms i with
    | none => none
    | some mask => match cop P o with
      | none => none
      | some (os, _) => if (!(tb seen i) && allOrd mask L) && (dstOk L o.dst && (readsOk mask L os && guardOk ops mask L o.guard)) then
        (match xoper P kp nt ops (L.map (·.dst)) o with
        | none => none
        | some co => some (⟨co, isEff co.c, match isEff co.c with | true => needOf mask L | false => []⟩, o)) else none
def dopers (P : Program) (kp : Keep) (nt : Nat) (ops : Array Oper) (ms : List Nat) : List Dn → Nat → List Nat → Option (List DOper)
  | _, seen, [] => if Nat.beq (Nat.succ seen) (Nat.shiftLeft 1 ops.size) then some [] else none
  | L, seen, i :: l => match doper P kp nt ops ms L seen i with
    | none => none
    | some (d, o) => match dopers P kp nt ops ms (⟨i, d.eff, o.dst⟩ :: L) (Nat.lor seen (Nat.shiftLeft 1 i)) l with
      | none => none
      | some r => some (d :: r)
/-- An order in which what leaves memory comes as early as it can. -/
def effI (P : Program) : Nat → List Oper → List Nat
  | _, [] => []
  | i, o :: l => match cop P o with
    | some (_, c) => match isEff c with
      | true => i :: effI P (i + 1) l
      | false => effI P (i + 1) l
    | none => effI P (i + 1) l
def countB (m : Nat) : List Nat → Nat
  | [] => 0
  | e :: l => match tb m e with
    | true => Nat.succ (countB m l)
    | false => countB m l
def stageI (es : List Nat) (k : Nat) (want : Bool) : Nat → List Nat → List Nat
  | _, [] => []
  | i, m :: l => if Nat.beq (countB m es) k && (match es.any (Nat.beq i ·), want with | true, true => true | false, false => true | _, _ => false) then i :: stageI es k want (i + 1) l else stageI es k want (i + 1) l
def permI (es ms : List Nat) : Nat → Nat → List Nat
  | _, 0 => []
  | k, f + 1 => stageI es k false 0 ms ++ (stageI es k true 0 ms ++ permI es ms (k + 1) f)
def plan (P : Program) (kp : Keep) (nt : Nat) (ops : Array Oper) : Option (List DOper) :=
  match P.follows .mixedOrders with
  | false => none
  | true => match masks ops.toList [] with
    | none => none
    | some ms => match effI P 0 ops.toList with
      | es => dopers P kp nt ops ms [] 0 (permI es ms 0 (Nat.succ (lenL es)))
/-- The slots that a region writes. -/
def ers (kp : Keep) (nt : Nat) : List Oper → List Ps
  | [] => []
  | o :: l => match xkeep kp nt o.dst with
    | some (some p) => p :: ers kp nt l
    | _ => ers kp nt l
/-- Does it wait for all the others? -/
def lastB (n m i : Nat) : Bool := Nat.beq (Nat.succ (Nat.lor m (Nat.shiftLeft 1 i))) (Nat.shiftLeft 1 n)
/-- The slots that a region writes, but those that its last operation writes. -/
def ersL (kp : Keep) (nt n : Nat) : Nat → List Nat → List Oper → List Ps
  | _, _, [] => []
  | _, [], o :: l => ers kp nt (o :: l)
  | i, m :: ms, o :: l => match xkeep kp nt o.dst with
    | some (some p) => if lastB n m i then ersL kp nt n (Nat.succ i) ms l else p :: ersL kp nt n (Nat.succ i) ms l
    | _ => ersL kp nt n (Nat.succ i) ms l
def rdr (kp : Keep) (nt : Nat) (ops : Array Oper) : List Ps :=
  match masks ops.toList [] with
  | some ms => ersL kp nt ops.size 0 ms ops.toList
  | none => ers kp nt ops.toList
/-- Code with its types looked up. -/
inductive CCode where
  | skip
  | reg (ops : List (Option XOper))
  | drw (ops : List DOper) (er rd : List Ps)
  | seq (a b : CCode)
  | cond (c : Option XOpd) (a b : CCode)
  | block (id : Nat) (b : CCode)
  | loop (b : CCode)
  | exit (id : Nat)
  | scope (b : CCode)
  | ret
  | bad
  deriving Inhabited
inductive CRes where
  | tmp (p : Ps)
  | cell (p : Ps) (agg : Bool) (n : Nat)
  deriving Inhabited
structure CFun where
  nt : Nat
  kp : PT Unit
  body : CCode
  res : List CRes
  deriving Inhabited

def compC (P : Program) (kp : Keep) (nt : Nat) : Code → CCode
  | .skip => .skip
  | .region _ ops draw => match draw with
    | false => .reg (xopers P kp nt ops [] ops.toList)
    | true => match plan P kp nt ops with
      | some l => .drw l (ers kp nt ops.toList) (rdr kp nt ops)
      | none => .bad
  | .seq a b => .seq (compC P kp nt a) (compC P kp nt b)
  | .cond c a b => .cond (xopd P [] c) (compC P kp nt a) (compC P kp nt b)
  | .block id b => .block id (compC P kp nt b)
  | .loop b => .loop (compC P kp nt b)
  | .exit id => .exit id
  | .scope b => .scope (compC P kp nt b)
  | .label _ => .skip
  | .ret => .ret
  | _ => .bad
/-- The slots that an operand reads beyond those written in the region. -/
def addRead (pre : List (Option Tmp)) (X : Operand) (kp : Keep) : Keep :=
  match X with
  | .tmp t => match findD pre t 0 with
    | some _ => kp
    | none => match ix t with
      | some p => PT.put (some ()) p kp
      | none => kp
  | _ => kp
def addReads (pre : List (Option Tmp)) : List Operand → Keep → Keep
  | [], kp => kp
  | X :: l, kp => addReads pre l (addRead pre X kp)
def addOps : List (Option Tmp) → List Oper → Keep → Keep
  | _, [], kp => kp
  | pre, o :: l, kp => addOps (o.dst :: pre) l (addReads pre o.op.operands.toList kp)
/-- The slots that code reads beyond the region that wrote them. -/
def keepC : Code → Keep → Keep
  | .region _ ops _, kp => addOps [] ops.toList kp
  | .seq a b, kp => keepC b (keepC a kp)
  | .cond c a b, kp => keepC b (keepC a (addRead [] c kp))
  | .block _ b, kp => keepC b kp
  | .loop b, kp => keepC b kp
  | .scope b, kp => keepC b kp
  | _, kp => kp
def keepR : List ResultVar → Keep → Keep
  | [], kp => kp
  | .tmp t :: l, kp => keepR l (addRead [] (.tmp t) kp)
  | .cell a _ :: l, kp => keepR l (addRead [] (.tmp a) kp)
def cres (P : Program) : List ResultVar → Option (List CRes)
  | [] => some []
  | .tmp t :: l => match ix t with
    | some p => match cres P l with
      | some r => some (.tmp p :: r)
      | none => none
    | none => none
  | .cell a t :: l => match ix a with
    | some p => match P.underlying t, P.info? t with
      | some d, some i => match cres P l with
        | some r => some (.cell p (aggT d) (if aggT d then i.size else 1) :: r)
        | none => none
      | _, _ => none
    | none => none
/-- A function of the program as the evaluator has it. -/
def cfun (P : Program) (f : FuncId) : Option CFun :=
  match okFn P f with
  | false => none
  | true => match P.funcs[f]? with
    | some fn => match fn.body with
      | some b => match cres P fn.results.toList with
        | some r => some { nt := fn.ntmps, kp := keepR fn.results.toList (keepC b .lf), body := compC P (keepR fn.results.toList (keepC b .lf)) fn.ntmps b, res := r }
        | none => none
      | none => none
    | none => none

def nthA : List AV → Nat → Option AV
  | [], _ => none
  | a :: l, d => match d with
    | 0 => some a
    | d + 1 => nthA l d
def evX (T : PT AV) (E : List AV) : XOpd → Option AV
  | .slot p => PT.get p T
  | .res d => nthA E d
  | .cst a => some a
def evXs (T : PT AV) (E : List AV) : List XOpd → Option (List AV)
  | [] => some []
  | c :: l => match evX T E c with
    | some a => match evXs T E l with
      | some r => some (a :: r)
      | none => none
    | none => none
/-- The arguments that are kept. -/
def putArgs (kp : Keep) : List AV → Nat → PT AV → Option (PT AV)
  | [], _, T => some T
  | a :: l, k, T => match ix k with
    | some p => match PT.get p kp with
      | some _ => putArgs kp l (Nat.succ k) (PT.put (some a) p T)
      | none => putArgs kp l (Nat.succ k) T
    | none => none
def evRes (T : PT AV) (H : Heap) : List CRes → Option (List AV)
  | [] => some []
  | .tmp p :: l => match PT.get p T with
    | some a => match evRes T H l with
      | some r => some (a :: r)
      | none => none
    | none => none
  | .cell p agg n :: l => match PT.get p T with
    | some (.ptr q off) => match loadA H q off n with
      | some m => match evRes T H l with
        | some r => match agg with
          | true => some (.agg m :: r)
          | false => match m with
            | [a] => some (a :: r)
            | _ => none
        | none => none
      | none => none
    | _ => none
def oneOf : List AV → AV
  | [a] => a
  | l => .tup l

/-- Is an operation wanted? none: not known. -/
def wantX (E : List AV) : Option (Nat × Bool) → Option Bool
  | none => some true
  | some (d, want) => match nthA E d with
    | some (.bool b) => some (match b, want with
      | true, true => true
      | false, false => true
      | _, _ => false)
    | some (.tup _) => some false
    | _ => none
/-- The slots behind an operation. -/
def putD (d : Option Ps) (a : AV) (T : PT AV) : PT AV :=
  match d with
  | none => T
  | some p => PT.put (some a) p T

inductive Out where
  | norm
  | exit (id : Nat)
  | ret
  deriving Inhabited
inductive Job where
  | call (f : FuncId) (args : List AV)
  | code (c : CCode) (T : PT AV)
  deriving Inhabited
inductive Res where
  | no
  | val (v : AV) (x : Ps) (H : Heap)
  | out (o : Out) (T : PT AV) (x : Ps) (H : Heap)
  deriving Inhabited
/-- Calls whose outcome is known otherwise. -/
abbrev Hook := FuncId → List AV → Ps → Heap → Option (AV × Ps × Heap)

/-- The operations of a region, one behind the other. -/
def opsX (call : FuncId → List AV → Ps → Heap → Res) : List (Option XOper) → List AV → PT AV → Ps → Heap → Res
  | [], _, T, x, H => .out .norm T x H
  | none :: _, _, _, _, _ => .no
  | some o :: l, E, T, x, H => match wantX E o.guard with
    | none => .no
    | some false => opsX call l (.tup [] :: E) (putD o.keep (.tup []) T) x H
    | some true => match evXs T E o.opds with
      | none => .no
      | some vs => match exec o.c vs x H with
        | .no => .no
        | .val v => opsX call l (v :: E) (putD o.keep v T) x H
        | .new ob k => opsX call l (k.av x :: E) (putD o.keep (k.av x) T) x.succ (PT.put (some ob) x H)
        | .eff v x' H' => opsX call l (v :: E) (putD o.keep v T) x' H'
        | .call f args => match call f args x H with
          | .val v x' H' => opsX call l (v :: E) (putD o.keep v T) x' H'
          | _ => .no

/-- A value that an operation came to, and how. -/
structure RE where
  c : COp
  vs : List AV
  v : AV
  y : Option Ps
  deriving Inhabited
def eqRoom : Room → Room → Bool
  | .known a, .known b => Nat.beq a b
  | .open_ a, .open_ b => Nat.beq a b
  | _, _ => false
def eqB : Bool → Bool → Bool
  | true, b => b
  | false, b => !b
mutual
/-- Are two values one? (false: not known.) -/
def eqAV : AV → AV → Bool
  | .bool a, w => match w with
    | .bool b => eqB a b
    | _ => false
  | .int j a, w => match w with
    | .int k b => match decEq j k with
      | .isTrue _ => ieq a b
      | .isFalse _ => false
    | _ => false
  | .str l a, w => match w with
    | .str m b => if Nat.beq l m then Nat.beq a b else false
    | _ => false
  | .ptr n a, w => match w with
    | .ptr m b => if Ps.eqb n m then Nat.beq a b else false
    | _ => false
  | .slc n a l c, w => match w with
    | .slc m b k d => if Ps.eqb n m && (Nat.beq a b && Nat.beq l k) then eqRoom c d else false
    | _ => false
  | .nils a b, w => match w with
    | .nils c d => if Nat.beq a c then Nat.beq b d else false
    | _ => false
  | .mp n, w => match w with
    | .mp m => Ps.eqb n m
    | _ => false
  | .ifc t v, w => match w with
    | .ifc u v' => if Nat.beq t u then eqAV v v' else false
    | _ => false
  | .agg l, w => match w with
    | .agg m => eqAVs l m
    | _ => false
  | .tup l, w => match w with
    | .tup m => eqAVs l m
    | _ => false
  | .fn (.func f) a b, w => match w with
    | .fn (.func g) c d => if Nat.beq f g then (if eqAVs a c then eqAVs b d else false) else false
    | _ => false
  | .flt j a, w => match w with
    | .flt k b => match decEq j k with
      | .isTrue _ => Nat.beq a b
      | .isFalse _ => false
    | _ => false
  | .nilp, w => match w with
    | .nilp => true
    | _ => false
  | .nilm, w => match w with
    | .nilm => true
    | _ => false
  | .nilfn, w => match w with
    | .nilfn => true
    | _ => false
  | .nili, w => match w with
    | .nili => true
    | _ => false
  | _, _ => false
def eqAVs : List AV → List AV → Bool
  | [], m => match m with
    | [] => true
    | _ :: _ => false
  | a :: l, m => match m with
    | [] => false
    | b :: r => if eqAV a b then eqAVs l r else false
end
def eqOL : Option (List AV) → Option (List AV) → Bool
  | none, none => true
  | some a, some b => eqAVs a b
  | _, _ => false
def eqRow : PT (List AV) → PT (List AV) → Bool
  | .lf, t => match t with
    | .lf => true
    | _ => false
  | .nd l v r, t => match t with
    | .lf => false
    | .nd l' v' r' => if eqOL v v' then (if eqRow l l' then eqRow r r' else false) else false
def eqEnts : List (AV × AV × Nat) → List (AV × AV × Nat) → Bool
  | [], m => match m with
    | [] => true
    | _ :: _ => false
  | a :: l, m => match m with
    | [] => false
    | b :: r => if eqAV a.1 b.1 then (if eqAV a.2.1 b.2.1 then (if Nat.beq a.2.2 b.2.2 then eqEnts l r else false) else false) else false
def eqObj : AObj → AObj → Bool
  | .cells e sz ro n t, o => match o with
    | .cells e' sz' ro' n' t' => if Nat.beq e e' && (Nat.beq sz sz' && (eqB ro ro' && Nat.beq n n')) then eqRow t t' else false
    | _ => false
  | .map es c, o => match o with
    | .map es' d => if Nat.beq c d then eqEnts es es' else false
    | _ => false
  | .iter _ _ _ _, _ => false
/-- Does it come to the same, later? -/
def rechk1 (re : RE) (x : Ps) (H : Heap) : Bool :=
  match exec re.c re.vs x H with
  | .val v => match re.y with
    | none => eqAV v re.v
    | some _ => false
  | .new ob k => match re.y with
    | some y => if eqAV (k.av y) re.v then (match PT.get y H with
      | some u => eqObj u ob
      | none => false) else false
    | none => false
  | _ => false
def rechkB (x : Ps) (H : Heap) (b : Bool) (r : Option RE) : Bool :=
  match b with
  | false => true
  | true => match r with
    | none => true
    | some re => rechk1 re x H
def rechk (x : Ps) (H : Heap) : List Bool → List (Option RE) → Bool
  | [], _ => true
  | _ :: _, [] => true
  | b :: l, r :: R => if rechkB x H b r then rechk x H l R else false
def eraseD : List Ps → PT AV → PT AV
  | [], T => T
  | p :: l, T => eraseD l (PT.put none p T)
/-- The operations of a region that draws its order (T1: the slots as they were, those that it writes struck). -/
def drawX (call : FuncId → List AV → Ps → Heap → Res) (T1 : PT AV) : List DOper → List AV → List (Option RE) → PT AV → Ps → Heap → Res
  | [], _, _, T, x, H => .out .norm T x H
  | d :: l, E, R, T, x, H => match wantX E d.o.guard with
    | none => .no
    | some false => drawX call T1 l (.tup [] :: E) (none :: R) (putD d.o.keep (.tup []) T) x H
    | some true => match evXs T1 E d.o.opds with
      | none => .no
      | some vs => match d.eff with
        | false => match exec d.o.c vs x H with
          | .val v => drawX call T1 l (v :: E) (some ⟨d.o.c, vs, v, none⟩ :: R) (putD d.o.keep v T) x H
          | .new ob k => drawX call T1 l (k.av x :: E) (some ⟨d.o.c, vs, k.av x, some x⟩ :: R) (putD d.o.keep (k.av x) T) x.succ (PT.put (some ob) x H)
          | _ => .no
        | true => match exec d.o.c vs x H with
          | .val v => if rechk x H d.need R then drawX call T1 l (v :: E) (none :: R) (putD d.o.keep v T) x H else .no
          | .new ob k => if rechk x.succ (PT.put (some ob) x H) d.need R then drawX call T1 l (k.av x :: E) (none :: R) (putD d.o.keep (k.av x) T) x.succ (PT.put (some ob) x H) else .no
          | .eff v x' H' => if rechk x' H' d.need R then drawX call T1 l (v :: E) (none :: R) (putD d.o.keep v T) x' H' else .no
          | .call f args => match call f args x H with
            | .val v x' H' => if rechk x' H' d.need R then drawX call T1 l (v :: E) (none :: R) (putD d.o.keep v T) x' H' else .no
            | _ => .no
          | .no => .no

/-- The evaluator. -/
def ev (P : Program) (hk : Hook) : Nat → Job → Ps → Heap → Res
  | 0, _, _, _ => .no
  | n + 1, j, x, H =>
    match j with
    | .call f args => match hk f args x H with
      | some (v, x', H') => .val v x' H'
      | none => match cfun P f with
        | none => .no
        | some fn => if Nat.ble (lenL args) fn.nt then
            (match putArgs fn.kp args 0 .lf with
            | none => .no
            | some T => match ev P hk n (.code fn.body T) x H with
              | .out o T' x' H' => match o with
                | .exit _ => .no
                | _ => match evRes T' H' fn.res with
                  | some l => .val (oneOf l) x' H'
                  | none => .no
              | _ => .no) else .no
    | .code c T => match c with
      | .skip => .out .norm T x H
      | .reg ops => opsX (fun f args x H => ev P hk n (.call f args) x H) ops [] T x H
      | .drw ops er rd => match eraseD er T with
        | T0 => match eraseD rd T with
          | T1 => drawX (fun f args x H => ev P hk n (.call f args) x H) T1 ops [] [] T0 x H
      | .seq a b => match ev P hk n (.code a T) x H with
        | .out o T' x' H' => match o with
          | .norm => ev P hk n (.code b T') x' H'
          | o => .out o T' x' H'
        | _ => .no
      | .cond c a b => match c with
        | none => .no
        | some c => match evX T [] c with
          | some (.bool true) => ev P hk n (.code a T) x H
          | some (.bool false) => ev P hk n (.code b T) x H
          | _ => .no
      | .block id b => match ev P hk n (.code b T) x H with
        | .out o T' x' H' => match o with
          | .exit k => if Nat.beq k id then .out .norm T' x' H' else .out (.exit k) T' x' H'
          | o => .out o T' x' H'
        | _ => .no
      | .loop b => match ev P hk n (.code b T) x H with
        | .out o T' x' H' => match o with
          | .norm => ev P hk n (.code (.loop b) T') x' H'
          | o => .out o T' x' H'
        | _ => .no
      | .exit id => .out (.exit id) T x H
      | .scope b => ev P hk n (.code b T) x H
      | .ret => .out .ret T x H
      | .bad => .no
end
end Go.Proofs.YtldjbgklmeigmaaGreatDoor.Ev

namespace Go.Proofs.YtldjbgklmeigmaaGreatDoor.Ev
open Go Go.RowKit
noncomputable section

/-- What the slots say. -/
structure FR (kp : Keep) (nt : Nat) (σ : Map) (T : PT AV) (a : Act) : Prop where
  size : a.tmps.size = nt
  knows : ∀ t v, PT.get (Ps.of t) T = some v → conc σ v = some (a.tmps.getD t undef)
  dom : ∀ p v, PT.get p T = some v → PT.get p kp ≠ none
theorem FR.mono {kp : Keep} {nt : Nat} {σ τ : Map} {T : PT AV} {a : Act} (h : FR kp nt σ T a) (k : Ext σ τ) : FR kp nt τ T a := ⟨h.size, fun t v e => conc_mono k _ _ (h.knows t v e), h.dom⟩
theorem getD_put (a : Act) (d : Tmp) (u : Value) (t : Tmp) (hd : d < a.tmps.size) : (a.put (some d) u).tmps.getD t undef = if d = t then u else a.tmps.getD t undef := by
  simp only [Act.put]
  rw [Array.getD_eq_getD_getElem?, Array.getElem?_setIfInBounds]
  split
  · rename_i h; subst h; simp [hd]
  · rw [Array.getD_eq_getD_getElem?]
set_option linter.unusedSimpArgs false in
theorem FR.putD {kp : Keep} {nt : Nat} {σ : Map} {T : PT AV} {a : Act} (h : FR kp nt σ T a) {d : Option Tmp} {p : Option Ps} (hd : xkeep kp nt d = some p) {v : AV} {u : Value} (hv : conc σ v = some u) : FR kp nt σ (putD p v T) (a.put d u) := by
  cases d with
  | none =>
    simp only [xkeep, Option.some.injEq] at hd
    subst hd
    exact h
  | some d =>
    simp only [xkeep] at hd
    split at hd
    · rename_i hlt
      have hlt := blt_lt hlt
      have hds : d < a.tmps.size := by rw [h.size]; exact hlt
      split at hd
      · rename_i q hq
        have := ix_of hq
        subst this
        split at hd
        · rename_i hk
          cases hd
          refine ⟨by simp [Act.put, h.size], fun t w e => ?_, fun p w e => ?_⟩
          · simp only [Go.Proofs.YtldjbgklmeigmaaGreatDoor.Ev.putD, PT.get_put] at e
            rw [getD_put a d u t hds]
            split at e
            · rename_i ht
              have := Ps.of_inj ht
              subst this
              cases e
              rw [if_pos rfl]; exact hv
            · rename_i ht
              rw [if_neg (fun e => ht (by rw [e]))]; exact h.knows t w e
          · simp only [Go.Proofs.YtldjbgklmeigmaaGreatDoor.Ev.putD, PT.get_put] at e
            split at e
            · rename_i hp; subst hp; rw [hk]; simp
            · exact h.dom p w e
        · rename_i hk
          cases hd
          refine ⟨by simp [Act.put, h.size], fun t w e => ?_, h.dom⟩
          rw [getD_put a d u t hds]
          split
          · rename_i ht
            subst ht
            exact absurd hk (h.dom _ _ e)
          · exact h.knows t w e
      · cases hd
    · cases hd
theorem xkeep_lt {kp : Keep} {nt : Nat} {d : Tmp} {p : Option Ps} (h : xkeep kp nt (some d) = some p) : d < nt := by
  simp only [xkeep] at h
  split at h
  · rename_i hlt; exact blt_lt hlt
  · cases h

/-- What the values of a region's operations say (pre: where they went, the last one first). -/
def EnvOk (σ : Map) (pre : List (Option Tmp)) (E : List AV) (a : Act) : Prop :=
  ∀ t d, findD pre t 0 = some d → ∃ v, nthA E d = some v ∧ conc σ v = some (a.tmps.getD t undef)
theorem EnvOk.nil (σ : Map) (a : Act) : EnvOk σ [] [] a := fun t d h => by simp [findD] at h
theorem EnvOk.mono {σ τ : Map} {pre : List (Option Tmp)} {E : List AV} {a : Act} (h : EnvOk σ pre E a) (k : Ext σ τ) : EnvOk τ pre E a := fun t d e => by
  obtain ⟨v, e1, e2⟩ := h t d e
  exact ⟨v, e1, conc_mono k _ _ e2⟩
theorem findD_succ : ∀ (pre : List (Option Tmp)) (t d : Nat), findD pre t (d + 1) = (findD pre t d).map Nat.succ
  | [], t, d => rfl
  | o :: l, t, d => by
    cases o with
    | none => simp only [findD]; exact findD_succ l t (d + 1)
    | some u =>
      simp only [findD]
      split
      · rfl
      · exact findD_succ l t (d + 1)
theorem EnvOk.push {σ : Map} {pre : List (Option Tmp)} {E : List AV} {a : Act} (h : EnvOk σ pre E a) {o : Option Tmp} {v : AV} {u : Value} (hv : conc σ v = some u) (ho : ∀ d, o = some d → d < a.tmps.size) :
    EnvOk σ (o :: pre) (v :: E) (a.put o u) := by
  intro t d e
  cases o with
  | none =>
    simp only [findD] at e
    rw [findD_succ] at e
    cases hf : findD pre t 0 with
    | none => simp [hf] at e
    | some d0 =>
      simp only [hf, Option.map_some, Option.some.injEq] at e
      subst e
      exact h t d0 hf
  | some q =>
    have hq := ho q rfl
    simp only [findD] at e
    rw [getD_put a q u t hq]
    split at e
    · rename_i hqt
      have := Nat.eq_of_beq_eq_true hqt
      subst this
      simp only [Option.some.injEq] at e
      subst e
      exact ⟨v, rfl, by rw [if_pos rfl]; exact hv⟩
    · rename_i hqt
      rw [findD_succ] at e
      cases hf : findD pre t 0 with
      | none => simp [hf] at e
      | some d0 =>
        simp only [hf, Option.map_some, Option.some.injEq] at e
        subst e
        rw [if_neg (fun e => hqt (by rw [e]; exact Nat.beq_refl _))]
        exact h t d0 hf

section
variable {P : Program} {W : World} {Fr : Nat → Prop} {σ : Map} {x : Ps} {H : Heap} {w : World}

theorem evX_spec (h : Rel P W Fr σ x H w) {kp : Keep} {nt : Nat} {T : PT AV} {a : Act} (hf : FR kp nt σ T a) {pre : List (Option Tmp)} {E : List AV} (he : EnvOk σ pre E a) {X : Operand} {c : XOpd} (hc : xopd P pre X = some c) {v : AV}
    (hv : evX T E c = some v) : conc σ v = some (a.eval X) := by
  cases X with
  | tmp t =>
    simp only [xopd] at hc
    split at hc
    · rename_i d hd
      cases hc
      obtain ⟨v', e1, e2⟩ := he t d hd
      simp only [evX] at hv
      rw [e1] at hv; cases hv
      exact e2
    · split at hc
      · rename_i p hp
        have := ix_of hp
        subst this
        cases hc
        exact hf.knows t v hv
      · cases hc
  | const u =>
    simp only [xopd] at hc
    split at hc
    · rename_i b hb
      cases hc
      simp only [evX, Option.some.injEq] at hv
      subst hv
      exact conc_toAVa hb
    · cases hc
  | global g =>
    simp only [xopd] at hc
    split at hc
    · rename_i hg
      split at hc
      · rename_i p hp
        have := ix_of hp
        subst this
        cases hc
        simp only [evX, Option.some.injEq] at hv
        subst hv
        simp [conc, h.glob g (blt_lt hg), Act.eval]
      · cases hc
    · cases hc
  | func f =>
    simp only [xopd, Option.some.injEq] at hc
    subst hc
    simp only [evX, Option.some.injEq] at hv
    subst hv
    simp [conc, concL, Act.eval]
theorem evXs_spec (h : Rel P W Fr σ x H w) {kp : Keep} {nt : Nat} {T : PT AV} {a : Act} (hf : FR kp nt σ T a) {pre : List (Option Tmp)} {E : List AV} (he : EnvOk σ pre E a) :
    ∀ {os : List Operand} {cs : List XOpd}, xopds P pre os = some cs → ∀ {vs : List AV}, evXs T E cs = some vs → concL σ vs = some (os.map a.eval)
  | [], cs, hc, vs, hv => by
    simp [xopds] at hc; subst hc
    simp [evXs] at hv; subst hv
    simp [concL]
  | X :: os, cs, hc, vs, hv => by
    simp only [xopds] at hc
    split at hc
    · rename_i c hX
      split at hc
      · rename_i r hr
        cases hc
        simp only [evXs] at hv
        split at hv
        · rename_i v hv1
          split at hv
          · rename_i q hq
            cases hv
            have h1 := evX_spec h hf he hX hv1
            have h2 := evXs_spec h hf he hr hq
            simp [concL, h1, h2]
          · cases hv
        · cases hv
      · cases hc
    · cases hc

/-- What a call must come to. -/
def CallOk (P : Program) (f : FuncId) (args : List AV) (x : Ps) (H : Heap) (v : AV) (x' : Ps) (H' : Heap) : Prop :=
  x.nat ≤ x'.nat ∧ ∀ (W : World) (Fr : Nat → Prop) (σ : Map) (w : World) (us : List Value), Rel P W Fr σ x H w → concL σ args = some us →
    Calls P f us.toArray w fun e w' => ∃ τ u, FExt x σ τ ∧ Rel P W Fr τ x' H' w' ∧ conc τ v = some u ∧ e = .returned u
def HookOk (P : Program) (hk : Hook) : Prop := ∀ f args x H v x' H', hk f args x H = some (v, x', H') → okFn P f = true ∧ CallOk P f args x H v x' H'
def Out.exitOf : Out → Exit
  | .norm => .normal
  | .exit id => .exit id
  | .ret => .ret
/-- What code must come to. -/
def After (P : Program) (W : World) (Fr : Nat → Prop) (kp : Keep) (nt : Nat) (σ : Map) (x : Ps) (a : Act) (o : Out) (T' : PT AV) (x' : Ps) (H' : Heap) : Exit → Act → World → Prop :=
  fun e a' w' => e = o.exitOf ∧ ∃ τ, FExt x σ τ ∧ Rel P W Fr τ x' H' w' ∧ FR kp nt τ T' a' ∧ a'.defers = a.defers
def CodeOk (P : Program) (kp : Keep) (nt : Nat) (c : Code) (T : PT AV) (x : Ps) (H : Heap) (o : Out) (T' : PT AV) (x' : Ps) (H' : Heap) : Prop :=
  x.nat ≤ x'.nat ∧ ∀ (W : World) (Fr : Nat → Prop) (σ : Map) (w : World) (a : Act), Rel P W Fr σ x H w → FR kp nt σ T a → c.wp P (After P W Fr kp nt σ x a o T' x' H') a w
theorem put_defers (a : Act) (d : Option Tmp) (v : Value) : (a.put d v).defers = a.defers := by cases d <;> rfl

/-- Wanted or not. -/
theorem wantX_spec {ops : Array Oper} {pre : List (Option Tmp)} {E : List AV} {a : Act} (he : EnvOk σ pre E a) {o : Oper} {g : Option (Nat × Bool)} (hg : xguard ops pre o.guard = some g) {b : Bool} (h : wantX E g = some b) :
    Region.wanted o (yielded ops a.tmps) = b := by
  unfold Region.wanted
  cases hog : o.guard with
  | none =>
    rw [hog] at hg
    simp only [xguard, Option.some.injEq] at hg
    subst hg
    simp only [wantX, Option.some.injEq] at h
    exact h
  | some jw =>
    obtain ⟨j, want⟩ := jw
    rw [hog] at hg
    simp only [xguard] at hg
    split at hg
    · rename_i s hs
      split at hg
      · rename_i d hd
        cases hg
        simp only [wantX] at h
        have hy : yielded ops a.tmps j = match a.tmps[s]? with
            | some (.bool b) => some b
            | _ => none := by
          simp only [yielded, hs, Option.bind_some]; rfl
        simp only [hy]
        obtain ⟨v, e1, hk⟩ := he s d hd
        rw [e1] at h
        split at h
        · rename_i q hq
          cases hq
          simp only [Option.some.injEq] at h
          simp only [conc, Option.some.injEq] at hk
          rw [Array.getD_eq_getD_getElem?] at hk
          cases hs' : a.tmps[s]? with
          | none => rw [hs'] at hk; simp [undef] at hk
          | some z =>
            rw [hs'] at hk
            simp only [Option.getD_some] at hk
            subst hk
            subst h
            cases q <;> cases want <;> rfl
        · rename_i l hq
          cases hq
          simp only [Option.some.injEq] at h
          rw [Array.getD_eq_getD_getElem?] at hk
          cases hs' : a.tmps[s]? with
          | none => subst h; simp
          | some z =>
            rw [hs'] at hk
            simp only [Option.getD_some] at hk
            have : ∃ vs, z = .tuple vs := by
              cases hl : concL σ l with
              | none => simp [conc, hl] at hk
              | some us => simp [conc, hl] at hk; exact ⟨_, hk.symm⟩
            obtain ⟨vs, rfl⟩ := this
            subst h; simp
        · cases h
      · cases hg
    · cases hg
end
section
variable {P : Program} {W : World} {Fr : Nat → Prop} {σ : Map} {x : Ps} {H : Heap} {w : World}
theorem upon_runs {o : Oper} {a : Act} {K : Act → World → Prop} {Q : Exit → Act → World → Prop} {r : Result Next} {u : Value} {w' : World} (h : RunsTo r u w') (k : K (a.put o.dst u) w') : o.upon P a K Q r := by
  rcases h with rfl | ⟨rfl, rfl⟩
  · exact k
  · exact k
theorem NewW.rel (h : Rel P W Fr σ x H w) {ob : AObj} {y : Ps} {s : Spot} {w' : World} (hy : y.nat < x.nat) (hn : σ y = none) (hg : ∀ u, PT.get y H = some u → u = ob) (hw : NewW w w') (hs : s.block = w.heap.size)
    (ho : ObjOk (σ.upd y s) s w' ob) : Rel P W Fr (σ.upd y s) x H w' := by
  refine h.name hy hn hg ho (fun m u t e ht => ?_) (fun hf => ?_) hw.os hw.tape hw.output hw.size (fun k hk _ => hw.old k hk)
  · have := h.obj m u t e ht
    have : t.block < w.heap.size := by
      cases u with
      | cells => obtain ⟨_, _, _, hh, _⟩ := this; exact (Array.getElem?_eq_some_iff.1 hh).1
      | map => obtain ⟨_, _, hh, _⟩ := this; exact (Array.getElem?_eq_some_iff.1 hh).1
      | iter => obtain ⟨_, _, _, hh⟩ := this; exact (Array.getElem?_eq_some_iff.1 hh).1
    omega
  · have := h.frlt _ hf
    have := h.size
    omega

/-- An operation's end: the value is laid, the rest goes on. -/
theorem oper_specY (y : Ps) (hy : σ y = none) {kp : Keep} {nt : Nat} {ops : Array Oper} {pre : List (Option Tmp)} {o : Oper} {co : XOper} (hco : xoper P kp nt ops pre o = some co) {T : PT AV} (h : Rel P W Fr σ x H w) {a : Act} (hf : FR kp nt σ T a) {E : List AV} (he : EnvOk σ pre E a)
    {vs : List AV} (hvs : evXs T E co.opds = some vs)
    {K : Act → World → Prop} {Q : Exit → Act → World → Prop}
    (hval : ∀ v, exec co.c vs x H = .val v → ∀ u, conc σ v = some u → K (a.put o.dst u) w)
    (hnew : ∀ ob k, exec co.c vs x H = .new ob k → ∀ u s w', NewW w w' → s.block = w.heap.size → conc (σ.upd y s) (k.av y) = some u → ObjOk (σ.upd y s) s w' ob → K (a.put o.dst u) w')
    (heff : ∀ v x' H', exec co.c vs x H = .eff v x' H' → ∀ u w' τ, FExt x σ τ → x.nat ≤ x'.nat → Rel P W Fr τ x' H' w' → conc τ v = some u → K (a.put o.dst u) w')
    (hcall : ∀ f args, exec co.c vs x H = .call f args → okFn P f = true ∧ ∀ us, concL σ args = some us → Calls P f us.toArray w fun
      | .returned v, w'' => K (a.put o.dst v) w''
      | .panicked chain, w'' => Q (.panic chain) a w''
      | .outgrown, _ => LetsOut Q)
    (hno : exec co.c vs x H ≠ .no) : o.wp P a w K Q := by
  unfold xoper at hco
  split at hco
  · rename_i os c hc
    split at hco
    · rename_i opds ho
      split at hco
      · rename_i dst hd
        split at hco
        · rename_i g hg
          cases hco
          have hv := evXs_spec h hf he ho hvs
          have hs := exec_spec h hc (ρ := a.eval) (fun f => rfl) hv
          unfold Oper.wp
          generalize (execOp a.eval o).run P w = r at hs ⊢
          simp only at hval hnew heff hcall hno
          cases hr : exec c vs x H with
          | no => exact absurd hr hno
          | val v =>
            rw [hr] at hs
            obtain ⟨u, h1, h2⟩ := hs
            exact upon_runs h2 (hval v hr u h1)
          | new ob k =>
            rw [hr] at hs
            obtain ⟨u, s, w', h1, h2, h3, h4, h5⟩ := hs y hy
            exact upon_runs h1 (hnew ob k hr u s w' h2 h3 h4 h5)
          | eff v x' H' =>
            rw [hr] at hs
            obtain ⟨u, w', τ, h1, h2, h3, h4, h5⟩ := hs
            exact upon_runs h1 (heff v x' H' hr u w' τ h2 h3 h4 h5)
          | call f args =>
            rw [hr] at hs
            obtain ⟨us, h1, h2⟩ := hs
            obtain ⟨k1, k2⟩ := hcall f args hr
            rw [h2 k1]
            exact k2 us h1
        · cases hco
      · cases hco
    · cases hco
  · cases hco
theorem oper_spec {kp : Keep} {nt : Nat} {ops : Array Oper} {pre : List (Option Tmp)} {o : Oper} {co : XOper} (hco : xoper P kp nt ops pre o = some co) {T : PT AV} (h : Rel P W Fr σ x H w) {a : Act} (hf : FR kp nt σ T a) {E : List AV} (he : EnvOk σ pre E a)
    {vs : List AV} (hvs : evXs T E co.opds = some vs)
    {K : Act → World → Prop} {Q : Exit → Act → World → Prop}
    (hval : ∀ v, exec co.c vs x H = .val v → ∀ u, conc σ v = some u → K (a.put o.dst u) w)
    (hnew : ∀ ob k, exec co.c vs x H = .new ob k → ∀ u s w', NewW w w' → s.block = w.heap.size → conc (σ.upd x s) (k.av x) = some u → ObjOk (σ.upd x s) s w' ob → K (a.put o.dst u) w')
    (heff : ∀ v x' H', exec co.c vs x H = .eff v x' H' → ∀ u w' τ, FExt x σ τ → x.nat ≤ x'.nat → Rel P W Fr τ x' H' w' → conc τ v = some u → K (a.put o.dst u) w')
    (hcall : ∀ f args, exec co.c vs x H = .call f args → okFn P f = true ∧ ∀ us, concL σ args = some us → Calls P f us.toArray w fun
      | .returned v, w'' => K (a.put o.dst v) w''
      | .panicked chain, w'' => Q (.panic chain) a w''
      | .outgrown, _ => LetsOut Q)
    (hno : exec co.c vs x H ≠ .no) : o.wp P a w K Q :=
  oper_specY x h.at_fresh hco h hf he hvs hval hnew heff hcall hno
theorem xoper_dst {kp : Keep} {nt : Nat} {ops : Array Oper} {pre : List (Option Tmp)} {o : Oper} {co : XOper} (h : xoper P kp nt ops pre o = some co) : xkeep kp nt o.dst = some co.keep ∧ xguard ops pre o.guard = some co.guard := by
  unfold xoper at h
  split at h
  · split at h
    · split at h
      · rename_i dst hd
        split at h
        · rename_i g hg
          cases h; exact ⟨hd, hg⟩
        · cases h
      · cases h
    · cases h
  · cases h
theorem cfun_ok {f : FuncId} {fn : CFun} (h : cfun P f = some fn) : okFn P f = true ∧ ∃ g b, P.funcs[f]? = some g ∧ g.body = some b ∧ cres P g.results.toList = some fn.res ∧ fn.nt = g.ntmps ∧ fn.body = compC P fn.kp g.ntmps b := by
  unfold cfun at h
  split at h
  · cases h
  · rename_i hok
    split at h
    · rename_i g hg
      split at h
      · rename_i b hb
        split at h
        · rename_i r hr
          cases h
          exact ⟨hok, g, b, hg, hb, hr, rfl, rfl⟩
        · cases h
      · cases h
    · cases h

/-- A result, out of the slots. -/
def resOf (ts : Array Value) : ResultVar → Sem Value
  | .tmp t => pure (ts.getD t undef)
  | .cell c t => do loadVar t (← asAddr (ts.getD c undef))
theorem results_eq (fn : Func) (ts : Array Value) : results fn ts = (do
    let vs ← fn.results.mapM (resOf ts)
    pure (if h : vs.size = 1 then vs[0] else .tuple vs)) := rfl
theorem exec_le {c : COp} {vs : List AV} {v : AV} {x1 : Ps} {H1 : Heap} (h : exec c vs x H = .eff v x1 H1) : x.nat ≤ x1.nat := by
  have hsucc : x.nat ≤ x.succ.nat := by rw [Ps.nat_succ]; omega
  cases c with
  | store n =>
    simp only [exec] at h
    split at h
    · split at h
      · split at h
        · cases h; exact Nat.le_refl _
        · cases h
      · cases h
    · cases h
  | upd E =>
    simp only [exec] at h
    split at h
    · split at h
      · cases h; exact Nat.le_refl _
      · cases h
    · cases h
  | mark =>
    simp only [exec] at h
    split at h
    · split at h
      · cases h; exact Nat.le_refl _
      · cases h
    · cases h
  | app e sz bytes byte =>
    simp only [exec] at h
    split at h
    · unfold appA at h
      repeat' split at h
      all_goals first
        | (cases h; done)
        | (cases h; exact Nat.le_refl _)
        | (cases h; exact hsucc)
    · cases h
  | nxt =>
    simp only [exec, nextA] at h
    repeat' split at h
    all_goals first
      | (cases h; done)
      | (cases h; exact Nat.le_refl _)
  | _ =>
    simp only [exec, slcWith, entryA, xtA] at h
    repeat' split at h
    all_goals (cases h)
theorem evRes_spec (h : Rel P W Fr σ x H w) {kp : Keep} {nt : Nat} {T : PT AV} {a : Act} (hf : FR kp nt σ T a) : ∀ {l : List ResultVar} {rs : List CRes}, cres P l = some rs → ∀ {vs : List AV}, evRes T H rs = some vs →
    ∃ us, concL σ vs = some us ∧ (l.mapM (resOf a.tmps)).run P w = .ok us w
  | [], rs, hc, vs, he => by
    simp [cres] at hc; subst hc
    simp [evRes] at he; subst he
    exact ⟨[], by simp [concL], by simp⟩
  | .tmp t :: l, rs, hc, vs, he => by
    simp only [cres] at hc
    split at hc
    · rename_i p hp
      have := ix_of hp
      subst this
      split at hc
      · rename_i r hr
        cases hc
        simp only [evRes] at he
        split at he
        · rename_i v hv
          split at he
          · rename_i q hq
            cases he
            obtain ⟨us, h1, h2⟩ := evRes_spec h hf hr hq
            have hk := hf.knows t v hv
            exact ⟨_ :: us, by simp only [concL, hk, h1]; rfl, by simp only [List.mapM_cons, resOf, Sem.run_bind, Sem.run_pure, Result.andThen_ok, h2]⟩
          · cases he
        · cases he
      · cases hc
    · cases hc
  | .cell c t :: l, rs, hc, vs, he => by
    simp only [cres] at hc
    split at hc
    · rename_i p hp
      have := ix_of hp
      subst this
      split at hc
      · rename_i d i hd hi
        split at hc
        · rename_i r hr
          cases hc
          simp only [evRes] at he
          split at he
          · rename_i q off hv
            split at he
            · rename_i m hm
              split at he
              · rename_i vs' hvs
                obtain ⟨us, h1, h2⟩ := evRes_spec h hf hr hvs
                have hk := hf.knows c _ hv
                obtain ⟨u, k1, k2⟩ := run_load h hd hi hk hm
                obtain ⟨pa, hpa⟩ := conc_ptr hk
                have hld : (resOf a.tmps (.cell c t)).run P w = .ok u w := by
                  show (do loadVar t (← asAddr (a.tmps.getD c undef)) : Sem Value).run P w = _
                  rw [hpa] at k2 ⊢
                  simpa [asAddr, Instr.loadAt, Instr.sureAddr] using k2
                split at he
                · rename_i hag
                  cases he
                  rw [if_pos hag] at k1
                  exact ⟨u :: us, by simp only [concL, k1, h1]; rfl, by
                    simp only [List.mapM_cons, Sem.run_bind, hld, Sem.run_pure, Result.andThen_ok, h2]⟩
                · rename_i hag
                  rw [if_neg (by simp [hag])] at k1
                  split at he
                  · cases he
                    exact ⟨u :: us, by simp only [concL, List.headD_cons] at k1 ⊢; rw [k1, h1]; rfl, by
                      simp only [List.mapM_cons, Sem.run_bind, hld, Sem.run_pure, Result.andThen_ok, h2]⟩
                  · cases he
              · cases he
            · cases he
          · cases he
        · cases hc
      · cases hc
    · cases hc
end
/-- A call that does what it must. -/
def CallsOk (P : Program) (call : FuncId → List AV → Ps → Heap → Res) : Prop := ∀ f args x H v x' H', call f args x H = .val v x' H' → okFn P f = true ∧ CallOk P f args x H v x' H'
end
end Go.Proofs.YtldjbgklmeigmaaGreatDoor.Ev
