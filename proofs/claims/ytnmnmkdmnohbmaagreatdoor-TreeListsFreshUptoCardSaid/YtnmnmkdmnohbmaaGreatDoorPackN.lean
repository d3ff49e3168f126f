/- Several texts in one: Plain: what the reference's reading of a path's text answers. Plain: how long the text of what was read can be. tree.PathRead: what it answers. Conditions: none. -/
import Derived.Test.YtnmnmkdmnohbmaaGreatDoorPackM
import Derived.IntWalk
import Derived.Test.YtnmnmkdmnohbmaaGreatDoorPackK
import Derived.Test.YtnmnmkdmnohbmaaGreatDoorPathRead
namespace Go.Proofs.YtnmnmkdmnohbmaaGreatDoor
open Go.RowKit

def plainL : List UInt8 → List UInt8
  | [] => []
  | [b] => [b]
  | b :: c :: r => if b = 126 then (if c = 48 then 126 :: plainL r else if c = 49 then 47 :: plainL r else plainL r) else b :: plainL (c :: r)
theorem plainL_wave (c : UInt8) (r : List UInt8) : plainL (126 :: c :: r) = if c = 48 then 126 :: plainL r else if c = 49 then 47 :: plainL r else plainL r := by
  rw [plainL, if_pos rfl]
theorem plainL_plain {b : UInt8} (h : b ≠ 126) (r : List UInt8) : plainL (b :: r) = b :: plainL r := by
  cases r with
  | nil => simp [plainL]
  | cons c r => rw [plainL, if_neg h]
theorem plainL_esc : ∀ n : List UInt8, plainL (n.flatMap escB) = n
  | [] => rfl
  | b :: n => by
    rw [List.flatMap_cons]
    rcases escB_cases b with ⟨rfl, e⟩ | ⟨rfl, e⟩ | ⟨h1, _, e⟩ <;> rw [e]
    · rw [List.cons_append, List.cons_append, List.nil_append, plainL_wave, if_pos rfl, plainL_esc n]
    · rw [List.cons_append, List.cons_append, List.nil_append, plainL_wave, if_neg (by decide), if_pos rfl, plainL_esc n]
    · rw [List.cons_append, List.nil_append, plainL_plain h1, plainL_esc n]
theorem plainL_name (n : List UInt8) : plainL (nameT n) = n := by
  unfold nameT
  cases markedL n
  · simp [plainL_esc]
  · rw [if_pos rfl, List.cons_append, List.cons_append, List.nil_append, plainL_wave, if_neg (by decide), if_neg (by decide), plainL_esc]

/-- A number's digits, as an int that wraps. -/
def numStep (n : Int) (b : UInt8) : Int := if b = 45 then n else wrap64 (wrap64 (wrap64 (n * 10) + b.toNat) - 48)
def numW (l : List UInt8) : Int := l.foldl numStep 0
theorem numW_snoc (l : List UInt8) (b : UInt8) : numW (l ++ [b]) = numStep (numW l) b := by simp [numW]
theorem numStep_dig {a : Nat} {b : UInt8} (h : isDig b = true) : numStep (wrap64 a) b = wrap64 ((a * 10 + (b.toNat - 48) : Nat) : Int) := by
  have hb := dig_num h
  have : b ≠ 45 := fun e => by subst e; revert h; decide
  unfold numStep
  rw [if_neg this]
  unfold wrap64
  omega
theorem num_digits : ∀ (l : List UInt8) (a : Nat), (∀ b ∈ l, isDig b = true) → l.foldl numStep (wrap64 a) = wrap64 ((l.foldl (fun n b => n * 10 + (b.toNat - 48)) a : Nat) : Int)
  | [], a, _ => by rw [List.foldl_nil, List.foldl_nil]
  | b :: l, a, h => by
    rw [List.foldl_cons, List.foldl_cons, numStep_dig (h b List.mem_cons_self)]
    exact num_digits l _ (fun c hc => h c (List.mem_cons_of_mem _ hc))
theorem num_dec (u : Nat) : numW (Lib.decDigits u) = wrap64 (u : Int) := by
  have h := num_digits (Lib.decDigits u) 0 (dec_dig u)
  have e := decVal_dec u
  unfold decVal at e
  rw [e] at h
  have z : wrap64 ((0 : Nat) : Int) = 0 := by simp [wrap64]
  rw [z] at h
  exact h

/-- The one step that a piece can be the text of. -/
def guessL (p : List UInt8) : St :=
  if p ≠ [] ∧ markedL p = true then ⟨ByteArray.empty, if p.head? = some 45 then wrap64 (-(numW p)) else numW p, true⟩
  else ⟨⟨(plainL p).toArray⟩, 0, false⟩

theorem wrap64_rng (n : Int) : -9223372036854775808 ≤ wrap64 n ∧ wrap64 n ≤ 9223372036854775807 := by unfold wrap64; omega
theorem numStep_rng {n : Int} (h : -9223372036854775808 ≤ n ∧ n ≤ 9223372036854775807) (b : UInt8) : -9223372036854775808 ≤ numStep n b ∧ numStep n b ≤ 9223372036854775807 := by
  unfold numStep
  split
  · exact h
  · exact wrap64_rng _
theorem numW_rng (l : List UInt8) : -9223372036854775808 ≤ numW l ∧ numW l ≤ 9223372036854775807 := by
  have : ∀ (l : List UInt8) (n : Int), (-9223372036854775808 ≤ n ∧ n ≤ 9223372036854775807) → -9223372036854775808 ≤ l.foldl numStep n ∧ l.foldl numStep n ≤ 9223372036854775807 := by
    intro l
    induction l with
    | nil => exact fun n h => h
    | cons b l ih => exact fun n h => ih _ (numStep_rng h b)
  exact this l 0 (by decide)
theorem guess_ok (p : List UInt8) : okSt (guessL p) := by
  unfold guessL
  split
  · refine ⟨rfl, ?_⟩
    dsimp only
    split
    · exact wrap64_rng _
    · exact numW_rng _
  · exact ⟨rfl, by show (-9223372036854775808 : Int) ≤ 0; decide, by show (0 : Int) ≤ 9223372036854775807; decide⟩

theorem guess_step {s : St} (h : okSt s) : guessL (stepT s) = s := by
  obtain ⟨hb, h0, h1⟩ := h
  obtain ⟨n, i, t⟩ := s
  cases t
  · have : i = 0 := by simp [bareS] at hb; exact hb.symm
    subst this
    show guessL (nameT n.data.toList) = _
    obtain ⟨b, l, e, hb⟩ := nameT_head n.data.toList
    have h2 : markedL (nameT n.data.toList) = false := by rw [e]; exact hb
    unfold guessL
    rw [if_neg (by rw [h2]; simp), plainL_name]
  · have : n = ByteArray.empty := by simp [bareS] at hb; exact hb.symm
    subst this
    show guessL (Lib.itoa i) = _
    obtain ⟨b, l, e, hb⟩ := itoa_head i
    have h2 : Lib.itoa i ≠ [] := by rw [e]; simp
    have h3 : markedL (Lib.itoa i) = true := by rw [e]; exact hb
    dsimp only at h0 h1
    unfold guessL
    rw [if_pos ⟨h2, h3⟩]
    congr 1
    unfold Lib.itoa
    by_cases hi : i < 0
    · rw [if_pos hi]
      have : numW (45 :: Lib.decDigits i.natAbs) = numW (Lib.decDigits i.natAbs) := rfl
      rw [if_pos (by rfl), this, num_dec]
      unfold wrap64
      omega
    · rw [if_neg hi]
      have : ¬ (Lib.decDigits i.toNat).head? = some 45 := by
        cases e : Lib.decDigits i.toNat with
        | nil => simp
        | cons b l =>
          have hb := dec_dig i.toNat b (by rw [e]; exact List.mem_cons_self)
          intro h
          cases h
          revert hb
          decide
      rw [if_neg this, num_dec]
      unfold wrap64
      omega

theorem path_off : ∀ {d p : List St} {r : List UInt8}, Cut r → pathT p = pathT d ++ r → ∃ q, (∀ x ∈ q, x ∈ p) ∧ pathT q = r
  | [], p, r, _, h => ⟨p, fun _ hx => hx, h⟩
  | t :: d, [], r, _, h => by simp [pathT] at h
  | t :: d, x :: p, r, hr, h => by
    simp only [pathT, List.flatMap_cons, List.cons_append, List.append_assoc, List.cons.injEq, true_and] at h
    have hc : Cut (pathT d ++ r) := by
      cases d with
      | nil => exact hr
      | cons _ _ => exact .inr ⟨_, rfl⟩
    obtain ⟨_, e2⟩ := cut_split (stepT_slash x) (stepT_slash t) (pathT_cut p) hc h
    obtain ⟨q, h1, h2⟩ := path_off hr e2
    exact ⟨q, fun y hy => List.mem_cons_of_mem _ (h1 y hy), h2⟩

/-- A piece that no step is written as: the text is no path's. -/
theorem readL_refuse {s : List UInt8} {d : List St} {seg rest : List UInt8} (hs : s = pathT d ++ 47 :: (seg ++ rest)) (hseg : ∀ c ∈ seg, c ≠ 47) (hr : Cut rest) (hg : stepT (guessL seg) ≠ seg) : readL s = none := by
  cases h : readL s with
  | none => rfl
  | some p =>
    exfalso
    obtain ⟨h1, h2⟩ := readL_iff.1 h
    rw [hs] at h1
    obtain ⟨q, hq, e⟩ := path_off (.inr ⟨_, rfl⟩) h1
    cases q with
    | nil => cases e
    | cons x q =>
      have e : 47 :: (stepT x ++ pathT q) = 47 :: (seg ++ rest) := by rw [← e]; simp [pathT]
      obtain ⟨e1, _⟩ := cut_split (stepT_slash x) hseg (pathT_cut q) hr (List.cons.inj e).2
      have := guess_step (h2 x (hq x List.mem_cons_self))
      rw [e1] at this
      rw [this] at hg
      exact hg e1
theorem readL_head {s : List UInt8} {c : UInt8} {r : List UInt8} (hs : s = c :: r) (h : c ≠ 47) : readL s = none := by
  subst hs
  unfold readL
  dsimp only
  rw [if_neg h]
end Go.Proofs.YtnmnmkdmnohbmaaGreatDoor

namespace Go.Proofs.YtnmnmkdmnohbmaaGreatDoor
open Go.RowKit

theorem unesc_len : ∀ {l n : List UInt8}, unesc l = some n → n.length ≤ l.length
  | [], n, h => by cases h; simp
  | [b], n, h => by
    unfold unesc at h
    split at h
    · cases h
    · cases h; simp
  | b :: c :: r, n, h => by
    unfold unesc at h
    split at h
    · split at h
      · cases hr : unesc r with
        | none => rw [hr] at h; cases h
        | some m =>
          rw [hr] at h
          cases h
          have := unesc_len hr
          simp only [List.length_cons]
          omega
      · split at h
        · cases hr : unesc r with
          | none => rw [hr] at h; cases h
          | some m =>
            rw [hr] at h
            cases h
            have := unesc_len hr
            simp only [List.length_cons]
            omega
        · cases h
    · cases hr : unesc (c :: r) with
      | none => rw [hr] at h; cases h
      | some m =>
        rw [hr] at h
        cases h
        have := unesc_len hr
        simp only [List.length_cons] at this ⊢
        omega

theorem piece_len {p : List UInt8} {x : St} (h : pieceL p = some x) : (stepT x).length + 1 ≤ 24 * (p.length + 1) ∧ x.nm.data.toList.length ≤ p.length := by
  have hok := piece_ok h
  unfold pieceL at h
  split at h
  · cases h
  · split at h
    · split at h
      · rename_i n hn
        cases h
        refine ⟨?_, by simp⟩
        have := itoa_len (i := n) hok.2
        show (Lib.itoa n).length + 1 ≤ _
        omega
      · cases h
    · cases hu : unesc (Lib.trimPrefix p [126, 50]) with
      | none => rw [hu] at h; cases h
      | some n =>
        rw [hu] at h
        cases h
        have h1 := unesc_len hu
        have h2 : (Lib.trimPrefix p [126, 50]).length ≤ p.length := by
          unfold Lib.trimPrefix
          split
          · rw [List.length_drop]; omega
          · omega
        have h3 := escB_len n
        refine ⟨?_, by show n.length ≤ _; omega⟩
        show (nameT n).length + 1 ≤ _
        unfold nameT
        split <;> simp only [List.length_append, List.length_cons, List.length_nil] <;> omega

def sumLen (l : List (List UInt8)) : Nat := (l.map (fun p => p.length + 1)).sum
theorem pieces_len : ∀ {l : List (List UInt8)} {d : List St}, piecesL l = some d → (pathT d).length ≤ 24 * sumLen l ∧ (∀ s ∈ d, s.nm.data.toList.length ≤ sumLen l) ∧ d.length = l.length
  | [], d, h => by cases h; simp [pathT]
  | p :: l, d, h => by
    unfold piecesL at h
    split at h
    · cases h
    · rename_i x hx
      cases hr : piecesL l with
      | none => rw [hr] at h; cases h
      | some r =>
        rw [hr] at h
        cases h
        obtain ⟨h1, h2, h3⟩ := pieces_len hr
        obtain ⟨h4, h5⟩ := piece_len hx
        have e : sumLen (p :: l) = (p.length + 1) + sumLen l := by simp [sumLen]
        have e2 : pathT (x :: r) = 47 :: stepT x ++ pathT r := rfl
        refine ⟨?_, ?_, by simp [h3]⟩
        · rw [e, e2]
          simp only [List.cons_append, List.length_cons, List.length_append]
          omega
        · intro s hs
          rw [e]
          rcases List.mem_cons.1 hs with rfl | hs
          · omega
          · have := h2 s hs
            omega

theorem splitS_len : ∀ l : List UInt8, sumLen (splitS l) = l.length + 1
  | [] => rfl
  | c :: r => by
    have ih := splitS_len r
    unfold splitS
    split
    · simp only [sumLen, List.map_cons, List.sum_cons, List.length_nil, List.length_cons] at ih ⊢
      omega
    · cases h : splitS r with
      | nil => rw [h] at ih; simp [sumLen] at ih
      | cons x t =>
        rw [h] at ih
        simp only [sumLen, List.map_cons, List.sum_cons, List.length_cons] at ih ⊢
        omega

theorem piecesL_app : ∀ {a b : List (List UInt8)}, piecesL (a ++ b) = match piecesL a with | none => none | some x => (piecesL b).map (x ++ ·)
  | [], b => by
    simp only [List.nil_append, piecesL]
    cases piecesL b <;> simp
  | p :: a, b => by
    simp only [List.cons_append, piecesL]
    cases pieceL p with
    | none => rfl
    | some x =>
      simp only
      rw [piecesL_app]
      cases piecesL a with
      | none => rfl
      | some y => cases piecesL b <;> simp
theorem drop_some' {α : Type} {l : List α} {k : Nat} {x : α} (h : l[k]? = some x) : l.drop k = x :: l.drop (k + 1) := by
  obtain ⟨hk, rfl⟩ := List.getElem?_eq_some_iff.1 h
  exact List.drop_eq_getElem_cons hk
theorem pieces_none {l : List (List UInt8)} {k : Nat} {p : List UInt8} (hp : l[k]? = some p) (h : pieceL p = none) : piecesL l = none := by
  have hk := (List.getElem?_eq_some_iff.1 hp).1
  have e : l = l.take k ++ (p :: l.drop (k + 1)) := by rw [← drop_some' hp, List.take_append_drop]
  rw [e, piecesL_app, piecesL, h]
  cases piecesL (l.take k) <;> rfl
theorem pieces_snoc {l : List (List UInt8)} {k : Nat} {p : List UInt8} {d : List St} {x : St} (hp : l[k]? = some p) (hd : piecesL (l.take k) = some d) (h : pieceL p = some x) : piecesL (l.take (k + 1)) = some (d ++ [x]) := by
  rw [List.take_add_one, hp, piecesL_app, hd]
  simp [piecesL, h]
end Go.Proofs.YtnmnmkdmnohbmaaGreatDoor

namespace Go.Proofs.YtnmnmkdmnohbmaaGreatDoor
open Go.RowKit
attribute [local go_sem] St.cells

/-- What a reading of a path's text answers. -/
def ReadP (s : ByteArray) (w : World) (e : Ending) (w' : World) : Prop :=
  ∃ (p : Option Addr) (l : List St) (c : Nat) (b : Bool), e = .returned (.tuple #[.slice p l.length c, .bool b]) ∧ (b = true → readL s.data.toList = some l) ∧ (b = false → readL s.data.toList = none ∧ l = []) ∧
    StepsAt w'.heap.size w' p l ∧ l.length ≤ c ∧ c ≤ maxLen ∧ Below w.heap.size w w'

def flatS (l : List St) : List Value := l.flatMap (fun s => s.cells.toList)
theorem flatS_len : ∀ l : List St, (flatS l).length = l.length * 3
  | [] => rfl
  | s :: l => by
    have : flatS (s :: l) = s.cells.toList ++ flatS l := by simp [flatS]
    rw [this, List.length_append, flatS_len l]
    simp [St.cells]
    omega
theorem flatS_at : ∀ {l : List St} {i : Nat} {s : St}, l[i]? = some s → (flatS l)[i * 3]? = some (.string s.nm) ∧ (flatS l)[i * 3 + 1]? = some (.int .i64 s.ix) ∧ (flatS l)[i * 3 + 2]? = some (.bool s.it)
  | [], i, s, h => by simp at h
  | x :: l, 0, s, h => by
    cases h
    have : flatS (x :: l) = x.cells.toList ++ flatS l := by simp [flatS]
    rw [this]
    exact ⟨rfl, rfl, rfl⟩
  | x :: l, i + 1, s, h => by
    have e : flatS (x :: l) = x.cells.toList ++ flatS l := by simp [flatS]
    have h2 := flatS_at (l := l) (i := i) (s := s) (by simpa using h)
    have hl : x.cells.toList.length = 3 := rfl
    rw [e, List.getElem?_append_right (by omega), List.getElem?_append_right (by omega), List.getElem?_append_right (by omega), hl]
    rw [show (i + 1) * 3 - 3 = i * 3 by omega, show (i + 1) * 3 + 1 - 3 = i * 3 + 1 by omega, show (i + 1) * 3 + 2 - 3 = i * 3 + 2 by omega]
    exact h2

/-- A row of steps is a path. -/
theorem row_steps {w : World} {B : Nat} {sv : Value} {l : List St} (h : w.ownsRow B 69 3 sv l.length (flatS l)) :
    ∃ p c, sv = .slice p l.length c ∧ l.length ≤ c ∧ c ≤ maxLen ∧ StepsAt w.heap.size w p l := by
  rcases h.2 with ⟨rfl, h0⟩ | ⟨g, cap, cur, rfl, hbg, hg, hnc, hcm, hcs, htake⟩
  · have : l = [] := List.eq_nil_of_length_eq_zero h0
    subst this
    exact ⟨none, 0, rfl, Nat.le_refl _, by decide, .inl rfl⟩
  · refine ⟨some ⟨g, 0, none⟩, cap, rfl, hnc, hcm, .inr ⟨g, 0, rfl, (h.lt g rfl).2, fun i s hs => ?_⟩⟩
    have hc := h.cells (g := g) rfl
    obtain ⟨f0, f1, f2⟩ := flatS_at hs
    have a0 := hc _ _ f0
    have a1 := hc _ _ f1
    have a2 := hc _ _ f2
    rw [addr_add1] at a0 a1 a2
    exact ⟨a0, by rw [Nat.add_assoc]; exact a1, by rw [Nat.add_assoc]; exact a2⟩

/-- A step's own cells in a block. -/
theorem step_reads {w : World} {g : Nat} {x : St} {e : TypeId} {f : Nat × Nat} (h : w.heap[g]? = some (.cells x.cells e f)) :
    w.cell? ⟨g, 0, none⟩ = some (.string x.nm) ∧ w.cell? ⟨g, 1, none⟩ = some (.int .i64 x.ix) ∧ w.cell? ⟨g, 2, none⟩ = some (.bool x.it) :=
  ⟨by simp [World.cell?, h, St.cells], by simp [World.cell?, h, St.cells], by simp [World.cell?, h, St.cells]⟩

def IntIn (g : Nat) (w : World) : Prop := ∃ m : Int, w.cell? ⟨g, 0, none⟩ = some (.int .i64 m)
theorem IntIn.on {g : Nat} {w w' : World} (h : IntIn g w) (hb : Below w.heap.size w w') : IntIn g w' := by
  obtain ⟨m, h⟩ := h
  exact ⟨m, (hb.cell (p := ⟨g, 0, none⟩) (World.block_lt_of_cell? w _ h)).trans h⟩

/-- What the world must hold for a reading. -/
structure RdW (w : World) : Prop where
  e1 : ErrIn 4 w
  e2 : ErrIn 5 w
  mx : IntIn 3 w
  tab : Lib.TabIs Tryz.prog w "internal/strconv.uint64pow10" .u64 Lib.pow10Tab
theorem RdW.on {w w' : World} (h : RdW w) (hb : Below w.heap.size w w') : RdW w' := ⟨h.e1.on hb, h.e2.on hb, h.mx.on hb, Lib.tabBelow_of_tabIs h.tab w' hb⟩

/-- strings.Split at a slash. -/
theorem Split_any (s : ByteArray) (hs : s.size ≤ 16777216) (w : World) (h : IntIn 3 w) :
    Calls Tryz.prog 20 #[.string s, .string ⟨#[47]⟩] w (fun e w' => ∃ ps : List ByteArray, e = .returned (.slice (some ⟨w.heap.size, 0, none⟩) ps.length ps.length) ∧ ps.map (·.data.toList) = splitS s.data.toList ∧ w' = w.alloc (.cells (ps.map Value.string).toArray 9)) := by
  obtain ⟨m, h⟩ := h
  refine (Tryz.strings_Split s ⟨#[47]⟩ m w (by omega) h (by decide)).mono ?_
  rintro e w' ⟨rfl, rfl⟩
  have hl := Lib.splitB_all ⟨#[47]⟩ (by decide) 0 (Lib.countB s ⟨#[47]⟩) s rfl
  exact ⟨Lib.splitB ⟨#[47]⟩ 0 (Lib.countB s ⟨#[47]⟩) s, by rw [hl], by rw [Lib.splitB_data]; exact splitK_splitS _, rfl⟩

set_option maxRecDepth 100000 in
set_option maxHeartbeats 4000000 in
/-- The same, and the path lies in memory of its own. -/
def ReadQ (s : ByteArray) (w : World) (e : Ending) (w' : World) : Prop :=
  ∃ (p : Option Addr) (l : List St) (c : Nat) (b : Bool), e = .returned (.tuple #[.slice p l.length c, .bool b]) ∧ (b = true → readL s.data.toList = some l) ∧ (b = false → readL s.data.toList = none ∧ l = []) ∧
    StepsAt w'.heap.size w' p l ∧ l.length ≤ c ∧ c ≤ maxLen ∧ Below w.heap.size w w' ∧ w'.ownsRow w.heap.size 69 3 (.slice p l.length c) l.length (flatS l)
theorem rowB_low {w : World} {B B' : Nat} {e : TypeId} {sz n : Nat} {v : Value} {xs : List Value} (h : w.ownsRow B e sz v n xs) (hB : B' ≤ B) : w.ownsRow B' e sz v n xs := by
  obtain ⟨hl, h2⟩ := h
  refine ⟨hl, ?_⟩
  rcases h2 with h2 | ⟨g, cap, cur, hv, hb, hr⟩
  · exact .inl h2
  · exact .inr ⟨g, cap, cur, hv, by omega, hr⟩
theorem PathRead_own (s : ByteArray) (hs : s.size ≤ 16777216) (w : World) (hw : RdW w) :
    Calls Tryz.prog 6 #[.string s] w (ReadQ s w) := by
  by_cases h0 : s.size = 0
  · obtain rfl := ba_nil h0
    go_enter Tryz.func6, Tryz.ntmps6
    go_wp2
    all_goals go_ret2
    exact ⟨none, [], 0, true, rfl, fun _ => rfl, (fun h => by cases h), .inl rfl, Nat.le_refl _, by decide, Below.refl _ _, World.ownsRow_nil _ _ _ _⟩
  · have h1 : 0 < s.size := by omega
    obtain ⟨r, e⟩ := ba_head h1
    have hne : ¬ s.toList = [] := by rw [ByteArray.toList_eq, e]; simp
    have hie : s.toList.isEmpty = false := by
      cases h : s.toList with
      | nil => exact absurd h hne
      | cons _ _ => rfl
    obtain ⟨b, hb⟩ : ∃ b, s[0] = b := ⟨_, rfl⟩
    rw [hb] at e
    have E := Lib.hid e
    clear e
    by_cases g1 : (b.toNat : Int) = 47
    · go_enter Tryz.func6, Tryz.ntmps6
      go_wp2_with fail
      have GB : Hid (b = 47) := Lib.hid (byte_num (k := 47) g1 (by omega))
      obtain ⟨tl, htl⟩ : ∃ tl : ByteArray, s.extract 1 s.size = tl := ⟨_, rfl⟩
      have HTL : Hid (s.data.toList = 47 :: tl.data.toList) := Lib.hid (by rw [← htl, Lib.extract_to_end, E.out, GB.out]; rfl)
      have htls : tl.size ≤ 16777216 := by
        have h1 := congrArg List.length HTL.out
        rw [ba_len, List.length_cons, ba_len] at h1
        omega
      rw [htl]
      clear htl
      refine (Split_any tl htls w hw.mx).mono ?_
      rintro e W1 ⟨ps, rfl, hps, hW1⟩
      have HPS := Lib.hid hps
      have HW := Lib.hid hw
      have HB1 : Hid (Below w.heap.size w W1) := Lib.hid (by rw [hW1]; exact (Below.refl _ _).alloc (Nat.le_refl _) _)
      have HS1 : Hid (W1.heap.size = w.heap.size + 1) := Lib.hid (by rw [hW1]; simp)
      have HG1 : Hid (W1.heap[w.heap.size]? = some (.cells (ps.map Value.string).toArray 9 (0, 0))) := Lib.hid (by rw [hW1]; exact heap_new w _)
      have HSL : Hid (sumLen (ps.map (·.data.toList)) ≤ 16777217) := Lib.hid (by
        rw [hps, splitS_len, ba_len]
        omega)
      have hpl : ps.length ≤ 16777217 := by
        have h1 := HSL.out
        have h2 : ∀ l : List (List UInt8), l.length ≤ sumLen l := by
          intro l
          induction l with
          | nil => simp
          | cons p l ih => simp only [sumLen, List.map_cons, List.sum_cons, List.length_cons] at ih ⊢; omega
        have h3 := h2 (ps.map (·.data.toList))
        rw [List.length_map] at h3
        omega
      have HRL : Hid (readL s.data.toList = match piecesL (ps.map (·.data.toList)) with | none => none | some p => if pathT p = s.data.toList then some p else none) := Lib.hid (by
        rw [hps, HTL.out]
        unfold readL
        dsimp only
        rw [if_pos rfl]
        rfl)
      clear hW1 hps hw hie hne
      go_wp2_with fail
      go_loopw [4, 18] (fun sv iv wr => ∃ k : Nat, k ≤ ps.length ∧ iv = .int .i64 k ∧ ∃ d : List St, d.length = k ∧ Hid (piecesL ((ps.map (·.data.toList)).take k) = some d) ∧ Hid (wr.ownsRow W1.heap.size 69 3 sv d.length (flatS d)) ∧ Hid (Below W1.heap.size W1 wr)) (fun _ iv _ => ps.length - (intOf iv).toNat)
      case atStart => exact ⟨0, Nat.zero_le _, rfl, [], rfl, Lib.hid rfl, Lib.hid (World.ownsRow_nil _ _ _ _), Lib.hid (Below.refl _ _)⟩
      case round =>
        obtain ⟨k, hk, rfl, d, hd, HD, HR, HBW⟩ := hrel
        have HBB : Hid (Below w.heap.size w wr) := Lib.hid (HB1.out.trans (HBW.out.mono (by have := HS1.out; omega)))
        have hsz : w.heap.size < wr.heap.size := by have := HBW.out.size; have := HS1.out; omega
        by_cases h2 : k < ps.length
        · obtain ⟨x, hx⟩ : ∃ x, ps[k]? = some x := ⟨ps[k], by simp [h2]⟩
          have hgr : wr.heap[w.heap.size]? = some (.cells (ps.map Value.string).toArray 9 (0, 0)) := (HBW.out.block _ (by have := HS1.out; omega)).trans HG1.out
          have cx : wr.cell? ⟨w.heap.size, k, none⟩ = some (.string x) := by simp [World.cell?, hgr, hx]
          have HX : Hid ((ps.map (·.data.toList))[k]? = some x.data.toList) := Lib.hid (by simp [hx])
          have hxs : x.size ≤ 16777216 := by
            have h1 := HSL.out
            have h3 : ∀ (l : List (List UInt8)) (p : List UInt8), p ∈ l → p.length + 1 ≤ sumLen l := by
              intro l
              induction l with
              | nil => intro p hp; cases hp
              | cons q l ih =>
                intro p hp
                have e : sumLen (q :: l) = (q.length + 1) + sumLen l := by simp [sumLen]
                rw [e]
                rcases List.mem_cons.1 hp with rfl | hp
                · omega
                · have := ih p hp; omega
            have := h3 _ _ (List.mem_of_getElem? HX.out)
            rw [ba_len] at this
            omega
          have HC := Lib.hid (piece_any x hxs wr (HW.out.e1.on HBB.out) (HW.out.e2.on HBB.out))
          clear hx hgr hxs
          go_wp2_with fail
          refine HC.out.mono ?_
          rintro e w4 ⟨⟨yn, yi, yt⟩, bb, rfl, hyes, hno, hb4⟩
          have HB4 := Lib.hid hb4
          cases bb
          · have HNO : Hid (readL s.data.toList = none) := Lib.hid (by rw [HRL.out, pieces_none HX.out (hno rfl)])
            clear hyes hno
            go_wp2
            go_ret2
            exact ⟨none, [], 0, false, rfl, (fun h => by cases h), fun _ => ⟨HNO.out, rfl⟩, .inl rfl, Nat.le_refl _, by decide, (HBB.out.trans (hb4.mono HBB.out.size)).alloc (by have := hb4.size; omega) _, World.ownsRow_nil _ _ _ _⟩
          · have HYES := Lib.hid (hyes rfl)
            clear hyes hno hb4
            obtain ⟨W5, hW5⟩ : ∃ W5, w4.alloc (.cells #[.string yn, .int .i64 yi, .bool yt] 69) = W5 := ⟨_, rfl⟩
            have hb5 : Below w4.heap.size w4 W5 := by rw [← hW5]; exact (Below.refl _ _).alloc (Nat.le_refl _) _
            have hg5 : W5.heap[w4.heap.size]? = some (.cells (St.mk yn yi yt).cells 69 (0, 0)) := by rw [← hW5]; exact heap_new w4 _
            have hs5 : w4.heap.size < W5.heap.size := by rw [← hW5]; simp
            obtain ⟨a0, a1, a2⟩ := step_reads hg5
            dsimp only at a0 a1 a2
            have HB5 : Hid (Below wr.heap.size wr W5) := Lib.hid (HB4.out.trans (hb5.mono HB4.out.size))
            clear hb5 hg5
            go_upto_region 12 with (fail)
            try rw [hW5]
            clear hW5
            go_step
            iterate 3
              refine wpList_plain rfl (fun K hK => ?_)
              go_step
              refine hK _ _ ?_
              clear hK K
            obtain ⟨W6, hW6⟩ : ∃ W6, W5.alloc (.cells #[.string yn, .int .i64 yi, .bool yt] 69) = W6 := ⟨_, rfl⟩
            have hb6 : Below W5.heap.size W5 W6 := by rw [← hW6]; exact (Below.refl _ _).alloc (Nat.le_refl _) _
            have hg6 : W6.heap[W5.heap.size]? = some (.cells (St.mk yn yi yt).cells 69 (0, 0)) := by rw [← hW6]; exact heap_new W5 _
            obtain ⟨n0, n1, n2⟩ := step_reads hg6
            dsimp only at n0 n1 n2
            try rw [hW6]
            clear hW6
            have hb16 : Below wr.heap.size wr W6 := HB5.out.trans (hb6.mono HB5.out.size)
            refine wpList_plain rfl (fun K hK => ?_)
            have HG3 := HR.out.kept (grown_b hb16 none) (by cases u4.ownBlock <;> simp)
            refine wp_append_1 (P := Tryz.prog) W6 (.tmp 29) (.tmp 31) 30 rfl W1.heap.size 69 (.agg #[.string ⟨#[]⟩, .int .i64 0, .bool false]) 3 32 Tryz.underlying30 (by kernel_rfl) rfl (by decide) u4 d.length _ rfl HG3 ⟨W5.heap.size, 0, none⟩ 1 1 [.string yn, .int .i64 yi, .bool yt] rfl (by decide) rfl ?c1 ?c2 ?c3 ?c4 ?c5 ?_
            case c1 =>
              intro m v hv
              rw [addr_add1, Nat.zero_add]
              match m, hv with
              | 0, hv => cases hv; exact n0
              | 1, hv => cases hv; exact n1
              | 2, hv => cases hv; exact n2
              | m + 3, hv => simp at hv
            case c2 => intro v hv; simp at hv; rcases hv with rfl | rfl | rfl <;> rfl
            case c3 => unfold maxLen; omega
            case c4 => omega
            case c5 => have := HBW.out.size; have := hb16.size; omega
            intro v' w' hrow hgr hv'
            refine hK _ _ ?_
            clear hK K
            have HROW : Hid (w'.ownsRow W1.heap.size 69 3 v' (d ++ [St.mk yn yi yt]).length (flatS (d ++ [St.mk yn yi yt]))) := Lib.hid (by
              have e : flatS (d ++ [St.mk yn yi yt]) = flatS d ++ [.string yn, .int .i64 yi, .bool yt] := by simp [flatS, St.cells]
              rw [List.length_append, e]
              exact hrow)
            have HBN : Hid (Below W1.heap.size W1 w') := Lib.hid ((HBW.out.trans (hb16.mono HBW.out.size)).grown hgr (by have := HBW.out.size; have := hb16.size; omega) (fun y hy => (HG3.lt y hy).1))
            clear hrow hgr hv' HG3 hb16 hb6 hg6 n0 n1 n2 a0 a1 a2 hs5
            go_wp2
            go_roundw
            case rel => exact ⟨k + 1, by omega, by go_num, d ++ [St.mk yn yi yt], by simp [hd], Lib.hid (pieces_snoc HX.out HD.out HYES.out), HROW, HBN⟩
            case measure => simp [intOf]; omega
        · have HALL : Hid (piecesL (ps.map (·.data.toList)) = some d) := Lib.hid (by
            have h1 := HD.out
            rwa [List.take_of_length_le (by rw [List.length_map]; omega)] at h1)
          obtain ⟨p, c, rfl, hpc, hcm, hst⟩ := row_steps HR.out
          have hpn := pieces_len HALL.out
          have hpk := pieces_ok HALL.out
          have HST := Lib.hid hst
          have HPC := Lib.hid hpc
          have HCM := Lib.hid hcm
          have HC := Lib.hid (PathText_any d p c wr hst (by unfold maxLen; omega) (fun x hx => (hpk x hx).2) (by have := hpn.1; have := HSL.out; omega) (fun x hx => by have h1 := hpn.2.1 x hx; rw [ba_len] at h1; have := HSL.out; unfold maxLen; omega) (HW.out.on HBB.out).tab)
          obtain ⟨tx, htx⟩ : ∃ tx : ByteArray, (⟨(pathT d).toArray⟩ : ByteArray) = tx := ⟨_, rfl⟩
          have HTX : Hid (tx.data.toList = pathT d) := Lib.hid (by rw [← htx])
          rw [htx, hd] at HC
          clear hpn hpk hst hpc hcm htx
          by_cases he : pathT d = s.data.toList
          · have HY : Hid (readL s.data.toList = some d) := Lib.hid (by rw [HRL.out, HALL.out]; dsimp only; rw [if_pos he])
            have he2 : (tx.toList == s.toList) = true := by rw [ByteArray.toList_eq, ByteArray.toList_eq, HTX.out, he, beq_self_eq_true]
            have he3 : tx.toList = s.toList := beq_iff_eq.1 he2
            clear he
            go_wp2_with (go_at_call 22; refine HC.out.mono ?_; rintro e w4 ⟨rfl, hb4⟩; have HB4 := Lib.hid hb4; clear hb4)
            go_ret2
            exact ⟨p, d, c, true, by rw [hd]; rfl, fun _ => HY.out, (fun h => by cases h), HST.out.on HB4.out, HPC.out, HCM.out, HBB.out.trans (HB4.out.mono HBB.out.size), rowB_low (HR.out.kept (grown_b HB4.out none) (by cases (Value.slice p d.length c).ownBlock <;> simp)) (by have := HS1.out; omega)⟩
          · have HN : Hid (readL s.data.toList = none) := Lib.hid (by rw [HRL.out, HALL.out]; dsimp only; rw [if_neg he])
            have he2 : (tx.toList == s.toList) = false := by rw [ByteArray.toList_eq, ByteArray.toList_eq, HTX.out]; exact beq_eq_false_iff_ne.2 he
            have he3 : ¬ tx.toList = s.toList := beq_eq_false_iff_ne.1 he2
            clear he
            go_wp2_with (go_at_call 22; refine HC.out.mono ?_; rintro e w4 ⟨rfl, hb4⟩; have HB4 := Lib.hid hb4; clear hb4)
            go_ret2
            exact ⟨none, [], 0, false, rfl, (fun h => by cases h), fun _ => ⟨HN.out, rfl⟩, .inl rfl, Nat.le_refl _, by decide, HBB.out.trans (HB4.out.mono HBB.out.size), World.ownsRow_nil _ _ _ _⟩
    · have g1' : ((b.toNat : Int) != 47) = true := by simp [g1]
      have HN : Hid (readL s.data.toList = none) := Lib.hid (readL_head E.out (fun e => g1 (by rw [e]; rfl)))
      go_enter Tryz.func6, Tryz.ntmps6
      go_wp2
      all_goals go_ret2
      exact ⟨none, [], 0, false, rfl, (fun h => by cases h), fun _ => ⟨HN.out, rfl⟩, .inl rfl, Nat.le_refl _, by decide, Below.refl _ _, World.ownsRow_nil _ _ _ _⟩
theorem PathRead_any (s : ByteArray) (hs : s.size ≤ 16777216) (w : World) (hw : RdW w) :
    Calls Tryz.prog 6 #[.string s] w (ReadP s w) :=
  (PathRead_own s hs w hw).mono fun e w' ⟨p, l, c, b, h1, h2, h3, h4, h5, h6, h7, _⟩ => ⟨p, l, c, b, h1, h2, h3, h4, h5, h6, h7⟩
end Go.Proofs.YtnmnmkdmnohbmaaGreatDoor
