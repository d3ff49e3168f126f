/- Plain: how long the text of what was read can be. Conditions: none. -/
import Derived.Test.YtnmnmkdmnohbmaaDoorReadRef
import Derived.Test.YtnmnmkdmnohbmaaDoorOpenP
namespace Go.Proofs.YtnmnmkdmnohbmaaDoor
open Go.RowKit

theorem unesc_len : ∀ {l n : List UInt8}, unesc l = some n → n.length ≤ l.length
  | [], n, h => by cases h; simp
  | [b], n, h => by
    unfold unesc at h
    split at h
    · cases h
    · cases h; simp
  | b :: c :: r, n, h => by
    unfold unesc at h
    split at h
    · split at h
      · cases hr : unesc r with
        | none => rw [hr] at h; cases h
        | some m =>
          rw [hr] at h
          cases h
          have := unesc_len hr
          simp only [List.length_cons]
          omega
      · split at h
        · cases hr : unesc r with
          | none => rw [hr] at h; cases h
          | some m =>
            rw [hr] at h
            cases h
            have := unesc_len hr
            simp only [List.length_cons]
            omega
        · cases h
    · cases hr : unesc (c :: r) with
      | none => rw [hr] at h; cases h
      | some m =>
        rw [hr] at h
        cases h
        have := unesc_len hr
        simp only [List.length_cons] at this ⊢
        omega

theorem piece_len {p : List UInt8} {x : St} (h : pieceL p = some x) : (stepT x).length + 1 ≤ 24 * (p.length + 1) ∧ x.nm.data.toList.length ≤ p.length := by
  have hok := piece_ok h
  unfold pieceL at h
  split at h
  · cases h
  · split at h
    · split at h
      · rename_i n hn
        cases h
        refine ⟨?_, by simp⟩
        have := itoa_len (i := n) hok.2
        show (Lib.itoa n).length + 1 ≤ _
        omega
      · cases h
    · cases hu : unesc (Lib.trimPrefix p [126, 50]) with
      | none => rw [hu] at h; cases h
      | some n =>
        rw [hu] at h
        cases h
        have h1 := unesc_len hu
        have h2 : (Lib.trimPrefix p [126, 50]).length ≤ p.length := by
          unfold Lib.trimPrefix
          split
          · rw [List.length_drop]; omega
          · omega
        have h3 := escB_len n
        refine ⟨?_, by show n.length ≤ _; omega⟩
        show (nameT n).length + 1 ≤ _
        unfold nameT
        split <;> simp only [List.length_append, List.length_cons, List.length_nil] <;> omega

def sumLen (l : List (List UInt8)) : Nat := (l.map (fun p => p.length + 1)).sum
theorem pieces_len : ∀ {l : List (List UInt8)} {d : List St}, piecesL l = some d → (pathT d).length ≤ 24 * sumLen l ∧ (∀ s ∈ d, s.nm.data.toList.length ≤ sumLen l) ∧ d.length = l.length
  | [], d, h => by cases h; simp [pathT]
  | p :: l, d, h => by
    unfold piecesL at h
    split at h
    · cases h
    · rename_i x hx
      cases hr : piecesL l with
      | none => rw [hr] at h; cases h
      | some r =>
        rw [hr] at h
        cases h
        obtain ⟨h1, h2, h3⟩ := pieces_len hr
        obtain ⟨h4, h5⟩ := piece_len hx
        have e : sumLen (p :: l) = (p.length + 1) + sumLen l := by simp [sumLen]
        have e2 : pathT (x :: r) = 47 :: stepT x ++ pathT r := rfl
        refine ⟨?_, ?_, by simp [h3]⟩
        · rw [e, e2]
          simp only [List.cons_append, List.length_cons, List.length_append]
          omega
        · intro s hs
          rw [e]
          rcases List.mem_cons.1 hs with rfl | hs
          · omega
          · have := h2 s hs
            omega

theorem splitS_len : ∀ l : List UInt8, sumLen (splitS l) = l.length + 1
  | [] => rfl
  | c :: r => by
    have ih := splitS_len r
    unfold splitS
    split
    · simp only [sumLen, List.map_cons, List.sum_cons, List.length_nil, List.length_cons] at ih ⊢
      omega
    · cases h : splitS r with
      | nil => rw [h] at ih; simp [sumLen] at ih
      | cons x t =>
        rw [h] at ih
        simp only [sumLen, List.map_cons, List.sum_cons, List.length_cons] at ih ⊢
        omega

theorem piecesL_app : ∀ {a b : List (List UInt8)}, piecesL (a ++ b) = match piecesL a with | none => none | some x => (piecesL b).map (x ++ ·)
  | [], b => by
    simp only [List.nil_append, piecesL]
    cases piecesL b <;> simp
  | p :: a, b => by
    simp only [List.cons_append, piecesL]
    cases pieceL p with
    | none => rfl
    | some x =>
      simp only
      rw [piecesL_app]
      cases piecesL a with
      | none => rfl
      | some y => cases piecesL b <;> simp
theorem drop_some' {α : Type} {l : List α} {k : Nat} {x : α} (h : l[k]? = some x) : l.drop k = x :: l.drop (k + 1) := by
  obtain ⟨hk, rfl⟩ := List.getElem?_eq_some_iff.1 h
  exact List.drop_eq_getElem_cons hk
theorem pieces_none {l : List (List UInt8)} {k : Nat} {p : List UInt8} (hp : l[k]? = some p) (h : pieceL p = none) : piecesL l = none := by
  have hk := (List.getElem?_eq_some_iff.1 hp).1
  have e : l = l.take k ++ (p :: l.drop (k + 1)) := by rw [← drop_some' hp, List.take_append_drop]
  rw [e, piecesL_app, piecesL, h]
  cases piecesL (l.take k) <;> rfl
theorem pieces_snoc {l : List (List UInt8)} {k : Nat} {p : List UInt8} {d : List St} {x : St} (hp : l[k]? = some p) (hd : piecesL (l.take k) = some d) (h : pieceL p = some x) : piecesL (l.take (k + 1)) = some (d ++ [x]) := by
  rw [List.take_add_one, hp, piecesL_app, hd]
  simp [piecesL, h]
end Go.Proofs.YtnmnmkdmnohbmaaDoor
