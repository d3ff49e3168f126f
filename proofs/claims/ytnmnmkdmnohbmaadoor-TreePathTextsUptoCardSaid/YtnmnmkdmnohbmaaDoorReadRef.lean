/- Plain: what the reference's reading of a path's text answers. Conditions: none. -/
import Derived.Test.YtnmnmkdmnohbmaaDoorReadLaw
import Derived.IntWalk
namespace Go.Proofs.YtnmnmkdmnohbmaaDoor
open Go.RowKit

def plainL : List UInt8 → List UInt8
  | [] => []
  | [b] => [b]
  | b :: c :: r => if b = 126 then (if c = 48 then 126 :: plainL r else if c = 49 then 47 :: plainL r else plainL r) else b :: plainL (c :: r)
theorem plainL_wave (c : UInt8) (r : List UInt8) : plainL (126 :: c :: r) = if c = 48 then 126 :: plainL r else if c = 49 then 47 :: plainL r else plainL r := by
  rw [plainL, if_pos rfl]
theorem plainL_plain {b : UInt8} (h : b ≠ 126) (r : List UInt8) : plainL (b :: r) = b :: plainL r := by
  cases r with
  | nil => simp [plainL]
  | cons c r => rw [plainL, if_neg h]
theorem plainL_esc : ∀ n : List UInt8, plainL (n.flatMap escB) = n
  | [] => rfl
  | b :: n => by
    rw [List.flatMap_cons]
    rcases escB_cases b with ⟨rfl, e⟩ | ⟨rfl, e⟩ | ⟨h1, _, e⟩ <;> rw [e]
    · rw [List.cons_append, List.cons_append, List.nil_append, plainL_wave, if_pos rfl, plainL_esc n]
    · rw [List.cons_append, List.cons_append, List.nil_append, plainL_wave, if_neg (by decide), if_pos rfl, plainL_esc n]
    · rw [List.cons_append, List.nil_append, plainL_plain h1, plainL_esc n]
theorem plainL_name (n : List UInt8) : plainL (nameT n) = n := by
  unfold nameT
  cases markedL n
  · simp [plainL_esc]
  · rw [if_pos rfl, List.cons_append, List.cons_append, List.nil_append, plainL_wave, if_neg (by decide), if_neg (by decide), plainL_esc]

/-- A number's digits, as an int that wraps. -/
def numStep (n : Int) (b : UInt8) : Int := if b = 45 then n else wrap64 (wrap64 (wrap64 (n * 10) + b.toNat) - 48)
def numW (l : List UInt8) : Int := l.foldl numStep 0
theorem numW_snoc (l : List UInt8) (b : UInt8) : numW (l ++ [b]) = numStep (numW l) b := by simp [numW]
theorem numStep_dig {a : Nat} {b : UInt8} (h : isDig b = true) : numStep (wrap64 a) b = wrap64 ((a * 10 + (b.toNat - 48) : Nat) : Int) := by
  have hb := dig_num h
  have : b ≠ 45 := fun e => by subst e; revert h; decide
  unfold numStep
  rw [if_neg this]
  unfold wrap64
  omega
theorem num_digits : ∀ (l : List UInt8) (a : Nat), (∀ b ∈ l, isDig b = true) → l.foldl numStep (wrap64 a) = wrap64 ((l.foldl (fun n b => n * 10 + (b.toNat - 48)) a : Nat) : Int)
  | [], a, _ => by rw [List.foldl_nil, List.foldl_nil]
  | b :: l, a, h => by
    rw [List.foldl_cons, List.foldl_cons, numStep_dig (h b List.mem_cons_self)]
    exact num_digits l _ (fun c hc => h c (List.mem_cons_of_mem _ hc))
theorem num_dec (u : Nat) : numW (Lib.decDigits u) = wrap64 (u : Int) := by
  have h := num_digits (Lib.decDigits u) 0 (dec_dig u)
  have e := decVal_dec u
  unfold decVal at e
  rw [e] at h
  have z : wrap64 ((0 : Nat) : Int) = 0 := by simp [wrap64]
  rw [z] at h
  exact h

/-- The one step that a piece can be the text of. -/
def guessL (p : List UInt8) : St :=
  if p ≠ [] ∧ markedL p = true then ⟨ByteArray.empty, if p.head? = some 45 then wrap64 (-(numW p)) else numW p, true⟩
  else ⟨⟨(plainL p).toArray⟩, 0, false⟩

theorem wrap64_rng (n : Int) : -9223372036854775808 ≤ wrap64 n ∧ wrap64 n ≤ 9223372036854775807 := by unfold wrap64; omega
theorem numStep_rng {n : Int} (h : -9223372036854775808 ≤ n ∧ n ≤ 9223372036854775807) (b : UInt8) : -9223372036854775808 ≤ numStep n b ∧ numStep n b ≤ 9223372036854775807 := by
  unfold numStep
  split
  · exact h
  · exact wrap64_rng _
theorem numW_rng (l : List UInt8) : -9223372036854775808 ≤ numW l ∧ numW l ≤ 9223372036854775807 := by
  have : ∀ (l : List UInt8) (n : Int), (-9223372036854775808 ≤ n ∧ n ≤ 9223372036854775807) → -9223372036854775808 ≤ l.foldl numStep n ∧ l.foldl numStep n ≤ 9223372036854775807 := by
    intro l
    induction l with
    | nil => exact fun n h => h
    | cons b l ih => exact fun n h => ih _ (numStep_rng h b)
  exact this l 0 (by decide)
theorem guess_ok (p : List UInt8) : okSt (guessL p) := by
  unfold guessL
  split
  · refine ⟨rfl, ?_⟩
    dsimp only
    split
    · exact wrap64_rng _
    · exact numW_rng _
  · exact ⟨rfl, by show (-9223372036854775808 : Int) ≤ 0; decide, by show (0 : Int) ≤ 9223372036854775807; decide⟩

theorem guess_step {s : St} (h : okSt s) : guessL (stepT s) = s := by
  obtain ⟨hb, h0, h1⟩ := h
  obtain ⟨n, i, t⟩ := s
  cases t
  · have : i = 0 := by simp [bareS] at hb; exact hb.symm
    subst this
    show guessL (nameT n.data.toList) = _
    obtain ⟨b, l, e, hb⟩ := nameT_head n.data.toList
    have h2 : markedL (nameT n.data.toList) = false := by rw [e]; exact hb
    unfold guessL
    rw [if_neg (by rw [h2]; simp), plainL_name]
  · have : n = ByteArray.empty := by simp [bareS] at hb; exact hb.symm
    subst this
    show guessL (Lib.itoa i) = _
    obtain ⟨b, l, e, hb⟩ := itoa_head i
    have h2 : Lib.itoa i ≠ [] := by rw [e]; simp
    have h3 : markedL (Lib.itoa i) = true := by rw [e]; exact hb
    dsimp only at h0 h1
    unfold guessL
    rw [if_pos ⟨h2, h3⟩]
    congr 1
    unfold Lib.itoa
    by_cases hi : i < 0
    · rw [if_pos hi]
      have : numW (45 :: Lib.decDigits i.natAbs) = numW (Lib.decDigits i.natAbs) := rfl
      rw [if_pos (by rfl), this, num_dec]
      unfold wrap64
      omega
    · rw [if_neg hi]
      have : ¬ (Lib.decDigits i.toNat).head? = some 45 := by
        cases e : Lib.decDigits i.toNat with
        | nil => simp
        | cons b l =>
          have hb := dec_dig i.toNat b (by rw [e]; exact List.mem_cons_self)
          intro h
          cases h
          revert hb
          decide
      rw [if_neg this, num_dec]
      unfold wrap64
      omega

theorem path_off : ∀ {d p : List St} {r : List UInt8}, Cut r → pathT p = pathT d ++ r → ∃ q, (∀ x ∈ q, x ∈ p) ∧ pathT q = r
  | [], p, r, _, h => ⟨p, fun _ hx => hx, h⟩
  | t :: d, [], r, _, h => by simp [pathT] at h
  | t :: d, x :: p, r, hr, h => by
    simp only [pathT, List.flatMap_cons, List.cons_append, List.append_assoc, List.cons.injEq, true_and] at h
    have hc : Cut (pathT d ++ r) := by
      cases d with
      | nil => exact hr
      | cons _ _ => exact .inr ⟨_, rfl⟩
    obtain ⟨_, e2⟩ := cut_split (stepT_slash x) (stepT_slash t) (pathT_cut p) hc h
    obtain ⟨q, h1, h2⟩ := path_off hr e2
    exact ⟨q, fun y hy => List.mem_cons_of_mem _ (h1 y hy), h2⟩

/-- A piece that no step is written as: the text is no path's. -/
theorem readL_refuse {s : List UInt8} {d : List St} {seg rest : List UInt8} (hs : s = pathT d ++ 47 :: (seg ++ rest)) (hseg : ∀ c ∈ seg, c ≠ 47) (hr : Cut rest) (hg : stepT (guessL seg) ≠ seg) : readL s = none := by
  cases h : readL s with
  | none => rfl
  | some p =>
    exfalso
    obtain ⟨h1, h2⟩ := readL_iff.1 h
    rw [hs] at h1
    obtain ⟨q, hq, e⟩ := path_off (.inr ⟨_, rfl⟩) h1
    cases q with
    | nil => cases e
    | cons x q =>
      have e : 47 :: (stepT x ++ pathT q) = 47 :: (seg ++ rest) := by rw [← e]; simp [pathT]
      obtain ⟨e1, _⟩ := cut_split (stepT_slash x) hseg (pathT_cut q) hr (List.cons.inj e).2
      have := guess_step (h2 x (hq x List.mem_cons_self))
      rw [e1] at this
      rw [this] at hg
      exact hg e1
theorem readL_head {s : List UInt8} {c : UInt8} {r : List UInt8} (hs : s = c :: r) (h : c ≠ 47) : readL s = none := by
  subst hs
  unfold readL
  dsimp only
  rw [if_neg h]
end Go.Proofs.YtnmnmkdmnohbmaaDoor
