/- Helper text: plain facts on the comparison of floats by their bits. Conditions: none. -/
import GoSem.Core.Float
namespace Go.Proofs.YtnmnmkdmnohbmaaDoor
open Ieee

def fneg (x : Nat) : Bool := x / 9223372036854775808 % 2 == 1
def frung (x : Nat) : Nat := x % 9223372036854775808
/-- Is it no number? -/
def fnan (x : Nat) : Bool := decide (9218868437227405312 < frung x)
def fzero (x : Nat) : Bool := frung x == 0
/-- What a finite rung is worth, in units of the least place. -/
def fmag (r : Nat) : Nat := if r < 4503599627370496 then r else (4503599627370496 + r % 4503599627370496) * 2 ^ (r / 4503599627370496 - 1)

theorem fmag_inj {r s : Nat} (h : fmag r = fmag s) : r = s := by
  have key : ∀ a b : Nat, a < b → fmag a < fmag b := by
    intro a b hab
    unfold fmag
    by_cases ha : a < 4503599627370496
    · rw [if_pos ha]
      by_cases hb : b < 4503599627370496
      · rw [if_pos hb]; exact hab
      · rw [if_neg hb]
        have h1 : 1 ≤ 2 ^ (b / 4503599627370496 - 1) := Nat.one_le_two_pow
        have h2 := Nat.le_mul_of_pos_right (4503599627370496 + b % 4503599627370496) h1
        omega
    · have hb : ¬ b < 4503599627370496 := by omega
      rw [if_neg ha, if_neg hb]
      have hle : a / 4503599627370496 ≤ b / 4503599627370496 := Nat.div_le_div_right (by omega)
      rcases Nat.lt_or_ge (a / 4503599627370496) (b / 4503599627370496) with hlt | hge
      · have h1 : (4503599627370496 + a % 4503599627370496) * 2 ^ (a / 4503599627370496 - 1) < (4503599627370496 * 2) * 2 ^ (a / 4503599627370496 - 1) :=
          Nat.mul_lt_mul_of_pos_right (by omega) (Nat.two_pow_pos _)
        have h2 : (4503599627370496 * 2) * 2 ^ (a / 4503599627370496 - 1) = 4503599627370496 * 2 ^ (a / 4503599627370496 - 1 + 1) := by rw [Nat.pow_succ]; omega
        have h3 : 2 ^ (a / 4503599627370496 - 1 + 1) ≤ 2 ^ (b / 4503599627370496 - 1) := Nat.pow_le_pow_right (by omega) (by omega)
        have h4 : 4503599627370496 * 2 ^ (a / 4503599627370496 - 1 + 1) ≤ 4503599627370496 * 2 ^ (b / 4503599627370496 - 1) := Nat.mul_le_mul_left _ h3
        have h5 : 4503599627370496 * 2 ^ (b / 4503599627370496 - 1) ≤ (4503599627370496 + b % 4503599627370496) * 2 ^ (b / 4503599627370496 - 1) := Nat.mul_le_mul_right _ (by omega)
        omega
      · have he : a / 4503599627370496 = b / 4503599627370496 := by omega
        rw [he]
        exact Nat.mul_lt_mul_of_pos_right (by omega) (Nat.two_pow_pos _)
  rcases Nat.lt_trichotomy r s with h1 | h1 | h1
  · have := key r s h1; omega
  · exact h1
  · have := key s r h1; omega

theorem fmag_zero {r : Nat} : fmag r = 0 ↔ r = 0 := by
  constructor
  · intro h
    exact fmag_inj (h.trans (by decide))
  · rintro rfl; decide

theorem read_double (x : Nat) : double.read x =
    if frung x < 4503599627370496 then .number (fneg x) (frung x) (-1074)
    else if frung x < 9218868437227405312 then .number (fneg x) (4503599627370496 + frung x % 4503599627370496) (-1074 + (frung x / 4503599627370496 - 1 : Nat))
    else if frung x = 9218868437227405312 then .infinity (fneg x)
    else .nan (fneg x) (frung x - 9218868437227405312) := rfl

theorem read_number {x : Nat} (h : frung x < 9218868437227405312) : ∃ m k : Nat, double.read x = .number (fneg x) m (-1074 + (k : Int)) ∧ m * 2 ^ k = fmag (frung x) := by
  rw [read_double]
  by_cases h1 : frung x < 4503599627370496
  · rw [if_pos h1]
    exact ⟨frung x, 0, by simp, by unfold fmag; rw [if_pos h1]; omega⟩
  · rw [if_neg h1, if_pos h]
    exact ⟨_, _, rfl, by unfold fmag; rw [if_neg h1]⟩

theorem read_inf {x : Nat} (h : frung x = 9218868437227405312) : double.read x = .infinity (fneg x) := by
  rw [read_double, if_neg (by omega), if_neg (by omega), if_pos h]

theorem read_nan {x : Nat} (h : 9218868437227405312 < frung x) : double.read x = .nan (fneg x) (frung x - 9218868437227405312) := by
  rw [read_double, if_neg (by omega), if_neg (by omega), if_neg (by omega)]

theorem signed_scale (s : Bool) (m a b : Nat) (hab : b ≤ a) : signed s m (a - b) * (2 ^ b : Nat) = signed s (m * 2 ^ a) 0 := by
  have h : m <<< (a - b) * 2 ^ b = m * 2 ^ a := by rw [Nat.shiftLeft_eq, Nat.mul_assoc, ← Nat.pow_add, Nat.sub_add_cancel hab]
  unfold signed
  cases s
  · simp only [Bool.false_eq_true, if_false, Nat.shiftLeft_zero]
    rw [← h]; push_cast; rfl
  · simp only [if_true, Nat.shiftLeft_zero]
    rw [← h]; push_cast; rw [Int.neg_mul]

theorem order_number (s t : Bool) (m k n l : Nat) : Datum.order (.number s m (-1074 + (k : Int))) (.number t n (-1074 + (l : Int))) = some (compare (signed s (m * 2 ^ k) 0) (signed t (n * 2 ^ l) 0)) := by
  unfold Datum.order
  simp only [Option.some.injEq]
  have e1 : ((-1074 + (k : Int)) - min (-1074 + (k : Int)) (-1074 + (l : Int))).toNat = k - min k l := by omega
  have e2 : ((-1074 + (l : Int)) - min (-1074 + (k : Int)) (-1074 + (l : Int))).toNat = l - min k l := by omega
  rw [e1, e2]
  have h1 := signed_scale s m k (min k l) (Nat.min_le_left _ _)
  have h2 := signed_scale t n l (min k l) (Nat.min_le_right _ _)
  have hp : (0 : Int) < (2 ^ min k l : Nat) := by exact_mod_cast Nat.two_pow_pos _
  rw [← h1, ← h2]
  generalize signed s m (k - min k l) = a
  generalize signed t n (l - min k l) = b
  generalize ((2 ^ min k l : Nat) : Int) = c at hp
  rcases Int.lt_trichotomy a b with h | h | h
  · have : a * c < b * c := Int.mul_lt_mul_of_pos_right h hp
    simp [compare, compareOfLessAndEq, h, this]
  · subst h; simp [compare, compareOfLessAndEq]
  · have : b * c < a * c := Int.mul_lt_mul_of_pos_right h hp
    have h' : ¬ a < b := by omega
    have h'' : ¬ a = b := by omega
    have t1 : ¬ a * c < b * c := by omega
    have t2 : ¬ a * c = b * c := by omega
    simp [compare, compareOfLessAndEq, h', h'', t1, t2]

theorem compare_eq (a b : Int) : (compare a b == Ordering.eq) = decide (a = b) := by
  rcases Int.lt_trichotomy a b with h | h | h
  · have h' : ¬ a = b := by omega
    simp [compare, compareOfLessAndEq, h, h']
  · subst h; simp [compare, compareOfLessAndEq]
  · have h' : ¬ a < b := by omega
    have h'' : ¬ a = b := by omega
    simp [compare, compareOfLessAndEq, h', h'']

theorem signed_inj {s t : Bool} {m n : Nat} : signed s m 0 = signed t n 0 ↔ (m = n ∧ (s = t ∨ m = 0)) := by
  unfold signed
  cases s <;> cases t <;> simp <;> omega

def feq (x y : Nat) : Bool := double.order x y == some .eq

theorem feq_eq (x y : Nat) : feq x y = (!fnan x && !fnan y && ((fneg x == fneg y && frung x == frung y) || (fzero x && fzero y))) := by
  unfold feq fnan fzero Format.order
  by_cases hx : 9218868437227405312 < frung x
  · rw [read_nan hx]
    simp [Datum.order, hx]
  · by_cases hy : 9218868437227405312 < frung y
    · rw [read_nan hy]
      simp only [hx, hy, decide_true, Bool.not_true, Bool.and_false, Bool.false_and]
      cases double.read x <;> simp [Datum.order]
    · simp only [hx, hy, decide_false, Bool.not_false, Bool.true_and]
      by_cases hx' : frung x = 9218868437227405312
      · rw [read_inf hx']
        by_cases hy' : frung y = 9218868437227405312
        · rw [read_inf hy', hx', hy']
          cases fneg x <;> cases fneg y <;> decide
        · obtain ⟨n, l, hr, hm⟩ := read_number (x := y) (by omega)
          rw [hr]
          cases fneg x <;> simp [Datum.order, hx'] <;> omega
      · obtain ⟨m, k, hr, hm⟩ := read_number (x := x) (by omega)
        rw [hr]
        by_cases hy' : frung y = 9218868437227405312
        · rw [read_inf hy']
          cases fneg y <;> simp [Datum.order, hy'] <;> omega
        · obtain ⟨n, l, hr2, hm2⟩ := read_number (x := y) (by omega)
          rw [hr2, order_number, hm, hm2]
          have hc := compare_eq (signed (fneg x) (fmag (frung x)) 0) (signed (fneg y) (fmag (frung y)) 0)
          rw [show (some (compare (signed (fneg x) (fmag (frung x)) 0) (signed (fneg y) (fmag (frung y)) 0)) == some Ordering.eq) = (compare (signed (fneg x) (fmag (frung x)) 0) (signed (fneg y) (fmag (frung y)) 0) == Ordering.eq) from rfl, hc]
          rw [Bool.eq_iff_iff]
          simp only [decide_eq_true_eq, signed_inj, Bool.or_eq_true, Bool.and_eq_true, beq_iff_eq]
          constructor
          · rintro ⟨h1, h2⟩
            have := fmag_inj h1
            rcases h2 with h2 | h2
            · exact .inl ⟨h2, this⟩
            · have h0 := fmag_zero.1 h2
              exact .inr ⟨h0, by omega⟩
          · rintro (⟨h1, h2⟩ | ⟨h1, h2⟩)
            · exact ⟨by rw [h2], .inl h1⟩
            · exact ⟨by rw [h1, h2], .inr (by rw [h1]; decide)⟩

theorem bits_eq {x y : Nat} (hx : x < 18446744073709551616) (hy : y < 18446744073709551616) (h1 : fneg x = fneg y) (h2 : frung x = frung y) : x = y := by
  unfold fneg at h1
  unfold frung at h2
  rw [Bool.eq_iff_iff] at h1
  simp only [beq_iff_eq] at h1
  omega

/-- The same datum: any two that are no number, or the same bits. -/
def sameF (x y : Nat) : Bool := if fnan x || fnan y then fnan x && fnan y else x == y

theorem feq_self (x : Nat) : feq x x = !fnan x := by
  rw [feq_eq]; cases fnan x <;> simp

theorem sameF_of_feq {x y : Nat} (hx : x < 18446744073709551616) (hy : y < 18446744073709551616) (n1 : fnan x = false) (n2 : fnan y = false) (hz : (fzero x && fzero y) = false) : feq x y = sameF x y := by
  rw [feq_eq, sameF, n1, n2, hz]
  simp only [Bool.not_false, Bool.true_and, Bool.or_false, Bool.false_eq_true, if_false]
  rw [Bool.eq_iff_iff]
  simp only [Bool.and_eq_true, beq_iff_eq]
  exact ⟨fun h => bits_eq hx hy h.1 h.2, fun h => by subst h; exact ⟨rfl, rfl⟩⟩

/-- What 1/x is of a zero. -/
def finf (b : Bool) : Nat := if b then 18442240474082181120 else 9218868437227405312

theorem div_zero {x : Nat} (h : fzero x = true) : double.div 4607182418800017408 x = some (finf (fneg x)) := by
  have hr : frung x = 0 := by simpa [fzero] using h
  have h1 : double.read 4607182418800017408 = .number false 4503599627370496 (-52) := by decide
  unfold Format.div
  rw [h1, read_double x, if_pos (by omega), hr]
  cases fneg x <;> decide

theorem feq_finf (a b : Bool) : feq (finf a) (finf b) = (a == b) := by
  cases a <;> cases b <;> decide

theorem sameF_zero {x y : Nat} (hx : x < 18446744073709551616) (hy : y < 18446744073709551616) (zx : fzero x = true) (zy : fzero y = true) : sameF x y = (fneg x == fneg y) := by
  have rx : frung x = 0 := by simpa [fzero] using zx
  have ry : frung y = 0 := by simpa [fzero] using zy
  have n1 : fnan x = false := by simp [fnan, rx]
  have n2 : fnan y = false := by simp [fnan, ry]
  rw [sameF, n1, n2]
  simp only [Bool.or_false, Bool.false_eq_true, if_false]
  rw [Bool.eq_iff_iff]
  simp only [beq_iff_eq]
  exact ⟨fun h => by rw [h], fun h => bits_eq hx hy h (by rw [rx, ry])⟩

theorem feq_zero (x : Nat) : feq x 0 = fzero x := by
  rw [feq_eq]
  have h0 : fnan 0 = false := by decide
  have hz : fzero 0 = true := by decide
  have hr : frung 0 = 0 := by decide
  have hn : fneg 0 = false := by decide
  rw [h0, hz, hr, hn]
  by_cases h : frung x = 0
  · simp [fzero, fnan, h]
  · have hb : (frung x == 0) = false := by simpa using h
    simp [fzero, hb]

theorem sameF_refl (x : Nat) : sameF x x = true := by unfold sameF; cases fnan x <;> simp
theorem sameF_symm (x y : Nat) : sameF x y = sameF y x := by unfold sameF; cases fnan x <;> cases fnan y <;> simp [Bool.beq_eq_decide_eq, eq_comm]
theorem sameF_trans {x y z : Nat} (h1 : sameF x y = true) (h2 : sameF y z = true) : sameF x z = true := by
  unfold sameF at *
  cases hx : fnan x <;> cases hy : fnan y <;> cases hz : fnan z <;> simp_all
end Go.Proofs.YtnmnmkdmnohbmaaDoor
