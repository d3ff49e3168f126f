/- Several texts in one: Helper text: values as trees, and what it is for memory to hold one. Helper text: plain facts on the comparison of floats by their bits. Helper text: walks over SameFloat and kind of the reference, IsNaN and Same of the program. Helper text: the walk over Size of the reference. Helper text: values that lie in blocks of their own; append onto such a list. Conditions: none. -/
import Derived.Test.YtldjbgklmeigmaaGreatDoorPackA
import GoSem.Core.Float
namespace Go.Proofs.YtldjbgklmeigmaaGreatDoor
open Go.RowKit

/-- A value of the program's data. -/
inductive V where
  | mk (k : Int) (b : Bool) (i : Int) (f : Nat) (t ty : ByteArray) (its : List V) (fs : List (ByteArray × V))

instance : Inhabited V := ⟨.mk 0 false 0 0 ByteArray.empty ByteArray.empty [] []⟩

def V.kind : V → Int | .mk k _ _ _ _ _ _ _ => k
def V.its : V → List V | .mk _ _ _ _ _ _ its _ => its
def V.fs : V → List (ByteArray × V) | .mk _ _ _ _ _ _ _ fs => fs

/-- The kind, where one outside the table counts as null. -/
def kd (k : Int) : Int := if k < 0 ∨ 7 < k then 0 else k

/-- The cells of a value. -/
@[reducible] def vcells (k : Int) (b : Bool) (i : Int) (f : Nat) (t ty : ByteArray) (p : Option Addr) (n c : Nat) (q : Option Addr) (m d : Nat) : Array Value :=
  #[.int .i64 k, .bool b, .int .i64 i, .float .f64 f, .string t, .string ty, .slice p n c, .slice q m d]

def CellsAt (w : World) (g o : Nat) (cs : Array Value) : Prop := ∀ j x, cs[j]? = some x → w.cell? ⟨g, o + j, none⟩ = some x

theorem run_store_float {P : Program} {w : World} {a : Addr} {m : Mode} (k : FloatKind) (b : Nat) : (store a (.float k b) m).run P w = stored P w a (.float k b) m := run_store P w a _ m rfl

def lenMax : Nat := 2199023255552

mutual
/-- The cells cs are those of v; what they lead to lies in w below block B. -/
def IsV (B : Nat) (w : World) : V → Array Value → Prop
  | .mk k b i f t ty its fs, cs => ∃ p c q d, cs = vcells k b i f t ty p its.length c q fs.length d ∧
      (its = [] ∨ ∃ g o, p = some ⟨g, o, none⟩ ∧ g < B ∧ IsVs B w its g o) ∧ (fs = [] ∨ ∃ g o, q = some ⟨g, o, none⟩ ∧ g < B ∧ IsFs B w fs g o) ∧
      its.length ≤ lenMax ∧ fs.length ≤ lenMax
def IsVs (B : Nat) (w : World) : List V → Nat → Nat → Prop
  | [], _, _ => True
  | v :: r, g, o => (∃ cs, CellsAt w g o cs ∧ IsV B w v cs) ∧ IsVs B w r g (o + 8)
def IsFs (B : Nat) (w : World) : List (ByteArray × V) → Nat → Nat → Prop
  | [], _, _ => True
  | x :: r, g, o => (w.cell? ⟨g, o, none⟩ = some (.string x.1) ∧ ∃ cs, CellsAt w g (o + 1) cs ∧ IsV B w x.2 cs) ∧ IsFs B w r g (o + 9)
end

theorem CellsAt.below {B : Nat} {w w' : World} {g o : Nat} {cs : Array Value} (h : CellsAt w g o cs) (hb : Below B w w') (hg : g < B) : CellsAt w' g o cs :=
  fun j x hx => (hb.cell (p := ⟨g, _, none⟩) hg).trans (h j x hx)

mutual
theorem IsV.below {B C : Nat} {w w' : World} (hb : Below B w w') (hC : B ≤ C) : ∀ {v : V} {cs : Array Value}, IsV B w v cs → IsV C w' v cs
  | .mk k b i f t ty its fs, cs, h => by
    obtain ⟨p, c, q, d, hcs, hi, hf, l1, l2⟩ := h
    refine ⟨p, c, q, d, hcs, ?_, ?_, l1, l2⟩
    · rcases hi with h0 | ⟨g, o, hp, hg, hv⟩
      · exact .inl h0
      · exact .inr ⟨g, o, hp, by omega, IsVs.below hb hC hg hv⟩
    · rcases hf with h0 | ⟨g, o, hp, hg, hv⟩
      · exact .inl h0
      · exact .inr ⟨g, o, hp, by omega, IsFs.below hb hC hg hv⟩
theorem IsVs.below {B C : Nat} {w w' : World} (hb : Below B w w') (hC : B ≤ C) : ∀ {l : List V} {g o : Nat}, g < B → IsVs B w l g o → IsVs C w' l g o
  | [], _, _, _, _ => trivial
  | v :: r, g, o, hg, h => by
    obtain ⟨⟨cs, h1, h2⟩, h3⟩ := h
    exact ⟨⟨cs, h1.below hb hg, IsV.below hb hC h2⟩, IsVs.below hb hC hg h3⟩
theorem IsFs.below {B C : Nat} {w w' : World} (hb : Below B w w') (hC : B ≤ C) : ∀ {l : List (ByteArray × V)} {g o : Nat}, g < B → IsFs B w l g o → IsFs C w' l g o
  | [], _, _, _, _ => trivial
  | (n, v) :: r, g, o, hg, h => by
    obtain ⟨⟨h0, cs, h1, h2⟩, h3⟩ := h
    exact ⟨⟨(hb.cell (p := ⟨g, _, none⟩) hg).trans h0, cs, h1.below hb hg, IsV.below hb hC h2⟩, IsFs.below hb hC hg h3⟩
end

theorem IsV.on {w w' : World} {v : V} {cs : Array Value} (h : IsV w.heap.size w v cs) (hb : Below w.heap.size w w') : IsV w'.heap.size w' v cs := h.below hb hb.size

theorem IsVs.get {B : Nat} {w : World} : ∀ {l : List V} {g o n : Nat} {v : V}, IsVs B w l g o → l[n]? = some v → ∃ cs, CellsAt w g (o + n * 8) cs ∧ IsV B w v cs
  | [], _, _, _, _, _, h => by simp at h
  | x :: r, g, o, 0, v, h, hv => by
    obtain rfl : x = v := by simpa using hv
    simpa using h.1
  | x :: r, g, o, n + 1, v, h, hv => by
    obtain ⟨cs, h1, h2⟩ := IsVs.get (n := n) h.2 (by simpa using hv)
    exact ⟨cs, by rw [show o + (n + 1) * 8 = o + 8 + n * 8 by omega]; exact h1, h2⟩

theorem IsFs.get {B : Nat} {w : World} : ∀ {l : List (ByteArray × V)} {g o n : Nat} {x : ByteArray × V}, IsFs B w l g o → l[n]? = some x →
    w.cell? ⟨g, o + n * 9, none⟩ = some (.string x.1) ∧ ∃ cs, CellsAt w g (o + n * 9 + 1) cs ∧ IsV B w x.2 cs
  | [], _, _, _, _, _, h => by simp at h
  | y :: r, g, o, 0, x, h, hv => by
    obtain rfl : y = x := by simpa using hv
    simpa using h.1
  | y :: r, g, o, n + 1, x, h, hv => by
    obtain ⟨h0, cs, h1, h2⟩ := IsFs.get (n := n) h.2 (by simpa using hv)
    have e : o + (n + 1) * 9 = o + 9 + n * 9 := by omega
    exact ⟨by rw [e]; exact h0, cs, by rw [e]; exact h1, h2⟩

/-- What the walk is told of eight cells. -/
theorem CellsAt.all {w : World} {g o : Nat} {k : Int} {b : Bool} {i : Int} {f : Nat} {t ty : ByteArray} {p : Option Addr} {n c : Nat} {q : Option Addr} {m d : Nat} (h : CellsAt w g o (vcells k b i f t ty p n c q m d)) :
    w.cell? ⟨g, o, none⟩ = some (.int .i64 k) ∧ w.cell? ⟨g, o + 1, none⟩ = some (.bool b) ∧ w.cell? ⟨g, o + 2, none⟩ = some (.int .i64 i) ∧ w.cell? ⟨g, o + 3, none⟩ = some (.float .f64 f) ∧
    w.cell? ⟨g, o + 4, none⟩ = some (.string t) ∧ w.cell? ⟨g, o + 5, none⟩ = some (.string ty) ∧ w.cell? ⟨g, o + 6, none⟩ = some (.slice p n c) ∧ w.cell? ⟨g, o + 7, none⟩ = some (.slice q m d) :=
  ⟨by simpa using h 0 _ rfl, h 1 _ rfl, h 2 _ rfl, h 3 _ rfl, h 4 _ rfl, h 5 _ rfl, h 6 _ rfl, h 7 _ rfl⟩

/-- How many parts are laid out: a value counts one, and one for each of its items and fields, and these count anew. -/
def szV : V → Nat
  | .mk _ _ _ _ _ _ its fs => 1 + its.length + fs.length + szVs its + szFs fs
where
  szVs : List V → Nat
  | [] => 0
  | v :: r => szV v + szVs r
  szFs : List (ByteArray × V) → Nat
  | [] => 0
  | x :: r => szV x.2 + szFs r

theorem szV_pos (v : V) : 1 ≤ szV v := by cases v; simp only [szV]; omega

theorem szVs_get : ∀ {l : List V} {n : Nat} {v : V}, l[n]? = some v → szV v ≤ szV.szVs l
  | [], _, _, h => by simp at h
  | x :: r, 0, v, h => by obtain rfl : x = v := by simpa using h
                          simp only [szV.szVs]; omega
  | x :: r, n + 1, v, h => by have := szVs_get (l := r) (n := n) (by simpa using h); simp only [szV.szVs]; omega
theorem szFs_get : ∀ {l : List (ByteArray × V)} {n : Nat} {x : ByteArray × V}, l[n]? = some x → szV x.2 ≤ szV.szFs l
  | [], _, _, h => by simp at h
  | y :: r, 0, x, h => by obtain rfl : y = x := by simpa using h
                          simp only [szV.szFs]; omega
  | y :: r, n + 1, x, h => by have := szFs_get (l := r) (n := n) (by simpa using h); simp only [szV.szFs]; omega

theorem kind_any (k : Int) (b : Bool) (i : Int) (f : Nat) (t ty : ByteArray) (p : Option Addr) (n c : Nat) (q : Option Addr) (m d : Nat) (w : World) :
    Calls Tryz.prog 108 #[.agg (vcells k b i f t ty p n c q m d)] w (RetB (.int .i64 (kd k)) w) := by
  by_cases h1 : k < 0
  · have hk : kd k = 0 := by simp [kd, h1]
    rw [hk]
    clear hk
    go_enter Tryz.func108, Tryz.ntmps108
    go_wp2
    go_ret
    exact ⟨rfl, (Below.refl _ _).alloc (Nat.le_refl _) _⟩
  · by_cases h2 : 7 < k
    · have hk : kd k = 0 := by simp [kd, h2]
      rw [hk]
      clear hk
      go_enter Tryz.func108, Tryz.ntmps108
      go_wp2
      go_ret
      exact ⟨rfl, (Below.refl _ _).alloc (Nat.le_refl _) _⟩
    · have hk : kd k = k := by simp [kd, h1, h2]
      rw [hk]
      clear hk
      go_enter Tryz.func108, Tryz.ntmps108
      go_wp2
      go_ret
      exact ⟨rfl, (Below.refl _ _).alloc (Nat.le_refl _) _⟩
end Go.Proofs.YtldjbgklmeigmaaGreatDoor

namespace Go.Proofs.YtldjbgklmeigmaaGreatDoor
open Ieee

def fneg (x : Nat) : Bool := x / 9223372036854775808 % 2 == 1
def frung (x : Nat) : Nat := x % 9223372036854775808
/-- Is it no number? -/
def fnan (x : Nat) : Bool := decide (9218868437227405312 < frung x)
def fzero (x : Nat) : Bool := frung x == 0
/-- What a finite rung is worth, in units of the least place. -/
def fmag (r : Nat) : Nat := if r < 4503599627370496 then r else (4503599627370496 + r % 4503599627370496) * 2 ^ (r / 4503599627370496 - 1)

theorem fmag_inj {r s : Nat} (h : fmag r = fmag s) : r = s := by
  have key : ∀ a b : Nat, a < b → fmag a < fmag b := by
    intro a b hab
    unfold fmag
    by_cases ha : a < 4503599627370496
    · rw [if_pos ha]
      by_cases hb : b < 4503599627370496
      · rw [if_pos hb]; exact hab
      · rw [if_neg hb]
        have h1 : 1 ≤ 2 ^ (b / 4503599627370496 - 1) := Nat.one_le_two_pow
        have h2 := Nat.le_mul_of_pos_right (4503599627370496 + b % 4503599627370496) h1
        omega
    · have hb : ¬ b < 4503599627370496 := by omega
      rw [if_neg ha, if_neg hb]
      have hle : a / 4503599627370496 ≤ b / 4503599627370496 := Nat.div_le_div_right (by omega)
      rcases Nat.lt_or_ge (a / 4503599627370496) (b / 4503599627370496) with hlt | hge
      · have h1 : (4503599627370496 + a % 4503599627370496) * 2 ^ (a / 4503599627370496 - 1) < (4503599627370496 * 2) * 2 ^ (a / 4503599627370496 - 1) :=
          Nat.mul_lt_mul_of_pos_right (by omega) (Nat.two_pow_pos _)
        have h2 : (4503599627370496 * 2) * 2 ^ (a / 4503599627370496 - 1) = 4503599627370496 * 2 ^ (a / 4503599627370496 - 1 + 1) := by rw [Nat.pow_succ]; omega
        have h3 : 2 ^ (a / 4503599627370496 - 1 + 1) ≤ 2 ^ (b / 4503599627370496 - 1) := Nat.pow_le_pow_right (by omega) (by omega)
        have h4 : 4503599627370496 * 2 ^ (a / 4503599627370496 - 1 + 1) ≤ 4503599627370496 * 2 ^ (b / 4503599627370496 - 1) := Nat.mul_le_mul_left _ h3
        have h5 : 4503599627370496 * 2 ^ (b / 4503599627370496 - 1) ≤ (4503599627370496 + b % 4503599627370496) * 2 ^ (b / 4503599627370496 - 1) := Nat.mul_le_mul_right _ (by omega)
        omega
      · have he : a / 4503599627370496 = b / 4503599627370496 := by omega
        rw [he]
        exact Nat.mul_lt_mul_of_pos_right (by omega) (Nat.two_pow_pos _)
  rcases Nat.lt_trichotomy r s with h1 | h1 | h1
  · have := key r s h1; omega
  · exact h1
  · have := key s r h1; omega

theorem fmag_zero {r : Nat} : fmag r = 0 ↔ r = 0 := by
  constructor
  · intro h
    exact fmag_inj (h.trans (by decide))
  · rintro rfl; decide

theorem read_double (x : Nat) : double.read x =
    if frung x < 4503599627370496 then .number (fneg x) (frung x) (-1074)
    else if frung x < 9218868437227405312 then .number (fneg x) (4503599627370496 + frung x % 4503599627370496) (-1074 + (frung x / 4503599627370496 - 1 : Nat))
    else if frung x = 9218868437227405312 then .infinity (fneg x)
    else .nan (fneg x) (frung x - 9218868437227405312) := rfl

theorem read_number {x : Nat} (h : frung x < 9218868437227405312) : ∃ m k : Nat, double.read x = .number (fneg x) m (-1074 + (k : Int)) ∧ m * 2 ^ k = fmag (frung x) := by
  rw [read_double]
  by_cases h1 : frung x < 4503599627370496
  · rw [if_pos h1]
    exact ⟨frung x, 0, by simp, by unfold fmag; rw [if_pos h1]; omega⟩
  · rw [if_neg h1, if_pos h]
    exact ⟨_, _, rfl, by unfold fmag; rw [if_neg h1]⟩

theorem read_inf {x : Nat} (h : frung x = 9218868437227405312) : double.read x = .infinity (fneg x) := by
  rw [read_double, if_neg (by omega), if_neg (by omega), if_pos h]

theorem read_nan {x : Nat} (h : 9218868437227405312 < frung x) : double.read x = .nan (fneg x) (frung x - 9218868437227405312) := by
  rw [read_double, if_neg (by omega), if_neg (by omega), if_neg (by omega)]

theorem signed_scale (s : Bool) (m a b : Nat) (hab : b ≤ a) : signed s m (a - b) * (2 ^ b : Nat) = signed s (m * 2 ^ a) 0 := by
  have h : m <<< (a - b) * 2 ^ b = m * 2 ^ a := by rw [Nat.shiftLeft_eq, Nat.mul_assoc, ← Nat.pow_add, Nat.sub_add_cancel hab]
  unfold signed
  cases s
  · simp only [Bool.false_eq_true, if_false, Nat.shiftLeft_zero]
    rw [← h]; push_cast; rfl
  · simp only [if_true, Nat.shiftLeft_zero]
    rw [← h]; push_cast; rw [Int.neg_mul]

theorem order_number (s t : Bool) (m k n l : Nat) : Datum.order (.number s m (-1074 + (k : Int))) (.number t n (-1074 + (l : Int))) = some (compare (signed s (m * 2 ^ k) 0) (signed t (n * 2 ^ l) 0)) := by
  unfold Datum.order
  simp only [Option.some.injEq]
  have e1 : ((-1074 + (k : Int)) - min (-1074 + (k : Int)) (-1074 + (l : Int))).toNat = k - min k l := by omega
  have e2 : ((-1074 + (l : Int)) - min (-1074 + (k : Int)) (-1074 + (l : Int))).toNat = l - min k l := by omega
  rw [e1, e2]
  have h1 := signed_scale s m k (min k l) (Nat.min_le_left _ _)
  have h2 := signed_scale t n l (min k l) (Nat.min_le_right _ _)
  have hp : (0 : Int) < (2 ^ min k l : Nat) := by exact_mod_cast Nat.two_pow_pos _
  rw [← h1, ← h2]
  generalize signed s m (k - min k l) = a
  generalize signed t n (l - min k l) = b
  generalize ((2 ^ min k l : Nat) : Int) = c at hp
  rcases Int.lt_trichotomy a b with h | h | h
  · have : a * c < b * c := Int.mul_lt_mul_of_pos_right h hp
    simp [compare, compareOfLessAndEq, h, this]
  · subst h; simp [compare, compareOfLessAndEq]
  · have : b * c < a * c := Int.mul_lt_mul_of_pos_right h hp
    have h' : ¬ a < b := by omega
    have h'' : ¬ a = b := by omega
    have t1 : ¬ a * c < b * c := by omega
    have t2 : ¬ a * c = b * c := by omega
    simp [compare, compareOfLessAndEq, h', h'', t1, t2]

theorem compare_eq (a b : Int) : (compare a b == Ordering.eq) = decide (a = b) := by
  rcases Int.lt_trichotomy a b with h | h | h
  · have h' : ¬ a = b := by omega
    simp [compare, compareOfLessAndEq, h, h']
  · subst h; simp [compare, compareOfLessAndEq]
  · have h' : ¬ a < b := by omega
    have h'' : ¬ a = b := by omega
    simp [compare, compareOfLessAndEq, h', h'']

theorem signed_inj {s t : Bool} {m n : Nat} : signed s m 0 = signed t n 0 ↔ (m = n ∧ (s = t ∨ m = 0)) := by
  unfold signed
  cases s <;> cases t <;> simp <;> omega

def feq (x y : Nat) : Bool := double.order x y == some .eq

theorem feq_eq (x y : Nat) : feq x y = (!fnan x && !fnan y && ((fneg x == fneg y && frung x == frung y) || (fzero x && fzero y))) := by
  unfold feq fnan fzero Format.order
  by_cases hx : 9218868437227405312 < frung x
  · rw [read_nan hx]
    simp [Datum.order, hx]
  · by_cases hy : 9218868437227405312 < frung y
    · rw [read_nan hy]
      simp only [hx, hy, decide_true, Bool.not_true, Bool.and_false, Bool.false_and]
      cases double.read x <;> simp [Datum.order]
    · simp only [hx, hy, decide_false, Bool.not_false, Bool.true_and]
      by_cases hx' : frung x = 9218868437227405312
      · rw [read_inf hx']
        by_cases hy' : frung y = 9218868437227405312
        · rw [read_inf hy', hx', hy']
          cases fneg x <;> cases fneg y <;> decide
        · obtain ⟨n, l, hr, hm⟩ := read_number (x := y) (by omega)
          rw [hr]
          cases fneg x <;> simp [Datum.order, hx'] <;> omega
      · obtain ⟨m, k, hr, hm⟩ := read_number (x := x) (by omega)
        rw [hr]
        by_cases hy' : frung y = 9218868437227405312
        · rw [read_inf hy']
          cases fneg y <;> simp [Datum.order, hy'] <;> omega
        · obtain ⟨n, l, hr2, hm2⟩ := read_number (x := y) (by omega)
          rw [hr2, order_number, hm, hm2]
          have hc := compare_eq (signed (fneg x) (fmag (frung x)) 0) (signed (fneg y) (fmag (frung y)) 0)
          rw [show (some (compare (signed (fneg x) (fmag (frung x)) 0) (signed (fneg y) (fmag (frung y)) 0)) == some Ordering.eq) = (compare (signed (fneg x) (fmag (frung x)) 0) (signed (fneg y) (fmag (frung y)) 0) == Ordering.eq) from rfl, hc]
          rw [Bool.eq_iff_iff]
          simp only [decide_eq_true_eq, signed_inj, Bool.or_eq_true, Bool.and_eq_true, beq_iff_eq]
          constructor
          · rintro ⟨h1, h2⟩
            have := fmag_inj h1
            rcases h2 with h2 | h2
            · exact .inl ⟨h2, this⟩
            · have h0 := fmag_zero.1 h2
              exact .inr ⟨h0, by omega⟩
          · rintro (⟨h1, h2⟩ | ⟨h1, h2⟩)
            · exact ⟨by rw [h2], .inl h1⟩
            · exact ⟨by rw [h1, h2], .inr (by rw [h1]; decide)⟩

theorem bits_eq {x y : Nat} (hx : x < 18446744073709551616) (hy : y < 18446744073709551616) (h1 : fneg x = fneg y) (h2 : frung x = frung y) : x = y := by
  unfold fneg at h1
  unfold frung at h2
  rw [Bool.eq_iff_iff] at h1
  simp only [beq_iff_eq] at h1
  omega

/-- The same datum: any two that are no number, or the same bits. -/
def sameF (x y : Nat) : Bool := if fnan x || fnan y then fnan x && fnan y else x == y

theorem feq_self (x : Nat) : feq x x = !fnan x := by
  rw [feq_eq]; cases fnan x <;> simp

theorem sameF_of_feq {x y : Nat} (hx : x < 18446744073709551616) (hy : y < 18446744073709551616) (n1 : fnan x = false) (n2 : fnan y = false) (hz : (fzero x && fzero y) = false) : feq x y = sameF x y := by
  rw [feq_eq, sameF, n1, n2, hz]
  simp only [Bool.not_false, Bool.true_and, Bool.or_false, Bool.false_eq_true, if_false]
  rw [Bool.eq_iff_iff]
  simp only [Bool.and_eq_true, beq_iff_eq]
  exact ⟨fun h => bits_eq hx hy h.1 h.2, fun h => by subst h; exact ⟨rfl, rfl⟩⟩

/-- What 1/x is of a zero. -/
def finf (b : Bool) : Nat := if b then 18442240474082181120 else 9218868437227405312

theorem div_zero {x : Nat} (h : fzero x = true) : double.div 4607182418800017408 x = some (finf (fneg x)) := by
  have hr : frung x = 0 := by simpa [fzero] using h
  have h1 : double.read 4607182418800017408 = .number false 4503599627370496 (-52) := by decide
  unfold Format.div
  rw [h1, read_double x, if_pos (by omega), hr]
  cases fneg x <;> decide

theorem feq_finf (a b : Bool) : feq (finf a) (finf b) = (a == b) := by
  cases a <;> cases b <;> decide

theorem sameF_zero {x y : Nat} (hx : x < 18446744073709551616) (hy : y < 18446744073709551616) (zx : fzero x = true) (zy : fzero y = true) : sameF x y = (fneg x == fneg y) := by
  have rx : frung x = 0 := by simpa [fzero] using zx
  have ry : frung y = 0 := by simpa [fzero] using zy
  have n1 : fnan x = false := by simp [fnan, rx]
  have n2 : fnan y = false := by simp [fnan, ry]
  rw [sameF, n1, n2]
  simp only [Bool.or_false, Bool.false_eq_true, if_false]
  rw [Bool.eq_iff_iff]
  simp only [beq_iff_eq]
  exact ⟨fun h => by rw [h], fun h => bits_eq hx hy h (by rw [rx, ry])⟩

theorem feq_zero (x : Nat) : feq x 0 = fzero x := by
  rw [feq_eq]
  have h0 : fnan 0 = false := by decide
  have hz : fzero 0 = true := by decide
  have hr : frung 0 = 0 := by decide
  have hn : fneg 0 = false := by decide
  rw [h0, hz, hr, hn]
  by_cases h : frung x = 0
  · simp [fzero, fnan, h]
  · have hb : (frung x == 0) = false := by simpa using h
    simp [fzero, hb]

theorem sameF_refl (x : Nat) : sameF x x = true := by unfold sameF; cases fnan x <;> simp
end Go.Proofs.YtldjbgklmeigmaaGreatDoor

namespace Go.Proofs.YtldjbgklmeigmaaGreatDoor
open Go.RowKit

theorem refSameFloat_any (x y : Nat) (hx : x < 18446744073709551616) (hy : y < 18446744073709551616) (w : World) :
    Calls Tryz.prog 44 #[.float .f64 x, .float .f64 y] w (RetS (.bool (sameF x y)) w) := by
  have o1 : ∀ u v, (FloatKind.f64.format.order u v == some Ordering.eq) = feq u v := fun _ _ => rfl
  have o2 : ∀ u v, (FloatKind.f64.format.order u v != some Ordering.eq) = !feq u v := fun _ _ => rfl
  have ex : feq x x = !fnan x := feq_self x
  have ey : feq y y = !fnan y := feq_self y
  have zx : feq x 0 = fzero x := feq_zero x
  have zy : feq y 0 = fzero y := feq_zero y
  cases nx : fnan x
  · cases ny : fnan y
    · rw [nx] at ex
      rw [ny] at ey
      cases fx : fzero x
      · rw [fx] at zx
        have hs : feq x y = sameF x y := sameF_of_feq hx hy nx ny (by rw [fx]; rfl)
        have HS := Lib.hid hs
        clear hs hx hy nx ny fx zy
        go_enter Tryz.func44, Tryz.ntmps44
        go_wp2
        go_ret
        exact ⟨ret_eq (by rw [← HS.out]; rfl), rfl⟩
      · cases fy : fzero y
        · rw [fx] at zx
          rw [fy] at zy
          have hs : feq x y = sameF x y := sameF_of_feq hx hy nx ny (by rw [fy]; simp)
          have HS := Lib.hid hs
          clear hs hx hy nx ny fx fy
          go_enter Tryz.func44, Tryz.ntmps44
          go_wp2
          go_ret
          exact ⟨ret_eq (by rw [← HS.out]; rfl), rfl⟩
        · have hs : (feq (finf (fneg x)) (finf (fneg y))) = sameF x y := by rw [feq_finf, sameF_zero hx hy fx fy]
          have d1 : FloatKind.f64.format.div 4607182418800017408 x = some (finf (fneg x)) := div_zero fx
          have d2 : FloatKind.f64.format.div 4607182418800017408 y = some (finf (fneg y)) := div_zero fy
          rw [fx] at zx
          rw [fy] at zy
          have HS := Lib.hid hs
          clear hs hx hy nx ny fx fy
          generalize finf (fneg x) = u at *
          generalize finf (fneg y) = v at *
          have q1 : ∀ wx, (binOp BinOp.quo 30 (.float .f64 4607182418800017408) (.float .f64 x)).run Tryz.prog wx = .ok (.float .f64 u) wx := fun wx => run_float_arith wx .quo _ .f64 _ _ u d1
          have q2 : ∀ wx, (binOp BinOp.quo 30 (.float .f64 4607182418800017408) (.float .f64 y)).run Tryz.prog wx = .ok (.float .f64 v) wx := fun wx => run_float_arith wx .quo _ .f64 _ _ v d2
          clear d1 d2
          go_enter Tryz.func44, Tryz.ntmps44
          go_wp2
          go_ret
          exact ⟨ret_eq (by rw [← HS.out]; rfl), rfl⟩
    · rw [nx] at ex
      rw [ny] at ey
      have hs : sameF x y = false := by simp [sameF, nx, ny]
      have HS := Lib.hid hs
      clear hs hx hy nx ny
      go_enter Tryz.func44, Tryz.ntmps44
      go_wp2
      go_ret
      exact ⟨ret_eq (by rw [HS.out]; rfl), rfl⟩
  · rw [nx] at ex
    have hs : sameF x y = fnan y := by simp [sameF, nx]
    have HS := Lib.hid hs
    clear hs hx hy nx
    generalize fnan y = ny at *
    cases ny
    all_goals
      go_enter Tryz.func44, Tryz.ntmps44
      go_wp2
      go_ret
      exact ⟨ret_eq (by rw [HS.out]; rfl), rfl⟩

theorem refkind_any (k : Int) (b : Bool) (i : Int) (f : Nat) (t ty : ByteArray) (p : Option Addr) (n c : Nat) (q : Option Addr) (m d : Nat) (w : World) :
    Calls Tryz.prog 220 #[.agg (vcells k b i f t ty p n c q m d)] w (RetB (.int .i64 (kd k)) w) := by
  by_cases h1 : k < 0
  · have hk : kd k = 0 := by simp [kd, h1]
    rw [hk]
    clear hk
    go_enter Tryz.func220, Tryz.ntmps220
    go_wp2
    go_ret
    exact ⟨rfl, (Below.refl _ _).alloc (Nat.le_refl _) _⟩
  · by_cases h2 : 7 < k
    · have hk : kd k = 0 := by simp [kd, h2]
      rw [hk]
      clear hk
      go_enter Tryz.func220, Tryz.ntmps220
      go_wp2
      go_ret
      exact ⟨rfl, (Below.refl _ _).alloc (Nat.le_refl _) _⟩
    · have hk : kd k = k := by simp [kd, h1, h2]
      rw [hk]
      clear hk
      go_enter Tryz.func220, Tryz.ntmps220
      go_wp2
      go_ret
      exact ⟨rfl, (Below.refl _ _).alloc (Nat.le_refl _) _⟩
end Go.Proofs.YtldjbgklmeigmaaGreatDoor

namespace Go.Proofs.YtldjbgklmeigmaaGreatDoor
open Go.RowKit

theorem cellsAt_alloc (w : World) (cs : Array Value) (e : TypeId) (fz : Nat × Nat) : CellsAt (w.alloc (.cells cs e fz)) w.heap.size 0 cs := by
  intro j x hx
  have h : (w.alloc (.cells cs e fz)).heap[w.heap.size]? = some (.cells cs e fz) := by
    show (w.heap.push _)[w.heap.size]? = _
    simp
  rw [Nat.zero_add]
  simp only [World.cell?, h]
  exact hx

theorem CellsAt.all0 {w : World} {g : Nat} {k : Int} {b : Bool} {i : Int} {f : Nat} {t ty : ByteArray} {p : Option Addr} {n c : Nat} {q : Option Addr} {m d : Nat} (h : CellsAt w g 0 (vcells k b i f t ty p n c q m d)) :
    w.cell? ⟨g, 0, none⟩ = some (.int .i64 k) ∧ w.cell? ⟨g, 1, none⟩ = some (.bool b) ∧ w.cell? ⟨g, 2, none⟩ = some (.int .i64 i) ∧ w.cell? ⟨g, 3, none⟩ = some (.float .f64 f) ∧
    w.cell? ⟨g, 4, none⟩ = some (.string t) ∧ w.cell? ⟨g, 5, none⟩ = some (.string ty) ∧ w.cell? ⟨g, 6, none⟩ = some (.slice p n c) ∧ w.cell? ⟨g, 7, none⟩ = some (.slice q m d) := by
  simpa using h.all

mutual
/-- What Size answers: it goes on as long as the count is not above most. -/
def sizeR : V → Int → Int
  | .mk _ _ _ _ _ _ its fs, most => sizeFs fs most (sizeIs its most (1 + its.length + fs.length))
def sizeIs : List V → Int → Int → Int
  | [], _, n => n
  | v :: r, most, n => if n ≤ most then sizeIs r most (n + sizeR v (most - n)) else n
def sizeFs : List (ByteArray × V) → Int → Int → Int
  | [], _, n => n
  | x :: r, most, n => if n ≤ most then sizeFs r most (n + sizeR x.2 (most - n)) else n
end

mutual
theorem sizeR_pos : ∀ (v : V) (most : Int), 1 ≤ sizeR v most
  | .mk _ _ _ _ _ _ its fs, most => by
    unfold sizeR
    have h1 := sizeIs_ge its most (1 + its.length + fs.length)
    have h2 := sizeFs_ge fs most (sizeIs its most (1 + its.length + fs.length))
    omega
theorem sizeIs_ge : ∀ (l : List V) (most n : Int), n ≤ sizeIs l most n
  | [], _, _ => by unfold sizeIs; omega
  | v :: r, most, n => by
    unfold sizeIs
    split
    · have h1 := sizeR_pos v (most - n)
      have h2 := sizeIs_ge r most (n + sizeR v (most - n))
      omega
    · omega
theorem sizeFs_ge : ∀ (l : List (ByteArray × V)) (most n : Int), n ≤ sizeFs l most n
  | [], _, _ => by unfold sizeFs; omega
  | x :: r, most, n => by
    unfold sizeFs
    split
    · have h1 := sizeR_pos x.2 (most - n)
      have h2 := sizeFs_ge r most (n + sizeR x.2 (most - n))
      omega
    · omega
end

mutual
theorem sizeR_eq : ∀ (v : V) (most : Int), sizeR v most ≤ most → sizeR v most = szV v
  | .mk k b i f t ty its fs, most, h => by
    unfold sizeR at h ⊢
    have h1 := sizeFs_ge fs most (sizeIs its most (1 + its.length + fs.length))
    have h2 := sizeIs_eq its most (1 + its.length + fs.length) (by omega)
    have h3 := sizeFs_eq fs most _ h
    rw [h3, h2]
    simp only [szV]
    omega
theorem sizeIs_eq : ∀ (l : List V) (most n : Int), sizeIs l most n ≤ most → sizeIs l most n = n + szV.szVs l
  | [], _, _, _ => by unfold sizeIs szV.szVs; omega
  | v :: r, most, n, h => by
    unfold sizeIs at h ⊢
    by_cases hn : n ≤ most
    · rw [if_pos hn] at h ⊢
      have h1 := sizeIs_ge r most (n + sizeR v (most - n))
      have h2 := sizeR_eq v (most - n) (by omega)
      rw [sizeIs_eq r most _ h, h2]
      simp only [szV.szVs]
      omega
    · rw [if_neg hn] at h
      omega
theorem sizeFs_eq : ∀ (l : List (ByteArray × V)) (most n : Int), sizeFs l most n ≤ most → sizeFs l most n = n + szV.szFs l
  | [], _, _, _ => by unfold sizeFs szV.szFs; omega
  | x :: r, most, n, h => by
    unfold sizeFs at h ⊢
    by_cases hn : n ≤ most
    · rw [if_pos hn] at h ⊢
      have h1 := sizeFs_ge r most (n + sizeR x.2 (most - n))
      have h2 := sizeR_eq x.2 (most - n) (by omega)
      rw [sizeFs_eq r most _ h, h2]
      simp only [szV.szFs]
      omega
    · rw [if_neg hn] at h
      omega
end

mutual
theorem sizeR_le {B : Nat} {w : World} : ∀ {v : V} {cs : Array Value}, IsV B w v cs → ∀ most : Int, 0 ≤ most → sizeR v most ≤ most + 8796093022208
  | .mk k b i f t ty its fs, cs, h, most, hm => by
    obtain ⟨p, c, q, d, _, hi, hf, l1, l2⟩ := h
    unfold lenMax at l1 l2
    unfold sizeR
    have h1 : sizeIs its most (1 + its.length + fs.length) ≤ most + 8796093022208 := by
      rcases hi with h0 | ⟨g, o, _, _, hv⟩
      · rw [h0]; unfold sizeIs; simp; omega
      · exact sizeIs_le hv most hm _ (by omega)
    rcases hf with h0 | ⟨g, o, _, _, hv⟩
    · rw [h0] at h1 ⊢; unfold sizeFs; exact h1
    · exact sizeFs_le hv most hm _ h1
theorem sizeIs_le {B : Nat} {w : World} : ∀ {l : List V} {g o : Nat}, IsVs B w l g o → ∀ most : Int, 0 ≤ most → ∀ n, n ≤ most + 8796093022208 → sizeIs l most n ≤ most + 8796093022208
  | [], _, _, _, _, _, _, h => by unfold sizeIs; exact h
  | v :: r, g, o, hv, most, hm, n, h => by
    obtain ⟨⟨cs, _, h2⟩, h3⟩ := hv
    unfold sizeIs
    split
    · have h4 := sizeR_le h2 (most - n) (by omega)
      exact sizeIs_le h3 most hm _ (by omega)
    · exact h
theorem sizeFs_le {B : Nat} {w : World} : ∀ {l : List (ByteArray × V)} {g o : Nat}, IsFs B w l g o → ∀ most : Int, 0 ≤ most → ∀ n, n ≤ most + 8796093022208 → sizeFs l most n ≤ most + 8796093022208
  | [], _, _, _, _, _, _, h => by unfold sizeFs; exact h
  | x :: r, g, o, hv, most, hm, n, h => by
    obtain ⟨⟨_, cs, _, h2⟩, h3⟩ := hv
    unfold sizeFs
    split
    · have h4 := sizeR_le h2 (most - n) (by omega)
      exact sizeFs_le h3 most hm _ (by omega)
    · exact h
end

set_option maxRecDepth 100000 in
set_option maxHeartbeats 1000000 in
theorem Size_any : ∀ (N : Nat) (v : V), szV v ≤ N → ∀ (cs : Array Value) (w : World) (most : Int), IsV w.heap.size w v cs → 0 ≤ most → most ≤ 1000000 →
    Calls Tryz.prog 11 #[.agg cs, .int .i64 most] w (RetB (.int .i64 (sizeR v most)) w) := by
  intro N
  induction N with
  | zero => intro v hv; have := szV_pos v; omega
  | succ N ih =>
    intro v hN cs w most hv hm0 hm1
    obtain ⟨k, b, i, f, t, ty, its, fs⟩ := v
    have hv0 := hv
    obtain ⟨p, c, q, d, rfl, hi, hf, l1, l2⟩ := hv
    unfold lenMax at l1 l2
    have IH := Lib.hid ih
    have HV := Lib.hid hv0
    have HI := Lib.hid hi
    have HF := Lib.hid hf
    have HN := Lib.hid hN
    clear ih hv0 hi hf hN
    go_enter Tryz.func11, Tryz.ntmps11
    go_wp2_with fail
    have hal := cellsAt_alloc w (vcells k b i f t ty p its.length c q fs.length d) 34 (0, 0)
    have hwa : Below w.heap.size w (w.alloc (.cells (vcells k b i f t ty p its.length c q fs.length d) 34)) := (Below.refl _ _).alloc (Nat.le_refl _) _
    have hsz : w.heap.size < (w.alloc (.cells (vcells k b i f t ty p its.length c q fs.length d) 34)).heap.size := by simp
    obtain ⟨wa, hW⟩ : ∃ wa, w.alloc (.cells (vcells k b i f t ty p its.length c q fs.length d) 34) = wa := ⟨_, rfl⟩
    rw [hW] at hal hwa hsz ⊢
    clear hW
    go_loopw [5, 6] (fun n ii wr => ∃ j : Nat, j ≤ its.length ∧ ii = .int .i64 j ∧ ∃ nn : Int, n = .int .i64 nn ∧ 1 ≤ nn ∧ nn ≤ most + 8796093022208 ∧ Hid (sizeIs (its.drop j) most nn = sizeIs its most (1 + its.length + fs.length)) ∧ Below wa.heap.size wa wr) (fun _ ii _ => its.length - (intOf ii).toNat)
    case atStart => exact ⟨0, by omega, rfl, _, rfl, by omega, by omega, rfl, Below.refl _ _⟩
    case round =>
      obtain ⟨j, hj, rfl, nn, rfl, hn1, hn2, hrel, hbel⟩ := hrel
      obtain ⟨_, _, _, _, _, _, e6, e7⟩ := (hal.below hbel hsz).all0
      by_cases h1 : j < its.length
      · by_cases h2 : nn ≤ most
        · obtain ⟨x, hx⟩ : ∃ x, its[j]? = some x := ⟨its[j], by simp [h1]⟩
          obtain hi := HI.out
          rcases hi with hi | ⟨g, o, rfl, hg, hvs⟩
          · subst hi; simp at h1
          obtain ⟨csx, hcx, hvx⟩ := hvs.get hx
          have hbw := hwa.trans (hbel.mono hwa.size)
          have hcx' := hcx.below hbw hg
          have hvx' := hvx.on hbw
          have hle := sizeR_le hvx (most - nn) (by omega)
          have hpos := sizeR_pos x (most - nn)
          have hxN : szV x ≤ N := by
            have := szVs_get hx
            have := HN.out
            simp only [szV] at this
            omega
          have hstep : sizeIs (its.drop (j + 1)) most (nn + sizeR x (most - nn)) = sizeIs its most (1 + its.length + fs.length) := by
            rw [← hrel.out, drop_some hx, sizeIs, if_pos h2]
          have hc := IH.out x hxN csx wr (most - nn) hvx' (by omega) (by omega)
          have HC := Lib.hid hc
          have HSTEP := Lib.hid hstep
          obtain ⟨xk, xb, xi, xf, xt, xty, xits, xfs⟩ := x
          obtain ⟨xp, xc, xq, xd, rfl, _, _, _, _⟩ := hvx
          obtain ⟨c0, c1, c2, c3, c4, c5, c6, c7⟩ := hcx'.all
          clear hc hstep hvx' hx hvs hcx hcx' hal hwa
          generalize sizeR (V.mk xk xb xi xf xt xty xits xfs) (most - nn) = kk at *
          go_wp2_with (go_at_call 11; refine HC.out.mono ?_; rintro e w1 ⟨rfl, hb1⟩)
          go_roundw
          case rel => exact ⟨j + 1, by omega, by go_num, _, rfl, by omega, by omega, HSTEP, hbel.trans (hb1.mono hbel.size)⟩
          case measure => simp [intOf]; omega
        · have hend : sizeIs its most (1 + its.length + fs.length) = nn := by
            rw [← hrel.out]
            cases hd : its.drop j with
            | nil => rw [sizeIs]
            | cons x r => rw [sizeIs, if_neg h2]
          have HEND := Lib.hid hend
          clear hend hrel
          go_wp2_with fail
          go_loopw [5, 8] (fun n ii wr => ∃ j : Nat, j ≤ fs.length ∧ ii = .int .i64 j ∧ ∃ mm : Int, n = .int .i64 mm ∧ 1 ≤ mm ∧ mm ≤ most + 8796093022208 ∧ Hid (sizeFs (fs.drop j) most mm = sizeFs fs most nn) ∧ Below wa.heap.size wa wr) (fun _ ii _ => fs.length - (intOf ii).toNat)
          case atStart => exact ⟨0, by omega, rfl, _, rfl, by omega, by omega, rfl, hbel⟩
          case round =>
            clear hbel e6 e7
            obtain ⟨j2, hj2, rfl, mm, rfl, hm3, hm4, hrel, hbel⟩ := hrel
            obtain ⟨_, _, _, _, _, _, e6, e7⟩ := (hal.below hbel hsz).all0
            by_cases h3 : j2 < fs.length
            · by_cases h4 : mm ≤ most
              · obtain ⟨x, hx⟩ : ∃ x, fs[j2]? = some x := ⟨fs[j2], by simp [h3]⟩
                obtain hf := HF.out
                rcases hf with hf | ⟨g, o, rfl, hg, hvs⟩
                · subst hf; simp at h3
                obtain ⟨hnm, csx, hcx, hvx⟩ := hvs.get hx
                have hbw := hwa.trans (hbel.mono hwa.size)
                have hcx' := hcx.below hbw hg
                have hvx' := hvx.on hbw
                have hle := sizeR_le hvx (most - mm) (by omega)
                have hpos := sizeR_pos x.2 (most - mm)
                have hxN : szV x.2 ≤ N := by
                  have := szFs_get hx
                  have := HN.out
                  simp only [szV] at this
                  omega
                have hstep : sizeFs (fs.drop (j2 + 1)) most (mm + sizeR x.2 (most - mm)) = sizeFs fs most nn := by
                  rw [← hrel.out, drop_some hx, sizeFs, if_pos h4]
                have hc := IH.out x.2 hxN csx wr (most - mm) hvx' (by omega) (by omega)
                have HC := Lib.hid hc
                have HSTEP := Lib.hid hstep
                obtain ⟨xn, xk, xb, xi, xf, xt, xty, xits, xfs⟩ := x
                obtain ⟨xp, xc, xq, xd, rfl, _, _, _, _⟩ := hvx
                obtain ⟨c0, c1, c2, c3, c4, c5, c6, c7⟩ := hcx'.all
                clear hc hstep hvx' hx hvs hcx hcx' hal hwa hnm
                generalize sizeR (xn, V.mk xk xb xi xf xt xty xits xfs).2 (most - mm) = kk at *
                go_wp2_with (go_at_call 11; refine HC.out.mono ?_; rintro e w1 ⟨rfl, hb1⟩)
                go_roundw
                case rel => exact ⟨j2 + 1, by omega, by go_num, _, rfl, by omega, by omega, HSTEP, hbel.trans (hb1.mono hbel.size)⟩
                case measure => simp [intOf]; omega
              · have hfin : sizeFs fs most nn = mm := by
                  rw [← hrel.out]
                  cases hd : fs.drop j2 with
                  | nil => rw [sizeFs]
                  | cons x r => rw [sizeFs, if_neg h4]
                have HFIN := Lib.hid hfin
                clear hfin
                go_wp2_with fail
                go_ret
                exact ⟨ret_eq (by rw [sizeR, HEND.out, HFIN.out]; rfl), hwa.trans (hbel.mono hwa.size)⟩
            · have hfin : sizeFs fs most nn = mm := by
                rw [← hrel.out, List.drop_of_length_le (by omega), sizeFs]
              have HFIN := Lib.hid hfin
              clear hfin
              go_wp2_with fail
              go_ret
              exact ⟨ret_eq (by rw [sizeR, HEND.out, HFIN.out]; rfl), hwa.trans (hbel.mono hwa.size)⟩
      · have hend : sizeIs its most (1 + its.length + fs.length) = nn := by
          rw [← hrel.out, List.drop_of_length_le (by omega), sizeIs]
        have HEND := Lib.hid hend
        clear hend hrel
        go_wp2_with fail
        go_loopw [5, 8] (fun n ii wr => ∃ j : Nat, j ≤ fs.length ∧ ii = .int .i64 j ∧ ∃ mm : Int, n = .int .i64 mm ∧ 1 ≤ mm ∧ mm ≤ most + 8796093022208 ∧ Hid (sizeFs (fs.drop j) most mm = sizeFs fs most nn) ∧ Below wa.heap.size wa wr) (fun _ ii _ => fs.length - (intOf ii).toNat)
        case atStart => exact ⟨0, by omega, rfl, _, rfl, by omega, by omega, rfl, hbel⟩
        case round =>
          clear hbel e6 e7
          obtain ⟨j2, hj2, rfl, mm, rfl, hm3, hm4, hrel, hbel⟩ := hrel
          obtain ⟨_, _, _, _, _, _, e6, e7⟩ := (hal.below hbel hsz).all0
          by_cases h3 : j2 < fs.length
          · by_cases h4 : mm ≤ most
            · obtain ⟨x, hx⟩ : ∃ x, fs[j2]? = some x := ⟨fs[j2], by simp [h3]⟩
              obtain hf := HF.out
              rcases hf with hf | ⟨g, o, rfl, hg, hvs⟩
              · subst hf; simp at h3
              obtain ⟨hnm, csx, hcx, hvx⟩ := hvs.get hx
              have hbw := hwa.trans (hbel.mono hwa.size)
              have hcx' := hcx.below hbw hg
              have hvx' := hvx.on hbw
              have hle := sizeR_le hvx (most - mm) (by omega)
              have hpos := sizeR_pos x.2 (most - mm)
              have hxN : szV x.2 ≤ N := by
                have := szFs_get hx
                have := HN.out
                simp only [szV] at this
                omega
              have hstep : sizeFs (fs.drop (j2 + 1)) most (mm + sizeR x.2 (most - mm)) = sizeFs fs most nn := by
                rw [← hrel.out, drop_some hx, sizeFs, if_pos h4]
              have hc := IH.out x.2 hxN csx wr (most - mm) hvx' (by omega) (by omega)
              have HC := Lib.hid hc
              have HSTEP := Lib.hid hstep
              obtain ⟨xn, xk, xb, xi, xf, xt, xty, xits, xfs⟩ := x
              obtain ⟨xp, xc, xq, xd, rfl, _, _, _, _⟩ := hvx
              obtain ⟨c0, c1, c2, c3, c4, c5, c6, c7⟩ := hcx'.all
              clear hc hstep hvx' hx hvs hcx hcx' hal hwa hnm
              generalize sizeR (xn, V.mk xk xb xi xf xt xty xits xfs).2 (most - mm) = kk at *
              go_wp2_with (go_at_call 11; refine HC.out.mono ?_; rintro e w1 ⟨rfl, hb1⟩)
              go_roundw
              case rel => exact ⟨j2 + 1, by omega, by go_num, _, rfl, by omega, by omega, HSTEP, hbel.trans (hb1.mono hbel.size)⟩
              case measure => simp [intOf]; omega
            · have hfin : sizeFs fs most nn = mm := by
                rw [← hrel.out]
                cases hd : fs.drop j2 with
                | nil => rw [sizeFs]
                | cons x r => rw [sizeFs, if_neg h4]
              have HFIN := Lib.hid hfin
              clear hfin
              go_wp2_with fail
              go_ret
              exact ⟨ret_eq (by rw [sizeR, HEND.out, HFIN.out]; rfl), hwa.trans (hbel.mono hwa.size)⟩
          · have hfin : sizeFs fs most nn = mm := by
              rw [← hrel.out, List.drop_of_length_le (by omega), sizeFs]
            have HFIN := Lib.hid hfin
            clear hfin
            go_wp2_with fail
            go_ret
            exact ⟨ret_eq (by rw [sizeR, HEND.out, HFIN.out]; rfl), hwa.trans (hbel.mono hwa.size)⟩
end Go.Proofs.YtldjbgklmeigmaaGreatDoor

namespace Go.Proofs.YtldjbgklmeigmaaGreatDoor
open Go.RowKit

section
variable {P : Program} (w : World)

/-- As the library's law, and where the new list lies: where the old one lay, or in the block just made. -/
theorem run_append_x (base : Nat) (t ty e : TypeId) (i : TypeInfo) (z : Value) (size bytes : Nat) (ht : P.underlying t = some (.slice e)) (hi : P.info? e = some i) (hz : i.zero = some z)
    (hsize : i.size = size) (hby : i.bytes = bytes) (hzs : z.cells.size = size) (hsz : 0 < size)
    (v : Value) (n : Nat) (xs : List Value) (hown : w.ownsRow base e size v n xs)
    (a : Addr) (m c : Nat) (news : List Value) (hm : 0 < m) (hl : news.length = m * size) (hnews : ∀ j u, news[j]? = some u → w.cell? (a.add j) = some u) (h1 : ∀ u ∈ news, u.oneCell' = true)
    (h63 : n + m ≤ maxLen) (hbytes : (n + m) * bytes ≤ 140737488355328) (hbase : base ≤ w.heap.size) :
    ∃ v' w', (Builtin.append_ #[t, t] ty #[v, .slice (some a) m c]).run P w = .ok v' w' ∧ w'.ownsRow base e size v' (n + m) (xs ++ news) ∧ w.grownBy w' v.ownBlock ∧
      (v'.ownBlock = v.ownBlock ∨ v'.ownBlock = some w.heap.size) := by
  obtain ⟨v', w', hr, h2, h3, _⟩ := run_append_own (P := P) w base t ty e i z size bytes ht hi hz hsize hby hzs hsz v n xs hown a m c news hl hnews h1 h63 hbytes hbase
  refine ⟨v', w', hr, h2, h3, ?_⟩
  subst hsize
  subst hby
  have hsmall : n + m ≤ 9223372036854775807 := by simp only [maxLen] at h63; omega
  rcases hown.2 with ⟨rfl, rfl⟩ | ⟨g, cap, cur, rfl, hbg, hg, hnc, hcm, hcs, htake⟩
  · have hx := run_append_nil (P := P) w t ty e i z ht hi hz a m c news hl hnews hm (by omega) (by have hb := hbytes; simp only [Nat.zero_add] at hb; omega)
    rw [hx] at hr
    injection hr with h4 h5
    subst h4
    exact .inr rfl
  · by_cases hroom : n + m ≤ cap
    · have hfit : n * i.size + news.length ≤ cur.size := by rw [hl, hcs, ← Nat.add_mul]; exact Nat.mul_le_mul_right _ hroom
      have hx := run_append_room (P := P) w t ty e i ht hi g n cap cur hg a m c news hl hnews h1 hroom hfit
      rw [hx] at hr
      injection hr with h4 h5
      subst h4
      exact .inl rfl
    · have hx := run_append_grow (P := P) w t ty e i z ht hi hz ⟨g, 0, none⟩ n cap xs hown.1 (hown.cells (g := g) rfl) a m c news hl hnews (by omega) (by omega) (growslice_fits (by omega) hbytes)
      rw [hx] at hr
      injection hr with h4 h5
      subst h4
      exact .inr rfl

theorem wp_append_x {o : Oper} {a : Act} {K : Act → World → Prop} {Q : Exit → Act → World → Prop} (s x : Operand) (t : TypeId)
    (ho : o.op = .call { callee := .builtin .append, args := #[s, x], argTypes := #[t, t] })
    (base : Nat) (e : TypeId) (z : Value) (size bytes : Nat) (ht : P.underlying t = some (.slice e)) (hi : (P.info? e).map (fun i => (i.zero, i.size, i.bytes)) = some (some z, size, bytes))
    (hzs : z.cells.size = size) (hsz : 0 < size)
    (v : Value) (n : Nat) (xs : List Value) (hs : a.eval s = v) (hown : w.ownsRow base e size v n xs)
    (ad : Addr) (m c : Nat) (news : List Value) (hx : a.eval x = .slice (some ad) m c) (hm : 0 < m) (hl : news.length = m * size) (hnews : ∀ j u, news[j]? = some u → w.cell? (ad.add j) = some u) (h1 : ∀ u ∈ news, u.oneCell' = true)
    (h63 : n + m ≤ maxLen) (hbytes : (n + m) * bytes ≤ 140737488355328) (hbase : base ≤ w.heap.size)
    (h : ∀ v' w', w'.ownsRow base e size v' (n + m) (xs ++ news) → w.grownBy w' v.ownBlock → (v'.ownBlock = v.ownBlock ∨ v'.ownBlock = some w.heap.size) → K (a.put o.dst v') w') : o.wp P a w K Q := by
  obtain ⟨i, hi', hz, hsize, hby⟩ := info_parts hi
  obtain ⟨v', w', hr, h2, h3, h4⟩ := run_append_x (P := P) w base t o.type e i z size bytes ht hi' hz hsize hby hzs hsz v n xs hown ad m c news hm hl hnews h1 h63 hbytes hbase
  unfold Oper.wp execOp
  simp only [ho, resolve, invoke, builtin, Sem.run_bind, Sem.run_pure, Result.andThen_ok, List.map_toArray, List.map_cons, List.map_nil, hs, hx, hr]
  exact h v' w' h2 h3 h4
end

theorem addr_add (g o m : Nat) : (⟨g, o, none⟩ : Addr).add m = ⟨g, o + m, none⟩ := by
  unfold Addr.add
  by_cases h : m = 0 <;> simp [h]

mutual
/-- v lies in w, its lists in the blocks bs (each met once), from their heads on. -/
def OwnV (w : World) : V → Array Value → List Nat → Prop
  | .mk k b i f t ty its fs, cs, bs => ∃ p c q d b1 b2, cs = vcells k b i f t ty p its.length c q fs.length d ∧ bs = b1 ++ b2 ∧ its.length ≤ lenMax ∧ fs.length ≤ lenMax ∧
      ((its = [] ∧ b1 = [] ∧ p = none ∧ c = 0) ∨ ∃ g br cur, p = some ⟨g, 0, none⟩ ∧ b1 = g :: br ∧ w.heap[g]? = some (.cells cur 34 (0, 0)) ∧ cur.size = c * 8 ∧ its.length ≤ c ∧ c ≤ maxLen ∧ OwnVs w its g 0 br) ∧
      ((fs = [] ∧ b2 = [] ∧ q = none ∧ d = 0) ∨ ∃ g br cur, q = some ⟨g, 0, none⟩ ∧ b2 = g :: br ∧ w.heap[g]? = some (.cells cur 58 (0, 0)) ∧ cur.size = d * 9 ∧ fs.length ≤ d ∧ d ≤ maxLen ∧ OwnFs w fs g 0 br)
def OwnVs (w : World) : List V → Nat → Nat → List Nat → Prop
  | [], _, _, bs => bs = []
  | v :: r, g, o, bs => ∃ b1 b2 cs, bs = b1 ++ b2 ∧ CellsAt w g o cs ∧ OwnV w v cs b1 ∧ OwnVs w r g (o + 8) b2
def OwnFs (w : World) : List (ByteArray × V) → Nat → Nat → List Nat → Prop
  | [], _, _, bs => bs = []
  | x :: r, g, o, bs => ∃ b1 b2 cs, bs = b1 ++ b2 ∧ w.cell? ⟨g, o, none⟩ = some (.string x.1) ∧ CellsAt w g (o + 1) cs ∧ OwnV w x.2 cs b1 ∧ OwnFs w r g (o + 9) b2
end

/-- The blocks bs hold what they held. -/
def Kept (bs : List Nat) (w w' : World) : Prop := ∀ b ∈ bs, w'.heap[b]? = w.heap[b]?

theorem CellsAt.kept {w w' : World} {g o : Nat} {cs : Array Value} (h : CellsAt w g o cs) (hk : w'.heap[g]? = w.heap[g]?) : CellsAt w' g o cs :=
  fun j x hx => (World.cell?_of_block (w := w) (w' := w') (a := ⟨g, o + j, none⟩) hk).trans (h j x hx)

mutual
theorem OwnV.kept {w w' : World} : ∀ {v : V} {cs : Array Value} {bs : List Nat}, OwnV w v cs bs → Kept bs w w' → OwnV w' v cs bs
  | .mk k b i f t ty its fs, cs, bs, h, hk => by
    obtain ⟨p, c, q, d, b1, b2, hcs, hbs, l1, l2, hi, hf⟩ := h
    subst hbs
    refine ⟨p, c, q, d, b1, b2, hcs, rfl, l1, l2, ?_, ?_⟩
    · rcases hi with h0 | ⟨g, br, cur, hp, hb, hh, h1, h2, h3, hv⟩
      · exact .inl h0
      · subst hb
        have hg := hk g (by simp)
        exact .inr ⟨g, br, cur, hp, rfl, hg.trans hh, h1, h2, h3, OwnVs.kept hv hg (fun x hx => hk x (by simp [hx]))⟩
    · rcases hf with h0 | ⟨g, br, cur, hp, hb, hh, h1, h2, h3, hv⟩
      · exact .inl h0
      · subst hb
        have hg := hk g (by simp)
        exact .inr ⟨g, br, cur, hp, rfl, hg.trans hh, h1, h2, h3, OwnFs.kept hv hg (fun x hx => hk x (by simp [hx]))⟩
theorem OwnVs.kept {w w' : World} : ∀ {l : List V} {g o : Nat} {bs : List Nat}, OwnVs w l g o bs → w'.heap[g]? = w.heap[g]? → Kept bs w w' → OwnVs w' l g o bs
  | [], _, _, _, h, _, _ => h
  | v :: r, g, o, bs, h, hg, hk => by
    obtain ⟨b1, b2, cs, rfl, h1, h2, h3⟩ := h
    exact ⟨b1, b2, cs, rfl, h1.kept hg, OwnV.kept h2 (fun x hx => hk x (by simp [hx])), OwnVs.kept h3 hg (fun x hx => hk x (by simp [hx]))⟩
theorem OwnFs.kept {w w' : World} : ∀ {l : List (ByteArray × V)} {g o : Nat} {bs : List Nat}, OwnFs w l g o bs → w'.heap[g]? = w.heap[g]? → Kept bs w w' → OwnFs w' l g o bs
  | [], _, _, _, h, _, _ => h
  | x :: r, g, o, bs, h, hg, hk => by
    obtain ⟨b1, b2, cs, rfl, h0, h1, h2, h3⟩ := h
    exact ⟨b1, b2, cs, rfl, (World.cell?_of_block (w := w) (w' := w') (a := ⟨g, o, none⟩) hg).trans h0, h1.kept hg, OwnV.kept h2 (fun x hx => hk x (by simp [hx])), OwnFs.kept h3 hg (fun x hx => hk x (by simp [hx]))⟩
end

mutual
/-- What is owned is there. -/
theorem OwnV.isV {B : Nat} {w : World} : ∀ {v : V} {cs : Array Value} {bs : List Nat}, OwnV w v cs bs → (∀ b ∈ bs, b < B) → IsV B w v cs
  | .mk k b i f t ty its fs, cs, bs, h, hk => by
    obtain ⟨p, c, q, d, b1, b2, hcs, hbs, l1, l2, hi, hf⟩ := h
    subst hbs
    refine ⟨p, c, q, d, hcs, ?_, ?_, l1, l2⟩
    · rcases hi with ⟨h0, _⟩ | ⟨g, br, cur, hp, hb, hh, h1, h2, h3, hv⟩
      · exact .inl h0
      · subst hb
        exact .inr ⟨g, 0, hp, hk g (by simp), OwnVs.isV hv (fun x hx => hk x (by simp [hx]))⟩
    · rcases hf with ⟨h0, _⟩ | ⟨g, br, cur, hp, hb, hh, h1, h2, h3, hv⟩
      · exact .inl h0
      · subst hb
        exact .inr ⟨g, 0, hp, hk g (by simp), OwnFs.isV hv (fun x hx => hk x (by simp [hx]))⟩
theorem OwnVs.isV {B : Nat} {w : World} : ∀ {l : List V} {g o : Nat} {bs : List Nat}, OwnVs w l g o bs → (∀ b ∈ bs, b < B) → IsVs B w l g o
  | [], _, _, _, _, _ => trivial
  | v :: r, g, o, bs, h, hk => by
    obtain ⟨b1, b2, cs, rfl, h1, h2, h3⟩ := h
    exact ⟨⟨cs, h1, OwnV.isV h2 (fun x hx => hk x (by simp [hx]))⟩, OwnVs.isV h3 (fun x hx => hk x (by simp [hx]))⟩
theorem OwnFs.isV {B : Nat} {w : World} : ∀ {l : List (ByteArray × V)} {g o : Nat} {bs : List Nat}, OwnFs w l g o bs → (∀ b ∈ bs, b < B) → IsFs B w l g o
  | [], _, _, _, _, _ => trivial
  | x :: r, g, o, bs, h, hk => by
    obtain ⟨b1, b2, cs, rfl, h0, h1, h2, h3⟩ := h
    exact ⟨⟨h0, cs, h1, OwnV.isV h2 (fun x hx => hk x (by simp [hx]))⟩, OwnFs.isV h3 (fun x hx => hk x (by simp [hx]))⟩
end

/-- Values with their cells, as they are gathered: the cells lie in no list yet. -/
def OwnL (w : World) : List V → List (Array Value) → List Nat → Prop
  | [], [], bs => bs = []
  | v :: r, cs :: ss, bs => ∃ b1 b2, bs = b1 ++ b2 ∧ OwnV w v cs b1 ∧ OwnL w r ss b2
  | _, _, _ => False

theorem OwnL.kept {w w' : World} : ∀ {l : List V} {ss : List (Array Value)} {bs : List Nat}, OwnL w l ss bs → Kept bs w w' → OwnL w' l ss bs
  | [], [], _, h, _ => h
  | v :: r, cs :: ss, bs, h, hk => by
    obtain ⟨b1, b2, rfl, h1, h2⟩ := h
    exact ⟨b1, b2, rfl, h1.kept (fun x hx => hk x (by simp [hx])), OwnL.kept h2 (fun x hx => hk x (by simp [hx]))⟩
  | [], _ :: _, _, h, _ => h.elim
  | _ :: _, [], _, h, _ => h.elim

theorem OwnL.snoc {w : World} {v : V} {cs : Array Value} {b2 : List Nat} (h2 : OwnV w v cs b2) : ∀ {l : List V} {ss : List (Array Value)} {bs : List Nat}, OwnL w l ss bs → OwnL w (l ++ [v]) (ss ++ [cs]) (bs ++ b2)
  | [], [], bs, h => by
    obtain rfl : bs = [] := h
    exact ⟨b2, [], by simp, h2, rfl⟩
  | x :: r, y :: ss, bs, h => by
    obtain ⟨b1, b3, rfl, h1, h3⟩ := h
    exact ⟨b1, b3 ++ b2, by simp, h1, OwnL.snoc h2 h3⟩
  | [], _ :: _, _, h => h.elim
  | _ :: _, [], _, h => h.elim

theorem OwnL.length {w : World} : ∀ {l : List V} {ss : List (Array Value)} {bs : List Nat}, OwnL w l ss bs → ss.length = l.length
  | [], [], _, _ => rfl
  | _ :: _, _ :: _, _, h => by obtain ⟨_, _, _, _, h3⟩ := h; simp [OwnL.length h3]
  | [], _ :: _, _, h => h.elim
  | _ :: _, [], _, h => h.elim

theorem vsize {w : World} {v : V} {cs : Array Value} {bs : List Nat} (h : OwnV w v cs bs) : cs.size = 8 := by
  obtain ⟨k, b, i, f, t, ty, its, fs⟩ := v
  obtain ⟨p, c, q, d, b1, b2, rfl, _⟩ := h
  rfl

/-- The gathered cells lie in the row from o on. -/
theorem OwnL.row {w : World} {g : Nat} {cur : Array Value} {e : TypeId} {fz : Nat × Nat} (hg : w.heap[g]? = some (.cells cur e fz)) :
    ∀ {l : List V} {ss : List (Array Value)} {bs : List Nat} (o : Nat), OwnL w l ss bs → (∀ j x, (ss.flatMap (·.toList))[j]? = some x → cur[o + j]? = some x) → OwnVs w l g o bs
  | [], [], _, _, h, _ => h
  | v :: r, cs :: ss, bs, o, h, hc => by
    obtain ⟨b1, b2, rfl, h1, h2⟩ := h
    have hsz := vsize h1
    refine ⟨b1, b2, cs, rfl, fun j x hx => ?_, h1, OwnL.row hg (o + 8) h2 (fun j x hx => ?_)⟩
    · have := hc j x (by rw [List.flatMap_cons, List.getElem?_append_left (by simpa using (Array.getElem?_eq_some_iff.1 hx).1)]; simpa using hx)
      simp only [World.cell?, hg]
      exact this
    · have := hc (8 + j) x (by rw [List.flatMap_cons, List.getElem?_append_right (by simp [hsz])]; simpa [hsz] using hx)
      rw [show o + 8 + j = o + (8 + j) by omega]
      exact this
  | [], _ :: _, _, _, h, _ => h.elim
  | _ :: _, [], _, _, h, _ => h.elim

/-- The cells of a list of members. -/
def flatF : List ByteArray → List (Array Value) → List Value
  | n :: r, cs :: ss => (.string n :: cs.toList) ++ flatF r ss
  | _, _ => []

theorem flatF_snoc (n : ByteArray) (cs : Array Value) : ∀ (r : List ByteArray) (ss : List (Array Value)), r.length = ss.length → flatF (r ++ [n]) (ss ++ [cs]) = flatF r ss ++ (.string n :: cs.toList)
  | [], [], _ => by simp [flatF]
  | m :: r, c :: ss, h => by simp [flatF, flatF_snoc n cs r ss (by simpa using h)]
  | [], _ :: _, h => by simp at h
  | _ :: _, [], h => by simp at h

theorem OwnL.rowF {w : World} {g : Nat} {cur : Array Value} {e : TypeId} {fz : Nat × Nat} (hg : w.heap[g]? = some (.cells cur e fz)) :
    ∀ {l : List (ByteArray × V)} {ss : List (Array Value)} {bs : List Nat} (o : Nat), OwnL w (l.map (·.2)) ss bs → (∀ j x, (flatF (l.map (·.1)) ss)[j]? = some x → cur[o + j]? = some x) → OwnFs w l g o bs
  | [], [], _, _, h, _ => h
  | v :: r, cs :: ss, bs, o, h, hc => by
    obtain ⟨b1, b2, rfl, h1, h2⟩ := h
    have hsz := vsize h1
    have h0 := hc 0 (.string v.1) (by simp [flatF])
    refine ⟨b1, b2, cs, rfl, ?_, fun j x hx => ?_, h1, OwnL.rowF hg (o + 9) h2 (fun j x hx => ?_)⟩
    · simp only [World.cell?, hg]
      simpa using h0
    · have hj := (Array.getElem?_eq_some_iff.1 hx).1
      have := hc (1 + j) x (by
        simp only [List.map_cons, flatF]
        rw [List.getElem?_append_left (by simp; omega), show 1 + j = j + 1 by omega, List.getElem?_cons_succ]
        simpa using hx)
      simp only [World.cell?, hg]
      rw [show o + 1 + j = o + (1 + j) by omega]
      exact this
    · have := hc (9 + j) x (by
        simp only [List.map_cons, flatF]
        rw [List.getElem?_append_right (by simp [hsz])]
        simpa [hsz] using hx)
      rw [show o + 9 + j = o + (9 + j) by omega]
      exact this
  | [], _ :: _, _, _, h, _ => h.elim
  | _ :: _, [], _, _, h, _ => h.elim

theorem ownsRow_below {w w' : World} {base : Nat} {e : TypeId} {size : Nat} {v : Value} {n : Nat} {xs : List Value} (h : w.ownsRow base e size v n xs) (hb : Below w.heap.size w w') : w'.ownsRow base e size v n xs := by
  obtain ⟨h1, h2⟩ := h
  refine ⟨h1, ?_⟩
  rcases h2 with h2 | ⟨g, cap, cur, hv, hg, hh, r⟩
  · exact .inl h2
  · exact .inr ⟨g, cap, cur, hv, hg, (hb.block g (Array.getElem?_eq_some_iff.1 hh).1).trans hh, r⟩

theorem heap_setCell_same {w : World} {L j : Nat} {c : Array Value} {e : TypeId} {fz : Nat × Nat} (h : w.heap[L]? = some (.cells c e fz)) (v : Value) : (w.setCell ⟨L, j, none⟩ v).heap[L]? = some (.cells (c.setIfInBounds j v) e fz) := by
  simp [World.setCell, Array.getElem?_modify, h]

/-- What a loop that gathers copies knows: the list so far lies in a row sv of its own, the copies xs in the blocks bs. -/
structure Gath (B1 : Nat) (e : TypeId) (size : Nat) (w : World) (sv : Value) (n : Nat) (row : List Value) (l : List V) (css : List (Array Value)) (bs : List Nat) : Prop where
  row : w.ownsRow B1 e size sv n row
  own : OwnL w l css bs
  nodup : bs.Nodup
  low : ∀ x ∈ bs, B1 ≤ x ∧ x < w.heap.size
  apart : ∀ g, sv.ownBlock = some g → g ∉ bs

theorem Gath.start (B1 : Nat) (e : TypeId) (size : Nat) (w : World) : Gath B1 e size w (.slice none 0 0) 0 [] [] [] [] :=
  ⟨World.ownsRow_nil w B1 e size, rfl, List.nodup_nil, by simp, by simp⟩

theorem Gath.below {B1 : Nat} {e : TypeId} {size : Nat} {w w' : World} {sv : Value} {n : Nat} {row : List Value} {l : List V} {css : List (Array Value)} {bs : List Nat} (h : Gath B1 e size w sv n row l css bs) (hb : Below w.heap.size w w') :
    Gath B1 e size w' sv n row l css bs :=
  ⟨ownsRow_below h.row hb, h.own.kept (fun x hx => hb.block x (h.low x hx).2), h.nodup, fun x hx => ⟨(h.low x hx).1, Nat.lt_of_lt_of_le (h.low x hx).2 hb.size⟩, h.apart⟩

/-- One more copy, appended. -/
theorem Gath.step {B1 : Nat} {e : TypeId} {size : Nat} {w W3 w' : World} {sv v' : Value} {n : Nat} {row news : List Value} {l : List V} {css : List (Array Value)} {bs : List Nat} (h : Gath B1 e size w sv n row l css bs) (hb : Below w.heap.size w W3)
    {x : V} {cs : Array Value} {b : List Nat} (hx : OwnV W3 x cs b) (hn : b.Nodup) (hlow : ∀ y ∈ b, w.heap.size ≤ y ∧ y < W3.heap.size) (hB : B1 ≤ w.heap.size)
    (hown : w'.ownsRow B1 e size v' (n + 1) (row ++ news)) (hgr : W3.grownBy w' sv.ownBlock) (hv : v'.ownBlock = sv.ownBlock ∨ v'.ownBlock = some W3.heap.size) :
    Gath B1 e size w' v' (n + 1) (row ++ news) (l ++ [x]) (css ++ [cs]) (bs ++ b) := by
  have hlt : ∀ g, sv.ownBlock = some g → g < w.heap.size := fun g hg => (h.row.lt g hg).2
  have k1 : Kept bs w w' := fun y hy => by
    have h1 := h.low y hy
    rw [hgr.block y (Nat.lt_of_lt_of_le h1.2 hb.size) (fun e => h.apart y e.symm hy)]
    exact hb.block y h1.2
  have k2 : Kept b W3 w' := fun y hy => hgr.block y (hlow y hy).2 (fun e => by have := hlt y e.symm; have := (hlow y hy).1; omega)
  refine ⟨hown, OwnL.snoc (hx.kept k2) (h.own.kept k1), ?_, fun y hy => ?_, fun g hg hmem => ?_⟩
  · rw [List.nodup_append]
    exact ⟨h.nodup, hn, fun a ha c hc e => by have h1 := (h.low a ha).2; have h2 := (hlow c hc).1; omega⟩
  · rcases List.mem_append.1 hy with hy | hy
    · exact ⟨(h.low y hy).1, Nat.lt_of_lt_of_le (h.low y hy).2 (Nat.le_trans hb.size hgr.size)⟩
    · exact ⟨Nat.le_trans hB (hlow y hy).1, Nat.lt_of_lt_of_le (hlow y hy).2 hgr.size⟩
  · rcases hv with hv | hv
    · rw [hv] at hg
      rcases List.mem_append.1 hmem with hy | hy
      · exact h.apart g hg hy
      · have := hlt g hg; have := (hlow g hy).1; omega
    · rw [hv] at hg
      obtain rfl : W3.heap.size = g := by simpa using hg
      rcases List.mem_append.1 hmem with hy | hy
      · have := (h.low _ hy).2; have := hb.size; omega
      · have := (hlow _ hy).2; omega

/-- A store into a block below. -/
theorem Gath.setCell {B1 : Nat} {e : TypeId} {size : Nat} {w : World} {sv : Value} {n : Nat} {row : List Value} {l : List V} {css : List (Array Value)} {bs : List Nat} (h : Gath B1 e size w sv n row l css bs) {L j : Nat} (hL : L < B1) (u : Value) :
    Gath B1 e size (w.setCell ⟨L, j, none⟩ u) sv n row l css bs :=
  ⟨ownsRow_setCell_below h.row hL u, h.own.kept (fun x hx => Below.heap_setCell _ _ _ _ (by have := (h.low x hx).1; simp only []; omega)), h.nodup, fun x hx => by simpa [World.setCell] using h.low x hx, h.apart⟩

/-- The items of an owned value. -/
def ItemsOwn (w : World) (its : List V) (p : Option Addr) (c : Nat) (b1 : List Nat) : Prop :=
  (its = [] ∧ b1 = [] ∧ p = none ∧ c = 0) ∨ ∃ g br cur, p = some ⟨g, 0, none⟩ ∧ b1 = g :: br ∧ w.heap[g]? = some (.cells cur 34 (0, 0)) ∧ cur.size = c * 8 ∧ its.length ≤ c ∧ c ≤ maxLen ∧ OwnVs w its g 0 br
def FieldsOwn (w : World) (fs : List (ByteArray × V)) (q : Option Addr) (d : Nat) (b2 : List Nat) : Prop :=
  (fs = [] ∧ b2 = [] ∧ q = none ∧ d = 0) ∨ ∃ g br cur, q = some ⟨g, 0, none⟩ ∧ b2 = g :: br ∧ w.heap[g]? = some (.cells cur 58 (0, 0)) ∧ cur.size = d * 9 ∧ fs.length ≤ d ∧ d ≤ maxLen ∧ OwnFs w fs g 0 br

theorem ItemsOwn.kept {w w' : World} {its : List V} {p : Option Addr} {c : Nat} {b1 : List Nat} (h : ItemsOwn w its p c b1) (hk : Kept b1 w w') : ItemsOwn w' its p c b1 := by
  rcases h with h | ⟨g, br, cur, hp, rfl, hh, h1, h2, h3, hv⟩
  · exact .inl h
  · have hg := hk g (by simp)
    exact .inr ⟨g, br, cur, hp, rfl, hg.trans hh, h1, h2, h3, hv.kept hg (fun x hx => hk x (by simp [hx]))⟩
theorem FieldsOwn.kept {w w' : World} {fs : List (ByteArray × V)} {p : Option Addr} {c : Nat} {b1 : List Nat} (h : FieldsOwn w fs p c b1) (hk : Kept b1 w w') : FieldsOwn w' fs p c b1 := by
  rcases h with h | ⟨g, br, cur, hp, rfl, hh, h1, h2, h3, hv⟩
  · exact .inl h
  · have hg := hk g (by simp)
    exact .inr ⟨g, br, cur, hp, rfl, hg.trans hh, h1, h2, h3, hv.kept hg (fun x hx => hk x (by simp [hx]))⟩

theorem OwnV.intro {w : World} {k : Int} {b : Bool} {i : Int} {f : Nat} {t ty : ByteArray} {its : List V} {fs : List (ByteArray × V)} {p q : Option Addr} {c d : Nat} {b1 b2 : List Nat} (l1 : its.length ≤ lenMax) (l2 : fs.length ≤ lenMax) (hi : ItemsOwn w its p c b1) (hf : FieldsOwn w fs q d b2) :
    OwnV w (.mk k b i f t ty its fs) (vcells k b i f t ty p its.length c q fs.length d) (b1 ++ b2) := ⟨p, c, q, d, b1, b2, rfl, rfl, l1, l2, hi, hf⟩

theorem row_at {cur : Array Value} {xs : List Value} {n : Nat} (h : cur.toList.take n = xs) : ∀ j x, xs[j]? = some x → cur[0 + j]? = some x := by
  intro j x hj
  rw [← h, List.getElem?_take] at hj
  split at hj
  · rw [Nat.zero_add, ← Array.getElem?_toList]; exact hj
  · cases hj

theorem Gath.items {B1 : Nat} {w : World} {sv : Value} {its : List V} {css : List (Array Value)} {bs : List Nat} (h : Gath B1 34 8 w sv its.length (css.flatMap (·.toList)) its css bs) :
    ∃ p c b1, sv = .slice p its.length c ∧ ItemsOwn w its p c b1 ∧ b1.Nodup ∧ ∀ x ∈ b1, B1 ≤ x ∧ x < w.heap.size := by
  rcases h.row.2 with ⟨rfl, h0⟩ | ⟨g, cap, cur, rfl, hg, hh, hn, hm, hs, ht⟩
  · have : its = [] := List.eq_nil_of_length_eq_zero h0
    subst this
    exact ⟨none, 0, [], rfl, .inl ⟨rfl, rfl, rfl, rfl⟩, by simp, by simp⟩
  · refine ⟨_, cap, g :: bs, rfl, .inr ⟨g, bs, cur, rfl, rfl, hh, hs, hn, hm, ?_⟩, ?_, ?_⟩
    · exact OwnL.row hh 0 h.own (row_at ht)
    · exact List.nodup_cons.2 ⟨h.apart g rfl, h.nodup⟩
    · intro x hx
      rcases List.mem_cons.1 hx with rfl | hx
      · exact ⟨hg, (Array.getElem?_eq_some_iff.1 hh).1⟩
      · exact h.low x hx

theorem Gath.fields {B1 : Nat} {w : World} {sv : Value} {fs : List (ByteArray × V)} {css : List (Array Value)} {bs : List Nat} (h : Gath B1 58 9 w sv fs.length (flatF (fs.map (·.1)) css) (fs.map (·.2)) css bs) :
    ∃ p c b1, sv = .slice p fs.length c ∧ FieldsOwn w fs p c b1 ∧ b1.Nodup ∧ ∀ x ∈ b1, B1 ≤ x ∧ x < w.heap.size := by
  rcases h.row.2 with ⟨rfl, h0⟩ | ⟨g, cap, cur, rfl, hg, hh, hn, hm, hs, ht⟩
  · have : fs = [] := List.eq_nil_of_length_eq_zero h0
    subst this
    exact ⟨none, 0, [], rfl, .inl ⟨rfl, rfl, rfl, rfl⟩, by simp, by simp⟩
  · refine ⟨_, cap, g :: bs, rfl, .inr ⟨g, bs, cur, rfl, rfl, hh, hs, hn, hm, ?_⟩, ?_, ?_⟩
    · exact OwnL.rowF hh 0 h.own (row_at ht)
    · exact List.nodup_cons.2 ⟨h.apart g rfl, h.nodup⟩
    · intro x hx
      rcases List.mem_cons.1 hx with rfl | hx
      · exact ⟨hg, (Array.getElem?_eq_some_iff.1 hh).1⟩
      · exact h.low x hx

theorem Kept.below {bs : List Nat} {B : Nat} {w w' : World} (hb : Below B w w') (h : ∀ x ∈ bs, x < B) : Kept bs w w' := fun x hx => hb.block x (h x hx)
theorem Kept.trans {bs : List Nat} {a b c : World} (h : Kept bs a b) (k : Kept bs b c) : Kept bs a c := fun x hx => (k x hx).trans (h x hx)
theorem Kept.setCell {bs : List Nat} {a w : World} (h : Kept bs a w) {L j : Nat} (hL : L ∉ bs) (u : Value) : Kept bs a (w.setCell ⟨L, j, none⟩ u) :=
  fun x hx => (Below.heap_setCell _ _ _ _ (fun e => hL (by have e' : x = L := e; rw [← e']; exact hx))).trans (h x hx)
theorem Kept.setRow {bs : List Nat} {a w : World} (h : Kept bs a w) {L : Nat} (hL : L ∉ bs) (cs : Array Value) : Kept bs a (w.setRow L cs) :=
  fun x hx => (setRow_other w L x cs (fun e => hL (by rw [← e]; exact hx))).trans (h x hx)
theorem Kept.grown {bs : List Nat} {a w w' : World} {row : Option Nat} (h : Kept bs a w) (hg : w.grownBy w' row) (hs : ∀ x ∈ bs, x < w.heap.size) (hr : ∀ g, row = some g → g ∉ bs) : Kept bs a w' :=
  fun x hx => (hg.block x (hs x hx) (fun e => hr x e.symm hx)).trans (h x hx)
theorem below_setRow {B : Nat} {a w : World} (h : Below B a w) {L : Nat} (hL : B ≤ L) (cs : Array Value) : Below B a (w.setRow L cs) :=
  h.trans ⟨rfl, rfl, rfl, by simp, fun k hk => setRow_other w L k cs (by omega)⟩

theorem vcells_one (k : Int) (b : Bool) (i : Int) (f : Nat) (t ty : ByteArray) (p : Option Addr) (n c : Nat) (q : Option Addr) (m d : Nat) : (vcells k b i f t ty p n c q m d).all (·.oneCell') = true := by simp [vcells, Value.oneCell']
end Go.Proofs.YtldjbgklmeigmaaGreatDoor
