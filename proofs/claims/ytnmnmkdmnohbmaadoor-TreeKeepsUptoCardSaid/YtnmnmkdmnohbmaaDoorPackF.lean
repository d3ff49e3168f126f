/- Several texts in one: A row of parts in memory, each with its path's own row: what growth of the row leaves as it is. The parts of a value by way of their paths from the value on: no program in sight. Conditions: none. -/
import Derived.Test.YtnmnmkdmnohbmaaDoorPackE
import Derived.Test.YtnmnmkdmnohbmaaDoorRefCount
namespace Go.Proofs.YtnmnmkdmnohbmaaDoor
open Go Go.RowKit

/-- Rows of two types share no block. -/
theorem rows_apart {W : World} {B1 B2 : Nat} {e1 e2 : TypeId} {s1 s2 n1 n2 : Nat} {v1 v2 : Value} {xs1 xs2 : List Value} (h1 : W.ownsRow B1 e1 s1 v1 n1 xs1) (h2 : W.ownsRow B2 e2 s2 v2 n2 xs2) (ne : e1 ≠ e2) : v1.ownBlock = none ∨ v1.ownBlock ≠ v2.ownBlock := by
  rcases h1.2 with ⟨rfl, _⟩ | ⟨g, cap, cur, rfl, _, hb, _⟩
  · exact .inl rfl
  · rcases h2.2 with ⟨rfl, _⟩ | ⟨g2, cap2, cur2, rfl, _, hb2, _⟩
    · exact .inr (fun e => by cases e)
    · refine .inr (fun e => ?_)
      have e2 : some g = some g2 := e
      cases e2
      rw [hb] at hb2
      cases hb2
      exact ne rfl
/-- Two growths, one behind the other, where the second row is the first or new. -/
theorem grown_trans {w w1 w2 : World} {r r1 : Option Nat} (h1 : w.grownBy w1 r) (h2 : w1.grownBy w2 r1) (hl : r1 = r ∨ ∃ g, r1 = some g ∧ w.heap.size ≤ g) : w.grownBy w2 r := by
  refine ⟨h2.os.trans h1.os, h2.tape.trans h1.tape, h2.output.trans h1.output, Nat.le_trans h1.size h2.size, fun g hg hn => ?_⟩
  refine (h2.block g (Nat.lt_of_lt_of_le hg h1.size) (fun e => ?_)).trans (h1.block g hg hn)
  rcases hl with rfl | ⟨g', rfl, hg'⟩
  · exact hn e
  · cases e
    omega
theorem grown_below {B : Nat} {w w' : World} {r : Option Nat} (h : w.grownBy w' r) (hB : B ≤ w.heap.size) (hr : ∀ y, r = some y → B ≤ y) : Below B w w' := (Below.refl _ _).grown h hB hr

/-- Parts, each in nine cells. -/
def FitP (B : Nat) (w : World) : List (List St × V) → List Value → Prop
  | [], xs => xs = []
  | x :: r, xs => ∃ pv cs rest, xs = pv :: (cs.toList ++ rest) ∧ w.ownsRow B 34 3 pv x.1.length (flatS x.1) ∧ IsV B w x.2 cs ∧ FitP B w r rest
theorem FitP.append {B : Nat} {w : World} : ∀ {l r : List (List St × V)} {xs ys : List Value}, FitP B w l xs → FitP B w r ys → FitP B w (l ++ r) (xs ++ ys)
  | [], _, xs, ys, h, h2 => by
    obtain rfl : xs = [] := h
    exact h2
  | x :: l, r, xs, ys, h, h2 => by
    obtain ⟨pv, cs, rest, rfl, h3, h4, h5⟩ := h
    refine ⟨pv, cs, rest ++ ys, by simp, h3, h4, FitP.append h5 h2⟩
theorem FitP.len {B : Nat} {w : World} : ∀ {l : List (List St × V)} {xs : List Value}, FitP B w l xs → xs.length = l.length * 9
  | [], xs, h => by
    obtain rfl : xs = [] := h
    rfl
  | x :: l, xs, h => by
    obtain ⟨pv, cs, rest, rfl, h3, h4, h5⟩ := h
    have := h5.len
    have h8 := vcells8 h4
    simp only [List.length_cons, List.length_append, Array.length_toList]
    omega
/-- A world that grew, where the row that grew is no path's. -/
theorem FitP.kept {B : Nat} {w w' : World} {row : Option Nat} (hg : w.grownBy w' row) (hB : B ≤ w.heap.size) (hr : ∀ y, row = some y → B ≤ y ∧ ∃ (cur : Array Value) (T : TypeId), w.heap[y]? = some (.cells cur T (0, 0)) ∧ T ≠ 34) :
    ∀ {l : List (List St × V)} {xs : List Value}, FitP B w l xs → FitP B w' l xs
  | [], xs, h => h
  | x :: l, xs, h => by
    obtain ⟨pv, cs, rest, rfl, h3, h4, h5⟩ := h
    refine ⟨pv, cs, rest, rfl, h3.kept hg ?_, h4.below (grown_below hg hB (fun y hy => (hr y hy).1)) (Nat.le_refl _), h5.kept hg hB hr⟩
    rcases h3.2 with ⟨rfl, _⟩ | ⟨g, cap, cur, rfl, _, hb, _⟩
    · exact .inl rfl
    · refine .inr (fun e => ?_)
      obtain ⟨_, cur2, T, h6, h7⟩ := hr g e.symm
      rw [hb] at h6
      cases h6
      exact h7 rfl
theorem FitP.get {B : Nat} {w : World} : ∀ {l : List (List St × V)} {xs : List Value} {j : Nat} {x : List St × V}, FitP B w l xs → l[j]? = some x →
    ∃ pv cs, xs[j * 9]? = some pv ∧ (∀ m u, cs[m]? = some u → xs[j * 9 + 1 + m]? = some u) ∧ w.ownsRow B 34 3 pv x.1.length (flatS x.1) ∧ IsV B w x.2 cs
  | [], _, _, _, _, h => by simp at h
  | y :: l, xs, 0, x, h, hx => by
    obtain ⟨pv, cs, rest, rfl, h3, h4, h5⟩ := h
    simp only [List.getElem?_cons_zero, Option.some.injEq] at hx
    subst hx
    refine ⟨pv, cs, by simp, fun m u hu => ?_, h3, h4⟩
    have hm : m < cs.size := (Array.getElem?_eq_some_iff.1 hu).1
    have e : 0 * 9 + 1 + m = m + 1 := by omega
    rw [e, List.getElem?_cons_succ, List.getElem?_append_left (by simpa using hm)]
    simpa using hu
  | y :: l, xs, j + 1, x, h, hx => by
    obtain ⟨pv, cs, rest, rfl, h3, h4, h5⟩ := h
    rw [List.getElem?_cons_succ] at hx
    obtain ⟨pv2, cs2, h6, h7, h8, h9⟩ := h5.get hx
    have hs := vcells8 h4
    have hk : ∀ m, (pv :: (cs.toList ++ rest))[m + 9]? = rest[m]? := by
      intro m
      have e : m + 9 = (m + 8) + 1 := by omega
      rw [e, List.getElem?_cons_succ, List.getElem?_append_right (by simp [hs])]
      simp [hs]
    refine ⟨pv2, cs2, ?_, fun m u hu => ?_, h8, h9⟩
    · have e : (j + 1) * 9 = j * 9 + 9 := by omega
      rw [e, hk]
      exact h6
    · have e : (j + 1) * 9 + 1 + m = (j * 9 + 1 + m) + 9 := by omega
      rw [e, hk]
      exact h7 m u hu
end Go.Proofs.YtnmnmkdmnohbmaaDoor

namespace Go.Proofs.YtnmnmkdmnohbmaaDoor
open Go Go.RowKit

theorem parts_map : ∀ (N : Nat) (v : V), szV v ≤ N → ∀ path : List St, partsV path v = (partsV [] v).map (fun y => (path ++ y.1, y.2)) := by
  intro N
  induction N with
  | zero => intro v h; have := szV_pos v; omega
  | succ N ih =>
    intro v hN path
    rw [partsV_eq path v, partsV_eq [] v, List.map_cons, List.append_nil]
    congr 1
    have hb : ∀ l : List (St × V), (∀ x ∈ l, szV x.2 + 1 ≤ szV v) → l.flatMap (fun x => partsV (path ++ [x.1]) x.2) = (l.flatMap (fun x => partsV ([] ++ [x.1]) x.2)).map (fun y => (path ++ y.1, y.2)) := by
      intro l
      induction l with
      | nil => intro _; rfl
      | cons x r ihl =>
        intro hl
        have h1 := hl x (by simp)
        rw [List.flatMap_cons, List.flatMap_cons, List.map_append, ihl (fun y hy => hl y (List.mem_cons_of_mem _ hy)), ih x.2 (by omega) (path ++ [x.1]), ih x.2 (by omega) ([] ++ [x.1]), List.map_map]
        congr 1
        apply List.map_congr_left
        intro y _
        simp
    exact hb _ (fun x hx => isKid_size (s := x.1) (u := x.2) hx)
/-- The parts of a child, with the step to it. -/
def under (x : St × V) : List (List St × V) := (partsV [] x.2).map (fun y => (x.1 :: y.1, y.2))
theorem parts_under (v : V) : partsV [] v = ([], v) :: (kidsV v).flatMap under := by
  rw [partsV_eq]
  congr 1
  congr 1
  funext x
  exact parts_map _ x.2 (Nat.le_refl _) _
theorem under_len (x : St × V) : (under x).length = cntV x.2 := by
  unfold under
  rw [List.length_map, parts_len _ _ (Nat.le_refl _)]
/-- How long a path is. -/
theorem parts_path : ∀ (N : Nat) (v : V), szV v ≤ N → ∀ x ∈ partsV [] v, x.1.length + szV x.2 ≤ szV v := by
  intro N
  induction N with
  | zero => intro v h; have := szV_pos v; omega
  | succ N ih =>
    intro v hN x hx
    rw [parts_under, List.mem_cons] at hx
    rcases hx with rfl | hx
    · simp
    · rw [List.mem_flatMap] at hx
      obtain ⟨y, hy, hx⟩ := hx
      have h1 := isKid_size (s := y.1) (u := y.2) hy
      unfold under at hx
      rw [List.mem_map] at hx
      obtain ⟨z, hz, rfl⟩ := hx
      have := ih y.2 (by omega) z hz
      simp only [List.length_cons]
      omega
end Go.Proofs.YtnmnmkdmnohbmaaDoor
