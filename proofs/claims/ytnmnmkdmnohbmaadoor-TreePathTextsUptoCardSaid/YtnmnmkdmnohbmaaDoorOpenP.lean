/- Paths as arguments, opened, with their bulk. Conditions: none. -/
import Derived.Test.YtnmnmkdmnohbmaaDoorOpen
import Derived.Test.YtnmnmkdmnohbmaaDoorPathLaw
import Derived.Test.YtnmnmkdmnohbmaaDoorRows
import Derived.Deep.Strs
namespace Go.Proofs.YtnmnmkdmnohbmaaDoor
open Go.RowKit Go.Deep Go.ChangeShapes

theorem bulkP_pos {H : Type} (d : DataW H) : 1 ≤ Rows.uptoBulk d := by
  match d with
  | .lit x => cases x <;> simp [Rows.uptoBulk]
  | .nil | .ptr _ | .slice _ _ | .agg _ | .iface _ _ | .map _ | .held _ => simp [Rows.uptoBulk]

def inI (i : Int) : Prop := -9223372036854775808 ≤ i ∧ i ≤ 9223372036854775807
/-- What a path weighs. -/
def wtS (s : St) : Nat := s.nm.data.toList.length + 4
def wtP (l : List St) : Nat := (l.map wtS).sum
theorem wtP_cons (s : St) (l : List St) : wtP (s :: l) = wtS s + wtP l := by simp [wtP]
theorem wtP_len (l : List St) : l.length ≤ wtP l := by
  induction l with
  | nil => simp
  | cons s l ih => rw [wtP_cons]; unfold wtS; simp; omega

theorem escB_len (l : List UInt8) : (l.flatMap escB).length ≤ 2 * l.length := by
  induction l with
  | nil => simp
  | cons b l ih =>
    have : (escB b).length ≤ 2 := by unfold escB; split; · simp
                                     · split <;> simp
    simp only [List.flatMap_cons, List.length_append, List.length_cons]
    omega
theorem nDig_le {u : Nat} (h : u < 10 ^ 20) : (Lib.decDigits u).length ≤ 20 := by
  rw [Lib.decDigits_length]
  rcases Nat.lt_or_ge (Lib.nDigits u) 21 with h1 | h1
  · omega
  · exfalso
    have : ∀ (k u : Nat), k + 2 ≤ Lib.nDigits u → 10 ^ (k + 1) ≤ u := by
      intro k
      induction k with
      | zero =>
        intro u hu
        by_cases h : u < 10
        · rw [Lib.nDigits_small h] at hu; omega
        · simp; omega
      | succ k ih =>
        intro u hu
        by_cases h : u < 10
        · rw [Lib.nDigits_small h] at hu; omega
        · rw [Lib.nDigits_big h] at hu
          have := ih (u / 10) (by omega)
          have h2 : 10 ^ (k + 1 + 1) = 10 ^ (k + 1) * 10 := Nat.pow_succ ..
          omega
    have := this 19 u (by omega)
    omega
theorem itoa_len {i : Int} (h : inI i) : (Lib.itoa i).length ≤ 21 := by
  obtain ⟨h0, h1⟩ := h
  unfold Lib.itoa
  split
  · have := nDig_le (u := i.natAbs) (by omega)
    simp only [List.length_cons]
    omega
  · have := nDig_le (u := i.toNat) (by omega)
    omega
theorem stepT_len {s : St} (h : inI s.ix) : (stepT s).length + 1 ≤ 6 * wtS s := by
  unfold stepT wtS
  split
  · have := itoa_len h
    omega
  · have := escB_len s.nm.data.toList
    unfold nameT
    split <;> simp only [List.length_append, List.length_cons, List.length_nil] <;> omega
theorem pathT_len {l : List St} (h : ∀ s ∈ l, inI s.ix) : (pathT l).length ≤ 6 * wtP l := by
  induction l with
  | nil => simp [pathT]
  | cons s l ih =>
    have h1 := stepT_len (h s List.mem_cons_self)
    have h2 := ih (fun x hx => h x (List.mem_cons_of_mem _ hx))
    have e : pathT (s :: l) = 47 :: stepT s ++ pathT l := rfl
    rw [wtP_cons, e]
    simp only [List.cons_append, List.length_cons, List.length_append]
    omega

section
variable {H : Type} {enc : TypeId × Value → H} {w : World} {base : Nat} {spare : Nat → Bool} {held : Bool}

set_option maxRecDepth 100000 in
theorem open_stepP {fuel : Nat} {cs : List Value} {x : DataW H × List MemPlace} (h : DataW.trod enc Tryd.prog w base spare held fuel 34 cs = some x) : ∃ s : St, cs = s.cells.toList ∧ inI s.ix ∧ wtS s ≤ Rows.uptoBulk x.1 := by
  obtain ⟨y0, y1, y2, n, rfl, hlen, f0, f1, f2⟩ := trod_struct3 Tryd.underlying34 h
  have hc : Tryd.prog.cellsOf 34 = 3 := by kernel_rfl
  have h1 : Tryd.prog.cellsOf 9 = 1 := by kernel_rfl
  have h2 : Tryd.prog.cellsOf 3 = 1 := by kernel_rfl
  have h3 : Tryd.prog.cellsOf 4 = 1 := by kernel_rfl
  rw [hc] at hlen
  obtain ⟨a, b, c, rfl⟩ := len3 hlen
  simp [h1, h2, h3] at f0 f1 f2
  obtain ⟨s, e0, d0, _⟩ := DataW.trod_string Tryd.underlying9 f0
  obtain ⟨i, e1, d1, hw⟩ := DataW.trod_int Tryd.underlying3 f1
  obtain ⟨t, e2, d2⟩ := DataW.trod_bool Tryd.underlying4 f2
  simp at e0 e1 e2
  subst e0 e1 e2 d0 d1 d2
  refine ⟨⟨s, i, t⟩, rfl, by simpa [Lit.wf, IntKind.min, IntKind.max, IntKind.signed, IntKind.bits, inI] using hw, ?_⟩
  simp only [wtS, Rows.uptoBulk, Rows.uptoBulkAll]
  omega

theorem sum_range_le {f g : Nat → Nat} : ∀ (n : Nat), (∀ i, i < n → f i ≤ g i) → ((List.range n).map f).sum ≤ ((List.range n).map g).sum
  | 0, _ => by simp
  | n + 1, h => by
    have := sum_range_le n (fun i hi => h i (by omega))
    have := h n (by omega)
    simp only [List.range_succ, List.map_append, List.sum_append, List.map_cons, List.map_nil, List.sum_cons, List.sum_nil]
    omega
theorem bulk_sum (ds : List (DataW H)) : (ds.map Rows.uptoBulk).sum ≤ Rows.uptoBulkAll ds := by
  induction ds with
  | nil => simp [Rows.uptoBulkAll]
  | cons d r ih => simp only [Rows.uptoBulkAll, List.map_cons, List.sum_cons]; omega

set_option maxRecDepth 100000 in
theorem open_path {fuel : Nat} {cs : List Value} {x : DataW H × List MemPlace} (h : DataW.trod enc Tryd.prog w base spare held fuel 29 cs = some x) :
    ∃ (p : Option Addr) (l : List St) (c : Nat), cs = [.slice p l.length c] ∧ l.length ≤ c ∧ c ≤ maxLen ∧ StepsAt w.heap.size w p l ∧ (∀ s ∈ l, inI s.ix) ∧ wtP l ≤ Rows.uptoBulk x.1 := by
  rcases open_slice Tryd.underlying29 h with ⟨rfl, _⟩ | ⟨a, len, cap, m, n, D, Pl, rfl, hb, hl, hm, hmm, hx1, hx⟩
  · exact ⟨none, [], 0, rfl, Nat.le_refl _, by decide, .inl rfl, (by simp), (by simp [wtP])⟩
  · have hc : Tryd.prog.cellsOf 34 = 3 := by kernel_rfl
    rw [hc] at hx
    have hlm : len ≤ m := by rw [hmm]; split <;> omega
    obtain ⟨f, hf⟩ := choose_lt (α := St) (n := len) (p := fun i s => w.cells? base (a.add (i * 3)) 3 = some s.cells.toList ∧ inI s.ix ∧ wtS s ≤ Rows.uptoBulk (D i)) (fun i hi => by
      obtain ⟨cs', h1, h2⟩ := hx i (by omega)
      obtain ⟨s, rfl, h3, h4⟩ := open_stepP h2
      exact ⟨s, h1, h3, h4⟩)
    refine ⟨some a, (List.range len).map f, cap, by simp, by simpa using hl, hm, ?_, ?_, ?_⟩
    · by_cases h0 : len = 0
      · exact .inl (by simp [h0])
      · have hs : a.spot = none := by
          obtain ⟨_, _, hcell⟩ := World.cells?_some (hf 0 (by omega)).1
          have := hcell 0 (by omega)
          simp [St.cells] at this
          simpa [Addr.add] using World.cell?_spot this
        have hlt : a.block < w.heap.size := by
          obtain ⟨_, _, hcell⟩ := World.cells?_some (hf 0 (by omega)).1
          have := hcell 0 (by omega)
          simp [St.cells] at this
          simpa [Addr.add] using World.block_lt_of_cell? w _ this
        obtain ⟨b, o, sp⟩ := a
        obtain rfl : sp = none := hs
        refine .inr ⟨b, o, rfl, hlt, fun i s hs => ?_⟩
        have hi : i < len := by
          have := (List.getElem?_eq_some_iff.1 hs).1
          simpa using this
        obtain rfl : f i = s := by simpa [hi] using hs
        obtain ⟨_, _, hcell⟩ := World.cells?_some (hf i hi).1
        have c0 := hcell 0 (by omega)
        have c1 := hcell 1 (by omega)
        have c2 := hcell 2 (by omega)
        have e0 : (((⟨b, o, none⟩ : Addr).add (i * 3)).add 0) = ⟨b, o + i * 3, none⟩ := by unfold Addr.add; by_cases hz : i * 3 = 0 <;> simp [hz]
        have e1 : (((⟨b, o, none⟩ : Addr).add (i * 3)).add 1) = ⟨b, o + i * 3 + 1, none⟩ := by unfold Addr.add; by_cases hz : i * 3 = 0 <;> simp [hz]
        have e2 : (((⟨b, o, none⟩ : Addr).add (i * 3)).add 2) = ⟨b, o + i * 3 + 2, none⟩ := by unfold Addr.add; by_cases hz : i * 3 = 0 <;> simp [hz]
        rw [e0] at c0
        rw [e1] at c1
        rw [e2] at c2
        exact ⟨c0, c1, c2⟩
    · intro s hs
      obtain ⟨i, hi, rfl⟩ := List.mem_map.1 hs
      exact (hf i (by simpa using hi)).2.1
    · have h1 := sum_range_le (f := fun i => wtS (f i)) (g := fun i => Rows.uptoBulk (D i)) len (fun i hi => (hf i hi).2.2)
      have h2 := bulk_sum ((List.range len).map D)
      rw [hx1]
      simp only [Rows.uptoBulk]
      unfold wtP
      rw [List.map_map] at h2 ⊢
      simp only [Function.comp_def] at *
      omega
end
end Go.Proofs.YtnmnmkdmnohbmaaDoor
