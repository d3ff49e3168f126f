/- Several texts in one: Plain: what the reference's reading of a path's text answers. Helper text: what the arguments of the laws read as: paths. Paths as arguments, opened, with their bulk. Plain: how long the text of what was read can be. Conditions: none. -/
import Derived.Test.YtnmnmkdmnohbmaaDoorPackA
import Derived.IntWalk
import Derived.Test.YtnmnmkdmnohbmaaDoorUnder
import Derived.Deep.Slices
import Derived.ChangeOld
import Derived.ProofKit
import Derived.Test.YtnmnmkdmnohbmaaDoorRows
import Derived.Deep.Strs
namespace Go.Proofs.YtnmnmkdmnohbmaaDoor
open Go.RowKit

def plainL : List UInt8 → List UInt8
  | [] => []
  | [b] => [b]
  | b :: c :: r => if b = 126 then (if c = 48 then 126 :: plainL r else if c = 49 then 47 :: plainL r else plainL r) else b :: plainL (c :: r)
theorem plainL_wave (c : UInt8) (r : List UInt8) : plainL (126 :: c :: r) = if c = 48 then 126 :: plainL r else if c = 49 then 47 :: plainL r else plainL r := by
  rw [plainL, if_pos rfl]
theorem plainL_plain {b : UInt8} (h : b ≠ 126) (r : List UInt8) : plainL (b :: r) = b :: plainL r := by
  cases r with
  | nil => simp [plainL]
  | cons c r => rw [plainL, if_neg h]
theorem plainL_esc : ∀ n : List UInt8, plainL (n.flatMap escB) = n
  | [] => rfl
  | b :: n => by
    rw [List.flatMap_cons]
    rcases escB_cases b with ⟨rfl, e⟩ | ⟨rfl, e⟩ | ⟨h1, _, e⟩ <;> rw [e]
    · rw [List.cons_append, List.cons_append, List.nil_append, plainL_wave, if_pos rfl, plainL_esc n]
    · rw [List.cons_append, List.cons_append, List.nil_append, plainL_wave, if_neg (by decide), if_pos rfl, plainL_esc n]
    · rw [List.cons_append, List.nil_append, plainL_plain h1, plainL_esc n]
theorem plainL_name (n : List UInt8) : plainL (nameT n) = n := by
  unfold nameT
  cases markedL n
  · simp [plainL_esc]
  · rw [if_pos rfl, List.cons_append, List.cons_append, List.nil_append, plainL_wave, if_neg (by decide), if_neg (by decide), plainL_esc]

/-- A number's digits, as an int that wraps. -/
def numStep (n : Int) (b : UInt8) : Int := if b = 45 then n else wrap64 (wrap64 (wrap64 (n * 10) + b.toNat) - 48)
def numW (l : List UInt8) : Int := l.foldl numStep 0
theorem numW_snoc (l : List UInt8) (b : UInt8) : numW (l ++ [b]) = numStep (numW l) b := by simp [numW]
theorem numStep_dig {a : Nat} {b : UInt8} (h : isDig b = true) : numStep (wrap64 a) b = wrap64 ((a * 10 + (b.toNat - 48) : Nat) : Int) := by
  have hb := dig_num h
  have : b ≠ 45 := fun e => by subst e; revert h; decide
  unfold numStep
  rw [if_neg this]
  unfold wrap64
  omega
theorem num_digits : ∀ (l : List UInt8) (a : Nat), (∀ b ∈ l, isDig b = true) → l.foldl numStep (wrap64 a) = wrap64 ((l.foldl (fun n b => n * 10 + (b.toNat - 48)) a : Nat) : Int)
  | [], a, _ => by rw [List.foldl_nil, List.foldl_nil]
  | b :: l, a, h => by
    rw [List.foldl_cons, List.foldl_cons, numStep_dig (h b List.mem_cons_self)]
    exact num_digits l _ (fun c hc => h c (List.mem_cons_of_mem _ hc))
theorem num_dec (u : Nat) : numW (Lib.decDigits u) = wrap64 (u : Int) := by
  have h := num_digits (Lib.decDigits u) 0 (dec_dig u)
  have e := decVal_dec u
  unfold decVal at e
  rw [e] at h
  have z : wrap64 ((0 : Nat) : Int) = 0 := by simp [wrap64]
  rw [z] at h
  exact h

/-- The one step that a piece can be the text of. -/
def guessL (p : List UInt8) : St :=
  if p ≠ [] ∧ markedL p = true then ⟨ByteArray.empty, if p.head? = some 45 then wrap64 (-(numW p)) else numW p, true⟩
  else ⟨⟨(plainL p).toArray⟩, 0, false⟩

theorem wrap64_rng (n : Int) : -9223372036854775808 ≤ wrap64 n ∧ wrap64 n ≤ 9223372036854775807 := by unfold wrap64; omega
theorem numStep_rng {n : Int} (h : -9223372036854775808 ≤ n ∧ n ≤ 9223372036854775807) (b : UInt8) : -9223372036854775808 ≤ numStep n b ∧ numStep n b ≤ 9223372036854775807 := by
  unfold numStep
  split
  · exact h
  · exact wrap64_rng _
theorem numW_rng (l : List UInt8) : -9223372036854775808 ≤ numW l ∧ numW l ≤ 9223372036854775807 := by
  have : ∀ (l : List UInt8) (n : Int), (-9223372036854775808 ≤ n ∧ n ≤ 9223372036854775807) → -9223372036854775808 ≤ l.foldl numStep n ∧ l.foldl numStep n ≤ 9223372036854775807 := by
    intro l
    induction l with
    | nil => exact fun n h => h
    | cons b l ih => exact fun n h => ih _ (numStep_rng h b)
  exact this l 0 (by decide)
theorem guess_ok (p : List UInt8) : okSt (guessL p) := by
  unfold guessL
  split
  · refine ⟨rfl, ?_⟩
    dsimp only
    split
    · exact wrap64_rng _
    · exact numW_rng _
  · exact ⟨rfl, by show (-9223372036854775808 : Int) ≤ 0; decide, by show (0 : Int) ≤ 9223372036854775807; decide⟩

theorem guess_step {s : St} (h : okSt s) : guessL (stepT s) = s := by
  obtain ⟨hb, h0, h1⟩ := h
  obtain ⟨n, i, t⟩ := s
  cases t
  · have : i = 0 := by simp [bareS] at hb; exact hb.symm
    subst this
    show guessL (nameT n.data.toList) = _
    obtain ⟨b, l, e, hb⟩ := nameT_head n.data.toList
    have h2 : markedL (nameT n.data.toList) = false := by rw [e]; exact hb
    unfold guessL
    rw [if_neg (by rw [h2]; simp), plainL_name]
  · have : n = ByteArray.empty := by simp [bareS] at hb; exact hb.symm
    subst this
    show guessL (Lib.itoa i) = _
    obtain ⟨b, l, e, hb⟩ := itoa_head i
    have h2 : Lib.itoa i ≠ [] := by rw [e]; simp
    have h3 : markedL (Lib.itoa i) = true := by rw [e]; exact hb
    dsimp only at h0 h1
    unfold guessL
    rw [if_pos ⟨h2, h3⟩]
    congr 1
    unfold Lib.itoa
    by_cases hi : i < 0
    · rw [if_pos hi]
      have : numW (45 :: Lib.decDigits i.natAbs) = numW (Lib.decDigits i.natAbs) := rfl
      rw [if_pos (by rfl), this, num_dec]
      unfold wrap64
      omega
    · rw [if_neg hi]
      have : ¬ (Lib.decDigits i.toNat).head? = some 45 := by
        cases e : Lib.decDigits i.toNat with
        | nil => simp
        | cons b l =>
          have hb := dec_dig i.toNat b (by rw [e]; exact List.mem_cons_self)
          intro h
          cases h
          revert hb
          decide
      rw [if_neg this, num_dec]
      unfold wrap64
      omega

theorem path_off : ∀ {d p : List St} {r : List UInt8}, Cut r → pathT p = pathT d ++ r → ∃ q, (∀ x ∈ q, x ∈ p) ∧ pathT q = r
  | [], p, r, _, h => ⟨p, fun _ hx => hx, h⟩
  | t :: d, [], r, _, h => by simp [pathT] at h
  | t :: d, x :: p, r, hr, h => by
    simp only [pathT, List.flatMap_cons, List.cons_append, List.append_assoc, List.cons.injEq, true_and] at h
    have hc : Cut (pathT d ++ r) := by
      cases d with
      | nil => exact hr
      | cons _ _ => exact .inr ⟨_, rfl⟩
    obtain ⟨_, e2⟩ := cut_split (stepT_slash x) (stepT_slash t) (pathT_cut p) hc h
    obtain ⟨q, h1, h2⟩ := path_off hr e2
    exact ⟨q, fun y hy => List.mem_cons_of_mem _ (h1 y hy), h2⟩

/-- A piece that no step is written as: the text is no path's. -/
theorem readL_refuse {s : List UInt8} {d : List St} {seg rest : List UInt8} (hs : s = pathT d ++ 47 :: (seg ++ rest)) (hseg : ∀ c ∈ seg, c ≠ 47) (hr : Cut rest) (hg : stepT (guessL seg) ≠ seg) : readL s = none := by
  cases h : readL s with
  | none => rfl
  | some p =>
    exfalso
    obtain ⟨h1, h2⟩ := readL_iff.1 h
    rw [hs] at h1
    obtain ⟨q, hq, e⟩ := path_off (.inr ⟨_, rfl⟩) h1
    cases q with
    | nil => cases e
    | cons x q =>
      have e : 47 :: (stepT x ++ pathT q) = 47 :: (seg ++ rest) := by rw [← e]; simp [pathT]
      obtain ⟨e1, _⟩ := cut_split (stepT_slash x) hseg (pathT_cut q) hr (List.cons.inj e).2
      have := guess_step (h2 x (hq x List.mem_cons_self))
      rw [e1] at this
      rw [this] at hg
      exact hg e1
theorem readL_head {s : List UInt8} {c : UInt8} {r : List UInt8} (hs : s = c :: r) (h : c ≠ 47) : readL s = none := by
  subst hs
  unfold readL
  dsimp only
  rw [if_neg h]
end Go.Proofs.YtnmnmkdmnohbmaaDoor

namespace Go.Proofs.YtnmnmkdmnohbmaaDoor
open Go.RowKit Go.Deep
section
variable {H : Type} {enc : TypeId × Value → H} {w : World} {base : Nat} {spare : Nat → Bool} {held : Bool}

instance : Inhabited St := ⟨⟨ByteArray.empty, 0, false⟩⟩

theorem len3 {α : Type} {l : List α} (h : l.length = 3) : ∃ a b c, l = [a, b, c] := by
  match l, h with
  | [a, b, c], _ => exact ⟨a, b, c, rfl⟩

theorem open_step {fuel : Nat} {cs : List Value} {x : DataW H × List MemPlace} (h : DataW.trod enc Tryd.prog w base spare held fuel 34 cs = some x) : ∃ s : St, cs = s.cells.toList := by
  obtain ⟨xs, n, rfl, _, hlen, hxs, hf⟩ := DataW.trod_struct Tryd.underlying34 h
  have hc : Tryd.prog.cellsOf 34 = 3 := by kernel_rfl
  have h1 : Tryd.prog.cellsOf 9 = 1 := by kernel_rfl
  have h2 : Tryd.prog.cellsOf 3 = 1 := by kernel_rfl
  have h3 : Tryd.prog.cellsOf 4 = 1 := by kernel_rfl
  rw [hc] at hlen
  obtain ⟨a, b, c, rfl⟩ := len3 hlen
  obtain ⟨y0, y1, y2, rfl⟩ := len3 hxs
  have f0 := hf 0 _ rfl
  have f1 := hf 1 _ rfl
  have f2 := hf 2 _ rfl
  simp [h1, h2, h3] at f0 f1 f2
  obtain ⟨s, e0, _, _⟩ := DataW.trod_string Tryd.underlying9 f0
  obtain ⟨i, e1, _, _⟩ := DataW.trod_int Tryd.underlying3 f1
  obtain ⟨t, e2, _⟩ := DataW.trod_bool Tryd.underlying4 f2
  simp at e0 e1 e2
  subst e0 e1 e2
  exact ⟨⟨s, i, t⟩, rfl⟩

theorem open_steps {fuel : Nat} {cs : List Value} {x : DataW H × List MemPlace} (h : DataW.trod enc Tryd.prog w base spare held fuel 29 cs = some x) :
    ∃ (p : Option Addr) (l : List St) (c : Nat), cs = [.slice p l.length c] ∧ l.length ≤ c ∧ c ≤ maxLen ∧ StepsAt w.heap.size w p l := by
  rcases open_slice Tryd.underlying29 h with ⟨rfl, _⟩ | ⟨a, len, cap, m, n, D, Pl, rfl, hb, hl, hm, hmm, _, hx⟩
  · exact ⟨none, [], 0, rfl, Nat.le_refl _, by decide, .inl rfl⟩
  · have hc : Tryd.prog.cellsOf 34 = 3 := by kernel_rfl
    rw [hc] at hx
    have hlm : len ≤ m := by rw [hmm]; split <;> omega
    obtain ⟨f, hf⟩ := choose_lt (α := St) (n := len) (p := fun i s => w.cells? base (a.add (i * 3)) 3 = some s.cells.toList) (fun i hi => by
      obtain ⟨cs', h1, h2⟩ := hx i (by omega)
      obtain ⟨s, rfl⟩ := open_step h2
      exact ⟨s, h1⟩)
    refine ⟨some a, (List.range len).map f, cap, by simp, by simpa using hl, hm, ?_⟩
    by_cases h0 : len = 0
    · exact .inl (by simp [h0])
    · have hs : a.spot = none := by
        obtain ⟨_, _, hcell⟩ := World.cells?_some (hf 0 (by omega))
        have := hcell 0 (by omega)
        simp [St.cells] at this
        simpa [Addr.add] using World.cell?_spot this
      have hlt : a.block < w.heap.size := by
        obtain ⟨_, _, hcell⟩ := World.cells?_some (hf 0 (by omega))
        have := hcell 0 (by omega)
        simp [St.cells] at this
        simpa [Addr.add] using World.block_lt_of_cell? w _ this
      obtain ⟨b, o, sp⟩ := a
      obtain rfl : sp = none := hs
      refine .inr ⟨b, o, rfl, hlt, fun i s hs => ?_⟩
      have hi : i < len := by
        have := (List.getElem?_eq_some_iff.1 hs).1
        simpa using this
      obtain rfl : f i = s := by simpa [hi] using hs
      obtain ⟨_, _, hcell⟩ := World.cells?_some (hf i hi)
      have c0 := hcell 0 (by omega)
      have c1 := hcell 1 (by omega)
      have c2 := hcell 2 (by omega)
      have e0 : (((⟨b, o, none⟩ : Addr).add (i * 3)).add 0) = ⟨b, o + i * 3, none⟩ := by unfold Addr.add; by_cases hz : i * 3 = 0 <;> simp [hz]
      have e1 : (((⟨b, o, none⟩ : Addr).add (i * 3)).add 1) = ⟨b, o + i * 3 + 1, none⟩ := by unfold Addr.add; by_cases hz : i * 3 = 0 <;> simp [hz]
      have e2 : (((⟨b, o, none⟩ : Addr).add (i * 3)).add 2) = ⟨b, o + i * 3 + 2, none⟩ := by unfold Addr.add; by_cases hz : i * 3 = 0 <;> simp [hz]
      rw [e0] at c0
      rw [e1] at c1
      rw [e2] at c2
      exact ⟨c0, c1, c2⟩
end
end Go.Proofs.YtnmnmkdmnohbmaaDoor

namespace Go.Proofs.YtnmnmkdmnohbmaaDoor
open Go.RowKit Go.Deep Go.ChangeShapes

theorem bulkP_pos {H : Type} (d : DataW H) : 1 ≤ Rows.uptoBulk d := by
  match d with
  | .lit x => cases x <;> simp [Rows.uptoBulk]
  | .nil | .ptr _ | .slice _ _ | .agg _ | .iface _ _ | .map _ | .held _ => simp [Rows.uptoBulk]

def inI (i : Int) : Prop := -9223372036854775808 ≤ i ∧ i ≤ 9223372036854775807
/-- What a path weighs. -/
def wtS (s : St) : Nat := s.nm.data.toList.length + 4
def wtP (l : List St) : Nat := (l.map wtS).sum
theorem wtP_cons (s : St) (l : List St) : wtP (s :: l) = wtS s + wtP l := by simp [wtP]
theorem wtP_len (l : List St) : l.length ≤ wtP l := by
  induction l with
  | nil => simp
  | cons s l ih => rw [wtP_cons]; unfold wtS; simp; omega

theorem escB_len (l : List UInt8) : (l.flatMap escB).length ≤ 2 * l.length := by
  induction l with
  | nil => simp
  | cons b l ih =>
    have : (escB b).length ≤ 2 := by unfold escB; split; · simp
                                     · split <;> simp
    simp only [List.flatMap_cons, List.length_append, List.length_cons]
    omega
theorem nDig_le {u : Nat} (h : u < 10 ^ 20) : (Lib.decDigits u).length ≤ 20 := by
  rw [Lib.decDigits_length]
  rcases Nat.lt_or_ge (Lib.nDigits u) 21 with h1 | h1
  · omega
  · exfalso
    have : ∀ (k u : Nat), k + 2 ≤ Lib.nDigits u → 10 ^ (k + 1) ≤ u := by
      intro k
      induction k with
      | zero =>
        intro u hu
        by_cases h : u < 10
        · rw [Lib.nDigits_small h] at hu; omega
        · simp; omega
      | succ k ih =>
        intro u hu
        by_cases h : u < 10
        · rw [Lib.nDigits_small h] at hu; omega
        · rw [Lib.nDigits_big h] at hu
          have := ih (u / 10) (by omega)
          have h2 : 10 ^ (k + 1 + 1) = 10 ^ (k + 1) * 10 := Nat.pow_succ ..
          omega
    have := this 19 u (by omega)
    omega
theorem itoa_len {i : Int} (h : inI i) : (Lib.itoa i).length ≤ 21 := by
  obtain ⟨h0, h1⟩ := h
  unfold Lib.itoa
  split
  · have := nDig_le (u := i.natAbs) (by omega)
    simp only [List.length_cons]
    omega
  · have := nDig_le (u := i.toNat) (by omega)
    omega
theorem stepT_len {s : St} (h : inI s.ix) : (stepT s).length + 1 ≤ 6 * wtS s := by
  unfold stepT wtS
  split
  · have := itoa_len h
    omega
  · have := escB_len s.nm.data.toList
    unfold nameT
    split <;> simp only [List.length_append, List.length_cons, List.length_nil] <;> omega
theorem pathT_len {l : List St} (h : ∀ s ∈ l, inI s.ix) : (pathT l).length ≤ 6 * wtP l := by
  induction l with
  | nil => simp [pathT]
  | cons s l ih =>
    have h1 := stepT_len (h s List.mem_cons_self)
    have h2 := ih (fun x hx => h x (List.mem_cons_of_mem _ hx))
    have e : pathT (s :: l) = 47 :: stepT s ++ pathT l := rfl
    rw [wtP_cons, e]
    simp only [List.cons_append, List.length_cons, List.length_append]
    omega

section
variable {H : Type} {enc : TypeId × Value → H} {w : World} {base : Nat} {spare : Nat → Bool} {held : Bool}

set_option maxRecDepth 100000 in
theorem open_stepP {fuel : Nat} {cs : List Value} {x : DataW H × List MemPlace} (h : DataW.trod enc Tryd.prog w base spare held fuel 34 cs = some x) : ∃ s : St, cs = s.cells.toList ∧ inI s.ix ∧ wtS s ≤ Rows.uptoBulk x.1 := by
  obtain ⟨y0, y1, y2, n, rfl, hlen, f0, f1, f2⟩ := trod_struct3 Tryd.underlying34 h
  have hc : Tryd.prog.cellsOf 34 = 3 := by kernel_rfl
  have h1 : Tryd.prog.cellsOf 9 = 1 := by kernel_rfl
  have h2 : Tryd.prog.cellsOf 3 = 1 := by kernel_rfl
  have h3 : Tryd.prog.cellsOf 4 = 1 := by kernel_rfl
  rw [hc] at hlen
  obtain ⟨a, b, c, rfl⟩ := len3 hlen
  simp [h1, h2, h3] at f0 f1 f2
  obtain ⟨s, e0, d0, _⟩ := DataW.trod_string Tryd.underlying9 f0
  obtain ⟨i, e1, d1, hw⟩ := DataW.trod_int Tryd.underlying3 f1
  obtain ⟨t, e2, d2⟩ := DataW.trod_bool Tryd.underlying4 f2
  simp at e0 e1 e2
  subst e0 e1 e2 d0 d1 d2
  refine ⟨⟨s, i, t⟩, rfl, by simpa [Lit.wf, IntKind.min, IntKind.max, IntKind.signed, IntKind.bits, inI] using hw, ?_⟩
  simp only [wtS, Rows.uptoBulk, Rows.uptoBulkAll]
  omega

theorem sum_range_le {f g : Nat → Nat} : ∀ (n : Nat), (∀ i, i < n → f i ≤ g i) → ((List.range n).map f).sum ≤ ((List.range n).map g).sum
  | 0, _ => by simp
  | n + 1, h => by
    have := sum_range_le n (fun i hi => h i (by omega))
    have := h n (by omega)
    simp only [List.range_succ, List.map_append, List.sum_append, List.map_cons, List.map_nil, List.sum_cons, List.sum_nil]
    omega
theorem bulk_sum (ds : List (DataW H)) : (ds.map Rows.uptoBulk).sum ≤ Rows.uptoBulkAll ds := by
  induction ds with
  | nil => simp [Rows.uptoBulkAll]
  | cons d r ih => simp only [Rows.uptoBulkAll, List.map_cons, List.sum_cons]; omega

set_option maxRecDepth 100000 in
theorem open_path {fuel : Nat} {cs : List Value} {x : DataW H × List MemPlace} (h : DataW.trod enc Tryd.prog w base spare held fuel 29 cs = some x) :
    ∃ (p : Option Addr) (l : List St) (c : Nat), cs = [.slice p l.length c] ∧ l.length ≤ c ∧ c ≤ maxLen ∧ StepsAt w.heap.size w p l ∧ (∀ s ∈ l, inI s.ix) ∧ wtP l ≤ Rows.uptoBulk x.1 := by
  rcases open_slice Tryd.underlying29 h with ⟨rfl, _⟩ | ⟨a, len, cap, m, n, D, Pl, rfl, hb, hl, hm, hmm, hx1, hx⟩
  · exact ⟨none, [], 0, rfl, Nat.le_refl _, by decide, .inl rfl, (by simp), (by simp [wtP])⟩
  · have hc : Tryd.prog.cellsOf 34 = 3 := by kernel_rfl
    rw [hc] at hx
    have hlm : len ≤ m := by rw [hmm]; split <;> omega
    obtain ⟨f, hf⟩ := choose_lt (α := St) (n := len) (p := fun i s => w.cells? base (a.add (i * 3)) 3 = some s.cells.toList ∧ inI s.ix ∧ wtS s ≤ Rows.uptoBulk (D i)) (fun i hi => by
      obtain ⟨cs', h1, h2⟩ := hx i (by omega)
      obtain ⟨s, rfl, h3, h4⟩ := open_stepP h2
      exact ⟨s, h1, h3, h4⟩)
    refine ⟨some a, (List.range len).map f, cap, by simp, by simpa using hl, hm, ?_, ?_, ?_⟩
    · by_cases h0 : len = 0
      · exact .inl (by simp [h0])
      · have hs : a.spot = none := by
          obtain ⟨_, _, hcell⟩ := World.cells?_some (hf 0 (by omega)).1
          have := hcell 0 (by omega)
          simp [St.cells] at this
          simpa [Addr.add] using World.cell?_spot this
        have hlt : a.block < w.heap.size := by
          obtain ⟨_, _, hcell⟩ := World.cells?_some (hf 0 (by omega)).1
          have := hcell 0 (by omega)
          simp [St.cells] at this
          simpa [Addr.add] using World.block_lt_of_cell? w _ this
        obtain ⟨b, o, sp⟩ := a
        obtain rfl : sp = none := hs
        refine .inr ⟨b, o, rfl, hlt, fun i s hs => ?_⟩
        have hi : i < len := by
          have := (List.getElem?_eq_some_iff.1 hs).1
          simpa using this
        obtain rfl : f i = s := by simpa [hi] using hs
        obtain ⟨_, _, hcell⟩ := World.cells?_some (hf i hi).1
        have c0 := hcell 0 (by omega)
        have c1 := hcell 1 (by omega)
        have c2 := hcell 2 (by omega)
        have e0 : (((⟨b, o, none⟩ : Addr).add (i * 3)).add 0) = ⟨b, o + i * 3, none⟩ := by unfold Addr.add; by_cases hz : i * 3 = 0 <;> simp [hz]
        have e1 : (((⟨b, o, none⟩ : Addr).add (i * 3)).add 1) = ⟨b, o + i * 3 + 1, none⟩ := by unfold Addr.add; by_cases hz : i * 3 = 0 <;> simp [hz]
        have e2 : (((⟨b, o, none⟩ : Addr).add (i * 3)).add 2) = ⟨b, o + i * 3 + 2, none⟩ := by unfold Addr.add; by_cases hz : i * 3 = 0 <;> simp [hz]
        rw [e0] at c0
        rw [e1] at c1
        rw [e2] at c2
        exact ⟨c0, c1, c2⟩
    · intro s hs
      obtain ⟨i, hi, rfl⟩ := List.mem_map.1 hs
      exact (hf i (by simpa using hi)).2.1
    · have h1 := sum_range_le (f := fun i => wtS (f i)) (g := fun i => Rows.uptoBulk (D i)) len (fun i hi => (hf i hi).2.2)
      have h2 := bulk_sum ((List.range len).map D)
      rw [hx1]
      simp only [Rows.uptoBulk]
      unfold wtP
      rw [List.map_map] at h2 ⊢
      simp only [Function.comp_def] at *
      omega
end
end Go.Proofs.YtnmnmkdmnohbmaaDoor

namespace Go.Proofs.YtnmnmkdmnohbmaaDoor
open Go.RowKit

theorem unesc_len : ∀ {l n : List UInt8}, unesc l = some n → n.length ≤ l.length
  | [], n, h => by cases h; simp
  | [b], n, h => by
    unfold unesc at h
    split at h
    · cases h
    · cases h; simp
  | b :: c :: r, n, h => by
    unfold unesc at h
    split at h
    · split at h
      · cases hr : unesc r with
        | none => rw [hr] at h; cases h
        | some m =>
          rw [hr] at h
          cases h
          have := unesc_len hr
          simp only [List.length_cons]
          omega
      · split at h
        · cases hr : unesc r with
          | none => rw [hr] at h; cases h
          | some m =>
            rw [hr] at h
            cases h
            have := unesc_len hr
            simp only [List.length_cons]
            omega
        · cases h
    · cases hr : unesc (c :: r) with
      | none => rw [hr] at h; cases h
      | some m =>
        rw [hr] at h
        cases h
        have := unesc_len hr
        simp only [List.length_cons] at this ⊢
        omega

theorem piece_len {p : List UInt8} {x : St} (h : pieceL p = some x) : (stepT x).length + 1 ≤ 24 * (p.length + 1) ∧ x.nm.data.toList.length ≤ p.length := by
  have hok := piece_ok h
  unfold pieceL at h
  split at h
  · cases h
  · split at h
    · split at h
      · rename_i n hn
        cases h
        refine ⟨?_, by simp⟩
        have := itoa_len (i := n) hok.2
        show (Lib.itoa n).length + 1 ≤ _
        omega
      · cases h
    · cases hu : unesc (Lib.trimPrefix p [126, 50]) with
      | none => rw [hu] at h; cases h
      | some n =>
        rw [hu] at h
        cases h
        have h1 := unesc_len hu
        have h2 : (Lib.trimPrefix p [126, 50]).length ≤ p.length := by
          unfold Lib.trimPrefix
          split
          · rw [List.length_drop]; omega
          · omega
        have h3 := escB_len n
        refine ⟨?_, by show n.length ≤ _; omega⟩
        show (nameT n).length + 1 ≤ _
        unfold nameT
        split <;> simp only [List.length_append, List.length_cons, List.length_nil] <;> omega

def sumLen (l : List (List UInt8)) : Nat := (l.map (fun p => p.length + 1)).sum
theorem pieces_len : ∀ {l : List (List UInt8)} {d : List St}, piecesL l = some d → (pathT d).length ≤ 24 * sumLen l ∧ (∀ s ∈ d, s.nm.data.toList.length ≤ sumLen l) ∧ d.length = l.length
  | [], d, h => by cases h; simp [pathT]
  | p :: l, d, h => by
    unfold piecesL at h
    split at h
    · cases h
    · rename_i x hx
      cases hr : piecesL l with
      | none => rw [hr] at h; cases h
      | some r =>
        rw [hr] at h
        cases h
        obtain ⟨h1, h2, h3⟩ := pieces_len hr
        obtain ⟨h4, h5⟩ := piece_len hx
        have e : sumLen (p :: l) = (p.length + 1) + sumLen l := by simp [sumLen]
        have e2 : pathT (x :: r) = 47 :: stepT x ++ pathT r := rfl
        refine ⟨?_, ?_, by simp [h3]⟩
        · rw [e, e2]
          simp only [List.cons_append, List.length_cons, List.length_append]
          omega
        · intro s hs
          rw [e]
          rcases List.mem_cons.1 hs with rfl | hs
          · omega
          · have := h2 s hs
            omega

theorem splitS_len : ∀ l : List UInt8, sumLen (splitS l) = l.length + 1
  | [] => rfl
  | c :: r => by
    have ih := splitS_len r
    unfold splitS
    split
    · simp only [sumLen, List.map_cons, List.sum_cons, List.length_nil, List.length_cons] at ih ⊢
      omega
    · cases h : splitS r with
      | nil => rw [h] at ih; simp [sumLen] at ih
      | cons x t =>
        rw [h] at ih
        simp only [sumLen, List.map_cons, List.sum_cons, List.length_cons] at ih ⊢
        omega

theorem piecesL_app : ∀ {a b : List (List UInt8)}, piecesL (a ++ b) = match piecesL a with | none => none | some x => (piecesL b).map (x ++ ·)
  | [], b => by
    simp only [List.nil_append, piecesL]
    cases piecesL b <;> simp
  | p :: a, b => by
    simp only [List.cons_append, piecesL]
    cases pieceL p with
    | none => rfl
    | some x =>
      simp only
      rw [piecesL_app]
      cases piecesL a with
      | none => rfl
      | some y => cases piecesL b <;> simp
theorem drop_some' {α : Type} {l : List α} {k : Nat} {x : α} (h : l[k]? = some x) : l.drop k = x :: l.drop (k + 1) := by
  obtain ⟨hk, rfl⟩ := List.getElem?_eq_some_iff.1 h
  exact List.drop_eq_getElem_cons hk
theorem pieces_none {l : List (List UInt8)} {k : Nat} {p : List UInt8} (hp : l[k]? = some p) (h : pieceL p = none) : piecesL l = none := by
  have hk := (List.getElem?_eq_some_iff.1 hp).1
  have e : l = l.take k ++ (p :: l.drop (k + 1)) := by rw [← drop_some' hp, List.take_append_drop]
  rw [e, piecesL_app, piecesL, h]
  cases piecesL (l.take k) <;> rfl
theorem pieces_snoc {l : List (List UInt8)} {k : Nat} {p : List UInt8} {d : List St} {x : St} (hp : l[k]? = some p) (hd : piecesL (l.take k) = some d) (h : pieceL p = some x) : piecesL (l.take (k + 1)) = some (d ++ [x]) := by
  rw [List.take_add_one, hp, piecesL_app, hd]
  simp [piecesL, h]
end Go.Proofs.YtnmnmkdmnohbmaaDoor
