/- Several texts in one: Helper text: what the arguments of the laws read as: paths. Paths as arguments, opened, with their bulk. Helper text: the walk over mark of the statements: a text that no other place has. Conditions: none. -/
import Derived.Test.YtnmnmkdmnohbmaaGreatDoorPackA
import Derived.Deep.Slices
import Derived.ChangeOld
import Derived.ProofKit
import Derived.Test.YtnmnmkdmnohbmaaGreatDoorPathLaw
import Derived.Test.YtnmnmkdmnohbmaaGreatDoorRows
import Derived.Deep.Strs
import Derived.Test.YtnmnmkdmnohbmaaGreatDoorPackJ
namespace Go.Proofs.YtnmnmkdmnohbmaaGreatDoor
open Go.RowKit Go.Deep
section
variable {H : Type} {enc : TypeId × Value → H} {w : World} {base : Nat} {spare : Nat → Bool} {held : Bool}

instance : Inhabited St := ⟨⟨ByteArray.empty, 0, false⟩⟩

theorem len3 {α : Type} {l : List α} (h : l.length = 3) : ∃ a b c, l = [a, b, c] := by
  match l, h with
  | [a, b, c], _ => exact ⟨a, b, c, rfl⟩

theorem open_step {fuel : Nat} {cs : List Value} {x : DataW H × List MemPlace} (h : DataW.trod enc Tryz.prog w base spare held fuel 69 cs = some x) : ∃ s : St, cs = s.cells.toList := by
  obtain ⟨xs, n, rfl, _, hlen, hxs, hf⟩ := DataW.trod_struct Tryz.underlying69 h
  have hc : Tryz.prog.cellsOf 69 = 3 := by kernel_rfl
  have h1 : Tryz.prog.cellsOf 9 = 1 := by kernel_rfl
  have h2 : Tryz.prog.cellsOf 3 = 1 := by kernel_rfl
  have h3 : Tryz.prog.cellsOf 4 = 1 := by kernel_rfl
  rw [hc] at hlen
  obtain ⟨a, b, c, rfl⟩ := len3 hlen
  obtain ⟨y0, y1, y2, rfl⟩ := len3 hxs
  have f0 := hf 0 _ rfl
  have f1 := hf 1 _ rfl
  have f2 := hf 2 _ rfl
  simp [h1, h2, h3] at f0 f1 f2
  obtain ⟨s, e0, _, _⟩ := DataW.trod_string Tryz.underlying9 f0
  obtain ⟨i, e1, _, _⟩ := DataW.trod_int Tryz.underlying3 f1
  obtain ⟨t, e2, _⟩ := DataW.trod_bool Tryz.underlying4 f2
  simp at e0 e1 e2
  subst e0 e1 e2
  exact ⟨⟨s, i, t⟩, rfl⟩

theorem open_steps {fuel : Nat} {cs : List Value} {x : DataW H × List MemPlace} (h : DataW.trod enc Tryz.prog w base spare held fuel 30 cs = some x) :
    ∃ (p : Option Addr) (l : List St) (c : Nat), cs = [.slice p l.length c] ∧ l.length ≤ c ∧ c ≤ maxLen ∧ StepsAt w.heap.size w p l := by
  rcases open_slice Tryz.underlying30 h with ⟨rfl, _⟩ | ⟨a, len, cap, m, n, D, Pl, rfl, hb, hl, hm, hmm, _, hx⟩
  · exact ⟨none, [], 0, rfl, Nat.le_refl _, by decide, .inl rfl⟩
  · have hc : Tryz.prog.cellsOf 69 = 3 := by kernel_rfl
    rw [hc] at hx
    have hlm : len ≤ m := by rw [hmm]; split <;> omega
    obtain ⟨f, hf⟩ := choose_lt (α := St) (n := len) (p := fun i s => w.cells? base (a.add (i * 3)) 3 = some s.cells.toList) (fun i hi => by
      obtain ⟨cs', h1, h2⟩ := hx i (by omega)
      obtain ⟨s, rfl⟩ := open_step h2
      exact ⟨s, h1⟩)
    refine ⟨some a, (List.range len).map f, cap, by simp, by simpa using hl, hm, ?_⟩
    by_cases h0 : len = 0
    · exact .inl (by simp [h0])
    · have hs : a.spot = none := by
        obtain ⟨_, _, hcell⟩ := World.cells?_some (hf 0 (by omega))
        have := hcell 0 (by omega)
        simp [St.cells] at this
        simpa [Addr.add] using World.cell?_spot this
      have hlt : a.block < w.heap.size := by
        obtain ⟨_, _, hcell⟩ := World.cells?_some (hf 0 (by omega))
        have := hcell 0 (by omega)
        simp [St.cells] at this
        simpa [Addr.add] using World.block_lt_of_cell? w _ this
      obtain ⟨b, o, sp⟩ := a
      obtain rfl : sp = none := hs
      refine .inr ⟨b, o, rfl, hlt, fun i s hs => ?_⟩
      have hi : i < len := by
        have := (List.getElem?_eq_some_iff.1 hs).1
        simpa using this
      obtain rfl : f i = s := by simpa [hi] using hs
      obtain ⟨_, _, hcell⟩ := World.cells?_some (hf i hi)
      have c0 := hcell 0 (by omega)
      have c1 := hcell 1 (by omega)
      have c2 := hcell 2 (by omega)
      have e0 : (((⟨b, o, none⟩ : Addr).add (i * 3)).add 0) = ⟨b, o + i * 3, none⟩ := by unfold Addr.add; by_cases hz : i * 3 = 0 <;> simp [hz]
      have e1 : (((⟨b, o, none⟩ : Addr).add (i * 3)).add 1) = ⟨b, o + i * 3 + 1, none⟩ := by unfold Addr.add; by_cases hz : i * 3 = 0 <;> simp [hz]
      have e2 : (((⟨b, o, none⟩ : Addr).add (i * 3)).add 2) = ⟨b, o + i * 3 + 2, none⟩ := by unfold Addr.add; by_cases hz : i * 3 = 0 <;> simp [hz]
      rw [e0] at c0
      rw [e1] at c1
      rw [e2] at c2
      exact ⟨c0, c1, c2⟩
end
end Go.Proofs.YtnmnmkdmnohbmaaGreatDoor

namespace Go.Proofs.YtnmnmkdmnohbmaaGreatDoor
open Go.RowKit Go.Deep Go.ChangeShapes

theorem bulkP_pos {H : Type} (d : DataW H) : 1 ≤ Rows.uptoBulk d := by
  match d with
  | .lit x => cases x <;> simp [Rows.uptoBulk]
  | .nil | .ptr _ | .slice _ _ | .agg _ | .iface _ _ | .map _ | .held _ => simp [Rows.uptoBulk]

def inI (i : Int) : Prop := -9223372036854775808 ≤ i ∧ i ≤ 9223372036854775807
/-- What a path weighs. -/
def wtS (s : St) : Nat := s.nm.data.toList.length + 4
def wtP (l : List St) : Nat := (l.map wtS).sum
theorem wtP_cons (s : St) (l : List St) : wtP (s :: l) = wtS s + wtP l := by simp [wtP]
theorem wtP_len (l : List St) : l.length ≤ wtP l := by
  induction l with
  | nil => simp
  | cons s l ih => rw [wtP_cons]; unfold wtS; simp; omega

theorem escB_len (l : List UInt8) : (l.flatMap escB).length ≤ 2 * l.length := by
  induction l with
  | nil => simp
  | cons b l ih =>
    have : (escB b).length ≤ 2 := by unfold escB; split; · simp
                                     · split <;> simp
    simp only [List.flatMap_cons, List.length_append, List.length_cons]
    omega
theorem nDig_le {u : Nat} (h : u < 10 ^ 20) : (Lib.decDigits u).length ≤ 20 := by
  rw [Lib.decDigits_length]
  rcases Nat.lt_or_ge (Lib.nDigits u) 21 with h1 | h1
  · omega
  · exfalso
    have : ∀ (k u : Nat), k + 2 ≤ Lib.nDigits u → 10 ^ (k + 1) ≤ u := by
      intro k
      induction k with
      | zero =>
        intro u hu
        by_cases h : u < 10
        · rw [Lib.nDigits_small h] at hu; omega
        · simp; omega
      | succ k ih =>
        intro u hu
        by_cases h : u < 10
        · rw [Lib.nDigits_small h] at hu; omega
        · rw [Lib.nDigits_big h] at hu
          have := ih (u / 10) (by omega)
          have h2 : 10 ^ (k + 1 + 1) = 10 ^ (k + 1) * 10 := Nat.pow_succ ..
          omega
    have := this 19 u (by omega)
    omega
theorem itoa_len {i : Int} (h : inI i) : (Lib.itoa i).length ≤ 21 := by
  obtain ⟨h0, h1⟩ := h
  unfold Lib.itoa
  split
  · have := nDig_le (u := i.natAbs) (by omega)
    simp only [List.length_cons]
    omega
  · have := nDig_le (u := i.toNat) (by omega)
    omega
theorem stepT_len {s : St} (h : inI s.ix) : (stepT s).length + 1 ≤ 6 * wtS s := by
  unfold stepT wtS
  split
  · have := itoa_len h
    omega
  · have := escB_len s.nm.data.toList
    unfold nameT
    split <;> simp only [List.length_append, List.length_cons, List.length_nil] <;> omega
theorem pathT_len {l : List St} (h : ∀ s ∈ l, inI s.ix) : (pathT l).length ≤ 6 * wtP l := by
  induction l with
  | nil => simp [pathT]
  | cons s l ih =>
    have h1 := stepT_len (h s List.mem_cons_self)
    have h2 := ih (fun x hx => h x (List.mem_cons_of_mem _ hx))
    have e : pathT (s :: l) = 47 :: stepT s ++ pathT l := rfl
    rw [wtP_cons, e]
    simp only [List.cons_append, List.length_cons, List.length_append]
    omega

section
variable {H : Type} {enc : TypeId × Value → H} {w : World} {base : Nat} {spare : Nat → Bool} {held : Bool}

set_option maxRecDepth 100000 in
theorem open_stepP {fuel : Nat} {cs : List Value} {x : DataW H × List MemPlace} (h : DataW.trod enc Tryz.prog w base spare held fuel 69 cs = some x) : ∃ s : St, cs = s.cells.toList ∧ inI s.ix ∧ wtS s ≤ Rows.uptoBulk x.1 := by
  obtain ⟨y0, y1, y2, n, rfl, hlen, f0, f1, f2⟩ := trod_struct3 Tryz.underlying69 h
  have hc : Tryz.prog.cellsOf 69 = 3 := by kernel_rfl
  have h1 : Tryz.prog.cellsOf 9 = 1 := by kernel_rfl
  have h2 : Tryz.prog.cellsOf 3 = 1 := by kernel_rfl
  have h3 : Tryz.prog.cellsOf 4 = 1 := by kernel_rfl
  rw [hc] at hlen
  obtain ⟨a, b, c, rfl⟩ := len3 hlen
  simp [h1, h2, h3] at f0 f1 f2
  obtain ⟨s, e0, d0, _⟩ := DataW.trod_string Tryz.underlying9 f0
  obtain ⟨i, e1, d1, hw⟩ := DataW.trod_int Tryz.underlying3 f1
  obtain ⟨t, e2, d2⟩ := DataW.trod_bool Tryz.underlying4 f2
  simp at e0 e1 e2
  subst e0 e1 e2 d0 d1 d2
  refine ⟨⟨s, i, t⟩, rfl, by simpa [Lit.wf, IntKind.min, IntKind.max, IntKind.signed, IntKind.bits, inI] using hw, ?_⟩
  simp only [wtS, Rows.uptoBulk, Rows.uptoBulkAll]
  omega

theorem sum_range_le {f g : Nat → Nat} : ∀ (n : Nat), (∀ i, i < n → f i ≤ g i) → ((List.range n).map f).sum ≤ ((List.range n).map g).sum
  | 0, _ => by simp
  | n + 1, h => by
    have := sum_range_le n (fun i hi => h i (by omega))
    have := h n (by omega)
    simp only [List.range_succ, List.map_append, List.sum_append, List.map_cons, List.map_nil, List.sum_cons, List.sum_nil]
    omega
theorem bulk_sum (ds : List (DataW H)) : (ds.map Rows.uptoBulk).sum ≤ Rows.uptoBulkAll ds := by
  induction ds with
  | nil => simp [Rows.uptoBulkAll]
  | cons d r ih => simp only [Rows.uptoBulkAll, List.map_cons, List.sum_cons]; omega

set_option maxRecDepth 100000 in
theorem open_path {fuel : Nat} {cs : List Value} {x : DataW H × List MemPlace} (h : DataW.trod enc Tryz.prog w base spare held fuel 30 cs = some x) :
    ∃ (p : Option Addr) (l : List St) (c : Nat), cs = [.slice p l.length c] ∧ l.length ≤ c ∧ c ≤ maxLen ∧ StepsAt w.heap.size w p l ∧ (∀ s ∈ l, inI s.ix) ∧ wtP l ≤ Rows.uptoBulk x.1 := by
  rcases open_slice Tryz.underlying30 h with ⟨rfl, _⟩ | ⟨a, len, cap, m, n, D, Pl, rfl, hb, hl, hm, hmm, hx1, hx⟩
  · exact ⟨none, [], 0, rfl, Nat.le_refl _, by decide, .inl rfl, (by simp), (by simp [wtP])⟩
  · have hc : Tryz.prog.cellsOf 69 = 3 := by kernel_rfl
    rw [hc] at hx
    have hlm : len ≤ m := by rw [hmm]; split <;> omega
    obtain ⟨f, hf⟩ := choose_lt (α := St) (n := len) (p := fun i s => w.cells? base (a.add (i * 3)) 3 = some s.cells.toList ∧ inI s.ix ∧ wtS s ≤ Rows.uptoBulk (D i)) (fun i hi => by
      obtain ⟨cs', h1, h2⟩ := hx i (by omega)
      obtain ⟨s, rfl, h3, h4⟩ := open_stepP h2
      exact ⟨s, h1, h3, h4⟩)
    refine ⟨some a, (List.range len).map f, cap, by simp, by simpa using hl, hm, ?_, ?_, ?_⟩
    · by_cases h0 : len = 0
      · exact .inl (by simp [h0])
      · have hs : a.spot = none := by
          obtain ⟨_, _, hcell⟩ := World.cells?_some (hf 0 (by omega)).1
          have := hcell 0 (by omega)
          simp [St.cells] at this
          simpa [Addr.add] using World.cell?_spot this
        have hlt : a.block < w.heap.size := by
          obtain ⟨_, _, hcell⟩ := World.cells?_some (hf 0 (by omega)).1
          have := hcell 0 (by omega)
          simp [St.cells] at this
          simpa [Addr.add] using World.block_lt_of_cell? w _ this
        obtain ⟨b, o, sp⟩ := a
        obtain rfl : sp = none := hs
        refine .inr ⟨b, o, rfl, hlt, fun i s hs => ?_⟩
        have hi : i < len := by
          have := (List.getElem?_eq_some_iff.1 hs).1
          simpa using this
        obtain rfl : f i = s := by simpa [hi] using hs
        obtain ⟨_, _, hcell⟩ := World.cells?_some (hf i hi).1
        have c0 := hcell 0 (by omega)
        have c1 := hcell 1 (by omega)
        have c2 := hcell 2 (by omega)
        have e0 : (((⟨b, o, none⟩ : Addr).add (i * 3)).add 0) = ⟨b, o + i * 3, none⟩ := by unfold Addr.add; by_cases hz : i * 3 = 0 <;> simp [hz]
        have e1 : (((⟨b, o, none⟩ : Addr).add (i * 3)).add 1) = ⟨b, o + i * 3 + 1, none⟩ := by unfold Addr.add; by_cases hz : i * 3 = 0 <;> simp [hz]
        have e2 : (((⟨b, o, none⟩ : Addr).add (i * 3)).add 2) = ⟨b, o + i * 3 + 2, none⟩ := by unfold Addr.add; by_cases hz : i * 3 = 0 <;> simp [hz]
        rw [e0] at c0
        rw [e1] at c1
        rw [e2] at c2
        exact ⟨c0, c1, c2⟩
    · intro s hs
      obtain ⟨i, hi, rfl⟩ := List.mem_map.1 hs
      exact (hf i (by simpa using hi)).2.1
    · have h1 := sum_range_le (f := fun i => wtS (f i)) (g := fun i => Rows.uptoBulk (D i)) len (fun i hi => (hf i hi).2.2)
      have h2 := bulk_sum ((List.range len).map D)
      rw [hx1]
      simp only [Rows.uptoBulk]
      unfold wtP
      rw [List.map_map] at h2 ⊢
      simp only [Function.comp_def] at *
      omega
end
end Go.Proofs.YtnmnmkdmnohbmaaGreatDoor

namespace Go.Proofs.YtnmnmkdmnohbmaaGreatDoor
open Go Go.RowKit

/-- The text of a place: the number of the list and the number in it. -/
def markB (k i : Int) : ByteArray := ⟨#[109, 97, 114, 107, 32]⟩ ++ ⟨(Lib.itoa k).toArray⟩ ++ ⟨#[46]⟩ ++ ⟨(Lib.itoa i).toArray⟩

theorem itoa_B (n : Int) (hn : inI n) (w : World) (htab : Lib.TabIs Tryz.prog w "internal/strconv.uint64pow10" .u64 Lib.pow10Tab) :
    Calls Tryz.prog 47 #[.int .i64 n] w (RetB (.string ⟨(Lib.itoa n).toArray⟩) w) :=
  (Tryz.strconv_Itoa n hn.1 hn.2 w htab).mono fun e w' ⟨h1, kk, os, h2⟩ => ⟨h1, by rw [h2]; exact below_grew _ _ _⟩

set_option maxRecDepth 100000 in
set_option maxHeartbeats 1000000 in
theorem mark_any (k i : Int) (hk : inI k) (hi : inI i) (w : World) (htab : Lib.TabIs Tryz.prog w "internal/strconv.uint64pow10" .u64 Lib.pow10Tab) :
    Calls Tryz.prog 60 #[.int .i64 k, .int .i64 i] w (RetB (.string (markB k i)) w) := by
  have HT := Lib.hid (Lib.tabBelow_of_tabIs htab)
  have l1 := itoa_len hk
  have l2 := itoa_len hi
  have HK := Lib.hid hk
  have HI := Lib.hid hi
  have hsz : ∀ l : List UInt8, (⟨l.toArray⟩ : ByteArray).size = l.length := fun l => by simp [ByteArray.size]
  have s1 : (⟨(Lib.itoa k).toArray⟩ : ByteArray).size ≤ 30 := by rw [hsz]; omega
  have s2 : (⟨(Lib.itoa i).toArray⟩ : ByteArray).size ≤ 30 := by rw [hsz]; omega
  have HM : Hid (markB k i = ⟨#[109, 97, 114, 107, 32]⟩ ++ ⟨(Lib.itoa k).toArray⟩ ++ ⟨#[46]⟩ ++ ⟨(Lib.itoa i).toArray⟩) := Lib.hid rfl
  have C1 := Lib.hid (fun w' (h : Below w.heap.size w w') => itoa_B k hk w' (HT.out _ h))
  have C2 := Lib.hid (fun w' (h : Below w.heap.size w w') => itoa_B i hi w' (HT.out _ h))
  generalize (⟨(Lib.itoa k).toArray⟩ : ByteArray) = sk at *
  generalize (⟨(Lib.itoa i).toArray⟩ : ByteArray) = si at *
  clear hsz l1 l2 hk hi htab
  have tk := trivial
  have tk2 := trivial
  go_enter Tryz.func60, Tryz.ntmps60
  go_wp2_with (go_at_call 47; first
    | (clear tk; refine (C1.out _ (Below.refl _ _)).mono ?_; rintro e w1 ⟨rfl, hb1⟩)
    | (clear tk2; refine (C2.out _ hb1).mono ?_; rintro e w2 ⟨rfl, hb2⟩))
  go_ret
  rw [HM.out]
  exact ⟨rfl, hb1.trans (hb2.mono hb1.size)⟩
end Go.Proofs.YtnmnmkdmnohbmaaGreatDoor
