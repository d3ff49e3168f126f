/- Helper text: what an argument that is a script of calls reads as. Conditions: none. -/
import Derived.Test.YtnmnmkdmnohbmaaDoorPackG
import Derived.Test.YtnmnmkdmnohbmaaDoorOpenV
import Derived.Test.YtnmnmkdmnohbmaaDoorTabRow
namespace Go.Proofs.YtnmnmkdmnohbmaaDoor
open Go.RowKit Go.Deep
/-- Where a script of calls lies. -/
def OpsAt (B : Nat) (w : World) (p : Option Addr) (l : List (Int × Int × Int)) : Prop :=
  l = [] ∨ ∃ b o, p = some ⟨b, o, none⟩ ∧ b < B ∧ ∀ (i : Nat) (s : Int × Int × Int), l[i]? = some s → w.cell? ⟨b, o + i * 3, none⟩ = some (.int .i64 s.1) ∧ w.cell? ⟨b, o + i * 3 + 1, none⟩ = some (.int .i64 s.2.1) ∧ w.cell? ⟨b, o + i * 3 + 2, none⟩ = some (.int .i64 s.2.2)
section
variable {H : Type} {enc : TypeId × Value → H} {w : World} {base : Nat} {spare : Nat → Bool} {held : Bool}

set_option maxRecDepth 100000 in
theorem open_op {fuel : Nat} {cs : List Value} {x : DataW H × List MemPlace} (h : DataW.trod enc Tryd.prog w base spare held fuel 63 cs = some x) :
    ∃ s : Int × Int × Int, cs = [.int .i64 s.1, .int .i64 s.2.1, .int .i64 s.2.2] ∧ inI s.2.1 ∧ inI s.2.2 := by
  obtain ⟨xs, n, rfl, _, hlen, hxs, hf⟩ := DataW.trod_struct Tryd.underlying63 h
  have hc : Tryd.prog.cellsOf 63 = 3 := by kernel_rfl
  have h2 : Tryd.prog.cellsOf 3 = 1 := by kernel_rfl
  rw [hc] at hlen
  obtain ⟨a, b, c, rfl⟩ := len3 hlen
  obtain ⟨y0, y1, y2, rfl⟩ := len3 hxs
  have f0 := hf 0 _ rfl
  have f1 := hf 1 _ rfl
  have f2 := hf 2 _ rfl
  simp [h2] at f0 f1 f2
  obtain ⟨i, e0, _, w0⟩ := DataW.trod_int Tryd.underlying3 f0
  obtain ⟨j, e1, _, w1⟩ := DataW.trod_int Tryd.underlying3 f1
  obtain ⟨k, e2, _, w2⟩ := DataW.trod_int Tryd.underlying3 f2
  simp at e0 e1 e2
  subst e0 e1 e2
  have hin : ∀ z : Int, (Lit.int .i64 z).wf = true → inI z := fun z hz => by
    have h2 : (decide ((-9223372036854775808 : Int) ≤ z) && decide (z ≤ 9223372036854775807)) = true := hz
    simp only [Bool.and_eq_true, decide_eq_true_eq] at h2
    exact h2
  exact ⟨(i, j, k), rfl, hin _ w1, hin _ w2⟩

set_option maxRecDepth 100000 in
theorem open_ops {fuel : Nat} {cs : List Value} {x : DataW H × List MemPlace} (h : DataW.trod enc Tryd.prog w base spare held fuel 54 cs = some x)
    (hz : ∀ n ∈ x.1.weights Tryd.prog 54, n ≤ reachBytes) :
    ∃ (p : Option Addr) (l : List (Int × Int × Int)) (c : Nat), cs = [.slice p l.length c] ∧ OpsAt w.heap.size w p l ∧ (∀ s ∈ l, inI s.2.1 ∧ inI s.2.2) ∧ l.length < 8000000000000 := by
  rcases DataW.trod_slice Tryd.underlying54 h with ⟨rfl, _⟩ | ⟨a, len, cap, elems, rest, m, hnm, rfl, hy, hb, hl, hm, hel, hget, _, _⟩
  · exact ⟨none, [], 0, rfl, .inl rfl, by simp, by simp⟩
  · rw [hy] at hz
    obtain ⟨zl, _⟩ := weights_slice Tryd.underlying54 hz
    have bo : Tryd.prog.bytesOf 63 = 24 := by kernel_rfl
    have hc : Tryd.prog.cellsOf 63 = 3 := by kernel_rfl
    rw [bo] at zl
    rw [hc] at hget
    have hlen : len < 8000000000000 := by
      simp only [List.length_map, hel] at zl
      have : len * 24 ≤ reachBytes := Nat.le_trans (Nat.mul_le_mul_right _ (Nat.le_add_right _ _)) zl
      unfold reachBytes at this
      omega
    obtain ⟨F, hF⟩ := choose_lt (α := Int × Int × Int) (n := len) (p := fun i s => w.cells? base (a.add (i * 3)) 3 = some [.int .i64 s.1, .int .i64 s.2.1, .int .i64 s.2.2] ∧ inI s.2.1 ∧ inI s.2.2) (fun i hi => by
      have hg := hget i hi
      obtain ⟨el, hel'⟩ : ∃ el, elems[i]? = some el := ⟨elems[i], by simp [hel, hi]⟩
      rw [hel', Option.bind_eq_some_iff] at hg
      obtain ⟨cs', hc', ht⟩ := hg
      obtain ⟨s, rfl, i1, i2⟩ := open_op ht
      exact ⟨s, hc', i1, i2⟩)
    have hin : ∀ s ∈ (List.range len).map F, inI s.2.1 ∧ inI s.2.2 := fun s hs => by
      obtain ⟨i, hi, rfl⟩ := List.mem_map.1 hs
      exact (hF i (by simpa using hi)).2
    refine ⟨some a, (List.range len).map F, cap, by simp, ?_, hin, by simpa using hlen⟩
    by_cases h0 : len = 0
    · exact .inl (by simp [h0])
    · obtain ⟨_, _, hcell⟩ := World.cells?_some (hF 0 (by omega)).1
      have h00 := hcell 0 (by omega)
      simp at h00
      have hs : a.spot = none := by simpa [Addr.add] using World.cell?_spot h00
      have hlt : a.block < w.heap.size := by simpa [Addr.add] using World.block_lt_of_cell? w _ h00
      clear hcell h00
      obtain ⟨b, o, sp⟩ := a
      obtain rfl : sp = none := hs
      refine .inr ⟨b, o, rfl, hlt, fun i s hs => ?_⟩
      have hi : i < len := by
        have := (List.getElem?_eq_some_iff.1 hs).1
        simpa using this
      obtain rfl : F i = s := by simpa [hi] using hs
      obtain ⟨_, _, hcell⟩ := World.cells?_some (hF i hi).1
      have c0 := hcell 0 (by omega)
      have c1 := hcell 1 (by omega)
      have c2 := hcell 2 (by omega)
      have e0 : (((⟨b, o, none⟩ : Addr).add (i * 3)).add 0) = ⟨b, o + i * 3, none⟩ := by unfold Addr.add; by_cases hz : i * 3 = 0 <;> simp [hz]
      have e1 : (((⟨b, o, none⟩ : Addr).add (i * 3)).add 1) = ⟨b, o + i * 3 + 1, none⟩ := by unfold Addr.add; by_cases hz : i * 3 = 0 <;> simp [hz]
      have e2 : (((⟨b, o, none⟩ : Addr).add (i * 3)).add 2) = ⟨b, o + i * 3 + 2, none⟩ := by unfold Addr.add; by_cases hz : i * 3 = 0 <;> simp [hz]
      rw [e0] at c0
      rw [e1] at c1
      rw [e2] at c2
      exact ⟨c0, c1, c2⟩
end
end Go.Proofs.YtnmnmkdmnohbmaaDoor
