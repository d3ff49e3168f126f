/- Helper text: what the arguments of the laws read as: paths. Conditions: none. -/
import Derived.Test.YtnmnmkdmnohbmaaDoorUnder
import Derived.Deep.Slices
import Derived.ChangeOld
import Derived.ProofKit
namespace Go.Proofs.YtnmnmkdmnohbmaaDoor
open Go.RowKit Go.Deep
section
variable {H : Type} {enc : TypeId × Value → H} {w : World} {base : Nat} {spare : Nat → Bool} {held : Bool}

instance : Inhabited St := ⟨⟨ByteArray.empty, 0, false⟩⟩

theorem len3 {α : Type} {l : List α} (h : l.length = 3) : ∃ a b c, l = [a, b, c] := by
  match l, h with
  | [a, b, c], _ => exact ⟨a, b, c, rfl⟩

theorem open_step {fuel : Nat} {cs : List Value} {x : DataW H × List MemPlace} (h : DataW.trod enc Tryd.prog w base spare held fuel 34 cs = some x) : ∃ s : St, cs = s.cells.toList := by
  obtain ⟨xs, n, rfl, _, hlen, hxs, hf⟩ := DataW.trod_struct Tryd.underlying34 h
  have hc : Tryd.prog.cellsOf 34 = 3 := by kernel_rfl
  have h1 : Tryd.prog.cellsOf 9 = 1 := by kernel_rfl
  have h2 : Tryd.prog.cellsOf 3 = 1 := by kernel_rfl
  have h3 : Tryd.prog.cellsOf 4 = 1 := by kernel_rfl
  rw [hc] at hlen
  obtain ⟨a, b, c, rfl⟩ := len3 hlen
  obtain ⟨y0, y1, y2, rfl⟩ := len3 hxs
  have f0 := hf 0 _ rfl
  have f1 := hf 1 _ rfl
  have f2 := hf 2 _ rfl
  simp [h1, h2, h3] at f0 f1 f2
  obtain ⟨s, e0, _, _⟩ := DataW.trod_string Tryd.underlying9 f0
  obtain ⟨i, e1, _, _⟩ := DataW.trod_int Tryd.underlying3 f1
  obtain ⟨t, e2, _⟩ := DataW.trod_bool Tryd.underlying4 f2
  simp at e0 e1 e2
  subst e0 e1 e2
  exact ⟨⟨s, i, t⟩, rfl⟩

theorem open_steps {fuel : Nat} {cs : List Value} {x : DataW H × List MemPlace} (h : DataW.trod enc Tryd.prog w base spare held fuel 29 cs = some x) :
    ∃ (p : Option Addr) (l : List St) (c : Nat), cs = [.slice p l.length c] ∧ l.length ≤ c ∧ c ≤ maxLen ∧ StepsAt w.heap.size w p l := by
  rcases open_slice Tryd.underlying29 h with ⟨rfl, _⟩ | ⟨a, len, cap, m, n, D, Pl, rfl, hb, hl, hm, hmm, _, hx⟩
  · exact ⟨none, [], 0, rfl, Nat.le_refl _, by decide, .inl rfl⟩
  · have hc : Tryd.prog.cellsOf 34 = 3 := by kernel_rfl
    rw [hc] at hx
    have hlm : len ≤ m := by rw [hmm]; split <;> omega
    obtain ⟨f, hf⟩ := choose_lt (α := St) (n := len) (p := fun i s => w.cells? base (a.add (i * 3)) 3 = some s.cells.toList) (fun i hi => by
      obtain ⟨cs', h1, h2⟩ := hx i (by omega)
      obtain ⟨s, rfl⟩ := open_step h2
      exact ⟨s, h1⟩)
    refine ⟨some a, (List.range len).map f, cap, by simp, by simpa using hl, hm, ?_⟩
    by_cases h0 : len = 0
    · exact .inl (by simp [h0])
    · have hs : a.spot = none := by
        obtain ⟨_, _, hcell⟩ := World.cells?_some (hf 0 (by omega))
        have := hcell 0 (by omega)
        simp [St.cells] at this
        simpa [Addr.add] using World.cell?_spot this
      have hlt : a.block < w.heap.size := by
        obtain ⟨_, _, hcell⟩ := World.cells?_some (hf 0 (by omega))
        have := hcell 0 (by omega)
        simp [St.cells] at this
        simpa [Addr.add] using World.block_lt_of_cell? w _ this
      obtain ⟨b, o, sp⟩ := a
      obtain rfl : sp = none := hs
      refine .inr ⟨b, o, rfl, hlt, fun i s hs => ?_⟩
      have hi : i < len := by
        have := (List.getElem?_eq_some_iff.1 hs).1
        simpa using this
      obtain rfl : f i = s := by simpa [hi] using hs
      obtain ⟨_, _, hcell⟩ := World.cells?_some (hf i hi)
      have c0 := hcell 0 (by omega)
      have c1 := hcell 1 (by omega)
      have c2 := hcell 2 (by omega)
      have e0 : (((⟨b, o, none⟩ : Addr).add (i * 3)).add 0) = ⟨b, o + i * 3, none⟩ := by unfold Addr.add; by_cases hz : i * 3 = 0 <;> simp [hz]
      have e1 : (((⟨b, o, none⟩ : Addr).add (i * 3)).add 1) = ⟨b, o + i * 3 + 1, none⟩ := by unfold Addr.add; by_cases hz : i * 3 = 0 <;> simp [hz]
      have e2 : (((⟨b, o, none⟩ : Addr).add (i * 3)).add 2) = ⟨b, o + i * 3 + 2, none⟩ := by unfold Addr.add; by_cases hz : i * 3 = 0 <;> simp [hz]
      rw [e0] at c0
      rw [e1] at c1
      rw [e2] at c2
      exact ⟨c0, c1, c2⟩
end
end Go.Proofs.YtnmnmkdmnohbmaaDoor
