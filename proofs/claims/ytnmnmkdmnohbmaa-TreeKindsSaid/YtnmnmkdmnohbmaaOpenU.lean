/- A list of small numbers, opened. Conditions: none. -/
import Derived.Test.YtnmnmkdmnohbmaaOpen
import Derived.ChangeSlices
namespace Go.Proofs.Ytnmnmkdmnohbmaa
open Go.ChangeShapes Go.WideShapes Go.ChangeAt Go.RowKit

/-- Where a list of small numbers lies. -/
def NumsAt (B : Nat) (w : World) (p : Option Addr) (l : List Int) : Prop :=
  (l = [] ∨ ∃ b o, p = some ⟨b, o, none⟩ ∧ b < B ∧ ∀ i k, l[i]? = some k → w.cell? ⟨b, o + i, none⟩ = some (.int .u16 k)) ∧ ∀ k ∈ l, 0 ≤ k ∧ k < 65536

section
variable {H : Type} {enc : TypeId × Value → H} {w : World} {base : Nat} {spare : Nat → Bool} {held : Bool}

theorem open_uint16s {fuel : Nat} {cs : List Value} {x : DataW H × List MemPlace} (h : DataW.trod enc Try.prog w base spare held fuel 23 cs = some x) :
    ∃ (p : Option Addr) (l : List Int) (c : Nat), cs = [.slice p l.length c] ∧ l.length ≤ c ∧ c ≤ maxLen ∧ NumsAt w.heap.size w p l := by
  rcases ChangeShapes.open_ints Try.underlying23 Try.underlying38 (by kernel_rfl) h with ⟨rfl, _⟩ | ⟨a, len, cap, zs, rfl, hb, hl, hm, hlen, _, hc, hw⟩
  · exact ⟨none, [], 0, rfl, Nat.le_refl _, by decide, .inl rfl, by simp⟩
  · have hle : len ≤ zs.length := by rw [hlen]; split <;> omega
    refine ⟨some a, zs.take len, cap, by simp [Nat.min_eq_left hle], by simp; omega, hm, ?_, fun k hk => ?_⟩
    · by_cases h0 : len = 0
      · exact .inl (by simp [h0])
      · have h00 := hc 0 (by omega)
        have hs : a.spot = none := by simpa [Addr.add] using World.cell?_spot h00
        have hlt : a.block < w.heap.size := by simpa [Addr.add] using World.block_lt_of_cell? w _ h00
        obtain ⟨b, o, sp⟩ := a
        obtain rfl : sp = none := hs
        refine .inr ⟨b, o, rfl, hlt, fun i k hk => ?_⟩
        rw [List.getElem?_take] at hk
        split at hk
        · have := hc i (by omega)
          have e0 : ((⟨b, o, none⟩ : Addr).add i) = ⟨b, o + i, none⟩ := by unfold Addr.add; by_cases hz : i = 0 <;> simp [hz]
          rw [e0] at this
          rw [this]
          simp [List.getD, hk]
        · cases hk
    · have := hw k (List.mem_of_mem_take hk)
      have h2 : (decide ((0 : Int) ≤ k) && decide (k ≤ 65535)) = true := this
      simp only [Bool.and_eq_true, decide_eq_true_eq] at h2
      omega
end
end Go.Proofs.Ytnmnmkdmnohbmaa
