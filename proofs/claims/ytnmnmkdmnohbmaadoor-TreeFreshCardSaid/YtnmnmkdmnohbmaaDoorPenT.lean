/- Helper text: two boxes overwritten by copies, two boxes more; what the walk over the law keeps of its boxes. Conditions: none. -/
import Derived.Test.YtnmnmkdmnohbmaaDoorPackC
import Derived.Test.YtnmnmkdmnohbmaaDoorTwoF
namespace Go.Proofs.YtnmnmkdmnohbmaaDoor
open Go Go.RowKit

theorem pens_two {W : World} {B g1 g2 : Nat} {c1 c2 : Array Value} {x y : V} {csx csy : Array Value} {bx bz : List Nat} (h1 : W.heap[g1]? = some (.cells c1 27 (0, 0))) (h2 : W.heap[g2]? = some (.cells c2 27 (0, 0))) (hg : g1 ≠ g2) (hB1 : B ≤ g1) (hB2 : B ≤ g2)
    (hx : OwnV W x csx bx) (hy : OwnV W y csy bz) (nx : bx.Nodup) (ny : bz.Nodup) (rx : ∀ b ∈ bx, (B ≤ b ∧ b < W.heap.size) ∧ b ≠ g1 ∧ b ≠ g2) (ry : ∀ b ∈ bz, (B ≤ b ∧ b < W.heap.size) ∧ b ≠ g1 ∧ b ≠ g2) (dxy : ∀ b ∈ bx, b ∉ bz) :
    Pens B ((W.setRow g1 csx).setRow g2 csy) [⟨g1, x, csx, bx⟩, ⟨g2, y, csy, bz⟩] := by
  have l1 : g1 < W.heap.size := (Array.getElem?_eq_some_iff.1 h1).1
  have l2 : g2 < W.heap.size := (Array.getElem?_eq_some_iff.1 h2).1
  have s : ((W.setRow g1 csx).setRow g2 csy).heap.size = W.heap.size := by rw [setRow_size, setRow_size]
  have e : pensBlocks [⟨g1, x, csx, bx⟩, ⟨g2, y, csy, bz⟩] = g1 :: (bx ++ (g2 :: bz)) := by simp [pensBlocks]
  refine ⟨fun z hz => ?_, fun b hb => ?_, ?_⟩
  · simp only [List.mem_cons, List.not_mem_nil, or_false] at hz
    rcases hz with rfl | rfl
    · exact ⟨(setRow_other _ _ _ _ hg).trans (setRow_heap _ _ _ _ _ _ h1), hx.kept (Kept.setRow (Kept.setRow (fun _ _ => rfl) (fun hc => (rx _ hc).2.1 rfl) _) (fun hc => (rx _ hc).2.2 rfl) _)⟩
    · exact ⟨setRow_heap _ _ _ _ _ _ ((setRow_other _ _ _ _ hg.symm).trans h2), hy.kept (Kept.setRow (Kept.setRow (fun _ _ => rfl) (fun hc => (ry _ hc).2.1 rfl) _) (fun hc => (ry _ hc).2.2 rfl) _)⟩
  · rw [e] at hb
    rw [s]
    simp only [List.mem_cons, List.mem_append] at hb
    rcases hb with rfl | hb | rfl | hb
    · exact ⟨hB1, l1⟩
    · exact (rx b hb).1
    · exact ⟨hB2, l2⟩
    · exact (ry b hb).1
  · rw [e, List.nodup_cons, List.nodup_append, List.nodup_cons]
    refine ⟨fun hc => ?_, nx, ⟨fun hc => (ry _ hc).2.2 rfl, ny⟩, fun a ha b hb e0 => ?_⟩
    · simp only [List.mem_append, List.mem_cons] at hc
      rcases hc with hc | hc | hc
      · exact (rx _ hc).2.1 rfl
      · exact hg hc
      · exact (ry _ hc).2.1 rfl
    · subst e0
      rcases List.mem_cons.1 hb with rfl | hb
      · exact (rx _ ha).2.2 rfl
      · exact dxy _ ha hb
theorem TwoF.pens {W0 W : World} {x y : V} {csx csy : Array Value} {v25 v26 v27 v28 : Value} {c9 c10 : Array Value} {g9 g10 : Nat} {bx bz : List Nat} {B : Nat} {L : List Pen} (h : Pens B W0 L) (hB : B ≤ W0.heap.size)
    (hF : TwoF W0 W x y csx csy true true true true true true true true v25 v26 v27 v28 c9 c10 g9 g10 bx bz) : Pens B W (L ++ [⟨g9, x, c9, bx⟩, ⟨g10, y, c10, bz⟩]) := by
  have hL := h.on hF.below
  obtain ⟨cx, hv26, hox⟩ := hF.h26 rfl
  obtain ⟨cy, hv28, hoy⟩ := hF.h28 rfl
  obtain rfl : cx = c9 := by have := hF.e6 rfl; rw [hv26] at this; cases this; rfl
  obtain rfl : cy = c10 := by have := hF.e7 rfl; rw [hv28] at this; cases this; rfl
  obtain ⟨ge9, gl9, hb9, hn9x, hn9y, _⟩ := hF.h9 rfl
  obtain ⟨ge10, gl10, hb10, hn10x, hn10y, _⟩ := hF.h10 rfl
  have hne := hF.ne rfl rfl
  have e : pensBlocks (L ++ [⟨g9, x, cx, bx⟩, ⟨g10, y, cy, bz⟩]) = pensBlocks L ++ (g9 :: (bx ++ (g10 :: bz))) := by simp [pensBlocks]
  have hnew : ∀ b ∈ g9 :: (bx ++ (g10 :: bz)), W0.heap.size ≤ b ∧ b < W.heap.size := fun b hb => by
    simp only [List.mem_cons, List.mem_append] at hb
    rcases hb with rfl | hb | rfl | hb
    · exact ⟨ge9, gl9⟩
    · exact hF.rx b hb
    · exact ⟨ge10, gl10⟩
    · exact hF.ry b hb
  refine ⟨fun z hz => ?_, fun b hb => ?_, ?_⟩
  · simp only [List.mem_append, List.mem_cons, List.not_mem_nil, or_false] at hz
    rcases hz with hz | rfl | rfl
    · exact hL.at' z hz
    · exact ⟨hb9, hox⟩
    · exact ⟨hb10, hoy⟩
  · rw [e] at hb
    rcases List.mem_append.1 hb with hb | hb
    · exact hL.rng b hb
    · have := hnew b hb; omega
  · rw [e, List.nodup_append]
    refine ⟨h.nd, ?_, fun a ha b hb e0 => by have := (h.rng a ha).2; have := (hnew b hb).1; omega⟩
    rw [List.nodup_cons, List.nodup_append, List.nodup_cons]
    refine ⟨fun hc => ?_, hF.nx, ⟨hn10y, hF.ny⟩, fun a ha b hb e0 => ?_⟩
    · simp only [List.mem_append, List.mem_cons] at hc
      rcases hc with hc | hc | hc
      · exact hn9x hc
      · exact hne hc
      · exact hn9y hc
    · subst e0
      rcases List.mem_cons.1 hb with rfl | hb
      · exact hn10x ha
      · exact hF.dxy _ ha hb
end Go.Proofs.YtnmnmkdmnohbmaaDoor
