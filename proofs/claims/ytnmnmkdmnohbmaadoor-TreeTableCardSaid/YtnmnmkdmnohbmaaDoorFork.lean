/- Helper text: a rule for regions that draw their order, where two operations may come in either order. Conditions: none. -/
import Derived.Test.YtnmnmkdmnohbmaaDoorDraw
namespace Go.Proofs.YtnmnmkdmnohbmaaDoor
open Go Go.RowKit
section
variable {P : Program} {ops : Array Oper} {Q : Exit → Act → World → Prop} {md : Region.Mode} {C : World → Prop} {m : Nat}

theorem wpOp_of_listC {N : Act → World → Prop} {i fuel : Nat} {listed : Array Bool} {a : Act} {w : World} (hC : C w) (hi : i ∈ Region.ready md ops listed)
    (hN : ∀ a' w', C w' → N a' w' → wpAnyC P md ops C m Q fuel (listed.setIfInBounds i true) a' w') (h : wpListC P ops C Q N (pickOps ops [i]) a w) :
    wpOp P ops Q i (fun a' w' => (i < m → C w') ∧ wpAnyC P md ops C m Q fuel (listed.setIfInBounds i true) a' w') a w := by
  obtain ⟨_, o, ho, _⟩ := mem_ready.1 hi
  rw [pickOps_cons ho] at h
  unfold wpOp
  rw [ho]
  simp only []
  unfold wpListC at h
  by_cases hw : Region.wanted o (yielded ops a.tmps) = true
  · rw [if_pos hw] at h
    rw [if_pos hw]
    exact .inl (Oper.wp_mono (fun a' w' h' => ⟨fun _ => h'.1, hN a' w' h'.1 h'.2⟩) h)
  · rw [if_neg hw] at h
    rw [if_neg hw]
    exact ⟨fun _ => hC, hN _ w hC h⟩

/-- The Bool that the kernel is asked: heads, then a fork. -/
def forkB (ops : Array Oper) (m : Nat) (l0 : List Nat) (i1 i2 : Nat) (s1 s2 : List (Nat × List Nat)) : Bool :=
  Region.noSelect ops && decide (l0.length + (segsLen s1 + 1) = ops.size) && decide (segsLen s1 = segsLen s2) && headsB .any ops m l0 (Array.replicate ops.size false) &&
    decide (Region.ready .any ops (listAll l0 (Array.replicate ops.size false)) = [i1, i2]) &&
    segsB .any ops m s1 ((listAll l0 (Array.replicate ops.size false)).setIfInBounds i1 true) && segsB .any ops m s2 ((listAll l0 (Array.replicate ops.size false)).setIfInBounds i2 true)

theorem wp_region_fork_below {id : Nat} {a : Act} {w : World} {l : List Oper} (m : Nat) (l0 : List Nat) (i1 i2 : Nat) (s1 s2 : List (Nat × List Nat)) (hm : P.follows .mixedOrders = true) (hB : forkB l.toArray m l0 i1 i2 s1 s2 = true)
    (hQ : ∀ c a t w, Q (.panic c) { a with tmps := t } w → Q (.panic c) a w)
    (h : wpQuiet P l.toArray (Cls w) (fun a' => wpListC P l.toArray (Cls w) Q (wpSegs P l.toArray (Cls w) Q s1) (pickOps l.toArray [i1]) a' { w with drawn := w.drawn + 1 } ∧
      wpListC P l.toArray (Cls w) Q (wpSegs P l.toArray (Cls w) Q s2) (pickOps l.toArray [i2]) a' { w with drawn := w.drawn + 1 }) (pickOps l.toArray l0) a) : (Code.region id l.toArray true).wp P Q a w := by
  simp only [forkB, Bool.and_eq_true, decide_eq_true_eq] at hB
  obtain ⟨⟨⟨⟨⟨⟨hs, hl⟩, he⟩, hh⟩, hr⟩, h1⟩, h2⟩ := hB
  refine wp_region_any hm (wpAny_of_C (m := m) (C := Cls w) _ _ _ _ ?_)
  rw [← hl]
  refine wpAnyC_heads hs hQ (cls_drew w) l0 _ a (by rw [Array.size_replicate]; exact hl) (by rw [hl]; exact hh) (fun a' h' => ?_) h
  rw [hl]
  refine ⟨fun h0 => (by rw [hr] at h0; cases h0), fun j hj => ?_⟩
  have hj' := hj
  rw [hr] at hj
  simp only [List.mem_cons, List.not_mem_nil, or_false] at hj
  rcases hj with rfl | rfl
  · exact wpOp_of_listC (cls_drew w) hj' (fun a'' w'' hC hN => wpAnyC_segs hs hQ s1 _ a'' w'' (by simp [listAll_size]) hC h1 hN) h'.1
  · rw [he]
    exact wpOp_of_listC (cls_drew w) hj' (fun a'' w'' hC hN => wpAnyC_segs hs hQ s2 _ a'' w'' (by simp [listAll_size]) hC h2 hN) h'.2
end
end Go.Proofs.YtnmnmkdmnohbmaaDoor
