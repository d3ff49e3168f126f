/- Helper text: what stands of a world of which one box alone moves. Conditions: none. -/
import Derived.Test.YtnmnmkdmnohbmaaDoorChgLaw
namespace Go.Proofs.YtnmnmkdmnohbmaaDoor
open Go Go.RowKit Go.Maps

theorem TS.moved {w w' : World} {B T bm : Nat} {l : List (Int × Int)} {S : Nat → Prop} (h : TS w B T bm l) (hm : Moved S w w') (hd : ∀ g, footW T w g → ¬ S g) : TS w' B T bm l := by
  obtain ⟨kv, vv, D, ht⟩ := h.ex
  have keep : ∀ g, footW T w g → w'.heap[g]? = w.heap[g]? := fun g hg => hm.block g (h.foot_lt hg).2 (hd g hg)
  have hb := (keep T ((ht.foot T).2 (.inl rfl))).trans ht.block
  refine ⟨⟨kv, vv, D, ⟨hb, ?_, tabrow_at ht.keys (fun g hg => keep g ((ht.foot g).2 (.inr (.inr (.inl hg))))), ⟨tabrow_at ht.vals.1 (fun g hg => keep g ((ht.foot g).2 (.inr (.inr (.inr hg))))), ht.vals.2⟩, ht.len, ht.has, ht.ix, ht.geT, ht.gem, ht.d1, ht.d2, ht.d3, ht.d4, ht.few⟩⟩, h.nd, h.ok⟩
  obtain ⟨es, clock, hm', rest⟩ := ht.map
  exact ⟨es, clock, (keep bm ((ht.foot bm).2 (.inr (.inl rfl)))).trans hm', rest⟩
theorem Moved.own {β : Type} {S : Nat → Prop} {W0 : World} {n : Nat} (hn : W0.heap.size ≤ n) : OwnFrom n (fun (_ : β) W => Moved S W0 W) := by
  intro _ A B row h hg hr
  exact ⟨hg.os.trans h.os, hg.tape.trans h.tape, hg.output.trans h.output, Nat.le_trans h.size hg.size, fun k hk hn' => (hg.block k (Nat.lt_of_lt_of_le hk h.size) (fun e => by have := (hr k e.symm).1; omega)).trans (h.block k hk hn')⟩
theorem Moved.set {S : Nat → Prop} {W0 W : World} {g : Nat} (h : Moved S W0 W) (hg : S g) (v : Value) : Moved S W0 (W.setCell ⟨g, 0, none⟩ v) :=
  ⟨h.os, h.tape, h.output, by simpa [World.setCell] using h.size, fun k hk hn => (Below.heap_setCell _ _ _ _ (fun e0 => hn (by have e1 : k = g := e0; subst e1; exact hg))).trans (h.block k hk hn)⟩
theorem Moved.on {S : Nat → Prop} {W0 W W' : World} (h : Moved S W0 W) (hb : Below W.heap.size W W') : Moved S W0 W' :=
  ⟨hb.os.trans h.os, hb.tape.trans h.tape, hb.output.trans h.output, Nat.le_trans h.size hb.size, fun k hk hn => (hb.block k (Nat.lt_of_lt_of_le hk h.size)).trans (h.block k hk hn)⟩
theorem keepsFrom_below {n : Nat} {W W' : World} (hb : Below W.heap.size W W') : KeepsFrom n W W' :=
  ⟨hb.size, fun k o _ hk _ => (hb.block k (Array.getElem?_eq_some_iff.1 hk).1).trans hk⟩
theorem six (w : World) (o0 o1 o2 o3 o4 o5 : Obj) : ∃ W0, (((((w.alloc o0).alloc o1).alloc o2).alloc o3).alloc o4).alloc o5 = W0 ∧ Below w.heap.size w W0 ∧ W0.heap.size = w.heap.size + 1 + 1 + 1 + 1 + 1 + 1 ∧
    W0.heap[w.heap.size]? = some o0 ∧ W0.heap[w.heap.size + 1]? = some o1 ∧ W0.heap[w.heap.size + 1 + 1]? = some o2 ∧ W0.heap[w.heap.size + 1 + 1 + 1]? = some o3 ∧ W0.heap[w.heap.size + 1 + 1 + 1 + 1]? = some o4 ∧ W0.heap[w.heap.size + 1 + 1 + 1 + 1 + 1]? = some o5 := by
  have h : ∀ (W : World) (o : Obj), Below W.heap.size W (W.alloc o) ∧ (W.alloc o).heap.size = W.heap.size + 1 ∧ (W.alloc o).heap[W.heap.size]? = some o := fun W o => ⟨(Below.refl _ _).alloc (Nat.le_refl _) _, by simp, heap_new W o⟩
  obtain ⟨b0, s0, n0⟩ := h w o0
  generalize w.alloc o0 = w1 at *
  obtain ⟨b1, s1, n1⟩ := h w1 o1
  generalize w1.alloc o1 = w2 at *
  obtain ⟨b2, s2, n2⟩ := h w2 o2
  generalize w2.alloc o2 = w3 at *
  obtain ⟨b3, s3, n3⟩ := h w3 o3
  generalize w3.alloc o3 = w4 at *
  obtain ⟨b4, s4, n4⟩ := h w4 o4
  generalize w4.alloc o4 = w5 at *
  obtain ⟨b5, s5, n5⟩ := h w5 o5
  generalize w5.alloc o5 = w6 at *
  rw [s0] at s1 n1
  rw [s1] at s2 n2
  rw [s2] at s3 n3
  rw [s3] at s4 n4
  rw [s4] at s5 n5
  have c4 := b4.trans (b5.mono (by omega))
  have c3 := b3.trans (c4.mono (by omega))
  have c2 := b2.trans (c3.mono (by omega))
  have c1 := b1.trans (c2.mono (by omega))
  have c0 := b0.trans (c1.mono (by omega))
  exact ⟨w6, rfl, c0, s5, (c1.block _ (by omega)).trans n0, (c2.block _ (by omega)).trans n1, (c3.block _ (by omega)).trans n2, (c4.block _ (by omega)).trans n3, (b5.block _ (by omega)).trans n4, n5⟩
theorem lit_one {n : Nat} (h : n < 8796093022207) : wrap64 ((n : Int) + 1) = (n : Int) + 1 := by unfold wrap64; omega
end Go.Proofs.YtnmnmkdmnohbmaaDoor
