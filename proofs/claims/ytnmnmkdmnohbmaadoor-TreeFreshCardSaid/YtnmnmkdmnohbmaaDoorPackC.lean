/- Several texts in one: Helper text: the lists gathered: their rows of pointers, and one pointer more. Helper text: boxes that hold values in memory of their own, all apart; their lists piled up. Conditions: none. -/
import Derived.Test.YtnmnmkdmnohbmaaDoorLists
import Derived.Test.YtnmnmkdmnohbmaaDoorPackA
import Derived.Test.YtnmnmkdmnohbmaaDoorPackD
import Derived.Test.YtnmnmkdmnohbmaaDoorPackB
import Derived.Test.YtnmnmkdmnohbmaaDoorGet
namespace Go.Proofs.YtnmnmkdmnohbmaaDoor
open Go Go.RowKit

/-- The block of what is gathered: two rows of pointers that grow, and two slices that stay. -/
structure Held2 (w : World) (B H : Nat) (s0 s1 s2 s3 : Value) (xI xF : List Value) : Prop where
  block : w.heap[H]? = some (.cells #[s0, s1, s2, s3] 49 (0, 0))
  r0 : w.ownsRow B 98 1 s0 xI.length xI
  r1 : w.ownsRow B 99 1 s1 xF.length xF
  geH : B ≤ H
  d0 : s0.ownBlock ≠ some H
  d1 : s1.ownBlock ≠ some H
  d01 : s0.ownBlock = none ∨ s0.ownBlock ≠ s1.ownBlock
  d10 : s1.ownBlock = none ∨ s1.ownBlock ≠ s0.ownBlock
theorem Held2.lt {w : World} {B H : Nat} {s0 s1 s2 s3 : Value} {xI xF : List Value} (h : Held2 w B H s0 s1 s2 s3 xI xF) : H < w.heap.size := (Array.getElem?_eq_some_iff.1 h.block).1
theorem Held2.grow {w w' : World} {B H : Nat} {s0 s1 s2 s3 : Value} {xI xF : List Value} (h : Held2 w B H s0 s1 s2 s3 xI xF) (hb : Below w.heap.size w w') : Held2 w' B H s0 s1 s2 s3 xI xF :=
  ⟨(hb.block _ h.lt).trans h.block, h.r0.kept (grown_of_below hb none) (by cases s0.ownBlock <;> simp), h.r1.kept (grown_of_below hb none) (by cases s1.ownBlock <;> simp), h.geH, h.d0, h.d1, h.d01, h.d10⟩
/-- A world where one cell stands. -/
structure OneW (H j : Nat) (v : Value) where
  w : World
  h : w.cell? ⟨H, j, none⟩ = some v
abbrev OneCls (H j : Nat) (v : Value) : World → Prop := fun w' => ∃ z : OneW H j v, w' = z.w
theorem one_of {H j : Nat} {v : Value} {w : World} (h : w.cell? ⟨H, j, none⟩ = some v) : OneCls H j v w := ⟨⟨w, h⟩, rfl⟩
/-- Behind the append and the store into the first slice. -/
theorem Held2.push0 {w w2 : World} {B H : Nat} {s0 s1 s2 s3 v' : Value} {xI xF : List Value} {x : Value} (h : Held2 w B H s0 s1 s2 s3 xI xF) (hB : B ≤ w.heap.size)
    (hrow : w2.ownsRow B 98 1 v' (xI.length + 1) (xI ++ [x])) (hgr : w.grownBy w2 s0.ownBlock) (hloc : v'.ownBlock = s0.ownBlock ∨ v'.ownBlock = some w.heap.size) :
    Held2 (w2.setCell ⟨H, 0, none⟩ v') B H v' s1 s2 s3 (xI ++ [x]) xF ∧ Below B w (w2.setCell ⟨H, 0, none⟩ v') := by
  have hb2 := (hgr.block H h.lt (fun e => h.d0 e.symm)).trans h.block
  have hneH : v'.ownBlock ≠ some H := by
    rcases hloc with e | e
    · rw [e]; exact h.d0
    · rw [e]; have := h.lt; simp; omega
  have hr1 := h.r1.kept hgr (by rcases h.d10 with e | e; rw [e]; cases s0.ownBlock <;> simp; exact .inr e)
  have hg3 := grown_setCell w2 ⟨H, 0, none⟩ v'
  have hd01 : v'.ownBlock = none ∨ v'.ownBlock ≠ s1.ownBlock := by
    rcases hloc with e | e
    · rw [e]; exact h.d01
    · rw [e]
      refine .inr (fun hc => ?_)
      have := (h.r1.lt _ hc.symm).2
      omega
  refine ⟨⟨heap_setCell_same (j := 0) hb2 v', by simpa using hrow.kept hg3 (.inr hneH), hr1.kept hg3 (.inr h.d1), h.geH, hneH, h.d1, hd01, ?_⟩, ?_⟩
  · rcases hd01 with e | e
    · by_cases hc : s1.ownBlock = none
      · exact .inl hc
      · exact .inr (by rw [e]; exact hc)
    · by_cases hc : s1.ownBlock = none
      · exact .inl hc
      · exact .inr (Ne.symm e)
  · exact ((Below.refl B w).grown hgr hB (fun y hy => (h.r0.lt y hy).1)).setCell (p := ⟨H, 0, none⟩) h.geH _
theorem Held2.push1 {w w2 : World} {B H : Nat} {s0 s1 s2 s3 v' : Value} {xI xF : List Value} {x : Value} (h : Held2 w B H s0 s1 s2 s3 xI xF) (hB : B ≤ w.heap.size)
    (hrow : w2.ownsRow B 99 1 v' (xF.length + 1) (xF ++ [x])) (hgr : w.grownBy w2 s1.ownBlock) (hloc : v'.ownBlock = s1.ownBlock ∨ v'.ownBlock = some w.heap.size) :
    Held2 (w2.setCell ⟨H, 1, none⟩ v') B H s0 v' s2 s3 xI (xF ++ [x]) ∧ Below B w (w2.setCell ⟨H, 1, none⟩ v') := by
  have hb2 := (hgr.block H h.lt (fun e => h.d1 e.symm)).trans h.block
  have hneH : v'.ownBlock ≠ some H := by
    rcases hloc with e | e
    · rw [e]; exact h.d1
    · rw [e]; have := h.lt; simp; omega
  have hr0 := h.r0.kept hgr (by rcases h.d01 with e | e; rw [e]; cases s1.ownBlock <;> simp; exact .inr e)
  have hg3 := grown_setCell w2 ⟨H, 1, none⟩ v'
  have hd10 : v'.ownBlock = none ∨ v'.ownBlock ≠ s0.ownBlock := by
    rcases hloc with e | e
    · rw [e]; exact h.d10
    · rw [e]
      refine .inr (fun hc => ?_)
      have := (h.r0.lt _ hc.symm).2
      omega
  refine ⟨⟨heap_setCell_same (j := 1) hb2 v', hr0.kept hg3 (.inr h.d0), by simpa using hrow.kept hg3 (.inr hneH), h.geH, h.d0, hneH, ?_, hd10⟩, ?_⟩
  · rcases hd10 with e | e
    · by_cases hc : s0.ownBlock = none
      · exact .inl hc
      · exact .inr (by rw [e]; exact hc)
    · by_cases hc : s0.ownBlock = none
      · exact .inl hc
      · exact .inr (Ne.symm e)
  · exact ((Below.refl B w).grown hgr hB (fun y hy => (h.r1.lt y hy).1)).setCell (p := ⟨H, 1, none⟩) h.geH _
end Go.Proofs.YtnmnmkdmnohbmaaDoor

namespace Go.Proofs.YtnmnmkdmnohbmaaDoor
open Go Go.RowKit

structure Pen where
  g : Nat
  v : V
  cs : Array Value
  bs : List Nat
def pensBlocks (L : List Pen) : List Nat := L.flatMap (fun x => x.g :: x.bs)
theorem pensBlocks_append (a b : List Pen) : pensBlocks (a ++ b) = pensBlocks a ++ pensBlocks b := by simp [pensBlocks]
structure PenAt (W : World) (x : Pen) : Prop where
  blk : W.heap[x.g]? = some (.cells x.cs 27 (0, 0))
  own : OwnV W x.v x.cs x.bs
structure Pens (B : Nat) (W : World) (L : List Pen) : Prop where
  at' : ∀ x ∈ L, PenAt W x
  rng : ∀ b ∈ pensBlocks L, B ≤ b ∧ b < W.heap.size
  nd : (pensBlocks L).Nodup
theorem pens_mem {L : List Pen} {x : Pen} (hx : x ∈ L) : x.g ∈ pensBlocks L ∧ ∀ b ∈ x.bs, b ∈ pensBlocks L :=
  ⟨List.mem_flatMap.2 ⟨x, hx, by simp⟩, fun b hb => List.mem_flatMap.2 ⟨x, hx, by simp [hb]⟩⟩
theorem Pens.nil (B : Nat) (W : World) : Pens B W [] := ⟨by simp, by simp [pensBlocks], by simp [pensBlocks]⟩
theorem Pens.on {B : Nat} {W W' : World} {L : List Pen} (h : Pens B W L) (hb : Below W.heap.size W W') : Pens B W' L :=
  ⟨fun x hx => ⟨(hb.block _ (h.rng _ (pens_mem hx).1).2).trans (h.at' x hx).blk, (h.at' x hx).own.kept (Kept.below hb (fun b hb' => (h.rng b ((pens_mem hx).2 b hb')).2))⟩,
    fun b hb' => ⟨(h.rng b hb').1, Nat.lt_of_lt_of_le (h.rng b hb').2 hb.size⟩, h.nd⟩
theorem pensBlocks_sub {L L' : List Pen} (hs : L'.Sublist L) : (pensBlocks L').Sublist (pensBlocks L) := by
  have e : ∀ (a : Pen) (l : List Pen), pensBlocks (a :: l) = (a.g :: a.bs) ++ pensBlocks l := fun a l => List.flatMap_cons
  induction hs with
  | slnil => exact List.Sublist.slnil
  | cons a hs ih =>
    rw [e]
    exact ih.trans (List.sublist_append_right _ _)
  | cons_cons a hs ih =>
    rw [e, e]
    exact List.Sublist.append_left ih _
/-- Some of the boxes. -/
theorem Pens.sub {B : Nat} {W : World} {L L' : List Pen} (h : Pens B W L) (hs : L'.Sublist L) : Pens B W L' :=
  ⟨fun x hx => h.at' x (hs.subset hx), fun b hb' => h.rng b ((pensBlocks_sub hs).subset hb'), (pensBlocks_sub hs).nodup h.nd⟩
/-- One box more, filled just now. -/
theorem Pens.snoc {B : Nat} {W W' : World} {L : List Pen} (h : Pens B W L) (hB : B ≤ W.heap.size) {v : V} {cs : Array Value} {bs : List Nat} {G : Nat} (hG : G = W'.heap.size) (ho : OwnV W' v cs bs) (hn : bs.Nodup) (hr : ∀ b ∈ bs, W.heap.size ≤ b ∧ b < W'.heap.size) (hb : Below W.heap.size W W') :
    Pens B ((W'.alloc (.cells cells0 27)).setRow G cs) (L ++ [⟨G, v, cs, bs⟩]) ∧ Below W.heap.size W ((W'.alloc (.cells cells0 27)).setRow G cs) := by
  subst hG
  have hb2 : Below W'.heap.size W' ((W'.alloc (.cells cells0 27)).setRow W'.heap.size cs) := below_setRow ((Below.refl _ _).alloc (Nat.le_refl _) _) (Nat.le_refl _) _
  have hbw := hb.trans (hb2.mono hb.size)
  have hsz : ((W'.alloc (.cells cells0 27)).setRow W'.heap.size cs).heap.size = W'.heap.size + 1 := by rw [setRow_size]; simp
  have hL := h.on hbw
  have e : pensBlocks (L ++ [⟨W'.heap.size, v, cs, bs⟩]) = pensBlocks L ++ (W'.heap.size :: bs) := by simp [pensBlocks]
  refine ⟨⟨fun x hx => ?_, fun b hb' => ?_, ?_⟩, hbw⟩
  · rcases List.mem_append.1 hx with hx | hx
    · exact hL.at' x hx
    · rw [List.mem_singleton] at hx
      subst hx
      exact ⟨setRow_heap _ _ _ _ _ _ (heap_new W' (.cells cells0 27)), ho.kept (Kept.below hb2 (fun b hb' => (hr b hb').2))⟩
  · rw [e] at hb'
    rcases List.mem_append.1 hb' with hb' | hb'
    · exact hL.rng b hb'
    · rw [hsz]
      rcases List.mem_cons.1 hb' with rfl | hb'
      · exact ⟨Nat.le_trans hB hb.size, by omega⟩
      · have := hr b hb'; omega
  · rw [e, List.nodup_append]
    refine ⟨h.nd, List.nodup_cons.2 ⟨fun hc => by have := (hr _ hc).2; omega, hn⟩, fun a ha b hb' e0 => ?_⟩
    subst e0
    have h1 := (h.rng a ha).2
    rcases List.mem_cons.1 hb' with rfl | hb'
    · have := hb.size; omega
    · have := (hr _ hb').1; omega
/-- What a read of a box meets. -/
theorem Pens.read {B : Nat} {W : World} {L : List Pen} (h : Pens B W L) {x : Pen} (hx : x ∈ L) : CellsAt W x.g 0 x.cs ∧ IsV W.heap.size W x.v x.cs ∧ x.g < W.heap.size :=
  ⟨block_of_cells (h.at' x hx).blk, (h.at' x hx).own.isV (fun b hb => (h.rng b ((pens_mem hx).2 b hb)).2), (h.rng _ (pens_mem hx).1).2⟩

mutual
theorem laid_ns {w : World} : ∀ {v : V} {g o : Nat} {eI eF : List Ent}, Laid w v g o eI eF → ∀ e, e ∈ eI ∨ e ∈ eF → e.n ≤ szV v
  | .mk k b i f t ty its fs, g, o, eI, eF, h => by
    obtain ⟨p, c, q, d, i1, f1, i2, f2, _, rfl, rfl, _, _, h3, h4⟩ := h
    have a1 : ∀ e, e ∈ i1 ∨ e ∈ f1 → e.n ≤ szV.szVs its := by
      rcases h3 with ⟨_, rfl, rfl⟩ | ⟨_, _, h3⟩
      · simp
      · exact laidIs_ns h3
    have a2 : ∀ e, e ∈ i2 ∨ e ∈ f2 → e.n ≤ szV.szFs fs := by
      rcases h4 with ⟨_, rfl, rfl⟩ | ⟨_, _, h4⟩
      · simp
      · exact laidFs_ns h4
    have l1 : its.length ≤ szV (V.mk k b i f t ty its fs) := by simp only [szV]; omega
    have l2 : fs.length ≤ szV (V.mk k b i f t ty its fs) := by simp only [szV]; omega
    intro e he
    have hh : (e = ⟨g, o + 6, p, its.length, c⟩ ∨ e = ⟨g, o + 7, q, fs.length, d⟩) ∨ (e ∈ i1 ∨ e ∈ f1) ∨ (e ∈ i2 ∨ e ∈ f2) := by
      simp only [List.mem_cons, List.mem_append] at he
      rcases he with (h | h | h) | (h | h | h)
      · exact .inl (.inl h)
      · exact .inr (.inl (.inl h))
      · exact .inr (.inr (.inl h))
      · exact .inl (.inr h)
      · exact .inr (.inl (.inr h))
      · exact .inr (.inr (.inr h))
    rcases hh with (rfl | rfl) | hh | hh
    · exact l1
    · exact l2
    · have := a1 e hh; simp only [szV]; omega
    · have := a2 e hh; simp only [szV]; omega
theorem laidIs_ns {w : World} : ∀ {l : List V} {g o : Nat} {eI eF : List Ent}, LaidIs w l g o eI eF → ∀ e, e ∈ eI ∨ e ∈ eF → e.n ≤ szV.szVs l
  | [], _, _, _, _, h => by rw [h.1, h.2]; simp
  | v :: r, g, o, eI, eF, h => by
    obtain ⟨i1, f1, i2, f2, rfl, rfl, h1, h2⟩ := h
    have a1 := laid_ns h1
    have a2 := laidIs_ns h2
    intro e he
    have hh : (e ∈ i1 ∨ e ∈ f1) ∨ (e ∈ i2 ∨ e ∈ f2) := by
      simp only [List.mem_append] at he
      rcases he with (h | h) | (h | h)
      · exact .inl (.inl h)
      · exact .inr (.inl h)
      · exact .inl (.inr h)
      · exact .inr (.inr h)
    simp only [szV.szVs]
    rcases hh with hh | hh
    · have := a1 e hh; omega
    · have := a2 e hh; omega
theorem laidFs_ns {w : World} : ∀ {l : List (ByteArray × V)} {g o : Nat} {eI eF : List Ent}, LaidFs w l g o eI eF → ∀ e, e ∈ eI ∨ e ∈ eF → e.n ≤ szV.szFs l
  | [], _, _, _, _, h => by rw [h.1, h.2]; simp
  | v :: r, g, o, eI, eF, h => by
    obtain ⟨i1, f1, i2, f2, rfl, rfl, h1, h2⟩ := h
    have a1 := laid_ns h1
    have a2 := laidFs_ns h2
    intro e he
    have hh : (e ∈ i1 ∨ e ∈ f1) ∨ (e ∈ i2 ∨ e ∈ f2) := by
      simp only [List.mem_append] at he
      rcases he with (h | h) | (h | h)
      · exact .inl (.inl h)
      · exact .inr (.inl h)
      · exact .inl (.inr h)
      · exact .inr (.inr h)
    simp only [szV.szFs]
    rcases hh with hh | hh
    · have := a1 e hh; omega
    · have := a2 e hh; omega
end

/-- The lists of all boxes, gathered in their order. -/
def LaidAll (W : World) : List Pen → List Ent → List Ent → Prop
  | [], eI, eF => eI = [] ∧ eF = []
  | x :: r, eI, eF => ∃ i1 f1 i2 f2, eI = i1 ++ i2 ∧ eF = f1 ++ f2 ∧ Laid W x.v x.g 0 i1 f1 ∧ (blks i1 ++ blks f1).Perm x.bs ∧ LaidAll W r i2 f2
theorem laidAll_of {W : World} : ∀ {L : List Pen}, (∀ x ∈ L, PenAt W x) → ∃ eI eF, LaidAll W L eI eF
  | [], _ => ⟨[], [], rfl, rfl⟩
  | x :: r, h => by
    have hx := h x (by simp)
    obtain ⟨i1, f1, h1, h2⟩ := laid_of hx.own (block_of_cells hx.blk)
    obtain ⟨i2, f2, h3⟩ := laidAll_of (L := r) (fun y hy => h y (by simp [hy]))
    exact ⟨_, _, i1, f1, i2, f2, rfl, rfl, h1, h2, h3⟩
theorem laidAll_perm {W : World} : ∀ {L : List Pen} {eI eF : List Ent}, LaidAll W L eI eF → (blks eI ++ blks eF).Perm (L.flatMap (·.bs))
  | [], _, _, h => by rw [h.1, h.2]; simp [blks]
  | x :: r, eI, eF, h => by
    obtain ⟨i1, f1, i2, f2, rfl, rfl, _, h2, h3⟩ := h
    rw [blks_append, blks_append, List.flatMap_cons]
    exact perm_blocks h2 (laidAll_perm h3)
theorem laidAll_pile {W : World} : ∀ {L : List Pen} {eI eF : List Ent} {bx : List Nat} {dI dF : List Ent}, LaidAll W L eI eF → Pile W bx dI dF → (L.flatMap (·.bs)).Nodup → (∀ b, b ∈ blks dI ++ blks dF → b ∉ L.flatMap (·.bs)) → Pile W (bx ++ L.map (·.g)) (dI ++ eI) (dF ++ eF)
  | [], _, _, bx, dI, dF, h, hp, _, _ => by rw [h.1, h.2]; simpa using hp
  | x :: r, eI, eF, bx, dI, dF, h, hp, hn, hd => by
    obtain ⟨i1, f1, i2, f2, rfl, rfl, h1, h2, h3⟩ := h
    rw [List.flatMap_cons] at hn hd
    have hn' := List.nodup_append.1 hn
    have hp2 := hp.add h1 (h2.nodup_iff.2 hn'.1) (fun b hb hc => hd b hb (List.mem_append.2 (.inl (h2.mem_iff.1 hc))))
    have := laidAll_pile h3 hp2 hn'.2.1 (fun b hb hc => by
      rw [blks_append, blks_append] at hb
      have hb' : b ∈ blks dI ++ blks dF ∨ b ∈ blks i1 ++ blks f1 := by
        simp only [List.mem_append] at hb ⊢
        rcases hb with (h | h) | (h | h)
        · exact .inl (.inl h)
        · exact .inr (.inl h)
        · exact .inl (.inr h)
        · exact .inr (.inr h)
      rcases hb' with hb' | hb'
      · exact hd b hb' (List.mem_append.2 (.inr hc))
      · exact hn'.2.2 b (h2.mem_iff.1 hb') b hc rfl)
    simpa [List.append_assoc] using this
theorem flat_sub (L : List Pen) : (pensBlocks L).Perm (L.map (·.g) ++ L.flatMap (·.bs)) := by
  induction L with
  | nil => exact List.Perm.refl _
  | cons x r ih =>
    have e : pensBlocks (x :: r) = x.g :: (x.bs ++ pensBlocks r) := by simp [pensBlocks]
    rw [e, List.map_cons, List.flatMap_cons, List.cons_append]
    refine List.Perm.cons _ ?_
    refine (List.Perm.append_left _ ih).trans ?_
    rw [← List.append_assoc, ← List.append_assoc]
    exact List.Perm.append_right _ List.perm_append_comm
/-- All lists of the boxes, in their order: four kinds (two of them empty). -/
theorem Pens.four {B : Nat} {W : World} {L : List Pen} (h : Pens B W L) : ∃ eI eF, LaidAll W L eI eF ∧ Four W eI eF [] [] ∧ ∀ b, Bad eI eF [] [] b → B ≤ b ∧ b < W.heap.size := by
  obtain ⟨eI, eF, hl⟩ := laidAll_of h.at'
  have hp := flat_sub L
  have hnd := List.nodup_append.1 (hp.nodup_iff.1 h.nd)
  have hperm := laidAll_perm hl
  have hpile := laidAll_pile hl (Pile.nil W) hnd.2.1 (by simp [blks])
  simp only [List.nil_append] at hpile
  refine ⟨eI, eF, hl, hpile.four (fun b hb hc => hnd.2.2 b hb b (hperm.mem_iff.1 hc) rfl), fun b hb => h.rng b (hp.mem_iff.2 (List.mem_append.2 (.inr (hperm.mem_iff.1 (by unfold Bad at hb; simpa [blks] using hb)))))⟩
theorem laidAll_step {W : World} {x : Pen} {r : List Pen} {eI eF : List Ent} (h : LaidAll W (x :: r) eI eF) : ∃ i1 f1 i2 f2, eI = i1 ++ i2 ∧ eF = f1 ++ f2 ∧ Laid W x.v x.g 0 i1 f1 ∧ LaidAll W r i2 f2 := by
  obtain ⟨i1, f1, i2, f2, h1, h2, h3, _, h4⟩ := h
  exact ⟨i1, f1, i2, f2, h1, h2, h3, h4⟩
/-- The rows gathered, as a reader sees them. -/
theorem Held2.four {w : World} {B H : Nat} {s0 s1 : Value} {eI eF : List Ent} (h : Held2 w B H s0 s1 (.slice none 0 0) (.slice none 0 0) (eI.map Ent.ptr) (eF.map Ent.ptr)) {bad : Nat → Prop} (hb : ∀ b, bad b → b < B) : Held4 bad w H s0 s1 (.slice none 0 0) (.slice none 0 0) eI eF [] [] := by
  have row : ∀ {T : Nat} {s : Value} {xs : List Value}, w.ownsRow B T 1 s xs.length xs → RowOf bad w s xs := fun {T s xs} hr => by
    rcases hr.2 with ⟨h1, h2⟩ | ⟨g, cap, cur, rfl, hB, hg, hn, _, hs, ht⟩
    · have : xs = [] := List.length_eq_zero_iff.1 h2
      subst this
      exact ⟨none, 0, h1, by simp⟩
    · refine ⟨some ⟨g, 0, none⟩, cap, rfl, fun j x hx => ⟨g, rfl, fun hc => by have := hb g hc; omega, (Array.getElem?_eq_some_iff.1 hg).1, ?_⟩⟩
      have hj := (List.getElem?_eq_some_iff.1 hx).1
      simp only [World.cell?, hg, Option.isSome_none, Bool.false_eq_true, if_false]
      rw [← Array.getElem?_toList, ← hx]
      conv => rhs; rw [← ht]
      rw [List.getElem?_take_of_lt (by omega)]
  exact ⟨h.block, fun hc => by have := hb H hc; have := h.geH; omega, row h.r0, row h.r1, ⟨none, 0, rfl, by simp⟩, ⟨none, 0, rfl, by simp⟩⟩
end Go.Proofs.YtnmnmkdmnohbmaaDoor
