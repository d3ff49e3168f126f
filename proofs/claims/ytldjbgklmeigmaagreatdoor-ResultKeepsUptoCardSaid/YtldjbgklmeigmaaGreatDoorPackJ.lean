/- Several texts in one: Helper text: the walk over lists of the statements on results: the lists of a value are gathered in their order. Helper text: the walk over marked of the statements on results: a mark of its own goes into each element of each list. Conditions: none. -/
import Derived.Test.YtldjbgklmeigmaaGreatDoorPackI
import Derived.Test.YtldjbgklmeigmaaGreatDoorPackB
import Derived.Deep.CutBlock
import Derived.Deep.MidRow
set_option linter.unusedVariables false
set_option linter.unusedSimpArgs false
namespace Go.Proofs.YtldjbgklmeigmaaGreatDoor
open Go Go.RowKit
attribute [local go_sem] run_store_float

theorem rl_slice {w : World} {B : Nat} {e : TypeId} {sz : Nat} {v : Value} {n : Nat} {xs : List Value} (h : w.ownsRow B e sz v n xs) : ∃ p c, v = .slice p n c := by
  rcases h.2 with ⟨rfl, rfl⟩ | ⟨g, cap, cur, rfl, _⟩
  · exact ⟨_, _, rfl⟩
  · exact ⟨_, _, rfl⟩
theorem rl_cells {w : World} {g o : Nat} {a b : Array Value} (ha : CellsAt w g o a) (hb : CellsAt w g o b) (h : a.size = b.size) : a = b := by
  apply Array.ext h
  intro i h1 h2
  have e1 := ha i a[i] (by simp [h1])
  have e2 := hb i b[i] (by simp [h2])
  rw [e1] at e2
  exact Option.some.inj e2

/-- Two rows of slices that grow, in blocks of their own. -/
structure Rl (w : World) (s0 s1 : Value) (xI xF : List Value) : Prop where
  r0 : w.ownsRow 0 31 1 s0 xI.length xI
  r1 : w.ownsRow 0 32 1 s1 xF.length xF
  d01 : ∀ g, s0.ownBlock = some g → s1.ownBlock ≠ some g
/-- What has become of the world, and of the two rows' places. -/
structure Gr2 (w w' : World) (s0 s1 s0' s1' : Value) : Prop where
  os : w'.os = w.os
  tape : w'.tape = w.tape
  output : w'.output = w.output
  size : w.heap.size ≤ w'.heap.size
  block : ∀ k, k < w.heap.size → s0.ownBlock ≠ some k → s1.ownBlock ≠ some k → w'.heap[k]? = w.heap[k]?
  n0 : ∀ g, s0'.ownBlock = some g → s0.ownBlock = some g ∨ w.heap.size ≤ g
  n1 : ∀ g, s1'.ownBlock = some g → s1.ownBlock = some g ∨ w.heap.size ≤ g
theorem Gr2.refl (w : World) (s0 s1 : Value) : Gr2 w w s0 s1 s0 s1 := ⟨rfl, rfl, rfl, Nat.le_refl _, fun _ _ _ _ => rfl, fun _ h => .inl h, fun _ h => .inl h⟩
theorem Gr2.trans {w w1 w2 : World} {s0 s1 a b c d : Value} (h : Gr2 w w1 s0 s1 a b) (k : Gr2 w1 w2 a b c d) : Gr2 w w2 s0 s1 c d := by
  refine ⟨k.os.trans h.os, k.tape.trans h.tape, k.output.trans h.output, Nat.le_trans h.size k.size, fun g hg h0 h1 => ?_, fun g hg => ?_, fun g hg => ?_⟩
  · rw [k.block g (Nat.lt_of_lt_of_le hg h.size) (fun e => ?_) (fun e => ?_), h.block g hg h0 h1]
    · rcases h.n0 g e with e | e
      · exact h0 e
      · omega
    · rcases h.n1 g e with e | e
      · exact h1 e
      · omega
  · rcases k.n0 g hg with e | e
    · exact h.n0 g e
    · exact .inr (Nat.le_trans h.size e)
  · rcases k.n1 g hg with e | e
    · exact h.n1 g e
    · exact .inr (Nat.le_trans h.size e)
theorem Gr2.of_below {w w' : World} (h : Below w.heap.size w w') (s0 s1 : Value) : Gr2 w w' s0 s1 s0 s1 := ⟨h.os, h.tape, h.output, h.size, fun k hk _ _ => h.block k hk, fun _ h => .inl h, fun _ h => .inl h⟩
theorem rl_grown {w w' : World} (h : Below w.heap.size w w') (r : Option Nat) : w.grownBy w' r := ⟨h.os, h.tape, h.output, h.size, fun k hk _ => h.block k hk⟩
theorem Rl.on {w w' : World} {s0 s1 : Value} {xI xF : List Value} (h : Rl w s0 s1 xI xF) (hb : Below w.heap.size w w') : Rl w' s0 s1 xI xF :=
  ⟨h.r0.kept (rl_grown hb none) (by cases s0.ownBlock <;> simp), h.r1.kept (rl_grown hb none) (by cases s1.ownBlock <;> simp), h.d01⟩
theorem Rl.push0 {w w2 : World} {s0 s1 v' : Value} {xI xF : List Value} {x : Value} (h : Rl w s0 s1 xI xF) (hrow : w2.ownsRow 0 31 1 v' (xI.length + 1) (xI ++ [x])) (hgr : w.grownBy w2 s0.ownBlock)
    (hloc : v'.ownBlock = s0.ownBlock ∨ v'.ownBlock = some w.heap.size) : Rl w2 v' s1 (xI ++ [x]) xF ∧ Gr2 w w2 s0 s1 v' s1 := by
  have hr1 := h.r1.kept hgr (by
    cases hs : s1.ownBlock with
    | none => exact .inl rfl
    | some g => exact .inr (fun e => h.d01 g e.symm hs))
  refine ⟨⟨by simpa using hrow, hr1, fun g hg hc => ?_⟩, ⟨hgr.os, hgr.tape, hgr.output, hgr.size, fun k hk h0 _ => hgr.block k hk (fun e => h0 e.symm), fun g hg => ?_, fun _ h => .inl h⟩⟩
  · rcases hloc with e | e
    · rw [e] at hg; exact h.d01 g hg hc
    · rw [e] at hg
      have := (h.r1.lt g hc).2
      simp at hg; omega
  · rcases hloc with e | e
    · rw [e] at hg; exact .inl hg
    · rw [e] at hg; simp at hg; right; omega
theorem Rl.push1 {w w2 : World} {s0 s1 v' : Value} {xI xF : List Value} {x : Value} (h : Rl w s0 s1 xI xF) (hrow : w2.ownsRow 0 32 1 v' (xF.length + 1) (xF ++ [x])) (hgr : w.grownBy w2 s1.ownBlock)
    (hloc : v'.ownBlock = s1.ownBlock ∨ v'.ownBlock = some w.heap.size) : Rl w2 s0 v' xI (xF ++ [x]) ∧ Gr2 w w2 s0 s1 s0 v' := by
  have hr0 := h.r0.kept hgr (by
    cases hs : s0.ownBlock with
    | none => exact .inl rfl
    | some g => exact .inr (fun e => h.d01 g hs e.symm))
  refine ⟨⟨hr0, by simpa using hrow, fun g hg hc => ?_⟩, ⟨hgr.os, hgr.tape, hgr.output, hgr.size, fun k hk _ h1 => hgr.block k hk (fun e => h1 e.symm), fun _ h => .inl h, fun g hg => ?_⟩⟩
  · rcases hloc with e | e
    · rw [e] at hc; exact h.d01 g hg hc
    · rw [e] at hc
      have := (h.r0.lt g hg).2
      simp at hc; omega
  · rcases hloc with e | e
    · rw [e] at hg; exact .inl hg
    · rw [e] at hg; simp at hg; right; omega

theorem EntAt.stays {w w' : World} {T z : Nat} {e : Ent} (h : EntAt w T z e) (h1 : w'.heap[e.hb]? = w.heap[e.hb]?) (h2 : ∀ b, e.p.map (·.block) = some b → w'.heap[b]? = w.heap[b]?) : EntAt w' T z e := by
  obtain ⟨a, b⟩ := h
  refine ⟨(World.cell?_of_block (a := ⟨e.hb, e.ho, none⟩) h1).trans a, ?_⟩
  rcases b with b | ⟨g, cur, hp, hh, r⟩
  · exact .inl b
  · exact .inr ⟨g, cur, hp, (h2 g (by simp [hp])).trans hh, r⟩
mutual
/-- v stands as it stood where its blocks do. -/
theorem Laid.keep {w w' : World} : ∀ {v : V} {g o : Nat} {eI eF : List Ent}, Laid w v g o eI eF → (∀ b, b = g ∨ b ∈ blks eI ∨ b ∈ blks eF → w'.heap[b]? = w.heap[b]?) → Laid w' v g o eI eF
  | .mk k b i f t ty its fs, g, o, eI, eF, h, hk => by
    obtain ⟨p, c, q, d, i1, f1, i2, f2, hc, rfl, rfl, e1, e2, h3, h4⟩ := h
    have b1 : ∀ y, y ∈ blks (⟨g, o + 6, p, its.length, c⟩ :: (i1 ++ i2)) ↔ p.map (·.block) = some y ∨ y ∈ blks i1 ∨ y ∈ blks i2 := fun y => by
      cases p <;> simp [blks, eq_comm]
    have b2 : ∀ y, y ∈ blks (⟨g, o + 7, q, fs.length, d⟩ :: (f1 ++ f2)) ↔ q.map (·.block) = some y ∨ y ∈ blks f1 ∨ y ∈ blks f2 := fun y => by
      cases q <;> simp [blks, eq_comm]
    refine ⟨p, c, q, d, i1, f1, i2, f2, hc.kept (hk g (.inl rfl)), rfl, rfl, e1.stays (hk g (.inl rfl)) (fun y hy => hk y (.inr (.inl ((b1 y).2 (.inl hy))))), e2.stays (hk g (.inl rfl)) (fun y hy => hk y (.inr (.inr ((b2 y).2 (.inl hy))))), ?_, ?_⟩
    · rcases h3 with h3 | ⟨gi, rfl, h3⟩
      · exact .inl h3
      · refine .inr ⟨gi, rfl, LaidIs.keep h3 (fun y hy => hk y ?_)⟩
        rcases hy with rfl | hy | hy
        · exact .inr (.inl ((b1 _).2 (.inl rfl)))
        · exact .inr (.inl ((b1 _).2 (.inr (.inl hy))))
        · exact .inr (.inr ((b2 _).2 (.inr (.inl hy))))
    · rcases h4 with h4 | ⟨gi, rfl, h4⟩
      · exact .inl h4
      · refine .inr ⟨gi, rfl, LaidFs.keep h4 (fun y hy => hk y ?_)⟩
        rcases hy with rfl | hy | hy
        · exact .inr (.inr ((b2 _).2 (.inl rfl)))
        · exact .inr (.inl ((b1 _).2 (.inr (.inr hy))))
        · exact .inr (.inr ((b2 _).2 (.inr (.inr hy))))
theorem LaidIs.keep {w w' : World} : ∀ {l : List V} {g o : Nat} {eI eF : List Ent}, LaidIs w l g o eI eF → (∀ b, b = g ∨ b ∈ blks eI ∨ b ∈ blks eF → w'.heap[b]? = w.heap[b]?) → LaidIs w' l g o eI eF
  | [], _, _, _, _, h, _ => h
  | v :: r, g, o, eI, eF, h, hk => by
    obtain ⟨i1, f1, i2, f2, rfl, rfl, h1, h2⟩ := h
    refine ⟨i1, f1, i2, f2, rfl, rfl, h1.keep (fun y hy => hk y ?_), LaidIs.keep h2 (fun y hy => hk y ?_)⟩ <;>
    · simp only [blks_append, List.mem_append]
      rcases hy with h | h | h
      · exact .inl h
      · simp [h]
      · simp [h]
theorem LaidFs.keep {w w' : World} : ∀ {l : List (ByteArray × V)} {g o : Nat} {eI eF : List Ent}, LaidFs w l g o eI eF → (∀ b, b = g ∨ b ∈ blks eI ∨ b ∈ blks eF → w'.heap[b]? = w.heap[b]?) → LaidFs w' l g o eI eF
  | [], _, _, _, _, h, _ => h
  | x :: r, g, o, eI, eF, h, hk => by
    obtain ⟨i1, f1, i2, f2, rfl, rfl, h1, h2⟩ := h
    refine ⟨i1, f1, i2, f2, rfl, rfl, h1.keep (fun y hy => hk y ?_), LaidFs.keep h2 (fun y hy => hk y ?_)⟩ <;>
    · simp only [blks_append, List.mem_append]
      rcases hy with h | h | h
      · exact .inl h
      · simp [h]
      · simp [h]
end
theorem Laid.cells {w : World} {v : V} {g o : Nat} {eI eF : List Ent} (h : Laid w v g o eI eF) : ∃ cs, CellsAt w g o cs ∧ cs.size = 8 := by
  obtain ⟨k, b, i, f, t, ty, its, fs⟩ := v
  obtain ⟨p, c, q, d, _, _, _, _, hc, _⟩ := h
  exact ⟨_, hc, rfl⟩

def RlPost (s0 s1 : Value) (xI xF : List Value) (w : World) (e : Ending) (w' : World) : Prop :=
  ∃ s0' s1', e = .returned (.tuple #[s0', s1']) ∧ Rl w' s0' s1' xI xF ∧ Gr2 w w' s0 s1 s0' s1'
/-- Blocks that neither row is in. -/
def Apart2 (w : World) (s0 s1 : Value) (b : Nat) : Prop := b < w.heap.size ∧ s0.ownBlock ≠ some b ∧ s1.ownBlock ≠ some b
theorem Apart2.gr {w w' : World} {s0 s1 a b : Value} {y : Nat} (h : Apart2 w s0 s1 y) (g : Gr2 w w' s0 s1 a b) : Apart2 w' a b y ∧ w'.heap[y]? = w.heap[y]? :=
  ⟨⟨Nat.lt_of_lt_of_le h.1 g.size, fun e => by rcases g.n0 y e with e | e; exact h.2.1 e; have := h.1; omega, fun e => by rcases g.n1 y e with e | e; exact h.2.2 e; have := h.1; omega⟩, g.block y h.1 h.2.1 h.2.2⟩

set_option maxRecDepth 100000 in
set_option maxHeartbeats 4000000 in
theorem lists_any : ∀ (N : Nat) (v : V), szV v ≤ N → ∀ (g o : Nat) (s0 s1 : Value) (xI xF : List Value) (eI eF : List Ent) (cs : Array Value) (w : World), Laid w v g o eI eF → CellsAt w g o cs → cs.size = 8 →
    (∀ b, b = g ∨ b ∈ blks eI ∨ b ∈ blks eF → Apart2 w s0 s1 b) → Rl w s0 s1 xI xF → xI.length + szV v ≤ 1000000000 → xF.length + szV v ≤ 1000000000 →
    Calls Tryz.prog 16 #[.agg cs, s0, s1] w (RlPost s0 s1 (xI ++ eI.map Ent.sl) (xF ++ eF.map Ent.sl) w) := by
  intro N
  induction N with
  | zero => intro v hv; have := szV_pos v; omega
  | succ N ih =>
    intro v hN g o s0 s1 xI xF eI eF cs w hL hcs hcsz hs hH lI lF
    obtain ⟨k, b, i, f, t, ty, its, fs⟩ := v
    have IH := Lib.hid ih
    have HN := Lib.hid hN
    have HS := Lib.hid hs
    have HH := Lib.hid hH
    obtain ⟨p, c, q, d, i1, f1, i2, f2, hc, rfl, rfl, hE1, hE2, h3, h4⟩ := hL
    obtain rfl := rl_cells hcs hc (by rw [hcsz]; rfl)
    obtain ⟨r0p, r0c, rfl⟩ := rl_slice hH.r0
    obtain ⟨r1p, r1c, rfl⟩ := rl_slice hH.r1
    have hsz : szV (V.mk k b i f t ty its fs) = 1 + its.length + fs.length + szV.szVs its + szV.szFs fs := rfl
    rw [hsz] at lI lF
    have H3 := Lib.hid h3
    have H4 := Lib.hid h4
    have HC := Lib.hid hc
    clear hN hs ih h3 h4 hE1 hE2 hsz hH hc hcs hcsz
    go_enter Tryz.func16, Tryz.ntmps16
    go_upto_region 1 with (fail)
    obtain ⟨wa, hW⟩ : ∃ wa, w.alloc (.cells (vcells k b i f t ty p its.length c q fs.length d) 34) = wa := ⟨_, rfl⟩
    have hba : Below w.heap.size w wa := by rw [← hW]; exact (Below.refl _ _).alloc (Nat.le_refl _) _
    have hsa : wa.heap.size = w.heap.size + 1 := by rw [← hW]; simp
    have hca : CellsAt wa w.heap.size 0 (vcells k b i f t ty p its.length c q fs.length d) := by rw [← hW]; exact cellsAt_alloc _ _ _ _
    rw [hW]
    clear hW
    -- neither row lies in the box, nor where the value lies
    have hx : Apart2 wa (.slice r0p xI.length r0c) (.slice r1p xF.length r1c) w.heap.size := ⟨by omega, fun e => by have := (HH.out.r0.lt _ e).2; omega, fun e => by have := (HH.out.r1.lt _ e).2; omega⟩
    have hsa' : ∀ y, (y = g ∨ y ∈ blks (⟨g, o + 6, p, its.length, c⟩ :: (i1 ++ i2)) ∨ y ∈ blks (⟨g, o + 7, q, fs.length, d⟩ :: (f1 ++ f2))) → Apart2 wa (.slice r0p xI.length r0c) (.slice r1p xF.length r1c) y ∧ wa.heap[y]? = w.heap[y]? := fun y hy =>
      (HS.out y hy).gr (Gr2.of_below hba _ _)
    -- the box, in later worlds
    have hbox : ∀ (w' : World) (a e : Value), Gr2 wa w' (.slice r0p xI.length r0c) (.slice r1p xF.length r1c) a e → w'.cell? ⟨w.heap.size, 6, none⟩ = some (.slice p its.length c) ∧ w'.cell? ⟨w.heap.size, 7, none⟩ = some (.slice q fs.length d) := fun w' a e hg =>
      ⟨(World.cell?_of_block (a := ⟨w.heap.size, 6, none⟩) (hx.gr hg).2).trans (by simpa using hca 6 _ rfl), (World.cell?_of_block (a := ⟨w.heap.size, 7, none⟩) (hx.gr hg).2).trans (by simpa using hca 7 _ rfl)⟩
    have b1 : ∀ y, y ∈ blks (⟨g, o + 6, p, its.length, c⟩ :: (i1 ++ i2)) ↔ p.map (·.block) = some y ∨ y ∈ blks i1 ∨ y ∈ blks i2 := fun y => by
      cases p <;> simp [blks, eq_comm]
    have b2 : ∀ y, y ∈ blks (⟨g, o + 7, q, fs.length, d⟩ :: (f1 ++ f2)) ↔ q.map (·.block) = some y ∨ y ∈ blks f1 ∨ y ∈ blks f2 := fun y => by
      cases q <;> simp [blks, eq_comm]
    obtain ⟨gi, hgi, hLI, hSI⟩ : ∃ gi, (0 < its.length → p = some ⟨gi, 0, none⟩) ∧ LaidIs w its gi 0 i1 f1 ∧ (0 < its.length → ∀ y, (y = gi ∨ y ∈ blks i1 ∨ y ∈ blks f1) → Apart2 wa (.slice r0p xI.length r0c) (.slice r1p xF.length r1c) y ∧ wa.heap[y]? = w.heap[y]?) := by
      rcases H3.out with ⟨rfl, rfl, rfl⟩ | ⟨gi, rfl, h⟩
      · exact ⟨0, by simp, ⟨rfl, rfl⟩, by simp⟩
      · refine ⟨gi, fun _ => rfl, h, fun _ y hy => hsa' y ?_⟩
        rcases hy with rfl | hy | hy
        · exact .inr (.inl ((b1 _).2 (.inl rfl)))
        · exact .inr (.inl ((b1 _).2 (.inr (.inl hy))))
        · exact .inr (.inr ((b2 _).2 (.inr (.inl hy))))
    obtain ⟨gf, hgf, hLF, hSF⟩ : ∃ gf, (0 < fs.length → q = some ⟨gf, 0, none⟩) ∧ LaidFs w fs gf 0 i2 f2 ∧ (0 < fs.length → ∀ y, (y = gf ∨ y ∈ blks i2 ∨ y ∈ blks f2) → Apart2 wa (.slice r0p xI.length r0c) (.slice r1p xF.length r1c) y ∧ wa.heap[y]? = w.heap[y]?) := by
      rcases H4.out with ⟨rfl, rfl, rfl⟩ | ⟨gf, rfl, h⟩
      · exact ⟨0, by simp, ⟨rfl, rfl⟩, by simp⟩
      · refine ⟨gf, fun _ => rfl, h, fun _ y hy => hsa' y ?_⟩
        rcases hy with rfl | hy | hy
        · exact .inr (.inr ((b2 _).2 (.inl rfl)))
        · exact .inr (.inl ((b1 _).2 (.inr (.inr hy))))
        · exact .inr (.inr ((b2 _).2 (.inr (.inr hy))))
    have HGI := Lib.hid hgi
    have HGF := Lib.hid hgf
    have HLI := Lib.hid hLI
    have HLF := Lib.hid hLF
    have HSI := Lib.hid hSI
    have HSF := Lib.hid hSF
    have hli : its.length ≤ 1000000000 := by omega
    have hlf : fs.length ≤ 1000000000 := by omega
    obtain ⟨a0, a1, a2, a3, a4, a5, a6, a7⟩ := hca.all0
    have HHA := Lib.hid (HH.out.on hba)
    have HBOX := Lib.hid hbox
    have HBA := Lib.hid hba
    clear hsa hbox hx hba hca hsa' hgi hgf hLI hLF hSI hSF b1 b2 HS H3 H4 HC
    go_step
    refine wpList_plain rfl (fun K hK => ?_)
    go_step
    refine hK _ _ ?_
    clear hK K
    refine wpList_plain rfl (fun K hK => ?_)
    go_step
    refine hK _ _ ?_
    clear hK K
    refine wpList_plain rfl (fun K hK => ?_)
    go_step
    refine hK _ _ ?_
    clear hK K
    refine wpList_plain rfl (fun K hK => ?_)
    go_step
    have hb3 : Below wa.heap.size wa (wa.alloc (.cells #[.slice p its.length c] 31)) := (Below.refl _ _).alloc (Nat.le_refl _) _
    have hnew := cellsAt_alloc wa #[.slice p its.length c] 31 (0, 0)
    obtain ⟨W3, hW⟩ : ∃ W3, wa.alloc (.cells #[.slice p its.length c] 31) = W3 := ⟨_, rfl⟩
    rw [hW] at hb3 hnew ⊢
    clear hW
    refine hK _ _ ?_
    clear hK K
    refine wpList_plain rfl (fun K hK => ?_)
    have hH3 := HHA.out.on hb3
    refine wp_append_x (P := Tryz.prog) W3 (.tmp 10) (.tmp 13) 50 rfl 0 31 (.slice none 0 0) 1 24 Tryz.underlying50 (by kernel_rfl) rfl (by decide) (.slice r0p xI.length r0c) xI.length _ rfl hH3.r0 ⟨wa.heap.size, 0, none⟩ 1 1 [.slice p its.length c] rfl (by decide) rfl ?c1 ?c2 ?c3 ?c4 ?c5 ?_
    case c1 =>
      intro m u hu
      match m, hu with
      | 0, hu => cases hu; rw [addr_add]; exact hnew 0 _ rfl
      | m + 1, hu => simp at hu
    case c2 => intro u hu; simp at hu; subst hu; rfl
    case c3 => unfold maxLen; omega
    case c4 => omega
    case c5 => omega
    intro v' w2 hrow hgr hloc
    refine hK _ _ ?_
    clear hK K
    obtain ⟨hH1, hG1⟩ := hH3.push0 hrow hgr hloc
    have HH1 := Lib.hid hH1
    have HG1 := Lib.hid ((Gr2.of_below hb3 _ _).trans hG1)
    clear hH1 hG1 hrow hgr hloc hH3 hb3 hnew a0 a1 a2 a3 a4 a5 a6 a7
    obtain ⟨a6, a7⟩ := HBOX.out _ _ _ HG1.out
    go_upto_region 2 with (fail)
    go_step
    refine wpList_plain rfl (fun K hK => ?_)
    go_step
    refine hK _ _ ?_
    clear hK K
    refine wpList_plain rfl (fun K hK => ?_)
    go_step
    refine hK _ _ ?_
    clear hK K
    refine wpList_plain rfl (fun K hK => ?_)
    go_step
    refine hK _ _ ?_
    clear hK K
    refine wpList_plain rfl (fun K hK => ?_)
    go_step
    have hb3 : Below w2.heap.size w2 (w2.alloc (.cells #[.slice q fs.length d] 32)) := (Below.refl _ _).alloc (Nat.le_refl _) _
    have hnew := cellsAt_alloc w2 #[.slice q fs.length d] 32 (0, 0)
    obtain ⟨W4, hW⟩ : ∃ W4, w2.alloc (.cells #[.slice q fs.length d] 32) = W4 := ⟨_, rfl⟩
    rw [hW] at hb3 hnew ⊢
    clear hW
    refine hK _ _ ?_
    clear hK K
    refine wpList_plain rfl (fun K hK => ?_)
    have hH3 := HH1.out.on hb3
    refine wp_append_x (P := Tryz.prog) W4 (.tmp 15) (.tmp 18) 51 rfl 0 32 (.slice none 0 0) 1 24 Tryz.underlying51 (by kernel_rfl) rfl (by decide) (.slice r1p xF.length r1c) xF.length _ rfl hH3.r1 ⟨w2.heap.size, 0, none⟩ 1 1 [.slice q fs.length d] rfl (by decide) rfl ?c1 ?c2 ?c3 ?c4 ?c5 ?_
    case c1 =>
      intro m u hu
      match m, hu with
      | 0, hu => cases hu; rw [addr_add]; exact hnew 0 _ rfl
      | m + 1, hu => simp at hu
    case c2 => intro u hu; simp at hu; subst hu; rfl
    case c3 => unfold maxLen; omega
    case c4 => omega
    case c5 => omega
    intro v'' w4 hrow hgr hloc
    refine hK _ _ ?_
    clear hK K
    obtain ⟨hH2, hG2⟩ := hH3.push1 hrow hgr hloc
    have HH2 := Lib.hid hH2
    have HG2 := Lib.hid ((HG1.out.trans (Gr2.of_below hb3 _ _)).trans hG2)
    clear hH2 hG2 hrow hgr hloc hH3 hb3 hnew a6 a7
    obtain ⟨a6, a7⟩ := HBOX.out _ _ _ HG2.out
    go_wp2_with fail
    clear a6 a7
    go_loopw [1, 2, 8] (fun sa sb ii wr => ∃ j : Nat, j ≤ its.length ∧ ii = .int .i64 j ∧ ∃ xa xb : Value, xa = sa ∧ xb = sb ∧ ∃ eI1 eF1 eI2 eF2 : List Ent, Hid (i1 = eI1 ++ eI2) ∧ Hid (f1 = eF1 ++ eF2) ∧ Hid (LaidIs w (its.drop j) gi (j * 8) eI2 eF2) ∧
      Hid (eI1.length + szV.szVs (its.drop j) ≤ szV.szVs its ∧ eF1.length + szV.szVs (its.drop j) ≤ szV.szVs its) ∧ Hid (Rl wr xa xb (xI ++ [.slice p its.length c] ++ eI1.map Ent.sl) (xF ++ [.slice q fs.length d] ++ eF1.map Ent.sl)) ∧ Hid (Gr2 wa wr (.slice r0p xI.length r0c) (.slice r1p xF.length r1c) xa xb)) (fun _ _ ii _ => its.length - (intOf ii).toNat)
    case atStart => exact ⟨0, by omega, rfl, _, _, rfl, rfl, [], [], i1, f1, Lib.hid rfl, Lib.hid rfl, Lib.hid (by simpa using HLI.out), Lib.hid (by simp), Lib.hid (by simpa using HH2.out), HG2⟩
    case round =>
      obtain ⟨j, hj, rfl, sa, sb, rfl, rfl, eI1, eF1, eI2, eF2, he1, he2, hla, hz, hrl, hgr⟩ := hrel
      obtain ⟨q6, q7⟩ := HBOX.out _ _ _ hgr.out
      by_cases hlt2 : j < its.length
      · obtain rfl := HGI.out (by omega)
        obtain ⟨u, hu⟩ : ∃ u, its[j]? = some u := ⟨_, List.getElem?_eq_getElem hlt2⟩
        obtain ⟨a1, b1, a2, b2, rfl, rfl, hlu, hlr⟩ := hla.out.step hu
        have hsz : szV.szVs (its.drop j) = szV u + szV.szVs (its.drop (j + 1)) := by rw [drop_some hu, szV.szVs]
        have hln := laid_len hlu
        have huN : szV u ≤ N := by
          have := szVs_get hu
          have := HN.out
          simp only [szV] at this
          omega
        have hbu : ∀ y, y = gi ∨ y ∈ blks a1 ∨ y ∈ blks b1 → Apart2 wr sa sb y ∧ wr.heap[y]? = w.heap[y]? := fun y hy => by
          have h1 := HSI.out (by omega) y (by
            rw [he1.out, he2.out]
            simp only [blks_append, List.mem_append]
            rcases hy with h | h | h
            · exact .inl h
            · exact .inr (.inl (.inr (.inl h)))
            · exact .inr (.inr (.inr (.inl h))))
          exact ⟨(h1.1.gr hgr.out).1, (h1.1.gr hgr.out).2.trans h1.2⟩
        have hlw := hlu.keep (fun y hy => (hbu y hy).2)
        have hcu : ∃ cu, CellsAt wr gi (j * 8) cu ∧ ∃ uk ub ui uf ut uty up un uc uq um ud, cu = vcells uk ub ui uf ut uty up un uc uq um ud := by
          obtain ⟨uk, ub, ui, uf, ut, uty, uits, ufs⟩ := u
          obtain ⟨up, uc, uq, ud, _, _, _, _, hc, _⟩ := hlw
          exact ⟨_, hc, _, _, _, _, _, _, _, _, _, _, _, _, rfl⟩
        obtain ⟨cu, hcu, uk, ub, ui, uf, ut, uty, up, un, uc, uq, um, ud, rfl⟩ := hcu
        have hsz1 := hz.out
        have HCT := Lib.hid (IH.out u huN gi (j * 8) sa sb _ _ a1 b1 _ wr hlw hcu rfl (fun y hy => (hbu y hy).1) hrl.out (by simp; omega) (by simp; omega))
        obtain ⟨c0, c1, c2, c3, c4, c5, c6, c7⟩ := hcu.all
        have HLR := Lib.hid hlr
        unfold RlPost at HCT
        have HSZ := Lib.hid hsz
        have HLN := Lib.hid hln
        clear hsz hln hbu hlu hlr hlw hcu q7 hu hsz1 hla
        go_wp2_with (go_at_call 16; refine HCT.out.mono ?_; rintro e w6 ⟨sa', sb', rfl, hh6, hg6⟩)
        go_roundw
        case rel =>
          refine ⟨j + 1, by omega, by go_num, _, _, rfl, rfl, eI1 ++ a1, eF1 ++ b1, a2, b2, Lib.hid (by rw [he1.out, List.append_assoc]), Lib.hid (by rw [he2.out, List.append_assoc]), Lib.hid ?_, Lib.hid ?_, Lib.hid ?_, Lib.hid (hgr.out.trans hg6)⟩
          · rw [show (j + 1) * 8 = j * 8 + 8 by omega]; exact HLR.out
          · have := HSZ.out; have := HLN.out; have := hz.out; simp; omega
          · simpa [List.append_assoc] using hh6
        case measure => simp [intOf]; omega
      · obtain rfl : j = its.length := by omega
        obtain ⟨rfl, rfl⟩ : eI2 = [] ∧ eF2 = [] := by have := hla.out; rw [List.drop_length] at this; exact this
        have hI : eI1 = i1 := by rw [he1.out, List.append_nil]
        have hF : eF1 = f1 := by rw [he2.out, List.append_nil]
        subst hI
        subst hF
        have hz3 : Hid (eI1.length ≤ szV.szVs its ∧ eF1.length ≤ szV.szVs its) := Lib.hid (by have := hz.out; omega)
        clear hla hlt2 hz he1 he2 hj
        go_wp2_with fail
        clear q6 q7
        go_loopw [1, 2, 9] (fun sa sb ii wr => ∃ j : Nat, j ≤ fs.length ∧ ii = .int .i64 j ∧ ∃ xa xb : Value, xa = sa ∧ xb = sb ∧ ∃ eI3 eF3 eI2 eF2 : List Ent, Hid (i2 = eI3 ++ eI2) ∧ Hid (f2 = eF3 ++ eF2) ∧ Hid (LaidFs w (fs.drop j) gf (j * 9) eI2 eF2) ∧
          Hid (eI3.length + szV.szFs (fs.drop j) ≤ szV.szFs fs ∧ eF3.length + szV.szFs (fs.drop j) ≤ szV.szFs fs) ∧ Hid (Rl wr xa xb (xI ++ [.slice p its.length c] ++ eI1.map Ent.sl ++ eI3.map Ent.sl) (xF ++ [.slice q fs.length d] ++ eF1.map Ent.sl ++ eF3.map Ent.sl)) ∧ Hid (Gr2 wa wr (.slice r0p xI.length r0c) (.slice r1p xF.length r1c) xa xb)) (fun _ _ ii _ => fs.length - (intOf ii).toNat)
        case atStart => exact ⟨0, by omega, rfl, _, _, rfl, rfl, [], [], i2, f2, Lib.hid rfl, Lib.hid rfl, Lib.hid (by simpa using HLF.out), Lib.hid (by simp), Lib.hid (by simpa using hrl.out), hgr⟩
        case round =>
          clear hrl hgr
          obtain ⟨j, hj, rfl, sa, sb, rfl, rfl, eI3, eF3, eI2, eF2, he1, he2, hla, hz, hrl, hgr⟩ := hrel
          obtain ⟨q6, q7⟩ := HBOX.out _ _ _ hgr.out
          by_cases hlt2 : j < fs.length
          · obtain rfl := HGF.out (by omega)
            obtain ⟨u, hu⟩ : ∃ u, fs[j]? = some u := ⟨_, List.getElem?_eq_getElem hlt2⟩
            obtain ⟨a1, b1, a2, b2, rfl, rfl, hlu, hlr⟩ := hla.out.step hu
            have hsz : szV.szFs (fs.drop j) = szV u.2 + szV.szFs (fs.drop (j + 1)) := by rw [drop_some hu, szV.szFs]
            have hln := laid_len hlu
            have huN : szV u.2 ≤ N := by
              have := szFs_get hu
              have := HN.out
              simp only [szV] at this
              omega
            have hbu : ∀ y, y = gf ∨ y ∈ blks a1 ∨ y ∈ blks b1 → Apart2 wr sa sb y ∧ wr.heap[y]? = w.heap[y]? := fun y hy => by
              have h1 := HSF.out (by omega) y (by
                rw [he1.out, he2.out]
                simp only [blks_append, List.mem_append]
                rcases hy with h | h | h
                · exact .inl h
                · exact .inr (.inl (.inr (.inl h)))
                · exact .inr (.inr (.inr (.inl h))))
              exact ⟨(h1.1.gr hgr.out).1, (h1.1.gr hgr.out).2.trans h1.2⟩
            have hlw := hlu.keep (fun y hy => (hbu y hy).2)
            have hcu : ∃ cu, CellsAt wr gf (j * 9 + 1) cu ∧ ∃ uk ub ui uf ut uty up un uc uq um ud, cu = vcells uk ub ui uf ut uty up un uc uq um ud := by
              obtain ⟨un, uk, ub, ui, uf, ut, uty, uits, ufs⟩ := u
              obtain ⟨up, uc, uq, ud, _, _, _, _, hc, _⟩ := hlw
              exact ⟨_, hc, _, _, _, _, _, _, _, _, _, _, _, _, rfl⟩
            obtain ⟨cu, hcu, uk, ub, ui, uf, ut, uty, up, un, uc, uq, um, ud, rfl⟩ := hcu
            have hsz1 := hz.out
            have hz31 := hz3.out
            have HCT := Lib.hid (IH.out u.2 huN gf (j * 9 + 1) sa sb _ _ a1 b1 _ wr hlw hcu rfl (fun y hy => (hbu y hy).1) hrl.out (by simp; omega) (by simp; omega))
            obtain ⟨c0, c1, c2, c3, c4, c5, c6, c7⟩ := hcu.all
            have HLR := Lib.hid hlr
            unfold RlPost at HCT
            have HSZ := Lib.hid hsz
            have HLN := Lib.hid hln
            clear hsz hln hbu hlu hlr hlw hcu q6 hu hsz1 hz31 hla
            go_wp2_with (go_at_call 16; refine HCT.out.mono ?_; rintro e w6 ⟨sa', sb', rfl, hh6, hg6⟩)
            go_roundw
            case rel =>
              refine ⟨j + 1, by omega, by go_num, _, _, rfl, rfl, eI3 ++ a1, eF3 ++ b1, a2, b2, Lib.hid (by rw [he1.out, List.append_assoc]), Lib.hid (by rw [he2.out, List.append_assoc]), Lib.hid ?_, Lib.hid ?_, Lib.hid ?_, Lib.hid (hgr.out.trans hg6)⟩
              · rw [show (j + 1) * 9 = j * 9 + 9 by omega]; exact HLR.out
              · have := HSZ.out; have := HLN.out; have := hz.out; simp; omega
              · simpa [List.append_assoc] using hh6
            case measure => simp [intOf]; omega
          · obtain rfl : j = fs.length := by omega
            obtain ⟨rfl, rfl⟩ : eI2 = [] ∧ eF2 = [] := by have := hla.out; rw [List.drop_length] at this; exact this
            have hI : eI3 = i2 := by rw [he1.out, List.append_nil]
            have hF : eF3 = f2 := by rw [he2.out, List.append_nil]
            subst hI
            subst hF
            have HP := Lib.hid (show RlPost (.slice r0p xI.length r0c) (.slice r1p xF.length r1c) (xI ++ List.map Ent.sl (⟨g, o + 6, p, its.length, c⟩ :: (eI1 ++ eI3))) (xF ++ List.map Ent.sl (⟨g, o + 7, q, fs.length, d⟩ :: (eF1 ++ eF3))) w (.returned (.tuple #[sa, sb])) wr from
              ⟨sa, sb, rfl, by simpa [List.append_assoc, Ent.sl] using hrl.out, (Gr2.of_below HBA.out _ _).trans hgr.out⟩)
            clear hrl hgr hla hlt2 hz he1 he2 hj q6
            go_wp2_with fail
            exact bodyPost_ret (v := .tuple #[sa, sb]) (by simp [results, Tryz.results16, go_sem]) rfl HP.out
end Go.Proofs.YtldjbgklmeigmaaGreatDoor

namespace Go.Proofs.YtldjbgklmeigmaaGreatDoor
open Go Go.RowKit
attribute [local go_sem] run_store_float

theorem setCells_rest (b : Nat) : ∀ (vs : List Value) (o : Nat) (w : World), (w.setCells b o vs).os = w.os ∧ (w.setCells b o vs).tape = w.tape ∧ (w.setCells b o vs).output = w.output ∧ (w.setCells b o vs).heap.size = w.heap.size
  | [], o, w => ⟨rfl, rfl, rfl, rfl⟩
  | v :: r, o, w => by
    obtain ⟨h1, h2, h3, h4⟩ := setCells_rest b r (o + 1) (w.setCell ⟨b, o, none⟩ v)
    exact ⟨h1, h2, h3, by show ((w.setCell ⟨b, o, none⟩ v).setCells b (o + 1) r).heap.size = _; rw [h4]; simp [World.setCell]⟩
theorem setCells_others (b : Nat) {k : Nat} : ∀ (vs : List Value) (o : Nat) (w : World), k ≠ b → (w.setCells b o vs).heap[k]? = w.heap[k]?
  | [], o, w, _ => rfl
  | v :: r, o, w, hk => by
    show ((w.setCell ⟨b, o, none⟩ v).setCells b (o + 1) r).heap[k]? = _
    rw [setCells_others b r (o + 1) _ hk]
    exact Below.heap_setCell _ _ _ _ hk
theorem setCells_cells (b : Nat) (e : TypeId) (fz : Nat × Nat) : ∀ (vs : List Value) (o : Nat) (w : World) (c : Array Value), w.heap[b]? = some (.cells c e fz) → ∃ c', (w.setCells b o vs).heap[b]? = some (.cells c' e fz) ∧ c'.size = c.size
  | [], o, w, c, h => ⟨c, h, rfl⟩
  | v :: r, o, w, c, h => by
    have h0 : (w.setCell ⟨b, o, none⟩ v).heap[b]? = some (.cells (c.setIfInBounds o v) e fz) := heap_setCell_same h v
    obtain ⟨c', h1, h2⟩ := setCells_cells b e fz r (o + 1) _ _ h0
    exact ⟨c', h1, by rw [h2]; simp⟩
@[reducible] def markV (n : Int) : Array Value := vcells 2 false n 0 ⟨#[]⟩ ⟨#[]⟩ none 0 0 none 0 0
@[reducible] def markM (n : Int) : Array Value := #[.string ⟨#[]⟩, .int .i64 2, .bool false, .int .i64 n, .float .f64 0, .string ⟨#[]⟩, .string ⟨#[]⟩, .slice none 0 0, .slice none 0 0]
def markBase : Int := 1099511627776
/-- A list's block. -/
def RowB (w : World) (T z : Nat) (e : Ent) : Prop :=
  (e.n = 0 ∧ e.p = none ∧ e.c = 0) ∨ ∃ g cur, e.p = some ⟨g, 0, none⟩ ∧ w.heap[g]? = some (.cells cur T (0, 0)) ∧ cur.size = e.c * z ∧ e.n ≤ e.c ∧ e.c ≤ maxLen
theorem RowB.keep {w w' : World} {T z : Nat} {e : Ent} (h : RowB w T z e) (hk : ∀ b, e.p.map (·.block) = some b → w'.heap[b]? = w.heap[b]?) : RowB w' T z e := by
  rcases h with h | ⟨g, cur, hp, hh, r⟩
  · exact .inl h
  · exact .inr ⟨g, cur, hp, (hk g (by simp [hp])).trans hh, r⟩
/-- The first m elements of a list bear the marks behind s. -/
def MkRow (w : World) (z : Nat) (mk : Int → Array Value) (e : Ent) (s : Int) (m : Nat) : Prop := ∀ g, e.p = some ⟨g, 0, none⟩ → ∀ j : Nat, j < m → w.rangeAt g (j * z) (mk (s + j + 1)).toList
def tot (l : List Ent) : Nat := (l.map (·.n)).sum
theorem tot_step {l : List Ent} {k : Nat} {e : Ent} (h : l[k]? = some e) : tot (l.take (k + 1)) = tot (l.take k) + e.n := by
  unfold tot
  rw [List.take_add_one, h]
  simp
theorem tot_le {l : List Ent} (k : Nat) : tot (l.take k) ≤ tot l := by
  unfold tot
  conv => rhs; rw [← List.take_append_drop k l]
  rw [List.map_append, List.sum_append]
  omega
/-- The first k lists bear their marks, and m elements of the next. -/
def MkTo (w : World) (z : Nat) (mk : Int → Array Value) (es : List Ent) (s : Int) (k m : Nat) : Prop :=
  (∀ i e, es[i]? = some e → i < k → MkRow w z mk e (s + tot (es.take i)) e.n) ∧ ∀ e, es[k]? = some e → MkRow w z mk e (s + tot (es.take k)) m
def MkAll (w : World) (z : Nat) (mk : Int → Array Value) (es : List Ent) (s : Int) : Prop := ∀ i e, es[i]? = some e → MkRow w z mk e (s + tot (es.take i)) e.n
theorem MkTo.start (w : World) (z : Nat) (mk : Int → Array Value) (es : List Ent) (s : Int) : MkTo w z mk es s 0 0 := ⟨fun _ _ _ h => by omega, fun _ _ _ _ _ h => by omega⟩
theorem MkTo.next {w : World} {z : Nat} {mk : Int → Array Value} {es : List Ent} {s : Int} {k : Nat} {e : Ent} (h : MkTo w z mk es s k e.n) (he : es[k]? = some e) : MkTo w z mk es s (k + 1) 0 :=
  ⟨fun i e' he' hi => by
    by_cases hik : i = k
    · subst hik
      rw [he] at he'
      cases he'
      exact h.2 e he
    · exact h.1 i e' he' (by omega), fun _ _ _ _ _ h => by omega⟩
theorem MkTo.all {w : World} {z : Nat} {mk : Int → Array Value} {es : List Ent} {s : Int} {m : Nat} (h : MkTo w z mk es s es.length m) : MkAll w z mk es s := fun i e he => h.1 i e he (List.getElem?_eq_some_iff.1 he).1
theorem mem_blks {es : List Ent} {e : Ent} {a : Addr} (h : e ∈ es) (hp : e.p = some a) : a.block ∈ blks es := List.mem_filterMap.2 ⟨e, h, by simp [hp]⟩
theorem blks_cons_some {e : Ent} {r : List Ent} {a : Addr} (hp : e.p = some a) : blks (e :: r) = a.block :: blks r := by simp [blks, hp]
theorem blks_cons_nodup {e : Ent} {r : List Ent} (h : (blks (e :: r)).Nodup) : (blks r).Nodup := by
  cases hp : e.p with
  | none => simpa [blks, hp] using h
  | some a => rw [blks_cons_some hp] at h; exact (List.nodup_cons.1 h).2
theorem blks_dif : ∀ {es : List Ent} {i k : Nat} {e e' : Ent} {a b : Addr}, (blks es).Nodup → es[i]? = some e → es[k]? = some e' → e.p = some a → e'.p = some b → i ≠ k → a.block ≠ b.block
  | [], i, _, _, _, _, _, _, h, _, _, _, _ => by simp at h
  | x :: r, 0, 0, _, _, _, _, _, _, _, _, _, h => absurd rfl h
  | x :: r, 0, k + 1, e, e', a, b, hn, h1, h2, hp, hq, _ => by
    simp at h1
    subst h1
    rw [blks_cons_some hp] at hn
    exact fun e0 => (List.nodup_cons.1 hn).1 (e0 ▸ mem_blks (List.mem_of_getElem? (by simpa using h2)) hq)
  | x :: r, i + 1, 0, e, e', a, b, hn, h1, h2, hp, hq, _ => by
    simp at h2
    subst h2
    rw [blks_cons_some hq] at hn
    exact fun e0 => (List.nodup_cons.1 hn).1 (e0 ▸ mem_blks (List.mem_of_getElem? (by simpa using h1)) hp)
  | x :: r, i + 1, k + 1, e, e', a, b, hn, h1, h2, hp, hq, hne => blks_dif (blks_cons_nodup hn) (by simpa using h1) (by simpa using h2) hp hq (fun e => hne (by rw [e]))

/-- What the marks leave as it was. -/
structure FrM (w w' : World) (eI eF : List Ent) : Prop where
  os : w'.os = w.os
  tape : w'.tape = w.tape
  output : w'.output = w.output
  size : w'.heap.size = w.heap.size
  block : ∀ b, b ∉ blks eI → b ∉ blks eF → w'.heap[b]? = w.heap[b]?
  rI : ∀ e ∈ eI, RowB w' 34 8 e
  rF : ∀ e ∈ eF, RowB w' 58 9 e
theorem FrM.start {w : World} {eI eF : List Ent} (h1 : ∀ e ∈ eI, RowB w 34 8 e) (h2 : ∀ e ∈ eF, RowB w 58 9 e) : FrM w w eI eF := ⟨rfl, rfl, rfl, rfl, fun _ _ _ => rfl, h1, h2⟩

theorem RowB.store {w : World} {T z : Nat} {e : Ent} (h : RowB w T z e) (g o : Nat) (vs : List Value) : RowB (w.setCells g o vs) T z e := by
  rcases h with h | ⟨g', cur, hp, hh, h1, h2, h3⟩
  · exact .inl h
  · by_cases hg : g' = g
    · subst hg
      obtain ⟨c', e1, e2⟩ := setCells_cells g' T (0, 0) vs o w cur hh
      exact .inr ⟨g', c', hp, e1, by rw [e2]; exact h1, h2, h3⟩
    · exact .inr ⟨g', cur, hp, by rw [setCells_others _ _ _ _ hg]; exact hh, h1, h2, h3⟩
theorem FrM.store {w w' : World} {eI eF : List Ent} (h : FrM w w' eI eF) {g : Nat} (hg : g ∈ blks eI ∨ g ∈ blks eF) (o : Nat) (vs : List Value) : FrM w (w'.setCells g o vs) eI eF := by
  obtain ⟨e1, e2, e3, e4⟩ := setCells_rest g vs o w'
  refine ⟨e1.trans h.os, e2.trans h.tape, e3.trans h.output, e4.trans h.size, fun b h1 h2 => ?_, fun e he => (h.rI e he).store _ _ _, fun e he => (h.rF e he).store _ _ _⟩
  rw [setCells_others _ _ _ _ (fun e => by subst e; rcases hg with hg | hg; exact h1 hg; exact h2 hg)]
  exact h.block b h1 h2
theorem RowB.there {w : World} {T z : Nat} {e : Ent} (h : RowB w T z e) {g : Nat} (hp : e.p = some ⟨g, 0, none⟩) {j : Nat} (hj : j < e.n) : w.there g (j * z) z := by
  rcases h with ⟨h, _⟩ | ⟨g', cur, hp', hh, h1, h2, h3⟩
  · omega
  · rw [hp] at hp'
    cases hp'
    intro i hi
    have hlt : j * z + i < cur.size := by
      have h4 : j * z + z ≤ e.n * z := by rw [← Nat.succ_mul]; exact Nat.mul_le_mul_right z hj
      have h5 : e.n * z ≤ e.c * z := Nat.mul_le_mul_right z h2
      omega
    refine ⟨?_, by simp [World.frozen?, hh]⟩
    simp only [World.cell?, hh, Option.isSome_none, Bool.false_eq_true, if_false]
    rw [Array.getElem?_eq_getElem hlt]
    rfl
theorem MkRow.apart {w : World} {z : Nat} {mk : Int → Array Value} {e : Ent} {s : Int} {m : Nat} (h : MkRow w z mk e s m) {g : Nat} (hg : ∀ a, e.p = some a → a.block ≠ g) (o : Nat) (vs : List Value) : MkRow (w.setCells g o vs) z mk e s m :=
  fun g' hp j hj => World.rangeAt_setCells_apart (h g' hp j hj) g o vs (.inl (hg _ hp))
theorem MkRow.here {w : World} {z : Nat} {mk : Int → Array Value} {e : Ent} {s : Int} {q q' m : Nat} (h : MkRow w z mk e s q) (hz : ∀ n, (mk n).size = z) {g : Nat} (hp : e.p = some ⟨g, 0, none⟩) (ht : w.there g (m * z) z) (hq : ∀ j, j < q' → j < q ∨ j = m) {n : Int} (hn : n = s + m + 1) :
    MkRow (w.setCells g (m * z) (mk n).toList) z mk e s q' := fun g' hp' j hj => by
  rw [hp] at hp'
  cases hp'
  subst hn
  by_cases hjm : j = m
  · subst hjm
    exact World.rangeAt_setCells_same w g (j * z) _ (by simpa [hz] using ht)
  · rcases hq j hj with hj' | hj'
    · refine World.rangeAt_setCells_apart (h g hp j hj') g (m * z) _ (.inr ?_)
      simp only [Array.length_toList, hz]
      rcases Nat.lt_or_gt_of_ne hjm with hlt | hlt
      · left; rw [← Nat.succ_mul]; exact Nat.mul_le_mul_right z hlt
      · right; rw [← Nat.succ_mul]; exact Nat.mul_le_mul_right z hlt
    · exact absurd hj' hjm
theorem MkTo.store {w : World} {z : Nat} {mk : Int → Array Value} {es : List Ent} {s : Int} {k m : Nat} (h : MkTo w z mk es s k m) (hn : (blks es).Nodup) (hz : ∀ n, (mk n).size = z) {e : Ent} (he : es[k]? = some e) {g : Nat} (hp : e.p = some ⟨g, 0, none⟩) (ht : w.there g (m * z) z) {n : Int} (hnn : n = s + tot (es.take k) + m + 1) :
    MkTo (w.setCells g (m * z) (mk n).toList) z mk es s k (m + 1) :=
  ⟨fun i e' he' hi => (h.1 i e' he' hi).apart (fun a ha => blks_dif hn he' he ha hp (by omega)) _ _, fun e' he' => by
    rw [he] at he'
    cases he'
    exact (h.2 e he).here hz hp ht (fun j hj => by omega) hnn⟩
theorem MkAll.store {w : World} {z : Nat} {mk : Int → Array Value} {es : List Ent} {s : Int} {k m : Nat} (h : MkAll w z mk es s) (hn : (blks es).Nodup) (hz : ∀ n, (mk n).size = z) {e : Ent} (he : es[k]? = some e) {g : Nat} (hp : e.p = some ⟨g, 0, none⟩) (ht : w.there g (m * z) z) (hm : m < e.n) {n : Int} (hnn : n = s + tot (es.take k) + m + 1) :
    MkAll (w.setCells g (m * z) (mk n).toList) z mk es s := fun i e' he' => by
  by_cases hik : i = k
  · subst hik
    rw [he] at he'
    cases he'
    exact (h i e he).here hz hp ht (fun j hj => .inl hj) hnn
  · exact (h i e' he').apart (fun a ha => blks_dif hn he' he ha hp hik) _ _
theorem MkAll.other {w : World} {z : Nat} {mk : Int → Array Value} {es : List Ent} {s : Int} (h : MkAll w z mk es s) {g : Nat} (hg : g ∉ blks es) (o : Nat) (vs : List Value) : MkAll (w.setCells g o vs) z mk es s := fun i e he =>
  (h i e he).apart (fun a ha e0 => hg (by rw [← e0]; exact mem_blks (List.mem_of_getElem? he) ha)) _ _
theorem markV_size (n : Int) : (markV n).size = 8 := rfl
theorem markM_size (n : Int) : (markM n).size = 9 := rfl

/-- A row of slices, as a reader sees it. -/
def Row1 (w : World) (s : Value) (es : List Ent) (bad : Nat → Prop) : Prop := ∃ p c, s = .slice p es.length c ∧ ∀ (k : Nat) e, es[k]? = some e → ∃ q, p = some ⟨q, 0, none⟩ ∧ ¬ bad q ∧ w.cell? ⟨q, k, none⟩ = some e.sl
theorem row1_of {w : World} {T : Nat} {s : Value} {es : List Ent} (h : w.ownsRow 0 T 1 s (es.map Ent.sl).length (es.map Ent.sl)) {bad : Nat → Prop} (hb : ∀ g, s.ownBlock = some g → ¬ bad g) : Row1 w s es bad := by
  rcases h.2 with ⟨h1, h2⟩ | ⟨g, cap, cur, rfl, _, hg, hn, _, hs, ht⟩
  · have : es = [] := by simpa using h2
    subst this
    exact ⟨none, 0, h1, fun k e h => by simp at h⟩
  · refine ⟨some ⟨g, 0, none⟩, cap, by simp, fun k e he => ⟨g, rfl, hb g rfl, ?_⟩⟩
    have hk : (es.map Ent.sl)[k]? = some e.sl := by simp [he]
    have hj := (List.getElem?_eq_some_iff.1 hk).1
    simp only [World.cell?, hg, Option.isSome_none, Bool.false_eq_true, if_false]
    rw [← Array.getElem?_toList, ← hk]
    conv => rhs; rw [← ht]
    rw [List.getElem?_take_of_lt (by omega)]

def MkPost (look : Bool) (w : World) (eI eF : List Ent) (e : Ending) (w' : World) : Prop :=
  e = .returned (.bool true) ∧ FrM w w' eI eF ∧ MkAll w' 8 markV eI markBase ∧ MkAll w' 9 markM eF (markBase + tot eI)

set_option maxRecDepth 100000 in
set_option maxHeartbeats 4000000 in
theorem rkmarked_any (look : Bool) (s0 s1 : Value) (eI eF : List Ent) (w : World) (h0 : Row1 w s0 eI (fun b => b ∈ blks eI ∨ b ∈ blks eF)) (h1 : Row1 w s1 eF (fun b => b ∈ blks eI ∨ b ∈ blks eF)) (hn : (blks eI ++ blks eF).Nodup)
    (hI : ∀ e ∈ eI, RowB w 34 8 e) (hF : ∀ e ∈ eF, RowB w 58 9 e) (l0 : eI.length ≤ 1000000000) (l1 : eF.length ≤ 1000000000) (t0 : tot eI ≤ 1000000000) (t1 : tot eF ≤ 1000000000)
    (hl : look = true → MkAll w 8 markV eI markBase ∧ MkAll w 9 markM eF (markBase + tot eI)) :
    Calls Tryz.prog 17 #[s0, s1, .bool look] w (MkPost look w eI eF) := by
  obtain ⟨p0, c0, rfl, hr0⟩ := h0
  obtain ⟨p1, c1, rfl, hr1⟩ := h1
  have hnI := (List.nodup_append.1 hn).1
  have hnF := (List.nodup_append.1 hn).2.1
  have hnX := (List.nodup_append.1 hn).2.2
  have HR0 := Lib.hid hr0
  have HR1 := Lib.hid hr1
  have HNI := Lib.hid hnI
  have HNF := Lib.hid hnF
  have HNX := Lib.hid hnX
  have HL := Lib.hid hl
  have HS := Lib.hid (FrM.start hI hF)
  have HT0 := Lib.hid t0
  have HT1 := Lib.hid t1
  clear hr0 hr1 hn hnI hnF hnX hl hI hF t0 t1
  go_enter Tryz.func17, Tryz.ntmps17
  go_wp2_with fail
  go_loopw [7, 8] (fun nv ii wr => ∃ k : Nat, k ≤ eI.length ∧ ii = .int .i64 k ∧ ∃ m : Int, nv = .int .i64 m ∧ Hid (m = markBase + tot (eI.take k)) ∧ Hid (FrM w wr eI eF) ∧ Hid (MkTo wr 8 markV eI markBase k 0) ∧
    Hid (look = true → MkAll wr 8 markV eI markBase ∧ MkAll wr 9 markM eF (markBase + tot eI))) (fun _ ii _ => eI.length - (intOf ii).toNat)
  case atStart => exact ⟨0, by omega, rfl, _, rfl, Lib.hid (by simp [markBase, tot]), HS, Lib.hid (MkTo.start _ _ _ _ _), HL⟩
  case round =>
    obtain ⟨k, hk, rfl, m, rfl, HM, HFR, HMK, HLK⟩ := hrel
    by_cases hlt : k < eI.length
    · obtain ⟨e, he⟩ : ∃ e, eI[k]? = some e := ⟨_, List.getElem?_eq_getElem hlt⟩
      obtain ⟨q, rfl, hbq, hcq⟩ := HR0.out k e he
      obtain ⟨ehb, eho, ep, en, ec⟩ := e
      have HE := Lib.hid he
      have hc0 : ∀ w', FrM w w' eI eF → w'.cell? ⟨q, k, none⟩ = some (.slice ep en ec) := fun w' h => (World.cell?_of_block (a := ⟨q, k, none⟩) (h.block q (fun h => hbq (.inl h)) (fun h => hbq (.inr h)))).trans hcq
      have HC0 := Lib.hid hc0
      have hen : en ≤ 1000000000 := by have := tot_step he; have := tot_le (l := eI) (k + 1); have := HT0.out; simp only at *; omega
      clear he hbq hcq hc0
      go_wp2_with fail
      go_loopw [7, 9] (fun nv ii wj => ∃ j : Nat, j ≤ en ∧ ii = .int .i64 j ∧ ∃ m : Int, nv = .int .i64 m ∧ Hid (m = markBase + tot (eI.take k) + j) ∧ Hid (FrM w wj eI eF) ∧ Hid (MkTo wj 8 markV eI markBase k j) ∧
        Hid (look = true → MkAll wj 8 markV eI markBase ∧ MkAll wj 9 markM eF (markBase + tot eI))) (fun _ ii _ => en - (intOf ii).toNat)
      case atStart => exact ⟨0, by omega, rfl, m, rfl, Lib.hid (by rw [HM.out]; simp), HFR, HMK, HLK⟩
      case round =>
        clear HM HFR HMK HLK
        obtain ⟨j, hj, rfl, m, rfl, HM, HFR, HMK, HLK⟩ := hrel
        have hcq := HC0.out _ HFR.out
        by_cases hjl : j < en
        · have hrow := HFR.out.rI _ (List.mem_of_getElem? HE.out)
          obtain ⟨g, hp⟩ : ∃ g, ep = some ⟨g, 0, none⟩ := by
            rcases hrow with ⟨h, _⟩ | ⟨g, cur, hp, _⟩
            · dsimp only at h; omega
            · exact ⟨g, hp⟩
          subst hp
          have hth := hrow.there (g := g) rfl hjl
          have hgm : g ∈ blks eI := mem_blks (List.mem_of_getElem? HE.out) rfl
          have hgF : g ∉ blks eF := fun h => HNX.out g hgm g h rfl
          have hmm : Hid (markBase + tot (eI.take k) + (j : Int) + 1 = m + 1) := Lib.hid (by rw [HM.out])
          have hmr : m ≤ 1099511627776 + 1000000000 ∧ 1099511627776 ≤ m := by
            have := HM.out
            have h2 := tot_step HE.out
            have h3 := tot_le (l := eI) (k + 1)
            have := HT0.out
            simp only [markBase] at *
            omega
          have HFR2 := Lib.hid (HFR.out.store (.inl hgm) (j * 8) (markV (m + 1)).toList)
          have HMK2 := Lib.hid (HMK.out.store HNI.out markV_size HE.out rfl hth (n := m + 1) hmm.out.symm)
          have HLK2 : Hid (look = true → MkAll (wr.setCells g (j * 8) (markV (m + 1)).toList) 8 markV eI markBase ∧ MkAll (wr.setCells g (j * 8) (markV (m + 1)).toList) 9 markM eF (markBase + tot eI)) := Lib.hid (fun h =>
            ⟨(HLK.out h).1.store HNI.out markV_size HE.out rfl hth hjl hmm.out.symm, (HLK.out h).2.other hgF _ _⟩)
          have HTH := Lib.hid hth
          have hint : look = true → wr.cell? ⟨g, j * 8 + 2, none⟩ = some (.int .i64 (m + 1)) := fun h => by
            have := (HLK.out h).1 k _ HE.out g rfl j hjl 2 (.int .i64 (markBase + tot (eI.take k) + (j : Int) + 1)) rfl
            rw [this, hmm.out]
          clear hrow hth hgm hgF hmm
          cases look with
          | false =>
            clear hint
            go_upto_region 11 with (fail)
            go_step
            iterate 8
              refine wpList_plain rfl (fun K hK => ?_)
              go_step
              refine hK _ _ ?_
              clear hK K
            refine wpList_plain rfl (fun K hK => ?_)
            refine wp_store_mid (P := Tryz.prog) 34 (.tmp 49) (.tmp 48) rfl g (j * 8) (markV (m + 1)) rfl rfl HTH.out (by kernel_rfl) (vcells_one ..) ?_
            refine hK _ _ ?_
            clear hK K
            generalize wr.setCells g (j * 8) (markV (m + 1)).toList = wn at *
            go_wp2_with fail
            go_roundw
            case rel => exact ⟨j + 1, by omega, by go_num, m + 1, rfl, Lib.hid (by rw [HM.out]; simp; omega), HFR2, HMK2, HLK2⟩
            case measure => simp [intOf]; omega
          | true =>
            have hint' := hint rfl
            clear hint
            go_upto_region 11 with (fail)
            go_step
            iterate 8
              refine wpList_plain rfl (fun K hK => ?_)
              go_step
              refine hK _ _ ?_
              clear hK K
            refine wpList_plain rfl (fun K hK => ?_)
            refine wp_store_mid (P := Tryz.prog) 34 (.tmp 49) (.tmp 48) rfl g (j * 8) (markV (m + 1)) rfl rfl HTH.out (by kernel_rfl) (vcells_one ..) ?_
            refine hK _ _ ?_
            clear hK K hint'
            generalize wr.setCells g (j * 8) (markV (m + 1)).toList = wn at *
            go_wp2_with fail
            go_roundw
            case rel => exact ⟨j + 1, by omega, by go_num, m + 1, rfl, Lib.hid (by rw [HM.out]; simp; omega), HFR2, HMK2, Lib.hid (fun _ => HLK2.out rfl)⟩
            case measure => simp [intOf]; omega
        · obtain rfl : j = en := by omega
          have HMN := Lib.hid (HMK.out.next HE.out)
          have HTS := Lib.hid (tot_step HE.out)
          go_wp2_with fail
          go_roundw
          case rel => exact ⟨k + 1, by omega, by go_num, m, rfl, Lib.hid (by rw [HM.out, HTS.out]; simp; omega), HFR, HMN, HLK⟩
          case measure => simp [intOf]; omega
    · obtain rfl : k = eI.length := by omega
      have HMA := Lib.hid HMK.out.all
      rw [List.take_length] at HM
      clear HMK hlt hk
      go_wp2_with fail
      go_loopw [7, 10] (fun nv ii wr => ∃ k : Nat, k ≤ eF.length ∧ ii = .int .i64 k ∧ ∃ m : Int, nv = .int .i64 m ∧ Hid (m = markBase + tot eI + tot (eF.take k)) ∧ Hid (FrM w wr eI eF) ∧ Hid (MkAll wr 8 markV eI markBase) ∧ Hid (MkTo wr 9 markM eF (markBase + tot eI) k 0) ∧
        Hid (look = true → MkAll wr 9 markM eF (markBase + tot eI))) (fun _ ii _ => eF.length - (intOf ii).toNat)
      case atStart => exact ⟨0, by omega, rfl, m, rfl, Lib.hid (by rw [HM.out]; simp [tot]), HFR, HMA, Lib.hid (MkTo.start _ _ _ _ _), Lib.hid (fun h => (HLK.out h).2)⟩
      case round =>
        clear HM HFR HMA HLK
        obtain ⟨k, hk, rfl, m, rfl, HM, HFR, HMA, HMK, HLK⟩ := hrel
        by_cases hlt : k < eF.length
        · obtain ⟨e, he⟩ : ∃ e, eF[k]? = some e := ⟨_, List.getElem?_eq_getElem hlt⟩
          obtain ⟨q, rfl, hbq, hcq⟩ := HR1.out k e he
          obtain ⟨ehb, eho, ep, en, ec⟩ := e
          have HE := Lib.hid he
          have hc0 : ∀ w', FrM w w' eI eF → w'.cell? ⟨q, k, none⟩ = some (.slice ep en ec) := fun w' h => (World.cell?_of_block (a := ⟨q, k, none⟩) (h.block q (fun h => hbq (.inl h)) (fun h => hbq (.inr h)))).trans hcq
          have HC0 := Lib.hid hc0
          have hen : en ≤ 1000000000 := by have := tot_step he; have := tot_le (l := eF) (k + 1); have := HT1.out; simp only at *; omega
          clear he hbq hcq hc0
          go_wp2_with fail
          go_loopw [7, 11] (fun nv ii wj => ∃ j : Nat, j ≤ en ∧ ii = .int .i64 j ∧ ∃ m : Int, nv = .int .i64 m ∧ Hid (m = markBase + tot eI + tot (eF.take k) + j) ∧ Hid (FrM w wj eI eF) ∧ Hid (MkAll wj 8 markV eI markBase) ∧ Hid (MkTo wj 9 markM eF (markBase + tot eI) k j) ∧
            Hid (look = true → MkAll wj 9 markM eF (markBase + tot eI))) (fun _ ii _ => en - (intOf ii).toNat)
          case atStart => exact ⟨0, by omega, rfl, m, rfl, Lib.hid (by rw [HM.out]; simp), HFR, HMA, HMK, HLK⟩
          case round =>
            clear HM HFR HMA HMK HLK
            obtain ⟨j, hj, rfl, m, rfl, HM, HFR, HMA, HMK, HLK⟩ := hrel
            have hcq := HC0.out _ HFR.out
            by_cases hjl : j < en
            · have hrow := HFR.out.rF _ (List.mem_of_getElem? HE.out)
              obtain ⟨g, hp⟩ : ∃ g, ep = some ⟨g, 0, none⟩ := by
                rcases hrow with ⟨h, _⟩ | ⟨g, cur, hp, _⟩
                · dsimp only at h; omega
                · exact ⟨g, hp⟩
              subst hp
              have hth := hrow.there (g := g) rfl hjl
              have hgm : g ∈ blks eF := mem_blks (List.mem_of_getElem? HE.out) rfl
              have hgI : g ∉ blks eI := fun h => HNX.out g h g hgm rfl
              have hmm : Hid (markBase + tot eI + tot (eF.take k) + (j : Int) + 1 = m + 1) := Lib.hid (by rw [HM.out])
              have hmr : m ≤ 1099511627776 + 2000000000 ∧ 1099511627776 ≤ m := by
                have := HM.out
                have h2 := tot_step HE.out
                have h3 := tot_le (l := eF) (k + 1)
                have := HT0.out
                have := HT1.out
                simp only [markBase] at *
                omega
              have HFR2 := Lib.hid (HFR.out.store (.inr hgm) (j * 9) (markM (m + 1)).toList)
              have HMA2 := Lib.hid (HMA.out.other hgI (j * 9) (markM (m + 1)).toList)
              have HMK2 := Lib.hid (HMK.out.store HNF.out markM_size HE.out rfl hth (n := m + 1) hmm.out.symm)
              have HLK2 : Hid (look = true → MkAll (wr.setCells g (j * 9) (markM (m + 1)).toList) 9 markM eF (markBase + tot eI)) := Lib.hid (fun h => (HLK.out h).store HNF.out markM_size HE.out rfl hth hjl hmm.out.symm)
              have HTH := Lib.hid hth
              have hint : look = true → wr.cell? ⟨g, j * 9 + 1 + 2, none⟩ = some (.int .i64 (m + 1)) := fun h => by
                have := HLK.out h k _ HE.out g rfl j hjl 3 (.int .i64 (markBase + tot eI + tot (eF.take k) + (j : Int) + 1)) rfl
                rw [show j * 9 + 1 + 2 = j * 9 + 3 by omega, this, hmm.out]
              clear hrow hth hgm hgI hmm
              cases look with
              | false =>
                clear hint
                go_upto_region 21 with (fail)
                go_step
                iterate 9
                  refine wpList_plain rfl (fun K hK => ?_)
                  go_step
                  refine hK _ _ ?_
                  clear hK K
                refine wpList_plain rfl (fun K hK => ?_)
                refine wp_store_mid (P := Tryz.prog) 58 (.tmp 89) (.tmp 88) rfl g (j * 9) (markM (m + 1)) rfl rfl HTH.out (by kernel_rfl) (by simp [markM, Value.oneCell']) ?_
                refine hK _ _ ?_
                clear hK K
                generalize wr.setCells g (j * 9) (markM (m + 1)).toList = wn at *
                go_wp2_with fail
                go_roundw
                case rel => exact ⟨j + 1, by omega, by go_num, m + 1, rfl, Lib.hid (by rw [HM.out]; simp; omega), HFR2, HMA2, HMK2, HLK2⟩
                case measure => simp [intOf]; omega
              | true =>
                have hint' := hint rfl
                clear hint
                go_upto_region 21 with (fail)
                go_step
                iterate 9
                  refine wpList_plain rfl (fun K hK => ?_)
                  go_step
                  refine hK _ _ ?_
                  clear hK K
                refine wpList_plain rfl (fun K hK => ?_)
                refine wp_store_mid (P := Tryz.prog) 58 (.tmp 89) (.tmp 88) rfl g (j * 9) (markM (m + 1)) rfl rfl HTH.out (by kernel_rfl) (by simp [markM, Value.oneCell']) ?_
                refine hK _ _ ?_
                clear hK K hint'
                generalize wr.setCells g (j * 9) (markM (m + 1)).toList = wn at *
                go_wp2_with fail
                go_roundw
                case rel => exact ⟨j + 1, by omega, by go_num, m + 1, rfl, Lib.hid (by rw [HM.out]; simp; omega), HFR2, HMA2, HMK2, Lib.hid (fun _ => HLK2.out rfl)⟩
                case measure => simp [intOf]; omega
            · obtain rfl : j = en := by omega
              have HMN := Lib.hid (HMK.out.next HE.out)
              have HTS := Lib.hid (tot_step HE.out)
              go_wp2_with fail
              go_roundw
              case rel => exact ⟨k + 1, by omega, by go_num, m, rfl, Lib.hid (by rw [HM.out, HTS.out]; simp; omega), HFR, HMA, HMN, HLK⟩
              case measure => simp [intOf]; omega
        · obtain rfl : k = eF.length := by omega
          have HP := Lib.hid (show MkPost look w eI eF (.returned (.bool true)) wr from ⟨rfl, HFR.out, HMA.out, HMK.out.all⟩)
          clear HMA HMK HLK HFR HM
          go_wp2_with fail
          exact bodyPost_ret (v := .bool true) (by simp [results, Tryz.results17, go_sem]) rfl HP.out
end Go.Proofs.YtldjbgklmeigmaaGreatDoor
