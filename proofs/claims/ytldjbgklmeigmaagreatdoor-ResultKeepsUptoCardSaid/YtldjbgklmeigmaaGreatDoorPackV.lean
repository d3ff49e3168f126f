/- Several texts in one: Helper text: what the walk over ResultKeeps leans on. Helper text: the rows of lists that the walk over ResultKeeps holds. Conditions: none. -/
import Derived.Test.YtldjbgklmeigmaaGreatDoorLeaf
import Derived.Test.YtldjbgklmeigmaaGreatDoorPackK
set_option linter.unusedVariables false
set_option linter.unusedSimpArgs false
namespace Go.Proofs.YtldjbgklmeigmaaGreatDoor
open Go Go.RowKit

theorem rk_shape {B : Nat} {w : World} {v : V} {cs : Array Value} (h : IsV B w v cs) : ∃ k b i f t ty p n c q m d, cs = vcells k b i f t ty p n c q m d := by
  obtain ⟨k, b, i, f, t, ty, its, fs⟩ := v
  obtain ⟨p, c, q, d, rfl, _⟩ := h
  exact ⟨k, b, i, f, t, ty, p, _, c, q, _, d, rfl⟩
mutual
theorem ok_of_sh : ∀ {v : V}, shV v → okV v
  | .mk k b i f t ty its fs, h => by
    rw [shV] at h
    rw [okV]
    exact ⟨h.1, oks_of_sh h.2.2.1, okf_of_sh h.2.2.2⟩
theorem oks_of_sh : ∀ {l : List V}, shVs l → okVs l
  | [], _ => by rw [okVs]; trivial
  | v :: r, h => by
    rw [shVs] at h
    rw [okVs]
    exact ⟨ok_of_sh h.1, oks_of_sh h.2⟩
theorem okf_of_sh : ∀ {l : List (ByteArray × V)}, shFs l → okFs l
  | [], _ => by rw [okFs]; trivial
  | x :: r, h => by
    rw [shFs] at h
    rw [okFs]
    exact ⟨ok_of_sh h.1.2, okf_of_sh h.2⟩
end
mutual
theorem ok_bare : ∀ {v : V}, okV v → okV (bareV v)
  | .mk k b i f t ty its fs, h => by
    rw [okV] at h
    rw [bareV, okV]
    refine ⟨?_, ?_, ?_⟩
    · split
      · exact h.1
      · omega
    · split
      · exact oks_bare h.2.1
      · rw [okVs]; trivial
    · split
      · exact okf_bare h.2.2
      · rw [okFs]; trivial
theorem oks_bare : ∀ {l : List V}, okVs l → okVs (bareVs l)
  | [], _ => by rw [bareVs, okVs]; trivial
  | v :: r, h => by
    rw [okVs] at h
    rw [bareVs, okVs]
    exact ⟨ok_bare h.1, oks_bare h.2⟩
theorem okf_bare : ∀ {l : List (ByteArray × V)}, okFs l → okFs (bareFs l)
  | [], _ => by rw [bareFs, okFs]; trivial
  | x :: r, h => by
    rw [okFs] at h
    rw [bareFs, okFs]
    exact ⟨ok_bare h.1, okf_bare h.2⟩
end
theorem ok_Vz : okV Vz := by simp [Vz, okV, okVs, okFs]
theorem ok_leaf {v : V} (h : okV v) : okV (leafV v) := by
  obtain ⟨k, b, i, f, t, ty, its, fs⟩ := v
  rw [leafV]
  split
  · exact ok_Vz
  · split
    · exact ok_Vz
    · exact ok_bare h
theorem leaf_bare {k : Int} {b : Bool} {i : Int} {f : Nat} {t ty : ByteArray} {its : List V} {fs : List (ByteArray × V)} (h : leafE (.mk k b i f t ty its fs) = 0) (h0 : 0 ≤ k) (h7 : k < 7) : leafV (.mk k b i f t ty its fs) = bareV (.mk k b i f t ty its fs) := by
  simp only [leafE, leafV] at h ⊢
  by_cases hk : k ≤ 0 ∨ 7 < k
  · rw [if_pos hk]
    have : k = 0 := by omega
    subst this
    simp [bareV]
  · rw [if_neg hk] at h ⊢
    by_cases hs : k = 7 ∨ (sndV (.mk k b i f t ty its fs)).2 ≠ 0
    · rw [if_pos hs] at h; cases h
    · rw [if_neg hs]
theorem leaf_snd {k : Int} {b : Bool} {i : Int} {f : Nat} {t ty : ByteArray} {its : List V} {fs : List (ByteArray × V)} (h0 : 0 ≤ k) (h7 : k < 7) : (leafE (.mk k b i f t ty its fs) = 0) ↔ ((sndV (.mk k b i f t ty its fs)).2 = 0 ∨ k = 0) := by
  simp only [leafE]
  by_cases hk : k ≤ 0 ∨ 7 < k
  · rw [if_pos hk]
    have : k = 0 := by omega
    simp [this]
  · rw [if_neg hk]
    by_cases hs : (sndV (.mk k b i f t ty its fs)).2 = 0
    · rw [if_neg (by omega)]; simp [hs]
    · rw [if_pos (.inr hs)]
      simp only [hs, false_or]
      constructor
      · intro h; cases h
      · intro h; omega
section
variable {P : Program}
/-- A conversion of a slice of bytes to its own type. -/
theorem wp_conv_bytes {o : Oper} {a : Act} {w : World} {K : Act → World → Prop} {Q : Exit → Act → World → Prop} {t : TypeId} {x : Operand} {v u : Value} {w' : World} (ho : o.op = .convert t t x) (hx : a.eval x = v)
    (hr : (convert t t v).run P w = .ok u w') (h : K (a.put o.dst u) w') : o.wp P a w K Q := by
  unfold Oper.wp execOp
  simp only [ho, hx, Sem.run_bind, hr, Result.andThen_ok, Sem.run_pure]
  exact h
end
end Go.Proofs.YtldjbgklmeigmaaGreatDoor

namespace Go.Proofs.YtldjbgklmeigmaaGreatDoor
open Go Go.RowKit

theorem leaf_bareX {B : Nat} {w : World} {v : V} {k : Int} {b : Bool} {i : Int} {f : Nat} {t ty : ByteArray} {p q : Option Addr} {n c m d : Nat} (h : IsV B w v (vcells k b i f t ty p n c q m d)) (h0 : leafE v = 0) (hk : 0 ≤ k) (h7 : k < 7) : leafV v = bareV v := by
  obtain ⟨k', b', i', f', t', ty', its, fs⟩ := v
  obtain ⟨p', c', q', d', e, _⟩ := h
  have e0 : k = k' := by have := congrArg (fun x => x[0]?) e; simpa [vcells] using this
  subst e0
  exact leaf_bare h0 hk h7

theorem leaf_sndX {B : Nat} {w : World} {v : V} {k : Int} {b : Bool} {i : Int} {f : Nat} {t ty : ByteArray} {p q : Option Addr} {n c m d : Nat} (h : IsV B w v (vcells k b i f t ty p n c q m d)) (hk : 0 ≤ k) (h7 : k < 7) : leafE v = 0 ↔ (sndV v).2 = 0 := by
  obtain ⟨k', b', i', f', t', ty', its, fs⟩ := v
  obtain ⟨p', c', q', d', e, _⟩ := h
  have e0 : k = k' := by have := congrArg (fun x => x[0]?) e; simpa [vcells] using this
  subst e0
  rw [leaf_snd hk h7]
  refine ⟨fun h => ?_, .inl⟩
  rcases h with h | h
  · exact h
  · subst h
    simp [sndV, ownF, kd]

/-! Sizes. -/
mutual
theorem bareV_sz : ∀ v : V, szV (bareV v) ≤ szV v
  | .mk k b i f t ty its fs => by
    have h1 := bareVs_sz its
    have h2 := bareFs_sz fs
    rw [bareV]
    simp only [szV]
    have a1 : (if k = 5 then bareVs its else []).length ≤ its.length ∧ szV.szVs (if k = 5 then bareVs its else []) ≤ szV.szVs its := by
      split
      · exact ⟨by rw [bareVs_eq]; simp, h1⟩
      · simp [szV.szVs]
    have a2 : (if k = 6 then bareFs fs else []).length ≤ fs.length ∧ szV.szFs (if k = 6 then bareFs fs else []) ≤ szV.szFs fs := by
      split
      · exact ⟨by rw [bareFs_eq]; simp, h2⟩
      · simp [szV.szFs]
    omega
theorem bareVs_sz : ∀ l : List V, szV.szVs (bareVs l) ≤ szV.szVs l
  | [] => by simp [bareVs, szV.szVs]
  | v :: r => by
    have := bareV_sz v
    have := bareVs_sz r
    simp only [bareVs, szV.szVs]
    omega
theorem bareFs_sz : ∀ l : List (ByteArray × V), szV.szFs (bareFs l) ≤ szV.szFs l
  | [] => by simp [bareFs, szV.szFs]
  | x :: r => by
    have := bareV_sz x.2
    have := bareFs_sz r
    simp only [bareFs, szV.szFs]
    omega
end
theorem leafV_sz (v : V) : szV (leafV v) ≤ szV v := by
  have h1 := szV_pos v
  have h2 : szV Vz = 1 := by simp [szV, szV.szVs, szV.szFs]
  obtain ⟨k, b, i, f, t, ty, its, fs⟩ := v
  simp only [leafV]
  split
  · omega
  · split
    · omega
    · exact bareV_sz _
theorem sh_mkIs (s : Int) : ∀ j m, shVs (mkIs s j m)
  | _, 0 => by rw [mkIs, shVs]; trivial
  | j, m + 1 => by
    rw [mkIs, shVs]
    exact ⟨by rw [shV]; exact ⟨by decide, by decide, by rw [shVs]; trivial, by rw [shFs]; trivial⟩, sh_mkIs s (j + 1) m⟩
theorem sh_mkFs (s : Int) : ∀ j m, shFs (mkFs s j m)
  | _, 0 => by rw [mkFs, shFs]; trivial
  | j, m + 1 => by
    rw [mkFs, shFs]
    exact ⟨⟨(show (0 : Nat) ≤ 1048576 by decide), by rw [shV]; exact ⟨by decide, by decide, by rw [shVs]; trivial, by rw [shFs]; trivial⟩⟩, sh_mkFs s (j + 1) m⟩
theorem sh_mkd {v : V} (h : shV v) (s s' : Int) : shV (mkdV s s' v) := by
  obtain ⟨k, b, i, f, t, ty, its, fs⟩ := v
  rw [shV] at h
  rw [mkdV, shV]
  exact ⟨h.1, h.2.1, sh_mkIs s _ _, sh_mkFs s' _ _⟩

/-! Rows of lists. -/
theorem rk_laid {B : Nat} {W : World} {L : List Pen} (h : Pens B W L) {x : Pen} (hx : x ∈ L) : ∃ eI eF, Laid W x.v x.g 0 eI eF ∧ (blks eI ++ blks eF).Perm x.bs :=
  laid_of (h.at' x hx).own (block_of_cells (h.at' x hx).blk)
def RlsPost (W1 : World) (r0 r1 : Value) (eI eF : List Ent) (e : Ending) (w' : World) : Prop :=
  ∃ s0 s1, e = .returned (.tuple #[s0, s1]) ∧ Rl w' s0 s1 (eI.map Ent.sl) (eF.map Ent.sl) ∧ Gr2 W1 w' r0 r1 s0 s1
theorem lists_step {W1 w : World} {r0 r1 s0 s1 : Value} {eI eF i f : List Ent} {v : V} {g : Nat} {cs : Array Value}
    (hR : Rl w s0 s1 (eI.map Ent.sl) (eF.map Ent.sl)) (hG : Gr2 W1 w r0 r1 s0 s1) (hL : Laid W1 v g 0 i f) (hc : CellsAt W1 g 0 cs) (hs : cs.size = 8)
    (hA : ∀ b, b = g ∨ b ∈ blks i ∨ b ∈ blks f → Apart2 W1 r0 r1 b) (l0 : eI.length + szV v ≤ 1000000000) (l1 : eF.length + szV v ≤ 1000000000) :
    Calls Tryz.prog 16 #[.agg cs, s0, s1] w (RlsPost W1 r0 r1 (eI ++ i) (eF ++ f)) := by
  have hA2 : ∀ b, b = g ∨ b ∈ blks i ∨ b ∈ blks f → Apart2 w s0 s1 b ∧ w.heap[b]? = W1.heap[b]? := fun b hb => (hA b hb).gr hG
  refine (lists_any _ v (Nat.le_refl _) g 0 s0 s1 _ _ i f cs w (hL.keep (fun b hb => (hA2 b hb).2)) (hc.kept (hA2 g (.inl rfl)).2) hs (fun b hb => (hA2 b hb).1) hR (by simpa using l0) (by simpa using l1)).mono ?_
  rintro e w' ⟨a, b, rfl, h1, h2⟩
  exact ⟨a, b, rfl, by simpa using h1, hG.trans h2⟩
theorem Rl.nil (w : World) : Rl w (.slice none 0 0) (.slice none 0 0) [] [] := ⟨World.ownsRow_nil _ _ _ _, World.ownsRow_nil _ _ _ _, fun g h => by cases h⟩
theorem Gr2.belowB {B : Nat} {W w : World} {r0 r1 a b : Value} (h : Gr2 W w r0 r1 a b) (hB : B ≤ W.heap.size) (h0 : ∀ g, r0.ownBlock = some g → B ≤ g) (h1 : ∀ g, r1.ownBlock = some g → B ≤ g) : Below B W w :=
  ⟨h.os, h.tape, h.output, h.size, fun k hk => h.block k (by omega) (fun e => by have := h0 k e; omega) (fun e => by have := h1 k e; omega)⟩
theorem Gr2.below {W w : World} {a b : Value} (h : Gr2 W w (.slice none 0 0) (.slice none 0 0) a b) : Below W.heap.size W w := h.belowB (Nat.le_refl _) (fun g h => by cases h) (fun g h => by cases h)
theorem ownsRow_at {w w' : World} {B T z : Nat} {v : Value} {n : Nat} {xs : List Value} (h : w.ownsRow B T z v n xs) (hk : ∀ g, v.ownBlock = some g → w'.heap[g]? = w.heap[g]?) : w'.ownsRow B T z v n xs := by
  refine ⟨h.1, ?_⟩
  rcases h.2 with h2 | ⟨g, cap, cur, rfl, hb, hg, r⟩
  · exact .inl h2
  · exact .inr ⟨g, cap, cur, rfl, hb, (hk g rfl).trans hg, r⟩
theorem Rl.at' {w w' : World} {s0 s1 : Value} {xI xF : List Value} (h : Rl w s0 s1 xI xF) (hk : ∀ g, s0.ownBlock = some g ∨ s1.ownBlock = some g → w'.heap[g]? = w.heap[g]?) : Rl w' s0 s1 xI xF :=
  ⟨ownsRow_at h.r0 (fun g hg => hk g (.inl hg)), ownsRow_at h.r1 (fun g hg => hk g (.inr hg)), h.d01⟩
theorem Rl.lt {w : World} {s0 s1 : Value} {xI xF : List Value} (h : Rl w s0 s1 xI xF) {g : Nat} (hg : s0.ownBlock = some g ∨ s1.ownBlock = some g) : g < w.heap.size := by
  rcases hg with hg | hg
  · exact (h.r0.lt g hg).2
  · exact (h.r1.lt g hg).2
theorem FrM.belowB {B : Nat} {w w' : World} {eI eF : List Ent} (h : FrM w w' eI eF) (hB : ∀ b, b ∈ blks eI ∨ b ∈ blks eF → B ≤ b) : Below B w w' :=
  ⟨h.os, h.tape, h.output, by rw [h.size]; exact Nat.le_refl _, fun k hk => h.block k (fun e => by have := hB k (.inl e); omega) (fun e => by have := hB k (.inr e); omega)⟩

/-- All that a call of marked leans on. -/
structure MkIn (w : World) (s0 s1 : Value) (eI eF : List Ent) : Prop where
  rl : Rl w s0 s1 (eI.map Ent.sl) (eF.map Ent.sl)
  far : ∀ g, s0.ownBlock = some g ∨ s1.ownBlock = some g → g ∉ blks eI ∧ g ∉ blks eF
  nd : (blks eI ++ blks eF).Nodup
  rI : ∀ e ∈ eI, RowB w 34 8 e
  rF : ∀ e ∈ eF, RowB w 58 9 e
  lI : eI.length ≤ 1000000000
  lF : eF.length ≤ 1000000000
  tI : tot eI ≤ 1000000000
  tF : tot eF ≤ 1000000000
theorem MkIn.calls {w : World} {s0 s1 : Value} {eI eF : List Ent} (h : MkIn w s0 s1 eI eF) (look : Bool) (hl : look = true → MkAll w 8 markV eI markBase ∧ MkAll w 9 markM eF (markBase + tot eI)) :
    Calls Tryz.prog 17 #[s0, s1, .bool look] w (MkPost look w eI eF) :=
  rkmarked_any look s0 s1 eI eF w (row1_of h.rl.r0 (fun g hg hb => by have := h.far g (.inl hg); rcases hb with hb | hb; exact this.1 hb; exact this.2 hb))
    (row1_of h.rl.r1 (fun g hg hb => by have := h.far g (.inr hg); rcases hb with hb | hb; exact this.1 hb; exact this.2 hb)) h.nd h.rI h.rF h.lI h.lF h.tI h.tF hl
theorem MkIn.calls0 {w : World} {s0 s1 : Value} {eI eF : List Ent} (h : MkIn w s0 s1 eI eF) : Calls Tryz.prog 17 #[s0, s1, .bool false] w (MkPost false w eI eF) :=
  h.calls false (fun e => by cases e)
theorem MkIn.marked {w w' : World} {s0 s1 : Value} {eI eF : List Ent} (h : MkIn w s0 s1 eI eF) (hf : FrM w w' eI eF) : MkIn w' s0 s1 eI eF :=
  ⟨h.rl.at' (fun g hg => hf.block g (h.far g hg).1 (h.far g hg).2), h.far, h.nd, hf.rI, hf.rF, h.lI, h.lF, h.tI, h.tF⟩
theorem RowB.below {B : Nat} {w w' : World} {T z : Nat} {e : Ent} (h : RowB w T z e) (hb : Below B w w') (hB : ∀ b, e.p.map (·.block) = some b → b < B) : RowB w' T z e := h.keep (fun b hb' => hb.block b (hB b hb'))
theorem RowB.lt {w : World} {T z : Nat} {e : Ent} (h : RowB w T z e) {b : Nat} (hb : e.p.map (·.block) = some b) : b < w.heap.size := by
  rcases h with ⟨_, h, _⟩ | ⟨g, cur, h, h2, _⟩
  · rw [h] at hb; cases hb
  · rw [h] at hb
    cases hb
    exact (Array.getElem?_eq_some_iff.1 h2).1
/-! Behind the loops that let each list grow. -/
theorem limOf_some {eI eF : List Ent} {b m : Nat} (h : limOf eI eF b = some m) : b ∈ blks eI ∨ b ∈ blks eF := by
  by_cases h1 : b ∈ blks eI
  · exact .inl h1
  · by_cases h2 : b ∈ blks eF
    · exact .inr h2
    · rw [limN h1 h2] at h; cases h
theorem MkIn.limI {w : World} {s0 s1 : Value} {eI eF : List Ent} (h : MkIn w s0 s1 eI eF) {e : Ent} (he : e ∈ eI) : ∀ g, e.p = some ⟨g, 0, none⟩ → limOf eI eF g = some (e.n * 8) := fun _ hp => Go.Proofs.YtldjbgklmeigmaaGreatDoor.limI (List.nodup_append.1 h.nd).1 he hp
theorem MkIn.limF {w : World} {s0 s1 : Value} {eI eF : List Ent} (h : MkIn w s0 s1 eI eF) {e : Ent} (he : e ∈ eF) : ∀ g, e.p = some ⟨g, 0, none⟩ → limOf eI eF g = some (e.n * 9) := fun g hp =>
  Go.Proofs.YtldjbgklmeigmaaGreatDoor.limF (List.nodup_append.1 h.nd).2.1 he hp (fun hx => (List.nodup_append.1 h.nd).2.2 g hx g (mem_blks he hp) rfl)
theorem MkIn.keep {w w' : World} {s0 s1 : Value} {eI eF : List Ent} (h : MkIn w s0 s1 eI eF) (hk : Keep (limOf eI eF) w w') : MkIn w' s0 s1 eI eF :=
  ⟨h.rl.at' (fun g hg => hk.block g (h.rl.lt hg) (limN (h.far g hg).1 (h.far g hg).2)), h.far, h.nd, fun e he => (h.rI e he).grown hk (h.limI he), fun e he => (h.rF e he).grown hk (h.limF he), h.lI, h.lF, h.tI, h.tF⟩
theorem MkIn.marks {w w' : World} {s0 s1 : Value} {eI eF : List Ent} (h : MkIn w s0 s1 eI eF) (hk : Keep (limOf eI eF) w w') (hI : MkAll w 8 markV eI markBase) (hF : MkAll w 9 markM eF (markBase + tot eI)) :
    MkAll w' 8 markV eI markBase ∧ MkAll w' 9 markM eF (markBase + tot eI) :=
  ⟨fun i e he => (hI i e he).keep hk markV_size (h.limI (List.mem_of_getElem? he)), fun i e he => (hF i e he).keep hk markM_size (h.limF (List.mem_of_getElem? he))⟩
theorem Keep.belowB {B : Nat} {lim : Nat → Option Nat} {w w' : World} (h : Keep lim w w') (hB : B ≤ w.heap.size) (hl : ∀ b m, lim b = some m → B ≤ b) : Below B w w' :=
  ⟨h.os, h.tape, h.output, h.size, fun k hk => h.block k (by omega) (by
    cases e : lim k with
    | none => rfl
    | some m => have := hl k m e; omega)⟩

/-! Rows of lists that are gathered one value after the other. -/
theorem lists_first {W : World} {i f : List Ent} {v : V} {g : Nat} {cs : Array Value} (hL : Laid W v g 0 i f) (hc : CellsAt W g 0 cs) (hs : cs.size = 8)
    (hA : ∀ b, b = g ∨ b ∈ blks i ∨ b ∈ blks f → b < W.heap.size) (l0 : szV v ≤ 1000000000) :
    Calls Tryz.prog 16 #[.agg cs, .slice none 0 0, .slice none 0 0] W (RlsPost W (.slice none 0 0) (.slice none 0 0) i f) :=
  lists_step (eI := []) (eF := []) (Rl.nil W) (Gr2.refl W _ _) hL hc hs (fun b hb => ⟨hA b hb, by simp [Value.ownBlock], by simp [Value.ownBlock]⟩) (by simpa using l0) (by simpa using l0)
theorem Pens.lt {B : Nat} {W : World} {L : List Pen} (h : Pens B W L) {x : Pen} (hx : x ∈ L) {eI eF : List Ent} (p : (blks eI ++ blks eF).Perm x.bs) : ∀ b, b = x.g ∨ b ∈ blks eI ∨ b ∈ blks eF → B ≤ b ∧ b < W.heap.size := fun b hb => by
  rcases hb with rfl | hb
  · exact h.rng _ (pens_mem hx).1
  · exact h.rng _ ((pens_mem hx).2 b (p.mem_iff.1 (List.mem_append.2 hb)))
/-- Lists in blocks L, of lengths and sums of at most S. -/
structure Acc (L : List Nat) (w : World) (eI eF : List Ent) (S : Nat) : Prop where
  pm : (blks eI ++ blks eF).Perm L
  rI : ∀ e ∈ eI, RowB w 34 8 e
  rF : ∀ e ∈ eF, RowB w 58 9 e
  lI : eI.length ≤ S
  lF : eF.length ≤ S
  tI : tot eI ≤ S
  tF : tot eF ≤ S
theorem Acc.one {w : World} {v : V} {g o : Nat} {i f : List Ent} {bs : List Nat} {S : Nat} (hl : Laid w v g o i f) (p : (blks i ++ blks f).Perm bs) (hs : szV v ≤ S) : Acc bs w i f S :=
  ⟨p, (laid_rows hl).1, (laid_rows hl).2, by have := (laid_len hl).1; omega, by have := (laid_len hl).2; omega, by have := (laid_tot hl).1; omega, by have := (laid_tot hl).2; omega⟩
theorem Acc.add {w : World} {L L' : List Nat} {eI eF i f : List Ent} {S S' : Nat} (h : Acc L w eI eF S) (k : Acc L' w i f S') : Acc (L ++ L') w (eI ++ i) (eF ++ f) (S + S') :=
  ⟨by rw [blks_append, blks_append]; exact perm_blocks h.pm k.pm, fun e he => (List.mem_append.1 he).elim (h.rI e) (k.rI e), fun e he => (List.mem_append.1 he).elim (h.rF e) (k.rF e), by have := h.lI; have := k.lI; simp; omega, by have := h.lF; have := k.lF; simp; omega,
    by have := h.tI; have := k.tI; rw [tot_append]; omega, by have := h.tF; have := k.tF; rw [tot_append]; omega⟩
theorem Acc.mem {L : List Nat} {w : World} {eI eF : List Ent} {S : Nat} (h : Acc L w eI eF S) {b : Nat} (hb : b ∈ blks eI ∨ b ∈ blks eF) : b ∈ L := h.pm.mem_iff.1 (List.mem_append.2 hb)
theorem Acc.keep {L : List Nat} {w w' : World} {eI eF : List Ent} {S : Nat} (h : Acc L w eI eF S) (hk : ∀ b ∈ L, w'.heap[b]? = w.heap[b]?) : Acc L w' eI eF S :=
  ⟨h.pm, fun e he => (h.rI e he).keep (fun b hb => hk b (h.mem (.inl (by
    cases hp : e.p with
    | none => rw [hp] at hb; cases hb
    | some a => rw [hp] at hb; cases hb; exact mem_blks he hp)))), fun e he => (h.rF e he).keep (fun b hb => hk b (h.mem (.inr (by
    cases hp : e.p with
    | none => rw [hp] at hb; cases hb
    | some a => rw [hp] at hb; cases hb; exact mem_blks he hp)))), h.lI, h.lF, h.tI, h.tF⟩
theorem Acc.below {L : List Nat} {w w' : World} {eI eF : List Ent} {S : Nat} (h : Acc L w eI eF S) {B : Nat} (hb : Below B w w') (hB : ∀ b ∈ L, b < B) : Acc L w' eI eF S := h.keep (fun b hbl => hb.block b (hB b hbl))
theorem Acc.frm {L : List Nat} {w w' : World} {eI eF : List Ent} {S : Nat} (h : Acc L w eI eF S) (hf : FrM w w' eI eF) : Acc L w' eI eF S := ⟨h.pm, hf.rI, hf.rF, h.lI, h.lF, h.tI, h.tF⟩
theorem Acc.mkIn {L : List Nat} {w : World} {eI eF : List Ent} {S : Nat} {s0 s1 : Value} (h : Acc L w eI eF S) (hR : Rl w s0 s1 (eI.map Ent.sl) (eF.map Ent.sl)) (nd : L.Nodup) (far : ∀ g, s0.ownBlock = some g ∨ s1.ownBlock = some g → g ∉ L) (hS : S ≤ 1000000000) : MkIn w s0 s1 eI eF :=
  ⟨hR, fun g hg => ⟨fun hb => far g hg (h.mem (.inl hb)), fun hb => far g hg (h.mem (.inr hb))⟩, h.pm.nodup_iff.2 nd, h.rI, h.rF, Nat.le_trans h.lI hS, Nat.le_trans h.lF hS, Nat.le_trans h.tI hS, Nat.le_trans h.tF hS⟩
/-- Behind marked: the first of the boxes holds a value that bears marks; the others are as they were, but for the second. -/
theorem pens_marked {B : Nat} {W w3 : World} {x y : Pen} {rest : List Pen} {iX fX iY fY : List Ent} (h : Pens B W (x :: y :: rest)) (lX : Laid W x.v x.g 0 iX fX) (pX : (blks iX ++ blks fX).Perm x.bs) (pY : (blks iY ++ blks fY).Perm y.bs)
    (hF : FrM W w3 (iX ++ iY) (fX ++ fY)) (m1 : MkAll w3 8 markV (iX ++ iY) markBase) (m2 : MkAll w3 9 markM (fX ++ fY) (markBase + tot (iX ++ iY))) (lx : szV x.v ≤ 1000000) :
    ∃ sI sF bs, Pens B w3 (⟨x.g, mkdV sI sF x.v, x.cs, bs⟩ :: rest) := by
  obtain ⟨g, v, cs, bx⟩ := x
  obtain ⟨g', v', cs', by'⟩ := y
  dsimp only at *
  have hx := h.at' _ (List.mem_cons_self ..)
  have hnd := h.nd
  have e0 : pensBlocks (⟨g, v, cs, bx⟩ :: ⟨g', v', cs', by'⟩ :: rest) = g :: (bx ++ (g' :: (by' ++ pensBlocks rest))) := by simp [pensBlocks]
  rw [e0] at hnd
  have hpm : (blks (iX ++ iY) ++ blks (fX ++ fY)).Perm (bx ++ by') := by
    rw [blks_append, blks_append]
    exact perm_blocks pX pY
  have hoff : ∀ b, b ∉ bx → b ∉ by' → w3.heap[b]? = W.heap[b]? := fun b h1 h2 => hF.block b
    (fun hb => by have := hpm.mem_iff.1 (List.mem_append.2 (.inl hb)); rcases List.mem_append.1 this with h | h; exact h1 h; exact h2 h)
    (fun hb => by have := hpm.mem_iff.1 (List.mem_append.2 (.inr hb)); rcases List.mem_append.1 this with h | h; exact h1 h; exact h2 h)
  have d1 : g ∉ bx ∧ g ∉ by' ∧ g ∉ pensBlocks rest := by
    have := (List.nodup_cons.1 hnd).1
    simp only [List.mem_append, List.mem_cons, not_or] at this
    exact ⟨this.1, this.2.2.1, this.2.2.2⟩
  have hnd2 := (List.nodup_cons.1 hnd).2
  have d2 : ∀ b ∈ pensBlocks rest, b ∉ bx ∧ b ∉ by' := fun b hb => by
    refine ⟨fun hb' => ?_, fun hb' => ?_⟩
    · exact (List.nodup_append.1 hnd2).2.2 b hb' b (by simp [hb]) rfl
    · have := (List.nodup_cons.1 (List.nodup_append.1 hnd2).2.1).2
      exact (List.nodup_append.1 this).2.2 b hb' b hb rfl
  obtain ⟨k, b, i, f, t, ty, its, fs⟩ := v
  obtain ⟨p, c, q, d, i1, f1, i2, f2, hc, rfl, rfl, e1, e2, h3, h4⟩ := lX
  obtain ⟨p', c', q', d', _, _, hcs, _, l1, l2, _⟩ := hx.own
  have hcc : cs = vcells k b i f t ty p its.length c q fs.length d := rl_cells (block_of_cells hx.blk) hc (by rw [show cs = _ from hcs]; rfl)
  subst hcc
  have r1 := hF.rI ⟨g, 0 + 6, p, its.length, c⟩ (by simp)
  have r2 := hF.rF ⟨g, 0 + 7, q, fs.length, d⟩ (by simp)
  have k1 := m1 0 ⟨g, 0 + 6, p, its.length, c⟩ rfl
  have k2 := m2 0 ⟨g, 0 + 7, q, fs.length, d⟩ rfl
  obtain ⟨sI, sF, hown⟩ : ∃ sI sF, OwnV w3 (mkdV sI sF (.mk k b i f t ty its fs)) (vcells k b i f t ty p its.length c q fs.length d) ((p.map (·.block)).toList ++ (q.map (·.block)).toList) := ⟨_, _, own_marked (W := W) l1 l2 r1 r2 k1 k2⟩
  have hsub : ((p.map (·.block)).toList ++ (q.map (·.block)).toList).Sublist (blks (⟨g, 0 + 6, p, its.length, c⟩ :: (i1 ++ i2)) ++ blks (⟨g, 0 + 7, q, fs.length, d⟩ :: (f1 ++ f2))) := by
    refine List.Sublist.append ?_ ?_
    · cases p <;> simp [blks]
    · cases q <;> simp [blks]
  have hin : ∀ b ∈ (p.map (·.block)).toList ++ (q.map (·.block)).toList, b ∈ bx := fun b hb => pX.mem_iff.1 (hsub.subset hb)
  have hbn : ((p.map (·.block)).toList ++ (q.map (·.block)).toList).Nodup := hsub.nodup (pX.nodup_iff.2 (List.nodup_append.1 hnd2).1)
  have hrest := (List.nodup_cons.1 (List.nodup_append.1 hnd2).2.1).2
  refine ⟨sI, sF, (p.map (·.block)).toList ++ (q.map (·.block)).toList, ⟨fun z hz => ?_, fun z hz => ?_, ?_⟩⟩
  · rcases List.mem_cons.1 hz with rfl | hz
    · exact ⟨(hoff _ d1.1 d1.2.1).trans hx.blk, hown⟩
    · have hz0 := h.at' z (by simp [hz])
      have hm := pens_mem hz
      exact ⟨(hoff _ (d2 _ hm.1).1 (d2 _ hm.1).2).trans hz0.blk, hz0.own.kept (fun b hb => hoff _ (d2 _ (hm.2 b hb)).1 (d2 _ (hm.2 b hb)).2)⟩
  · rw [hF.size]
    refine h.rng z ?_
    rw [e0]
    have hz2 : z ∈ g :: (((p.map (·.block)).toList ++ (q.map (·.block)).toList) ++ pensBlocks rest) := by simpa [pensBlocks] using hz
    rcases List.mem_cons.1 hz2 with rfl | hz2
    · exact List.mem_cons_self ..
    · rcases List.mem_append.1 hz2 with hz2 | hz2
      · simp [hin z hz2]
      · simp [hz2]
  · have e2 : pensBlocks (⟨g, mkdV sI sF (.mk k b i f t ty its fs), vcells k b i f t ty p its.length c q fs.length d, (p.map (·.block)).toList ++ (q.map (·.block)).toList⟩ :: rest) = g :: (((p.map (·.block)).toList ++ (q.map (·.block)).toList) ++ pensBlocks rest) := by simp [pensBlocks]
    rw [e2, List.nodup_cons, List.nodup_append]
    refine ⟨fun hg => ?_, hbn, (List.nodup_append.1 hrest).2.1, fun a ha b hb e => ?_⟩
    · rcases List.mem_append.1 hg with hg | hg
      · exact d1.1 (hin _ hg)
      · exact d1.2.2 hg
    · subst e
      exact (d2 a hb).1 (hin a ha)
theorem two_nd {B : Nat} {W : World} {x y : Pen} {rest : List Pen} (h : Pens B W (x :: y :: rest)) : (x.bs ++ y.bs).Nodup ∧ ∀ b ∈ x.bs ++ y.bs, B ≤ b ∧ b < W.heap.size := by
  have e0 : pensBlocks (x :: y :: rest) = x.g :: (x.bs ++ (y.g :: (y.bs ++ pensBlocks rest))) := by simp [pensBlocks]
  have hnd := h.nd
  rw [e0] at hnd
  refine ⟨?_, fun b hb => h.rng b ?_⟩
  · refine List.Sublist.nodup ?_ hnd
    exact List.Sublist.cons _ (List.Sublist.append_left (List.Sublist.cons _ (List.sublist_append_left _ _)) _)
  · rw [e0]
    rcases List.mem_append.1 hb with hb | hb <;> simp [hb]

/-! The second stretch: the rows go on from lists of their own. -/
theorem own_far {W1 : World} {s0 s1 : Value} {lo hi b : Nat} (hf : ∀ g, s0.ownBlock = some g ∨ s1.ownBlock = some g → lo ≤ g ∧ g < hi) (hb : (b < lo ∨ hi ≤ b) ∧ b < W1.heap.size) : Apart2 W1 s0 s1 b :=
  ⟨hb.2, fun e => by have := hf b (.inl e); omega, fun e => by have := hf b (.inr e); omega⟩
theorem far2 {W1 w : World} {s0 s1 u0 u1 : Value} {lo hi : Nat} {L : List Nat} (hG : Gr2 W1 w s0 s1 u0 u1) (hf : ∀ g, s0.ownBlock = some g ∨ s1.ownBlock = some g → lo ≤ g ∧ g < hi) (hL : ∀ b ∈ L, (b < lo ∨ hi ≤ b) ∧ b < W1.heap.size) :
    ∀ g, u0.ownBlock = some g ∨ u1.ownBlock = some g → g ∉ L := fun g hg hb => by
  have h1 := hL g hb
  rcases hg with hg | hg
  · rcases hG.n0 g hg with h | h
    · have := hf g (.inl h); omega
    · omega
  · rcases hG.n1 g hg with h | h
    · have := hf g (.inr h); omega
    · omega
theorem gr_keep {W1 w : World} {s0 s1 u0 u1 : Value} {lo hi : Nat} {L : List Nat} (hG : Gr2 W1 w s0 s1 u0 u1) (hf : ∀ g, s0.ownBlock = some g ∨ s1.ownBlock = some g → lo ≤ g ∧ g < hi) (hL : ∀ b ∈ L, (b < lo ∨ hi ≤ b) ∧ b < W1.heap.size) :
    ∀ b ∈ L, w.heap[b]? = W1.heap[b]? := fun b hb => ((own_far hf (hL b hb)).gr hG).2
theorem six_nd {B : Nat} {W0 : World} {p0 p1 p2 p3 p4 p5 p6 : Pen} (h : Pens B W0 [p0, p1, p2, p3, p4, p5, p6]) {d : List Nat} (hd : d.Nodup) (hU : ∀ b ∈ d, W0.heap.size ≤ b) :
    (p0.bs ++ p1.bs ++ d ++ p2.bs ++ p4.bs ++ p3.bs).Nodup ∧ ∀ b ∈ p0.bs ++ p1.bs ++ d ++ p2.bs ++ p4.bs ++ p3.bs, b ∈ d ∨ (B ≤ b ∧ b < W0.heap.size) := by
  have hm : ∀ b, b ∈ p0.bs ∨ b ∈ p1.bs ∨ b ∈ p2.bs ∨ b ∈ p4.bs ∨ b ∈ p3.bs → b ∈ pensBlocks [p0, p1, p2, p3, p4, p5, p6] := fun b hb => by
    simp only [pensBlocks, List.flatMap_cons, List.flatMap_nil, List.mem_append, List.mem_cons]
    rcases hb with hb | hb | hb | hb | hb <;> simp [hb]
  constructor
  · rw [List.nodup_iff_count]
    intro b
    have h1 := List.nodup_iff_count.1 h.nd b
    have h2 := List.nodup_iff_count.1 hd b
    simp only [pensBlocks, List.flatMap_cons, List.flatMap_nil, List.count_append, List.count_cons] at h1
    simp only [List.count_append]
    by_cases hb : b ∈ d
    · have hz : ∀ l : List Nat, (∀ x ∈ l, x ∈ pensBlocks [p0, p1, p2, p3, p4, p5, p6]) → l.count b = 0 := fun l hl => List.count_eq_zero.2 (fun hx => by
        have := (h.rng b (hl b hx)).2
        have := hU b hb
        omega)
      have z0 := hz p0.bs (fun x hx => hm x (.inl hx))
      have z1 := hz p1.bs (fun x hx => hm x (.inr (.inl hx)))
      have z2 := hz p2.bs (fun x hx => hm x (.inr (.inr (.inl hx))))
      have z4 := hz p4.bs (fun x hx => hm x (.inr (.inr (.inr (.inl hx)))))
      have z3 := hz p3.bs (fun x hx => hm x (.inr (.inr (.inr (.inr hx)))))
      omega
    · have := List.count_eq_zero.2 hb
      omega
  · intro b hb
    simp only [List.mem_append] at hb
    have hr : ∀ b, b ∈ p0.bs ∨ b ∈ p1.bs ∨ b ∈ p2.bs ∨ b ∈ p4.bs ∨ b ∈ p3.bs → B ≤ b ∧ b < W0.heap.size := fun b hb => h.rng b (hm b hb)
    rcases hb with ((((hb | hb) | hb) | hb) | hb) | hb
    · exact .inr (hr b (.inl hb))
    · exact .inr (hr b (.inr (.inl hb)))
    · exact .inl hb
    · exact .inr (hr b (.inr (.inr (.inl hb))))
    · exact .inr (hr b (.inr (.inr (.inr (.inl hb)))))
    · exact .inr (hr b (.inr (.inr (.inr (.inr hb)))))
/-! The rows while their lists grow. -/
def RkRowsAt (lim : Nat → Option Nat) (w : World) (p : Option Addr) (es : List Ent) : Prop := ∀ w', Keep lim w w' → ∀ (k : Nat) e, es[k]? = some e → ∃ q, p = some ⟨q, 0, none⟩ ∧ w'.cell? ⟨q, k, none⟩ = some e.sl
theorem MkIn.rows {w : World} {s0 s1 : Value} {eI eF : List Ent} (h : MkIn w s0 s1 eI eF) : ∃ p0 c0 p1 c1, s0 = .slice p0 eI.length c0 ∧ s1 = .slice p1 eF.length c1 ∧ RkRowsAt (limOf eI eF) w p0 eI ∧ RkRowsAt (limOf eI eF) w p1 eF := by
  obtain ⟨p0, c0, e0, h0⟩ := row1_of (bad := fun b => b ∈ blks eI ∨ b ∈ blks eF) h.rl.r0 (fun g hg hb => by have := h.far g (.inl hg); rcases hb with hb | hb; exact this.1 hb; exact this.2 hb)
  obtain ⟨p1, c1, e1, h1⟩ := row1_of (bad := fun b => b ∈ blks eI ∨ b ∈ blks eF) h.rl.r1 (fun g hg hb => by have := h.far g (.inr hg); rcases hb with hb | hb; exact this.1 hb; exact this.2 hb)
  refine ⟨p0, c0, p1, c1, e0, e1, fun w' hk k e he => ?_, fun w' hk k e he => ?_⟩
  · obtain ⟨q, hq, hb, hc⟩ := h0 k e he
    exact ⟨q, hq, hk.cell hc (fun m hm => by rw [limN (fun h => hb (.inl h)) (fun h => hb (.inr h))] at hm; cases hm)⟩
  · obtain ⟨q, hq, hb, hc⟩ := h1 k e he
    exact ⟨q, hq, hk.cell hc (fun m hm => by rw [limN (fun h => hb (.inl h)) (fun h => hb (.inr h))] at hm; cases hm)⟩
theorem tot_mem : ∀ {l : List Ent} {e : Ent}, e ∈ l → e.n ≤ tot l
  | x :: r, e, h => by
    rw [tot_cons]
    rcases List.mem_cons.1 h with rfl | h
    · omega
    · have := tot_mem h; omega
theorem MkIn.looseI {w : World} {s0 s1 : Value} {eI eF : List Ent} (h : MkIn w s0 s1 eI eF) {hb ho : Nat} {p : Option Addr} {n c : Nat} (he : (⟨hb, ho, p, n, c⟩ : Ent) ∈ eI) : n ≤ 1000000000 ∧ ∀ w', Keep (limOf eI eF) w w' → Loose (limOf eI eF) w.heap.size w' 34 8 (.slice p n c) n :=
  ⟨Nat.le_trans (tot_mem he) h.tI, fun w' hk => ((h.rI _ he).grown hk (h.limI he)).loose (h.limI he)⟩
theorem MkIn.looseF {w : World} {s0 s1 : Value} {eI eF : List Ent} (h : MkIn w s0 s1 eI eF) {hb ho : Nat} {p : Option Addr} {n c : Nat} (he : (⟨hb, ho, p, n, c⟩ : Ent) ∈ eF) : n ≤ 1000000000 ∧ ∀ w', Keep (limOf eI eF) w w' → Loose (limOf eI eF) w.heap.size w' 58 9 (.slice p n c) n :=
  ⟨Nat.le_trans (tot_mem he) h.tF, fun w' hk => ((h.rF _ he).grown hk (h.limF he)).loose (h.limF he)⟩
theorem rk_ent {es : List Ent} {K : Nat} (h : K < es.length) : ∃ hb ho p n c, es[K]? = some ⟨hb, ho, p, n, c⟩ := by
  obtain ⟨e, he⟩ : ∃ e, es[K]? = some e := ⟨_, List.getElem?_eq_getElem h⟩
  obtain ⟨hb, ho, p, n, c⟩ := e
  exact ⟨hb, ho, p, n, c, he⟩
theorem pens_one {B : Nat} {W : World} {x : Pen} (h : Pens B W [x]) : x.bs.Nodup ∧ (∀ b ∈ x.bs, B ≤ b ∧ b < W.heap.size) ∧ B ≤ x.g := by
  have h1 := h.nd
  have e : pensBlocks [x] = x.g :: x.bs := by simp [pensBlocks]
  rw [e] at h1
  exact ⟨(List.nodup_cons.1 h1).2, fun b hb => h.rng b ((pens_mem (List.mem_singleton_self _)).2 b hb), (h.rng _ (pens_mem (List.mem_singleton_self _)).1).1⟩
end Go.Proofs.YtldjbgklmeigmaaGreatDoor
