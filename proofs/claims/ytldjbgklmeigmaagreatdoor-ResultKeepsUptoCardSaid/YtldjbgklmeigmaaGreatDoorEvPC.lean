/- Several texts in one: Helper text: an evaluator's regions that draw their order: equality, what waits for what. Helper text: an evaluator's regions that draw their order: the steps that it went. Helper text: an evaluator's regions that draw their order: what it comes to is a row of steps. Helper text: an evaluator's regions that draw their order: whatever order is drawn, the run comes to what the evaluator comes to. Helper text: an evaluator's regions that draw their order: the end. Helper text: an evaluator's regions that draw their order, as code. Helper text: what an evaluator comes to, the program comes to: the induction. Helper text: the evaluator once more, laid out so that a kernel goes through it in few steps. Helper text: an evaluator's calls in pieces: what is proved of a call over a part of memory holds over more memory. Helper text: an evaluator's calls, proved one by one and used within one another. Helper text: a memory that later calls read: it stands as long as its blocks do; a call that only reads it leaves the world below as it was. Helper text: a call that owns what it is handed. Conditions: none. -/
import Derived.Test.YtldjbgklmeigmaaGreatDoorEvPB
namespace Go.Proofs.YtldjbgklmeigmaaGreatDoor.Ev
open Go Go.RowKit
noncomputable section
set_option linter.unusedVariables false

theorem eqB_eq {a b : Bool} (h : eqB a b = true) : a = b := by cases a <;> cases b <;> simp_all [eqB]
theorem eqRoom_eq {a b : Room} (h : eqRoom a b = true) : a = b := by
  cases a <;> cases b <;> simp only [eqRoom, Bool.false_eq_true] at h
  · rw [Nat.eq_of_beq_eq_true h]
  · rw [Nat.eq_of_beq_eq_true h]
mutual
theorem eqAV_eq : ∀ {a b : AV}, eqAV a b = true → a = b
  | .bool a, w, h => by
    cases w <;> simp only [eqAV, Bool.false_eq_true] at h
    rw [eqB_eq h]
  | .int j a, w, h => by
    cases w <;> simp only [eqAV, Bool.false_eq_true] at h
    split at h
    · rename_i hq e; rw [ieq_eq] at h; rw [hq, eq_of_beq h]
    · cases h
  | .str l a, w, h => by
    cases w <;> simp only [eqAV, Bool.false_eq_true] at h
    split at h
    · rename_i e; rw [Nat.eq_of_beq_eq_true e, Nat.eq_of_beq_eq_true h]
    · cases h
  | .ptr n a, w, h => by
    cases w <;> simp only [eqAV, Bool.false_eq_true] at h
    split at h
    · rename_i e; rw [Ps.eqb_iff.1 e, Nat.eq_of_beq_eq_true h]
    · cases h
  | .slc n a l c, w, h => by
    cases w <;> simp only [eqAV, Bool.false_eq_true] at h
    split at h
    · rename_i e
      simp only [Bool.and_eq_true] at e
      rw [Ps.eqb_iff.1 e.1, Nat.eq_of_beq_eq_true e.2.1, Nat.eq_of_beq_eq_true e.2.2, eqRoom_eq h]
    · cases h
  | .nils a b, w, h => by
    cases w <;> simp only [eqAV, Bool.false_eq_true] at h
    split at h
    · rename_i e; rw [Nat.eq_of_beq_eq_true e, Nat.eq_of_beq_eq_true h]
    · cases h
  | .mp n, w, h => by
    cases w <;> simp only [eqAV, Bool.false_eq_true] at h
    rw [Ps.eqb_iff.1 h]
  | .ifc t v, w, h => by
    cases w <;> simp only [eqAV, Bool.false_eq_true] at h
    split at h
    · rename_i e; rw [Nat.eq_of_beq_eq_true e, eqAV_eq h]
    · cases h
  | .agg l, w, h => by
    cases w <;> simp only [eqAV, Bool.false_eq_true] at h
    rw [eqAVs_eq h]
  | .tup l, w, h => by
    cases w <;> simp only [eqAV, Bool.false_eq_true] at h
    rw [eqAVs_eq h]
  | .fn f a b, w, h => by
    cases f <;> cases w <;> simp only [eqAV, Bool.false_eq_true] at h
    rename_i f g c d
    cases g <;> simp only [Bool.false_eq_true] at h
    split at h
    · rename_i e
      split at h
      · rename_i e2; rw [Nat.eq_of_beq_eq_true e, eqAVs_eq e2, eqAVs_eq h]
      · cases h
    · cases h
  | .nilp, w, h => by
    cases w <;> simp only [eqAV, Bool.false_eq_true] at h
    rfl
  | .nilm, w, h => by
    cases w <;> simp only [eqAV, Bool.false_eq_true] at h
    rfl
  | .nilfn, w, h => by
    cases w <;> simp only [eqAV, Bool.false_eq_true] at h
    rfl
  | .nili, w, h => by
    cases w <;> simp only [eqAV, Bool.false_eq_true] at h
    rfl
  | .flt j a, w, h => by
    cases w <;> simp only [eqAV, Bool.false_eq_true] at h
    split at h
    · rename_i hq e; rw [hq, Nat.eq_of_beq_eq_true h]
    · cases h
theorem eqAVs_eq : ∀ {l m : List AV}, eqAVs l m = true → l = m
  | [], m, h => by
    cases m <;> simp only [eqAVs, Bool.false_eq_true] at h
    rfl
  | a :: l, m, h => by
    cases m <;> simp only [eqAVs, Bool.false_eq_true] at h
    split at h
    · rename_i e; rw [eqAV_eq e, eqAVs_eq h]
    · cases h
end
theorem eqOL_eq {v w : Option (List AV)} (h : eqOL v w = true) : v = w := by
  cases v <;> cases w <;> simp only [eqOL, Bool.false_eq_true] at h
  · rfl
  · rw [eqAVs_eq h]
theorem eqRow_eq : ∀ {s t : PT (List AV)}, eqRow s t = true → s = t
  | .lf, t, h => by
    cases t <;> simp only [eqRow, Bool.false_eq_true] at h
    rfl
  | .nd l v r, t, h => by
    cases t with
    | lf => simp [eqRow] at h
    | nd l' v' r' =>
      simp only [eqRow] at h
      split at h
      · rename_i hv
        split at h
        · rename_i hl
          rw [eqRow_eq hl, eqRow_eq h, eqOL_eq hv]
        · cases h
      · cases h
theorem eqEnts_eq : ∀ {l m : List (AV × AV × Nat)}, eqEnts l m = true → l = m
  | [], m, h => by
    cases m <;> simp only [eqEnts, Bool.false_eq_true] at h
    rfl
  | (a1, a2, a3) :: l, m, h => by
    cases m with
    | nil => simp [eqEnts] at h
    | cons b r =>
      obtain ⟨b1, b2, b3⟩ := b
      simp only [eqEnts] at h
      split at h
      · rename_i h1
        split at h
        · rename_i h2
          split at h
          · rename_i h3
            rw [eqAV_eq h1, eqAV_eq h2, Nat.eq_of_beq_eq_true h3, eqEnts_eq h]
          · cases h
        · cases h
      · cases h
theorem eqObj_eq {a b : AObj} (h : eqObj a b = true) : a = b := by
  cases a with
  | cells e sz ro n t =>
    cases b with
    | cells e' sz' ro' n' t' =>
      simp only [eqObj] at h
      split at h
      · rename_i he
        simp only [Bool.and_eq_true] at he
        rw [Nat.eq_of_beq_eq_true he.1, Nat.eq_of_beq_eq_true he.2.1, eqB_eq he.2.2.1, Nat.eq_of_beq_eq_true he.2.2.2, eqRow_eq h]
      · cases h
    | map => simp [eqObj] at h
    | iter => simp [eqObj] at h
  | iter => simp [eqObj] at h
  | map es c =>
    cases b with
    | cells => simp [eqObj] at h
    | iter => simp [eqObj] at h
    | map es' d =>
      simp only [eqObj] at h
      split at h
      · rename_i hc
        rw [Nat.eq_of_beq_eq_true hc, eqEnts_eq h]
      · cases h

theorem exec_float {c : COp} (hc : isEff c = false) (vs : List AV) (x y : Ps) (H : Heap) : exec c vs x H = exec c vs y H := by
  cases c <;> first | rfl | (simp [isEff] at hc)

theorem tb_testBit (m i : Nat) : tb m i = m.testBit i := by
  unfold tb
  rw [Nat.testBit, Bool.eq_iff_iff]
  have : (m >>> i &&& 1) = 0 ∨ (m >>> i &&& 1) = 1 := by
    rw [Nat.and_one_is_mod]; omega
  show Nat.beq (m >>> i &&& 1) 1 = true ↔ _
  rw [show (1 &&& m >>> i) = (m >>> i &&& 1) from Nat.and_comm _ _]
  rcases this with h | h <;> rw [h] <;> simp
theorem tb_lor (a b i : Nat) : tb (Nat.lor a b) i = (tb a i || tb b i) := by
  simp only [tb_testBit]
  exact Nat.testBit_or a b i
theorem tb_one (d i : Nat) : tb (Nat.shiftLeft 1 d) i = true ↔ i = d := by
  rw [tb_testBit]
  show (1 <<< d).testBit i = true ↔ _
  rw [Nat.one_shiftLeft, Nat.testBit_two_pow]
  simp [eq_comm]
theorem tb_zero (i : Nat) : tb 0 i = false := by rw [tb_testBit, Nat.zero_testBit]
theorem nthN_eq : ∀ (l : List Nat) (d : Nat), nthN l d = l[d]?
  | [], d => by simp [nthN]
  | a :: l, 0 => by simp [nthN]
  | a :: l, d + 1 => by simp [nthN, nthN_eq l d]

theorem maskD_spec {ms : List Nat} : ∀ {ds : List Nat} {m : Nat}, maskD ms ds = some m → (∀ d ∈ ds, d < ms.length) ∧ ∀ j, tb m j = true → j ∈ ds ∨ ∃ d ∈ ds, ∃ k, ms[d]? = some k ∧ tb k j = true
  | [], m, h => by
    simp only [maskD, Option.some.injEq] at h
    subst h
    exact ⟨fun d hd => by simp at hd, fun j hj => by rw [tb_zero] at hj; cases hj⟩
  | d :: ds, m, h => by
    simp only [maskD] at h
    split at h
    · rename_i k hk
      split at h
      · rename_i r hr
        cases h
        rw [nthN_eq] at hk
        obtain ⟨h1, h2⟩ := maskD_spec hr
        refine ⟨fun e he => ?_, fun j hj => ?_⟩
        · rcases List.mem_cons.1 he with rfl | he
          · exact (List.getElem?_eq_some_iff.1 hk).1
          · exact h1 e he
        · rw [tb_lor, tb_lor, Bool.or_eq_true, Bool.or_eq_true, tb_one] at hj
          rcases hj with (rfl | hj) | hj
          · exact .inl (by simp)
          · exact .inr ⟨d, by simp, k, hk, hj⟩
          · rcases h2 j hj with h | ⟨e, he, q⟩
            · exact .inl (List.mem_cons_of_mem _ h)
            · exact .inr ⟨e, List.mem_cons_of_mem _ he, q⟩
      · cases h
    · cases h
theorem masks_spec : ∀ {l : List Oper} {ms r : List Nat}, masks l ms = some r → ms <+: r ∧ r.length = ms.length + l.length ∧
    ∀ k o, l[k]? = some o → ∃ m, r[ms.length + k]? = some m ∧ (∀ d ∈ depL o, d < ms.length + k) ∧ ∀ j, tb m j = true → j ∈ depL o ∨ ∃ d ∈ depL o, ∃ q, r[d]? = some q ∧ tb q j = true
  | [], ms, r, h => by
    simp only [masks, Option.some.injEq] at h
    subst h
    exact ⟨List.prefix_refl _, by simp, fun k o hk => by simp at hk⟩
  | o :: l, ms, r, h => by
    simp only [masks] at h
    split at h
    · rename_i m hm
      obtain ⟨h1, h2, h3⟩ := masks_spec h
      obtain ⟨k1, k2⟩ := maskD_spec hm
      have hpre : ms <+: r := (List.prefix_append ms [m]).trans h1
      refine ⟨hpre, by simp at h2 ⊢; omega, fun k o' hk => ?_⟩
      cases k with
      | zero =>
        simp only [List.getElem?_cons_zero, Option.some.injEq] at hk
        subst hk
        refine ⟨m, ?_, k1, fun j hj => ?_⟩
        · obtain ⟨t, rfl⟩ := h1
          simp
        · rcases k2 j hj with h | ⟨d, hd, q, hq, hj⟩
          · exact .inl h
          · refine .inr ⟨d, hd, q, ?_, hj⟩
            obtain ⟨t, rfl⟩ := hpre
            rw [List.getElem?_append_left (k1 d hd)]; exact hq
      | succ k =>
        have := h3 k o' (by simpa using hk)
        simp only [List.length_append, List.length_singleton] at this
        rwa [show ms.length + 1 + k = ms.length + (k + 1) by omega] at this
    · cases h
end
end Go.Proofs.YtldjbgklmeigmaaGreatDoor.Ev

namespace Go.Proofs.YtldjbgklmeigmaaGreatDoor.Ev
open Go Go.RowKit
noncomputable section
set_option linter.unusedVariables false

/-- An operation that the evaluator has done. -/
structure J where
  i : Nat
  o : Oper
  co : XOper
  v : AV
  re : Option RE
def J.eff (j : J) : Bool := isEff j.co.c
def J.dn (j : J) : Dn := ⟨j.i, j.eff, j.o.dst⟩
/-- Where the evaluator stands. -/
structure DS where
  L : List J
  T : PT AV
  x : Ps
  H : Heap
/-- m is waited for by i. -/
def Bef (ms : List Nat) (i m : Nat) : Prop := ∃ k, ms[i]? = some k ∧ tb k m = true

/-- A region's data. -/
structure Rg where
  P : Program
  kp : Keep
  nt : Nat
  ops : Array Oper
  ms : List Nat
  call : FuncId → List AV → Ps → Heap → Res
  T1 : PT AV
/-- What an operation that changes memory has come to. -/
def Eff (call : FuncId → List AV → Ps → Heap → Res) (x : Ps) (H : Heap) (v : AV) (x' : Ps) (H' : Heap) : OR → Prop
  | .val u => v = u ∧ x' = x ∧ H' = H
  | .new ob k => v = k.av x ∧ x' = x.succ ∧ H' = PT.put (some ob) x H
  | .eff u y K => v = u ∧ x' = y ∧ H' = K
  | .call f args => call f args x H = .val v x' H'
  | .no => False
inductive How (g : Rg) (mask : Nat) (s : DS) (j : J) (s' : DS) : Prop
  | skip (h1 : wantX (s.L.map J.v) j.co.guard = some false) (h2 : j.v = .tup []) (h3 : j.re = none) (h4 : s'.x = s.x) (h5 : s'.H = s.H)
  | val (vs : List AV) (h1 : wantX (s.L.map J.v) j.co.guard = some true) (h2 : evXs g.T1 (s.L.map J.v) j.co.opds = some vs) (he : j.eff = false) (h3 : exec j.co.c vs s.x s.H = .val j.v) (h4 : j.re = some ⟨j.co.c, vs, j.v, none⟩) (h5 : s'.x = s.x) (h6 : s'.H = s.H)
  | new (vs : List AV) (ob : AObj) (k : Kn) (h1 : wantX (s.L.map J.v) j.co.guard = some true) (h2 : evXs g.T1 (s.L.map J.v) j.co.opds = some vs) (he : j.eff = false) (h3 : exec j.co.c vs s.x s.H = .new ob k) (h0 : j.v = k.av s.x) (h4 : j.re = some ⟨j.co.c, vs, j.v, some s.x⟩) (h5 : s'.x = s.x.succ) (h6 : s'.H = PT.put (some ob) s.x s.H)
  | eff (vs : List AV) (h1 : wantX (s.L.map J.v) j.co.guard = some true) (h2 : evXs g.T1 (s.L.map J.v) j.co.opds = some vs) (he : j.eff = true) (h3 : Eff g.call s.x s.H j.v s'.x s'.H (exec j.co.c vs s.x s.H)) (h4 : j.re = none) (h5 : rechk s'.x s'.H (needOf mask (s.L.map J.dn)) (s.L.map J.re) = true)
structure Step (g : Rg) (s : DS) (j : J) (s' : DS) : Prop where
  hL : s'.L = j :: s.L
  ho : g.ops[j.i]? = some j.o
  hnew : ∀ k ∈ s.L, k.i ≠ j.i
  hdst : dstOk (s.L.map J.dn) j.o.dst = true
  hco : xoper g.P g.kp g.nt g.ops ((s.L.map J.dn).map (·.dst)) j.o = some j.co
  hT : s'.T = putD j.co.keep j.v s.T
  hm : ∃ mask os c, nthN g.ms j.i = some mask ∧ cop g.P j.o = some (os, c) ∧ allOrd mask (s.L.map J.dn) = true ∧ readsOk mask (s.L.map J.dn) os = true ∧ guardOk g.ops mask (s.L.map J.dn) j.o.guard = true ∧ How g mask s j s'
inductive Trace (g : Rg) : DS → DS → Prop
  | refl (s : DS) : Trace g s s
  | snoc {s t u : DS} {j : J} (h : Trace g s t) (k : Step g t j u) : Trace g s u
theorem Trace.trans {g : Rg} {s t u : DS} (h : Trace g s t) (k : Trace g t u) : Trace g s u := by
  induction k with
  | refl => exact h
  | snoc _ k ih => exact .snoc ih k
theorem Trace.mem {g : Rg} {s t : DS} (h : Trace g s t) : ∀ j ∈ s.L, j ∈ t.L := by
  induction h with
  | refl => exact fun j h => h
  | snoc _ k ih => intro j h; rw [k.hL]; exact List.mem_cons_of_mem _ (ih j h)
theorem Trace.split {g : Rg} {s t : DS} (h : Trace g s t) : ∀ j ∈ t.L, j ∈ s.L ∨ ∃ s1 s2, Trace g s s1 ∧ Step g s1 j s2 ∧ Trace g s2 t := by
  induction h with
  | refl => exact fun j h => .inl h
  | @snoc t u j h k ih =>
    intro j' hj
    rw [k.hL] at hj
    rcases List.mem_cons.1 hj with rfl | hj
    · exact .inr ⟨_, _, h, k, .refl _⟩
    · rcases ih j' hj with h1 | ⟨s1, s2, a, b, c⟩
      · exact .inl h1
      · exact .inr ⟨s1, s2, a, b, .snoc c k⟩
theorem Trace.head {g : Rg} {s t : DS} (h : Trace g s t) : s = t ∨ ∃ j s', Step g s j s' ∧ Trace g s' t := by
  induction h with
  | refl => exact .inl rfl
  | snoc h k ih =>
    rcases ih with rfl | ⟨j, s', a, b⟩
    · exact .inr ⟨_, _, k, .refl _⟩
    · exact .inr ⟨j, s', a, .snoc b k⟩
theorem Trace.len {g : Rg} {s t : DS} (h : Trace g s t) : s.L.length ≤ t.L.length := by
  induction h with
  | refl => exact Nat.le_refl _
  | snoc _ k ih => rw [k.hL]; simp; omega

theorem findJ_none : ∀ {L : List Dn} {t : Tmp}, findJ L t = none → ∀ k ∈ L, k.dst ≠ some t
  | [], t, h, k, hk => by simp at hk
  | j :: l, t, h, k, hk => by
    simp only [findJ] at h
    split at h
    · rename_i hd
      rcases List.mem_cons.1 hk with rfl | hk
      · rw [hd]; simp
      · exact findJ_none h k hk
    · rename_i u hd
      split at h
      · cases h
      · rename_i hu
        rcases List.mem_cons.1 hk with rfl | hk
        · rw [hd]; intro e; cases e; exact hu (Nat.beq_refl _)
        · exact findJ_none h k hk
theorem Step.dst {g : Rg} {s s' : DS} {j : J} (h : Step g s j s') {t : Tmp} (ht : j.o.dst = some t) : ∀ k ∈ s.L, k.o.dst ≠ some t := fun k hk => by
  have := h.hdst
  rw [ht] at this
  simp only [dstOk] at this
  split at this
  · cases this
  · rename_i hf
    exact findJ_none hf k.dn (List.mem_map.2 ⟨k, hk, rfl⟩)
theorem allOrd_mem {mask : Nat} : ∀ {L : List Dn}, allOrd mask L = true → ∀ k ∈ L, k.eff = true → tb mask k.i = true
  | [], h, k, hk, he => by simp at hk
  | j :: l, h, k, hk, he => by
    simp only [allOrd] at h
    split at h
    · rename_i hj
      rcases List.mem_cons.1 hk with rfl | hk
      · simp only [ordOne, he] at hj; exact hj
      · exact allOrd_mem h k hk he
    · cases h
theorem Step.ord {g : Rg} {s s' : DS} {j : J} (h : Step g s j s') : ∀ k ∈ s.L, k.eff = true → Bef g.ms j.i k.i := fun k hk he => by
  obtain ⟨mask, os, c, h1, h2, h3, _⟩ := h.hm
  rw [nthN_eq] at h1
  exact ⟨mask, h1, allOrd_mem h3 k.dn (List.mem_map.2 ⟨k, hk, rfl⟩) he⟩

/-- One number, one operation. -/
theorem Trace.uniq {g : Rg} {s t : DS} (h : Trace g s t) (h0 : s.L = []) : ∀ j ∈ t.L, ∀ k ∈ t.L, j.i = k.i → j = k := by
  induction h with
  | refl => intro j hj; rw [h0] at hj; simp at hj
  | snoc h k ih =>
    intro a ha b hb hab
    rw [k.hL] at ha hb
    rcases List.mem_cons.1 ha with rfl | ha'
    · rcases List.mem_cons.1 hb with rfl | hb'
      · rfl
      · exact absurd hab.symm (k.hnew b hb')
    · rcases List.mem_cons.1 hb with rfl | hb'
      · exact absurd hab (k.hnew a ha')
      · exact ih a ha' b hb' hab
/-- One slot, one operation. -/
theorem Trace.dst {g : Rg} {s t : DS} (h : Trace g s t) (h0 : s.L = []) {d : Tmp} : ∀ j ∈ t.L, ∀ k ∈ t.L, j.o.dst = some d → k.o.dst = some d → j = k := by
  induction h with
  | refl => intro j hj; rw [h0] at hj; simp at hj
  | snoc h k ih =>
    intro a ha b hb hda hdb
    rw [k.hL] at ha hb
    rcases List.mem_cons.1 ha with rfl | ha'
    · rcases List.mem_cons.1 hb with rfl | hb'
      · rfl
      · exact absurd hdb (k.dst hda b hb')
    · rcases List.mem_cons.1 hb with rfl | hb'
      · exact absurd hda (k.dst hdb a ha')
      · exact ih a ha' b hb' hda hdb

theorem Eff.le {P : Program} {call : FuncId → List AV → Ps → Heap → Res} (hc : CallsOk P call) {c : COp} {vs : List AV} {x : Ps} {H : Heap} {v : AV} {x' : Ps} {H' : Heap} (h : Eff call x H v x' H' (exec c vs x H)) : x.nat ≤ x'.nat := by
  cases he : exec c vs x H with
  | no => rw [he] at h; exact h.elim
  | val u => rw [he] at h; rw [h.2.1]; exact Nat.le_refl _
  | new ob k => rw [he] at h; rw [h.2.1, Ps.nat_succ]; omega
  | eff u y K => rw [he] at h; rw [h.2.1]; exact exec_le he
  | call f args => rw [he] at h; exact (hc _ _ _ _ _ _ _ h).2.1
theorem How.le {g : Rg} (hc : CallsOk g.P g.call) {mask : Nat} {s s' : DS} {j : J} (h : How g mask s j s') : s.x.nat ≤ s'.x.nat := by
  cases h with
  | skip h1 h2 h3 h4 h5 => rw [h4]; exact Nat.le_refl _
  | val vs h1 h2 he h3 h4 h5 h6 => rw [h5]; exact Nat.le_refl _
  | new vs ob k h1 h2 he h3 h0 h4 h5 h6 => rw [h5, Ps.nat_succ]; omega
  | eff vs h1 h2 he h3 h4 h5 => exact Eff.le hc h3
theorem Trace.le {g : Rg} (hc : CallsOk g.P g.call) {s t : DS} (h : Trace g s t) : s.x.nat ≤ t.x.nat := by
  induction h with
  | refl => exact Nat.le_refl _
  | snoc _ k ih =>
    obtain ⟨_, _, _, _, _, _, _, _, hh⟩ := k.hm
    exact Nat.le_trans ih (hh.le hc)

/-- Of a new name that an operation gave. -/
def J.names (j : J) (y : Ps) : Prop := ∃ r, j.re = some r ∧ r.y = some y
theorem How.names {g : Rg} {mask : Nat} {s s' : DS} {j : J} (h : How g mask s j s') {y : Ps} (hy : j.names y) : y = s.x ∧ s'.x = s.x.succ := by
  obtain ⟨r, h1, h2⟩ := hy
  cases h with
  | skip _ _ h3 => rw [h3] at h1; cases h1
  | val vs _ _ he _ h4 => rw [h4] at h1; cases h1; cases h2
  | new vs ob k _ _ he h3 h0 h4 h5 h6 => rw [h4] at h1; cases h1; cases h2; exact ⟨rfl, h5⟩
  | eff vs _ _ he h3 h4 => rw [h4] at h1; cases h1
theorem Trace.names {g : Rg} (hc : CallsOk g.P g.call) {s t : DS} (h : Trace g s t) (h0 : s.L = []) : (∀ j ∈ t.L, ∀ y, j.names y → s.x.nat ≤ y.nat ∧ y.nat < t.x.nat) ∧ ∀ j ∈ t.L, ∀ k ∈ t.L, ∀ y, j.names y → k.names y → j = k := by
  induction h with
  | refl => exact ⟨fun j hj => by rw [h0] at hj; simp at hj, fun j hj => by rw [h0] at hj; simp at hj⟩
  | snoc h k ih =>
    obtain ⟨i1, i2⟩ := ih
    obtain ⟨_, _, _, _, _, _, _, _, hh⟩ := k.hm
    have hle := hh.le hc
    rw [k.hL]
    refine ⟨fun j hj y hy => ?_, fun a ha b hb y hya hyb => ?_⟩
    · rcases List.mem_cons.1 hj with rfl | hj
      · obtain ⟨rfl, e⟩ := hh.names hy
        refine ⟨h.le hc, ?_⟩
        rw [e, Ps.nat_succ]; omega
      · have := i1 j hj y hy; exact ⟨this.1, by omega⟩
    · rcases List.mem_cons.1 ha with rfl | ha'
      · rcases List.mem_cons.1 hb with rfl | hb'
        · rfl
        · obtain ⟨rfl, e⟩ := hh.names hya
          have := (i1 b hb' _ hyb).2; omega
      · rcases List.mem_cons.1 hb with rfl | hb'
        · obtain ⟨rfl, e⟩ := hh.names hyb
          have := (i1 a ha' _ hya).2; omega
        · exact i2 a ha' b hb' y hya hyb

/-- An operation that only reads comes to the same in the memory H. -/
def Good (r : RE) (H : Heap) : Prop := ∃ H1, (∀ n u, PT.get n H1 = some u → PT.get n H = some u) ∧
  ((r.y = none ∧ ∀ x, exec r.c r.vs x H1 = .val r.v) ∨ ∃ y ob k, r.y = some y ∧ r.v = k.av y ∧ (∀ x, exec r.c r.vs x H1 = .new ob k) ∧ PT.get y H = some ob)
theorem Good.more {r : RE} {H K : Heap} (h : Good r H) (hk : ∀ n u, PT.get n H = some u → PT.get n K = some u) : Good r K := by
  obtain ⟨H1, a, b⟩ := h
  refine ⟨H1, fun n u e => hk n u (a n u e), ?_⟩
  rcases b with b | ⟨y, ob, k, b1, b2, b3, b4⟩
  · exact .inl b
  · exact .inr ⟨y, ob, k, b1, b2, b3, hk _ _ b4⟩
theorem rechk1_good {r : RE} (hc : isEff r.c = false) {x : Ps} {H : Heap} (h : rechk1 r x H = true) : Good r H := by
  unfold rechk1 at h
  refine ⟨H, fun n u e => e, ?_⟩
  split at h
  · rename_i v hv
    split at h
    · rename_i hy
      rw [eqAV_eq h] at hv
      exact .inl ⟨hy, fun x' => by rw [exec_float hc _ x' x]; exact hv⟩
    · cases h
  · rename_i ob k hv
    split at h
    · rename_i y hy
      split at h
      · rename_i e
        split at h
        · rename_i u hu
          rw [eqObj_eq h] at hu
          exact .inr ⟨y, ob, k, hy, (eqAV_eq e).symm, fun x' => by rw [exec_float hc _ x' x]; exact hv, hu⟩
        · cases h
      · cases h
    · cases h
  · cases h
theorem rechk_mem {mask : Nat} {x : Ps} {H : Heap} : ∀ {L : List J}, rechk x H (needOf mask (L.map J.dn)) (L.map J.re) = true → ∀ j ∈ L, j.eff = false → tb mask j.i = false → ∀ r, j.re = some r → rechk1 r x H = true
  | [], h, j, hj => by simp at hj
  | k :: l, h, j, hj => by
    intro he ht r hr
    simp only [List.map_cons, needOf, rechk] at h
    split at h
    · rename_i hk
      rcases List.mem_cons.1 hj with rfl | hj
      · simp only [needOne, J.dn, he, ht, hr, rechkB, Bool.not_false] at hk
        exact hk
      · exact rechk_mem h j hj he ht r hr
    · cases h
theorem Step.re {g : Rg} {s s' : DS} {j : J} (h : Step g s j s') {r : RE} (hr : j.re = some r) : r.c = j.co.c ∧ j.eff = false := by
  obtain ⟨_, _, _, _, _, _, _, _, hh⟩ := h.hm
  cases hh with
  | skip _ _ h3 => rw [h3] at hr; cases hr
  | val vs _ _ he _ h4 => rw [h4] at hr; cases hr; exact ⟨rfl, he⟩
  | new vs ob k _ _ he h3 h0 h4 h5 h6 => rw [h4] at hr; cases hr; exact ⟨rfl, he⟩
  | eff vs _ _ he h3 h4 => rw [h4] at hr; cases hr
theorem get_put_fresh {H : Heap} {x : Ps} (hx : ∀ n u, PT.get n H = some u → n.nat < x.nat) (ob : AObj) : ∀ n u, PT.get n H = some u → PT.get n (PT.put (some ob) x H) = some u := fun n u e => by
  rw [PT.get_put]
  split
  · rename_i hn; subst hn; exact absurd (hx _ _ e) (by omega)
  · exact e
end
end Go.Proofs.YtldjbgklmeigmaaGreatDoor.Ev

namespace Go.Proofs.YtldjbgklmeigmaaGreatDoor.Ev
open Go Go.RowKit
noncomputable section
set_option linter.unusedVariables false

/-- What was read stays, where nothing that has come waited for it. -/
theorem Step.good {g : Rg} {s t u : DS} {j0 : J} (h : Trace g s t) (h0 : s.L = []) (k : Step g t j0 u) (hfr : ∀ n o, PT.get n t.H = some o → n.nat < t.x.nat) {D : Nat → Prop}
    (hg : ∀ j ∈ t.L, ¬ D j.i → ∀ r, j.re = some r → Good r t.H) (hb : j0.eff = true → ∀ j ∈ t.L, ¬ D j.i → ¬ Bef g.ms j0.i j.i) : ∀ j ∈ u.L, ¬ D j.i → ∀ r, j.re = some r → Good r u.H := by
  intro j hj hD r hr
  rw [k.hL] at hj
  obtain ⟨mask, os, c, hm, _, _, _, _, hh⟩ := k.hm
  rw [nthN_eq] at hm
  rcases List.mem_cons.1 hj with rfl | hj'
  · cases hh with
    | skip _ _ h3 => rw [h3] at hr; cases hr
    | val vs _ _ he h3 h4 h5 h6 =>
      rw [h4] at hr; cases hr
      exact ⟨t.H, fun n u e => by rw [h6]; exact e, .inl ⟨rfl, fun x => by simp only; rw [exec_float he _ x t.x]; exact h3⟩⟩
    | new vs ob kn _ _ he h3 h0' h4 h5 h6 =>
      rw [h4] at hr; cases hr
      refine ⟨t.H, fun n u e => by rw [h6]; exact get_put_fresh hfr ob n u e, .inr ⟨t.x, ob, kn, rfl, h0', fun x => by simp only; rw [exec_float he _ x t.x]; exact h3, ?_⟩⟩
      rw [h6, PT.get_put, if_pos rfl]
    | eff vs _ _ he h3 h4 => rw [h4] at hr; cases hr
  · have hold := hg j hj' hD r hr
    cases hh with
    | skip _ _ h3 h4 h5 => rw [h5]; exact hold
    | val vs _ _ he h3 h4 h5 h6 => rw [h6]; exact hold
    | new vs ob kn _ _ he h3 h0' h4 h5 h6 => rw [h6]; exact hold.more (get_put_fresh hfr ob)
    | eff vs _ _ he h3 h4 h5 =>
      have hnb : tb mask j.i = false := by
        cases hq : tb mask j.i with
        | false => rfl
        | true => exact absurd ⟨mask, hm, hq⟩ (hb he j hj' hD)
      rcases h.split j hj' with hs | ⟨s1, s2, a1, a2, a3⟩
      · rw [h0] at hs; simp at hs
      · obtain ⟨e1, e2⟩ := a2.re hr
        refine rechk1_good (by rw [e1]; exact e2) (rechk_mem h5 j hj' e2 hnb r hr)

/-- What stands in the slots. -/
theorem Trace.slots {g : Rg} {s t : DS} (h : Trace g s t) (h0 : s.L = []) : ∀ p v, PT.get p t.T = some v → PT.get p s.T = some v ∨ ∃ j ∈ t.L, j.v = v ∧ j.co.keep = some p := by
  induction h with
  | refl => exact fun p v e => .inl e
  | snoc h k ih =>
    intro p v e
    rw [k.hT] at e
    rw [k.hL]
    have old : ∀ {q}, PT.get p q = some v → PT.get p q = some v := fun h => h
    cases hk : ‹J›.co.keep with
    | none =>
      rw [hk] at e
      rcases ih p v e with e | ⟨j, hj, e1, e2⟩
      · exact .inl e
      · exact .inr ⟨j, List.mem_cons_of_mem _ hj, e1, e2⟩
    | some q =>
      rw [hk] at e
      simp only [putD, PT.get_put] at e
      split at e
      · rename_i hp
        cases e
        exact .inr ⟨_, by simp, rfl, by rw [hk, hp]⟩
      · rcases ih p v e with e | ⟨j, hj, e1, e2⟩
        · exact .inl e
        · exact .inr ⟨j, List.mem_cons_of_mem _ hj, e1, e2⟩

theorem doper_spec {P : Program} {kp : Keep} {nt : Nat} {ops : Array Oper} {ms : List Nat} {L : List Dn} {seen i : Nat} {d : DOper} {o : Oper} (h : doper P kp nt ops ms L seen i = some (d, o)) :
    ops[i]? = some o ∧ tb seen i = false ∧ dstOk L o.dst = true ∧ xoper P kp nt ops (L.map (·.dst)) o = some d.o ∧ d.eff = isEff d.o.c ∧
    ∃ mask os c, nthN ms i = some mask ∧ cop P o = some (os, c) ∧ allOrd mask L = true ∧ readsOk mask L os = true ∧ guardOk ops mask L o.guard = true ∧ (d.eff = true → d.need = needOf mask L) := by
  unfold doper at h
  split at h
  · cases h
  · rename_i o' ho
    split at h
    · cases h
    · rename_i mask hm
      split at h
      · cases h
      · rename_i os c hc
        split at h
        · rename_i hk
          simp only [Bool.and_eq_true, Bool.not_eq_true'] at hk
          split at h
          · cases h
          · rename_i co hco
            cases h
            refine ⟨ho, hk.1.1, hk.2.1, hco, rfl, mask, os, c, hm, hc, hk.1.2, hk.2.2.1, hk.2.2.2, fun he => ?_⟩
            simp only at he
            simp only [he]
        · cases h

/-- Seen so far. -/
def SeenOk (seen : Nat) (L : List J) : Prop := ∀ i, tb seen i = true ↔ ∃ k ∈ L, k.i = i
theorem SeenOk.push {seen : Nat} {L : List J} (h : SeenOk seen L) (j : J) : SeenOk (Nat.lor seen (Nat.shiftLeft 1 j.i)) (j :: L) := fun i => by
  rw [tb_lor, Bool.or_eq_true, tb_one, h i]
  constructor
  · rintro (⟨k, a, b⟩ | rfl)
    · exact ⟨k, List.mem_cons_of_mem _ a, b⟩
    · exact ⟨j, by simp, rfl⟩
  · rintro ⟨k, a, b⟩
    rcases List.mem_cons.1 a with rfl | a
    · exact .inr b.symm
    · exact .inl ⟨k, a, b⟩

theorem drawX_trace {g : Rg} : ∀ (perm : List Nat) (s : DS) (seen : Nat) (dl : List DOper) (o : Out) (T' : PT AV) (x' : Ps) (H' : Heap), dopers g.P g.kp g.nt g.ops g.ms (s.L.map J.dn) seen perm = some dl → SeenOk seen s.L →
    drawX g.call g.T1 dl (s.L.map J.v) (s.L.map J.re) s.T s.x s.H = .out o T' x' H' → o = .norm ∧ ∃ t, Trace g s t ∧ t.T = T' ∧ t.x = x' ∧ t.H = H' ∧ ∀ i, i < g.ops.size → ∃ k ∈ t.L, k.i = i := by
  intro perm
  induction perm with
  | nil =>
    intro s seen dl o T' x' H' hd hs h
    simp only [dopers] at hd
    split at hd
    · rename_i hsn
      cases hd
      simp only [drawX, Res.out.injEq] at h
      obtain ⟨rfl, rfl, rfl, rfl⟩ := h
      refine ⟨rfl, s, .refl s, rfl, rfl, rfl, fun i hi => ?_⟩
      rw [← hs i, tb_testBit]
      have := Nat.eq_of_beq_eq_true hsn
      have e : seen = 2 ^ g.ops.size - 1 := by
        have h2 : Nat.shiftLeft 1 g.ops.size = 2 ^ g.ops.size := Nat.one_shiftLeft _
        rw [h2] at this
        omega
      rw [e, Nat.testBit_two_pow_sub_one]
      simpa using hi
    · cases hd
  | cons i perm ih =>
    intro s seen dl o T' x' H' hd hs h
    simp only [dopers] at hd
    split at hd
    · cases hd
    · rename_i d oo hdo
      split at hd
      · cases hd
      · rename_i r hr
        cases hd
        obtain ⟨ho, hseen, hdst, hco, heff, mask, os, c, hm, hc, hord, hreads, hguard, hneed⟩ := doper_spec hdo
        -- one step, then the rest
        have go : ∀ (v : AV) (re : Option RE) (x1 : Ps) (H1 : Heap), (∀ s', s'.L = (⟨i, oo, d.o, v, re⟩ : J) :: s.L → s'.x = x1 → s'.H = H1 → How g mask s ⟨i, oo, d.o, v, re⟩ s') →
            drawX g.call g.T1 r (v :: s.L.map J.v) (re :: s.L.map J.re) (putD d.o.keep v s.T) x1 H1 = .out o T' x' H' →
            o = .norm ∧ ∃ t, Trace g s t ∧ t.T = T' ∧ t.x = x' ∧ t.H = H' ∧ ∀ i, i < g.ops.size → ∃ k ∈ t.L, k.i = i := by
          intro v re x1 H1 hhow hev
          have hjd : (⟨i, oo, d.o, v, re⟩ : J).dn = ⟨i, d.eff, oo.dst⟩ := by simp only [J.dn, J.eff, heff]
          have hst : Step g s ⟨i, oo, d.o, v, re⟩ ⟨⟨i, oo, d.o, v, re⟩ :: s.L, putD d.o.keep v s.T, x1, H1⟩ :=
            { hL := rfl
              ho := ho
              hnew := fun k hk e => by
                have := (hs i).2 ⟨k, hk, e⟩
                rw [hseen] at this; cases this
              hdst := hdst
              hco := hco
              hT := rfl
              hm := ⟨mask, os, c, hm, hc, hord, hreads, hguard, hhow _ rfl rfl rfl⟩ }
          obtain ⟨e1, t, k1, k2, k3, k4, k5⟩ := ih ⟨⟨i, oo, d.o, v, re⟩ :: s.L, putD d.o.keep v s.T, x1, H1⟩ _ r o T' x' H' (by simp only [List.map_cons, hjd]; exact hr) (hs.push ⟨i, oo, d.o, v, re⟩) (by simpa only [List.map_cons] using hev)
          exact ⟨e1, t, Trace.trans (.snoc (.refl _) hst) k1, k2, k3, k4, k5⟩
        simp only [drawX] at h
        split at h
        · cases h
        · rename_i hw
          exact go _ _ _ _ (fun s' e1 e2 e3 => .skip hw rfl rfl e2 e3) h
        · rename_i hw
          split at h
          · cases h
          · rename_i vs hvs
            split at h
            · rename_i hef
              have hje : ∀ v re, (⟨i, oo, d.o, v, re⟩ : J).eff = false := fun v re => by simp only [J.eff]; rw [← heff, hef]
              split at h
              · rename_i v hx
                exact go _ _ _ _ (fun s' e1 e2 e3 => .val vs hw hvs (hje _ _) hx rfl e2 e3) h
              · rename_i ob k hx
                exact go _ _ _ _ (fun s' e1 e2 e3 => .new vs ob k hw hvs (hje _ _) hx rfl rfl e2 e3) h
              · cases h
            · rename_i hef
              have hje : ∀ v re, (⟨i, oo, d.o, v, re⟩ : J).eff = true := fun v re => by simp only [J.eff]; rw [← heff, hef]
              have hn := hneed hef
              rw [hn] at h
              split at h
              · rename_i v hx
                split at h
                · rename_i hre
                  exact go _ _ _ _ (fun s' e1 e2 e3 => .eff vs hw hvs (hje _ _) (by simp only; rw [hx]; exact ⟨rfl, e2, e3⟩) rfl (by rw [e2, e3]; exact hre)) h
                · cases h
              · rename_i ob k hx
                split at h
                · rename_i hre
                  exact go _ _ _ _ (fun s' e1 e2 e3 => .eff vs hw hvs (hje _ _) (by simp only; rw [hx]; exact ⟨rfl, e2, e3⟩) rfl (by rw [e2, e3]; exact hre)) h
                · cases h
              · rename_i v x1 H1 hx
                split at h
                · rename_i hre
                  exact go _ _ _ _ (fun s' e1 e2 e3 => .eff vs hw hvs (hje _ _) (by simp only; rw [hx]; exact ⟨rfl, e2, e3⟩) rfl (by rw [e2, e3]; exact hre)) h
                · cases h
              · rename_i f args hx
                split at h
                · rename_i v x1 H1 hcall
                  split at h
                  · rename_i hre
                    exact go _ _ _ _ (fun s' e1 e2 e3 => .eff vs hw hvs (hje _ _) (by simp only; rw [hx, e2, e3]; exact hcall) rfl (by rw [e2, e3]; exact hre)) h
                  · cases h
                · cases h
              · cases h
end
end Go.Proofs.YtldjbgklmeigmaaGreatDoor.Ev

namespace Go.Proofs.YtldjbgklmeigmaaGreatDoor.Ev
open Go Go.RowKit
noncomputable section
set_option linter.unusedVariables false

section
variable {P : Program} {ops : Array Oper} {Q : Exit → Act → World → Prop}
/-- What each operation waits for. -/
def depsOf (ops : Array Oper) : List (List Nat) := ops.toList.map depL
/-- May operation i come now? -/
def can (deps : List (List Nat)) (ls : List Bool) (i : Nat) : Bool := !(ls.getD i true) && (match deps[i]? with | some d => d.all (fun j => ls.getD j false) | none => false)
theorem getD_ls (ls : List Bool) (i : Nat) (b : Bool) : ls.toArray.getD i b = ls.getD i b := by
  rw [Array.getD_eq_getD_getElem?, List.getD_eq_getElem?_getD, List.getElem?_toArray]
theorem mem_ready_can {ls : List Bool} {i : Nat} : i ∈ Region.ready .any ops ls.toArray ↔ can (depsOf ops) ls i = true := by
  rw [mem_ready]
  unfold can depsOf depL
  rw [getD_ls, List.getElem?_map, Array.getElem?_toList]
  cases ho : ops[i]? with
  | none => simp
  | some o =>
    simp only [Option.map_some, Bool.and_eq_true, Bool.not_eq_true', Option.some.injEq, exists_eq_left', List.all_eq_true, List.mem_map, List.mem_filter, Array.mem_toList_iff, getD_ls]
    constructor
    · rintro ⟨h1, h2⟩
      refine ⟨h1, ?_⟩
      rintro j ⟨e, ⟨he, hb⟩, rfl⟩
      exact h2 e he hb
    · rintro ⟨h1, h2⟩
      exact ⟨h1, fun e he hb => h2 _ ⟨e, ⟨he, hb⟩, rfl⟩⟩
theorem can_lt {deps : List (List Nat)} {ls : List Bool} {i : Nat} (h : can deps ls i = true) : ls[i]? = some false := by
  unfold can at h
  simp only [Bool.and_eq_true, Bool.not_eq_true'] at h
  have h1 := h.1
  rw [List.getD_eq_getElem?_getD] at h1
  cases hg : ls[i]? with
  | none => rw [hg] at h1; cases h1
  | some b => rw [hg] at h1; simp at h1; rw [h1]
theorem count_set : ∀ (ls : List Bool) (i : Nat), ls[i]? = some false → (ls.set i true).countP (· == false) + 1 = ls.countP (· == false)
  | [], _, h => by simp at h
  | b :: r, 0, h => by
    simp at h
    subst h
    simp
  | b :: r, i + 1, h => by
    have := count_set r i (by simpa using h)
    simp only [List.set_cons_succ, List.countP_cons]
    omega
theorem wpAny_states (I : List Bool → Act → World → Prop)
    (step : ∀ ls a w i, I ls a w → can (depsOf ops) ls i = true → wpOp P ops Q i (I (ls.set i true)) a w)
    (fin : ∀ ls a w, (∀ i, can (depsOf ops) ls i = false) → I ls a w → Q .normal a w) :
    ∀ (fuel : Nat) (ls : List Bool) (a : Act) (w : World), ls.countP (· == false) ≤ fuel → I ls a w → wpAny P .any ops Q fuel ls.toArray a w := by
  have hend : ∀ ls a w, Region.ready .any ops ls.toArray = [] → I ls a w → Q .normal a w := fun ls a w h hI => fin ls a w (fun i => by
    cases hc : can (depsOf ops) ls i with
    | false => rfl
    | true => exact absurd (mem_ready_can.2 hc) (by rw [h]; simp)) hI
  intro fuel
  induction fuel with
  | zero =>
    intro ls a w hc hI
    have hr : Region.ready .any ops ls.toArray = [] := by
      rw [List.eq_nil_iff_forall_not_mem]
      intro i hi
      have h1 := can_lt (mem_ready_can.1 hi)
      have := count_set ls i h1
      omega
    exact ⟨hr, hend _ _ _ hr hI⟩
  | succ fuel ih =>
    intro ls a w hc hI
    refine ⟨fun h => hend _ _ _ h hI, fun i hi => ?_⟩
    have hcan := mem_ready_can.1 hi
    have hcs := count_set ls i (can_lt hcan)
    refine wpOp_mono (fun a' w' h => ?_) (step ls a w i hI hcan)
    rw [show ls.toArray.setIfInBounds i true = (ls.set i true).toArray by simp]
    exact ih _ a' w' (by omega) h
/-- A region that draws its order: an invariant for each set of operations done. -/
theorem wp_region_states {id : Nat} {a : Act} {w : World} (hm : P.follows .mixedOrders = true)
    (I : List Bool → Act → World → Prop) (h0 : I (List.replicate ops.size false) a { w with drawn := w.drawn + 1 })
    (step : ∀ ls a' w' i, I ls a' w' → can (depsOf ops) ls i = true → wpOp P ops Q i (I (ls.set i true)) a' w')
    (fin : ∀ ls a' w', (∀ i, can (depsOf ops) ls i = false) → I ls a' w' → Q .normal a' w') : (Code.region id ops true).wp P Q a w := by
  refine wp_region_any hm ?_
  have := wpAny_states (ops := ops) I step fin ops.size (List.replicate ops.size false) a { w with drawn := w.drawn + 1 } (by refine Nat.le_trans List.countP_le_length ?_; simp) h0
  simpa using this
end

/-- Is it done? -/
def don (ls : List Bool) (i : Nat) : Bool := ls.getD i false
theorem don_set {ls : List Bool} {i : Nat} (hi : i < ls.length) (j : Nat) : don (ls.set i true) j = true ↔ j = i ∨ don ls j = true := by
  unfold don
  rw [List.getD_eq_getElem?_getD, List.getD_eq_getElem?_getD, List.getElem?_set]
  by_cases hij : i = j
  · subst hij; simp [hi]
  · rw [if_neg hij]
    constructor
    · exact fun h => .inr h
    · rintro (h | h)
      · exact absurd h.symm hij
      · exact h
/-- Where the operations went that are done. -/
def preD (ls : List Bool) (L : List J) : List (Option Tmp) := L.map fun k => if don ls k.i then k.o.dst else none
theorem findD_preD {ls : List Bool} {t : Tmp} : ∀ {L : List J} (d : Nat), (∀ m, findJ (L.map J.dn) t = some m → don ls m = true) → findD (preD ls L) t d = findD ((L.map J.dn).map (·.dst)) t d
  | [], d, h => rfl
  | k :: l, d, h => by
    simp only [preD, List.map_cons, findD]
    cases hd : k.o.dst with
    | none =>
      have ih := findD_preD (ls := ls) (t := t) (L := l) (d + 1) (fun m e => h m (by simp only [List.map_cons, findJ, J.dn, hd]; exact e))
      simp only [ite_self, J.dn, hd]
      exact ih
    | some u =>
      simp only [J.dn, hd]
      by_cases hu : Nat.beq u t = true
      · have : don ls k.i = true := h k.i (by simp only [List.map_cons, findJ, J.dn, hd, hu, if_true])
        simp only [this, if_true, hu]
      · have ih := findD_preD (ls := ls) (t := t) (L := l) (d + 1) (fun m e => h m (by simp only [List.map_cons, findJ, J.dn, hd, if_neg hu]; exact e))
        cases don ls k.i with
        | false => simp only [Bool.false_eq_true, if_false, if_neg hu]; exact ih
        | true => simp only [if_true, if_neg hu]; exact ih
theorem findD_at : ∀ {pre : List (Option Tmp)} {t : Tmp} {c d : Nat}, findD pre t c = some d → ∃ e, d = c + e ∧ pre[e]? = some (some t)
  | [], t, c, d, h => by simp [findD] at h
  | o :: l, t, c, d, h => by
    simp only [findD] at h
    split at h
    · obtain ⟨e, h1, h2⟩ := findD_at h
      exact ⟨e + 1, by omega, by simpa using h2⟩
    · rename_i u
      split at h
      · rename_i hu
        cases h
        exact ⟨0, rfl, by simp [Nat.eq_of_beq_eq_true hu]⟩
      · obtain ⟨e, h1, h2⟩ := findD_at h
        exact ⟨e + 1, by omega, by simpa using h2⟩
theorem nthA_eq : ∀ (l : List AV) (d : Nat), nthA l d = l[d]?
  | [], d => by simp [nthA]
  | a :: l, 0 => by simp [nthA]
  | a :: l, d + 1 => by simp [nthA, nthA_eq l d]

section
variable {P : Program} {ls : List Bool} {mask : Nat} {L : List J} (hb : ∀ m, tb mask m = true → don ls m = true)
include hb
theorem readOk_preD {t : Tmp} (h : readOk mask (L.map J.dn) (.tmp t) = true) (d : Nat) : findD (preD ls L) t d = findD ((L.map J.dn).map (·.dst)) t d :=
  findD_preD d fun m e => hb m (by simp only [readOk, e] at h; exact h)
theorem xopd_preD {X : Operand} (h : readOk mask (L.map J.dn) X = true) : xopd P (preD ls L) X = xopd P ((L.map J.dn).map (·.dst)) X := by
  cases X with
  | tmp t => simp only [xopd]; rw [readOk_preD hb h]
  | _ => rfl
theorem xopds_preD : ∀ {os : List Operand}, readsOk mask (L.map J.dn) os = true → xopds P (preD ls L) os = xopds P ((L.map J.dn).map (·.dst)) os
  | [], h => rfl
  | X :: os, h => by
    simp only [readsOk] at h
    split at h
    · rename_i h1
      simp only [xopds]
      rw [xopd_preD hb h1, xopds_preD h]
    · cases h
theorem xoper_preD {kp : Keep} {nt : Nat} {ops : Array Oper} {o : Oper} {os : List Operand} {c : COp} (hc : cop P o = some (os, c)) (h1 : readsOk mask (L.map J.dn) os = true) (h2 : guardOk ops mask (L.map J.dn) o.guard = true) :
    xoper P kp nt ops (preD ls L) o = xoper P kp nt ops ((L.map J.dn).map (·.dst)) o := by
  have hg : xguard ops (preD ls L) o.guard = xguard ops ((L.map J.dn).map (·.dst)) o.guard := by
    cases hog : o.guard with
    | none => rfl
    | some jw =>
      obtain ⟨j, want⟩ := jw
      rw [hog] at h2
      simp only [guardOk] at h2
      simp only [xguard]
      split at h2
      · rename_i q hq
        rw [readOk_preD hb h2]
      · cases h2
  unfold xoper
  simp only [hc]
  rw [xopds_preD hb h1, hg]
end

/-- What the slots say of the operations that are done. -/
def Vals (sn : DS) (ls : List Bool) (τ : Map) (a : Act) : Prop := ∀ j ∈ sn.L, don ls j.i = true → ∀ t, j.o.dst = some t → conc τ j.v = some (a.tmps.getD t undef)
theorem env_preD {sn s : DS} {ls : List Bool} {τ : Map} {a : Act} (h : Vals sn ls τ a) (hm : ∀ j ∈ s.L, j ∈ sn.L) : EnvOk τ (preD ls s.L) (s.L.map J.v) a := fun t d e => by
  obtain ⟨k, rfl, hk⟩ := findD_at e
  rw [Nat.zero_add, nthA_eq, List.getElem?_map]
  rw [preD, List.getElem?_map] at hk
  cases hj : s.L[k]? with
  | none => rw [hj] at hk; cases hk
  | some j =>
    rw [hj] at hk
    simp only [Option.map_some, Option.some.injEq] at hk
    split at hk
    · rename_i hd
      exact ⟨j.v, rfl, h j (hm j (List.mem_of_getElem? hj)) hd t hk⟩
    · cases hk

/-- It waits for all the others. -/
def LastOp (g : Rg) (i : Nat) : Prop := ∀ m, m < g.ops.size → m ≠ i → Bef g.ms i m
/-- What holds while a region goes, s: where the evaluator stood. -/
structure Mid (g : Rg) (s0 sn : DS) (W : World) (Fr : Nat → Prop) (σ : Map) (a0 : Act) (ls : List Bool) (s : DS) (τ : Map) (a : Act) (w : World) : Prop where
  t0 : Trace g s0 s
  t1 : Trace g s sn
  effd : ∀ j ∈ s.L, j.eff = true → don ls j.i = true
  effu : ∀ j ∈ sn.L, j.eff = true → j ∉ s.L → don ls j.i = false
  ext : FExt s0.x σ τ
  rel : Rel g.P W Fr τ s.x s.H w
  fr : FR g.kp g.nt τ s0.T a
  frR : (∀ i, LastOp g i → i < g.ops.size → don ls i = false) → FR g.kp g.nt τ g.T1 a
  dfr : a.defers = a0.defers
  vals : Vals sn ls τ a
  pend : ∀ j ∈ s.L, don ls j.i = false → ∀ y, j.names y → τ y = none
  good : ∀ j ∈ s.L, ¬ don ls j.i = true → ∀ r, j.re = some r → Good r s.H
/-- The operations that leave memory are gone through. -/
theorem Mid.adv {g : Rg} {s0 sn : DS} (h0 : s0.L = []) {W : World} {Fr : Nat → Prop} {σ : Map} {a0 : Act} {ls : List Bool} {τ : Map} {a : Act} {w : World} : ∀ (n : Nat) (s : DS), sn.L.length ≤ s.L.length + n → Mid g s0 sn W Fr σ a0 ls s τ a w →
    ∃ s', Mid g s0 sn W Fr σ a0 ls s' τ a w ∧ (s' = sn ∨ ∃ j s'', Step g s' j s'' ∧ Trace g s'' sn ∧ j.eff = true) := by
  intro n
  induction n with
  | zero =>
    intro s hn h
    rcases h.t1.head with e | ⟨j, s', k, k'⟩
    · exact ⟨s, h, .inl e⟩
    · have := k'.len
      rw [k.hL] at this
      simp at this
      omega
  | succ n ih =>
    intro s hn h
    rcases h.t1.head with e | ⟨j, s', k, k'⟩
    · exact ⟨s, h, .inl e⟩
    · cases hj : j.eff with
      | true => exact ⟨s, h, .inr ⟨j, s', k, k', hj⟩⟩
      | false =>
        refine ih s' (by rw [k.hL]; simp; omega) ?_
        obtain ⟨mask, os, c, hm, _, _, _, _, hh⟩ := k.hm
        have g1 := k.good (D := fun i => don ls i = true) h.t0 h0 (fun n o e => h.rel.hfresh n o e) h.good (fun he => by rw [hj] at he; cases he)
        have g2 : ∀ x ∈ sn.L, x.eff = true → x ∉ s'.L → don ls x.i = false := fun x hx he hn' => h.effu x hx he (fun hq => hn' (by rw [k.hL]; exact List.mem_cons_of_mem _ hq))
        refine ⟨.snoc h.t0 k, k', fun x hx he => ?_, g2, h.ext, ?_, h.fr, h.frR, h.dfr, h.vals, fun x hx hd y hy => ?_, g1⟩
        · rw [k.hL] at hx
          rcases List.mem_cons.1 hx with rfl | hx
          · rw [hj] at he; cases he
          · exact h.effd x hx he
        · cases hh with
          | skip h1 h2 h3 h4 h5 => rw [h4, h5]; exact h.rel
          | val vs h1 h2 he h3 h4 h5 h6 => rw [h5, h6]; exact h.rel
          | new vs ob k h1 h2 he h3 h0 h4 h5 h6 => rw [h5, h6]; exact h.rel.bump ob
          | eff vs h1 h2 he => rw [hj] at he; cases he
        · rw [k.hL] at hx
          rcases List.mem_cons.1 hx with rfl | hx
          · obtain ⟨rfl, _⟩ := hh.names hy
            exact h.rel.at_fresh
          · exact h.pend x hx hd y hy
theorem Rel.sub {P : Program} {W : World} {Fr : Nat → Prop} {σ : Map} {x : Ps} {H K : Heap} {w : World} (h : Rel P W Fr σ x H w) (hk : ∀ n u, PT.get n K = some u → PT.get n H = some u) : Rel P W Fr σ x K w :=
  ⟨h.glob, h.low, h.fresh, fun n o e => h.hfresh n o (hk n o e), fun n o s e hs => h.obj n o s (hk n o e) hs, fun m n o u s t e1 e2 => h.inj m n o u s t (hk m o e1) (hk n u e2),
    fun n o s e => h.own n o s (hk n o e), h.size, h.frlt, h.frame, h.os, h.tape, h.output⟩
theorem fext_at {σ : Map} {y : Ps} (hy : σ y = none) (s : Spot) : FExt y σ (σ.upd y s) :=
  ⟨Map.upd_ext hy, fun n hn hlt => by unfold Map.upd; rw [if_neg (fun e => by subst e; omega)]; exact hn⟩
theorem upd_ne {σ : Map} {y z : Ps} {s : Spot} (h : z ≠ y) : σ.upd y s z = σ z := by unfold Map.upd; rw [if_neg h]
end
end Go.Proofs.YtldjbgklmeigmaaGreatDoor.Ev

namespace Go.Proofs.YtldjbgklmeigmaaGreatDoor.Ev
open Go Go.RowKit
noncomputable section
set_option linter.unusedVariables false

/-- The invariant of a region. -/
structure Inv (g : Rg) (s0 sn : DS) (W : World) (Fr : Nat → Prop) (σ : Map) (a0 : Act) (ls : List Bool) (a : Act) (w : World) : Prop where
  len : ls.length = g.ops.size
  clo : ∀ i m, don ls i = true → Bef g.ms i m → don ls m = true
  ex : ∃ s τ, Mid g s0 sn W Fr σ a0 ls s τ a w ∧ (s = sn ∨ ∃ j s', Step g s j s' ∧ Trace g s' sn ∧ j.eff = true)

section
variable {g : Rg} {s0 sn : DS} {W : World} {Fr : Nat → Prop} {σ : Map} {a0 : Act}
/-- A value is laid; the slots say it. -/
theorem lay_fr {T1 : PT AV} {s s' : DS} {k : J} (hT1 : ∀ d, k.o.dst = some d → PT.get (Ps.of d) T1 = none) {τ : Map} {a : Act} (h : FR g.kp g.nt τ T1 a) (hs : Step g s k s') (u : Value) : FR g.kp g.nt τ T1 (a.put k.o.dst u) := by
  have hx := (xoper_dst hs.hco).1
  cases hd : k.o.dst with
  | none => exact h
  | some d =>
    rw [hd] at hx
    have hlt := xkeep_lt hx
    refine ⟨by simp [Act.put, h.size], fun t v e => ?_, h.dom⟩
    rw [getD_put a d u t (by rw [h.size]; exact hlt)]
    split
    · rename_i ht
      subst ht
      rw [hT1 d hd] at e
      cases e
    · exact h.knows t v e
theorem lay_vals (h0 : s0.L = []) (hsn : Trace g s0 sn) {ls : List Bool} (hlen : ls.length = g.ops.size) {τ τ' : Map} (hext : Ext τ τ') {a : Act} {T1 : PT AV} (hfr : FR g.kp g.nt τ T1 a) (h : Vals sn ls τ a) {s s' : DS} {k : J} (hs : Step g s k s') (hk : k ∈ sn.L) {u : Value} (hu : conc τ' k.v = some u) :
    Vals sn (ls.set k.i true) τ' (a.put k.o.dst u) := fun j hj hd t ht => by
  have hi : k.i < ls.length := by rw [hlen]; exact (Array.getElem?_eq_some_iff.1 hs.ho).1
  rw [don_set hi] at hd
  by_cases hjk : j = k
  · subst hjk
    have hx := (xoper_dst hs.hco).1
    rw [ht] at hx
    have hlt := xkeep_lt hx
    rw [ht, getD_put a t u t (by rw [hfr.size]; exact hlt), if_pos rfl]
    exact hu
  · have hd' : don ls j.i = true := by
      rcases hd with e | e
      · exact absurd (hsn.uniq h0 j hj k hk e) hjk
      · exact e
    have hold := conc_mono hext _ _ (h j hj hd' t ht)
    cases hkd : k.o.dst with
    | none => exact hold
    | some d =>
      have hx := (xoper_dst hs.hco).1
      rw [hkd] at hx
      have hlt := xkeep_lt hx
      rw [getD_put a d u t (by rw [hfr.size]; exact hlt), if_neg (fun e => hjk (hsn.dst h0 j hj k hk ht (by rw [hkd, e])))]
      exact hold

set_option maxHeartbeats 1000000 in
theorem inv_step (hcalls : CallsOk g.P g.call) (hT0 : ∀ (i : Nat) (o : Oper), g.ops[i]? = some o → ∀ d, o.dst = some d → PT.get (Ps.of d) s0.T = none)
    (hT1 : ∀ (i : Nat) (o : Oper), g.ops[i]? = some o → ∀ d, o.dst = some d → PT.get (Ps.of d) g.T1 = none ∨ LastOp g i)
    (hms : ∀ (i : Nat) (o : Oper), g.ops[i]? = some o → ∀ m, Bef g.ms i m → m ∈ depL o ∨ ∃ d ∈ depL o, Bef g.ms d m) (h0 : s0.L = []) (hsn : Trace g s0 sn) (hall : ∀ i, i < g.ops.size → ∃ k ∈ sn.L, k.i = i)
    {Q : Exit → Act → World → Prop} {ls : List Bool} {a : Act} {w : World} {i : Nat} (h : Inv g s0 sn W Fr σ a0 ls a w) (hcan : can (depsOf g.ops) ls i = true) : wpOp g.P g.ops Q i (Inv g s0 sn W Fr σ a0 (ls.set i true)) a w := by
  have hlt := can_lt hcan
  have hil : i < ls.length := (List.getElem?_eq_some_iff.1 hlt).1
  have hio : i < g.ops.size := by rw [← h.len]; exact hil
  obtain ⟨k, hk, rfl⟩ := hall i hio
  obtain ⟨s, τ, mid, hnext⟩ := h.ex
  have hndon : don ls k.i = false := by unfold don; rw [List.getD_eq_getElem?_getD, hlt]; rfl
  -- what it waits for is done
  have hget : g.ops[k.i]? = some g.ops[k.i] := by simp [hio]
  have hbef : ∀ m, Bef g.ms k.i m → don ls m = true := fun m hm => by
    have hdeps : ∀ d ∈ depL g.ops[k.i], don ls d = true := by
      unfold can at hcan
      simp only [Bool.and_eq_true] at hcan
      have h2 := hcan.2
      rw [show (depsOf g.ops)[k.i]? = some (depL g.ops[k.i]) by simp [depsOf, hio]] at h2
      simp only [List.all_eq_true] at h2
      exact h2
    rcases hms _ _ hget m hm with h1 | ⟨d, hd, h1⟩
    · exact hdeps m h1
    · exact h.clo d m (hdeps d hd) h1
  -- whoever comes behind an operation that changes memory and is not done, waits
  have hafter : k ∉ s.L → ∃ s', Step g s k s' ∧ Trace g s' sn ∧ k.eff = true := fun hns => by
    rcases hnext with rfl | ⟨j, s', b1, b2, b3⟩
    · exact absurd hk hns
    · have hjs : j ∈ s'.L := by rw [b1.hL]; simp
      rcases b2.split k hk with hks | ⟨s1, s2, c1, c2, c3⟩
      · rw [b1.hL] at hks
        rcases List.mem_cons.1 hks with rfl | hks
        · exact ⟨s', b1, b2, b3⟩
        · exact absurd hks hns
      · have hord := c2.ord j (c1.mem j hjs) b3
        have hd := hbef _ hord
        have hjn : j ∉ s.L := fun hq => (b1.hnew j hq) rfl
        rw [mid.effu j (b2.mem j hjs) b3 hjn] at hd
        cases hd
  -- the step in which the evaluator did it
  have hstep : ∃ s1 s2, Trace g s0 s1 ∧ Step g s1 k s2 ∧ Trace g s2 sn ∧ (k.eff = true → s1 = s) ∧ (k.eff = false → k ∈ s.L) := by
    cases he : k.eff with
    | true =>
      have hns : k ∉ s.L := fun hq => by rw [mid.effd k hq he] at hndon; cases hndon
      obtain ⟨s', b1, b2, _⟩ := hafter hns
      exact ⟨s, s', mid.t0, b1, b2, fun _ => rfl, fun e => (by cases e)⟩
    | false =>
      have hin : k ∈ s.L := Classical.byContradiction fun hns => by
        obtain ⟨_, _, _, e⟩ := hafter hns
        rw [he] at e; cases e
      rcases hsn.split k hk with e | ⟨s1, s2, c1, c2, c3⟩
      · rw [h0] at e; simp at e
      · exact ⟨s1, s2, c1, c2, c3, fun e => (by cases e), fun _ => hin⟩
  obtain ⟨s1, s2, c1, c2, c3, ceff, cflt⟩ := hstep
  obtain ⟨mask, os, c, hm, hc, hord, hreads, hguard, hh⟩ := c2.hm
  rw [nthN_eq] at hm
  have hmb : ∀ m, tb mask m = true → don ls m = true := fun m e => hbef m ⟨mask, hm, e⟩
  have hpre := (xoper_preD (P := g.P) (kp := g.kp) (nt := g.nt) (ops := g.ops) hmb hc hreads hguard).trans c2.hco
  have hs1n : ∀ j ∈ s1.L, j ∈ sn.L := fun j hj => c3.mem j (by rw [c2.hL]; exact List.mem_cons_of_mem _ hj)
  have henv := env_preD (sn := sn) (s := s1) mid.vals hs1n
  have hdg := (xoper_dst hpre).2
  have hko : g.ops[k.i]? = some k.o := c2.ho
  have hclo : ∀ i m, don (ls.set k.i true) i = true → Bef g.ms i m → don (ls.set k.i true) m = true := fun i m hd hb => by
    rw [don_set hil] at hd ⊢
    rcases hd with rfl | hd
    · exact .inr (hbef m hb)
    · exact .inr (h.clo i m hd hb)
  have hlen' : (ls.set k.i true).length = g.ops.size := by rw [List.length_set]; exact h.len
  have hdn : ∀ {j : J}, don (ls.set k.i true) j.i = false → don ls j.i = false ∧ j ≠ k := fun {j} hj => by
    have : ¬ (j.i = k.i ∨ don ls j.i = true) := fun e => by rw [(don_set hil j.i).2 e] at hj; cases hj
    refine ⟨?_, fun e => this (.inl (by rw [e]))⟩
    cases hq : don ls j.i with
    | false => rfl
    | true => exact absurd (.inr hq) this
  have hdn' : ∀ {j : J}, ¬ don (ls.set k.i true) j.i = true → ¬ don ls j.i = true := fun {j} hj e => hj ((don_set hil j.i).2 (.inr e))
  have hdon : ∀ {j : J}, don ls j.i = true → don (ls.set k.i true) j.i = true := fun {j} e => (don_set hil j.i).2 (.inr e)
  have hund : ∀ {j : J}, j ∈ sn.L → j ≠ k → don ls j.i = false → don (ls.set k.i true) j.i = false := fun {j} hj hjk h1 => by
    cases hq : don (ls.set k.i true) j.i with
    | false => rfl
    | true =>
      rcases (don_set hil j.i).1 hq with e | e
      · exact absurd (hsn.uniq h0 j hj k hk e) hjk
      · rw [h1] at e; cases e
  have hnolast : ∀ i, LastOp g i → i < g.ops.size → don ls i = false := fun i hl hi => by
    cases hq : don ls i with
    | false => rfl
    | true =>
      by_cases hik : k.i = i
      · rw [hik, hq] at hndon; cases hndon
      · rw [h.clo i k.i hq (hl k.i hio hik)] at hndon; cases hndon
  have hfrR := mid.frR hnolast
  have hfrR' : ∀ (u : Value) (τ' : Map), Ext τ τ' → (∀ i, LastOp g i → i < g.ops.size → don (ls.set k.i true) i = false) → FR g.kp g.nt τ' g.T1 (a.put k.o.dst u) := fun u τ' hext hl => by
    refine lay_fr (fun d hd => ?_) (hfrR.mono hext) c2 u
    rcases hT1 k.i k.o hko d hd with e | e
    · exact e
    · have := hl k.i e hio
      rw [(don_set hil k.i).2 (.inl rfl)] at this
      cases this
  have hdfr : ∀ u, (a.put k.o.dst u).defers = a0.defers := fun u => by rw [put_defers]; exact mid.dfr
  -- an operation that leaves memory: the evaluator stands where it stood
  have fin_float : k.eff = false → ∀ (u : Value) (τ' : Map) (w' : World), FExt s0.x τ τ' → Rel g.P W Fr τ' s.x s.H w' → conc τ' k.v = some u → (∀ j ∈ s.L, j ≠ k → ∀ y, j.names y → τ y = none → τ' y = none) →
      Inv g s0 sn W Fr σ a0 (ls.set k.i true) (a.put k.o.dst u) w' := by
    intro he u τ' w' q1 q2 q3 q4
    refine ⟨hlen', hclo, s, τ', ?_, hnext⟩
    refine ⟨mid.t0, mid.t1, fun j hj hje => hdon (mid.effd j hj hje), fun j hj hje hn => hund hj ?_ (mid.effu j hj hje hn), mid.ext.trans q1 (Nat.le_refl _), q2, lay_fr (hT0 k.i k.o hko) (mid.fr.mono q1.ext) c2 u, hfrR' u τ' q1.ext, hdfr u, lay_vals h0 hsn h.len q1.ext mid.fr mid.vals c2 hk q3, ?_, fun j hj hd => mid.good j hj (hdn' hd)⟩
    · intro e; rw [e, he] at hje; cases hje
    · exact fun j hj hd y hy => q4 j hj (hdn hd).2 y hy (mid.pend j hj (hdn hd).1 y hy)
  -- an operation that changes memory: the evaluator goes on
  have fin_eff : k.eff = true → ∀ (u : Value) (τ' : Map) (w' : World), FExt s.x τ τ' → Rel g.P W Fr τ' s2.x s2.H w' → conc τ' k.v = some u → Inv g s0 sn W Fr σ a0 (ls.set k.i true) (a.put k.o.dst u) w' := by
    intro he u τ' w' q1 q2 q3
    have e1 := ceff he
    subst e1
    have hg := c2.good (D := fun i => don (ls.set k.i true) i = true) mid.t0 h0 (fun n o e => mid.rel.hfresh n o e) (fun j hj hd => mid.good j hj (hdn' hd)) (fun _ j hj hd hb => hdn' hd (hbef _ hb))
    refine ⟨hlen', hclo, ?_⟩
    have hmid : Mid g s0 sn W Fr σ a0 (ls.set k.i true) s2 τ' (a.put k.o.dst u) w' := by
      refine ⟨.snoc mid.t0 c2, c3, fun j hj hje => ?_, fun j hj hje hn => ?_, mid.ext.trans q1 (mid.t0.le hcalls), q2, lay_fr (hT0 k.i k.o hko) (mid.fr.mono q1.ext) c2 u, hfrR' u τ' q1.ext, hdfr u, lay_vals h0 hsn h.len q1.ext mid.fr mid.vals c2 hk q3, fun j hj hd y hy => ?_, hg⟩
      · rw [c2.hL] at hj
        rcases List.mem_cons.1 hj with rfl | hj
        · exact (don_set hil _).2 (.inl rfl)
        · exact hdon (mid.effd j hj hje)
      · exact hund hj (fun e => hn (by rw [e, c2.hL]; simp)) (mid.effu j hj hje (fun e => hn (by rw [c2.hL]; exact List.mem_cons_of_mem _ e)))
      · rw [c2.hL] at hj
        rcases List.mem_cons.1 hj with rfl | hj
        · exact absurd rfl (hdn hd).2
        · exact q1.none y (mid.pend j hj (hdn hd).1 y hy) ((mid.t0.names hcalls h0).1 j hj y hy).2
    obtain ⟨s', k1, k2⟩ := Mid.adv h0 sn.L.length s2 (by omega) hmid
    exact ⟨s', τ', k1, k2⟩
  unfold wpOp
  rw [hko]
  simp only
  cases hh with
  | skip h1 h2 h3 h4 h5 =>
    have hw := wantX_spec henv hdg h1
    rw [hw]
    simp only [Bool.false_eq_true, if_false]
    have hu : conc τ k.v = some undef := by rw [h2]; simp [conc, concL, undef]
    cases he : k.eff with
    | false => exact fin_float he undef τ w (FExt.refl _ _) mid.rel hu (fun _ _ _ _ _ e => e)
    | true =>
      have e1 := ceff he
      subst e1
      exact fin_eff he undef τ w (FExt.refl _ _) (by rw [h4, h5]; exact mid.rel) hu
  | val vs h1 h2 he h3 h4 h5 h6 =>
    have hw := wantX_spec henv hdg h1
    rw [hw]
    simp only [if_true]
    refine .inl ?_
    obtain ⟨H1, hsub, hgood⟩ := mid.good k (cflt he) (by rw [hndon]; simp) _ h4
    rcases hgood with ⟨_, hv⟩ | ⟨y, ob, kn, hy, _⟩
    · have hrel := mid.rel.sub hsub
      refine oper_specY s.x hrel.at_fresh hpre hrel hfrR henv h2 ?_ ?_ ?_ ?_ (by rw [hv]; exact fun h => by cases h)
      · intro v' hv' u hu
        rw [hv] at hv'; cases hv'
        exact fin_float he u τ w (FExt.refl _ _) mid.rel hu (fun _ _ _ _ _ e => e)
      · intro ob' k' hq; rw [hv] at hq; cases hq
      · intro v' x1 H1 hq; rw [hv] at hq; cases hq
      · intro f args hq; rw [hv] at hq; cases hq
    · cases hy
  | new vs ob kn h1 h2 he h3 hkv h4 h5 h6 =>
    have hw := wantX_spec henv hdg h1
    rw [hw]
    simp only [if_true]
    refine .inl ?_
    obtain ⟨H1, hsub, hgood⟩ := mid.good k (cflt he) (by rw [hndon]; simp) _ h4
    rcases hgood with ⟨hy, _⟩ | ⟨y, ob', kn', hy, hkv', hx, hgy⟩
    · cases hy
    · simp only [Option.some.injEq] at hy
      subst hy
      have hrel := mid.rel.sub hsub
      have hyn : k.names s1.x := ⟨_, h4, rfl⟩
      have hnone := mid.pend k (cflt he) hndon _ hyn
      have hylt := ((mid.t0.names hcalls h0).1 k (cflt he) _ hyn)
      refine oper_specY s1.x hnone hpre hrel hfrR henv h2 ?_ ?_ ?_ ?_ (by rw [hx]; exact fun h => by cases h)
      · intro v' hv'; rw [hx] at hv'; cases hv'
      · intro ob2 k2 hq u sp w' hnw hsb hcu hob
        rw [hx] at hq; cases hq
        refine fin_float he u (τ.upd s1.x sp) w' ?_ ?_ (by rw [show k.v = kn'.av s1.x from hkv']; exact hcu) ?_
        · have h1 := fext_at hnone sp
          exact ⟨h1.ext, fun n hn hl => h1.none n hn (by omega)⟩
        · exact NewW.rel mid.rel hylt.2 hnone (fun u hu => by rw [hgy] at hu; cases hu; rfl) hnw hsb hob
        · intro j hj hjk y hy hn
          have hne : y ≠ s1.x := fun e => hjk ((hsn.names hcalls h0).2 j (mid.t1.mem j hj) k hk y hy (by rw [e]; exact hyn))
          rw [upd_ne hne]; exact hn
      · intro v' x1 H1 hq; rw [hx] at hq; cases hq
      · intro f args hq; rw [hx] at hq; cases hq
  | eff vs h1 h2 he h3 h4 h5 =>
    have hw := wantX_spec henv hdg h1
    rw [hw]
    simp only [if_true]
    refine .inl ?_
    have e1 := ceff he
    subst e1
    refine oper_specY s1.x mid.rel.at_fresh hpre mid.rel hfrR henv h2 ?_ ?_ ?_ ?_ ?_
    · intro v' hv' u hu
      rw [hv'] at h3
      obtain ⟨e1, e2, e3⟩ := h3
      exact fin_eff he u τ w (FExt.refl _ _) (by rw [e2, e3]; exact mid.rel) (by rw [e1]; exact hu)
    · intro ob kn hq u sp w' hnw hsb hcu hob
      rw [hq] at h3
      obtain ⟨e1, e2, e3⟩ := h3
      refine fin_eff he u (τ.upd s1.x sp) w' (fext_at mid.rel.at_fresh sp) ?_ (by rw [e1]; exact hcu)
      rw [e2, e3]
      exact NewW.rel (mid.rel.bump ob) (by rw [Ps.nat_succ]; omega) mid.rel.at_fresh (fun u hu => by rw [PT.get_put, if_pos rfl] at hu; cases hu; rfl) hnw hsb hob
    · intro v' x1 H1 hq u w' τ' q1 q2 q3 q4
      rw [hq] at h3
      obtain ⟨e1, e2, e3⟩ := h3
      exact fin_eff he u τ' w' q1 (by rw [e2, e3]; exact q3) (by rw [e1]; exact q4)
    · intro f args hq
      rw [hq] at h3
      obtain ⟨hok, mc, kc⟩ := hcalls _ _ _ _ _ _ _ h3
      refine ⟨hok, fun us hus => (kc W Fr τ w us mid.rel hus).mono fun e w1 hq => ?_⟩
      obtain ⟨τ', u, q1, q2, q3, rfl⟩ := hq
      exact fin_eff he u τ' w1 q1 q2 q3
    · intro hq; rw [hq] at h3; exact h3
end
end
end Go.Proofs.YtldjbgklmeigmaaGreatDoor.Ev

namespace Go.Proofs.YtldjbgklmeigmaaGreatDoor.Ev
open Go Go.RowKit
noncomputable section
set_option linter.unusedVariables false

theorem eraseD_get : ∀ (er : List Ps) (T : PT AV) (p : Ps), PT.get p (eraseD er T) = if p ∈ er then none else PT.get p T
  | [], T, p => by simp [eraseD]
  | q :: l, T, p => by
    simp only [eraseD, List.mem_cons]
    rw [eraseD_get l, PT.get_put]
    by_cases hpq : p = q
    · subst hpq; simp
    · by_cases hp : p ∈ l <;> simp [hp, hpq]
theorem ers_mem {kp : Keep} {nt : Nat} {o : Oper} {p : Ps} (hx : xkeep kp nt o.dst = some (some p)) : ∀ {l : List Oper}, o ∈ l → p ∈ ers kp nt l
  | [], h => by simp at h
  | q :: l, h => by
    rcases List.mem_cons.1 h with rfl | h
    · simp only [ers, hx]; simp
    · have ih := ers_mem hx h
      simp only [ers]
      split
      · exact List.mem_cons_of_mem _ ih
      · exact ih
theorem lastB_spec {n m i q : Nat} (h : lastB n m i = true) (hq : q < n) (hne : q ≠ i) : tb m q = true := by
  unfold lastB at h
  have h1 := Nat.eq_of_beq_eq_true h
  have h2 : Nat.shiftLeft 1 n = 2 ^ n := Nat.one_shiftLeft _
  have h3 : Nat.lor m (Nat.shiftLeft 1 i) = 2 ^ n - 1 := by rw [h2] at h1; omega
  have h4 : tb (Nat.lor m (Nat.shiftLeft 1 i)) q = true := by
    rw [h3, tb_testBit, Nat.testBit_two_pow_sub_one]; simpa using hq
  rw [tb_lor, Bool.or_eq_true, tb_one] at h4
  rcases h4 with e | e
  · exact e
  · exact absurd e hne
theorem ersL_mem {kp : Keep} {nt n : Nat} {o : Oper} {p : Ps} (hx : xkeep kp nt o.dst = some (some p)) : ∀ {l : List Oper} {ms : List Nat} {i j : Nat}, l[j]? = some o → p ∈ ersL kp nt n i ms l ∨ ∃ m, ms[j]? = some m ∧ lastB n m (i + j) = true
  | [], _, _, _, h => by simp at h
  | q :: l, [], i, j, h => .inl (by
    rw [ersL]
    exact ers_mem hx (List.mem_of_getElem? h))
  | q :: l, m :: ms, i, 0, h => by
    simp only [List.getElem?_cons_zero, Option.some.injEq] at h
    subst h
    rw [ersL, hx]
    simp only
    split
    · rename_i hl; exact .inr ⟨m, rfl, by simpa using hl⟩
    · exact .inl (by simp)
  | q :: l, m :: ms, i, j + 1, h => by
    have ih := ersL_mem hx (l := l) (ms := ms) (i := Nat.succ i) (j := j) (n := n) (by simpa using h)
    rcases ih with e | ⟨m', e1, e2⟩
    · left
      rw [ersL]
      split
      · split
        · exact e
        · exact List.mem_cons_of_mem _ e
      · exact e
    · exact .inr ⟨m', by simpa using e1, by rw [show i + (j + 1) = Nat.succ i + j by omega]; exact e2⟩
theorem plan_spec {P : Program} {kp : Keep} {nt : Nat} {ops : Array Oper} {l : List DOper} (h : plan P kp nt ops = some l) : P.follows .mixedOrders = true ∧ ∃ ms perm, masks ops.toList [] = some ms ∧ dopers P kp nt ops ms [] 0 perm = some l := by
  unfold plan at h
  split at h
  · cases h
  · rename_i hm
    split at h
    · cases h
    · rename_i ms hms
      exact ⟨hm, ms, _, hms, h⟩
theorem Trace.at {g : Rg} {s t : DS} (h : Trace g s t) (h0 : s.L = []) : ∀ j ∈ t.L, ∃ s1 s2, Step g s1 j s2 := fun j hj => by
  rcases h.split j hj with e | ⟨s1, s2, _, k, _⟩
  · rw [h0] at e; simp at e
  · exact ⟨s1, s2, k⟩

theorem drawX_ok {P : Program} {kp : Keep} {nt : Nat} {ops : Array Oper} {call : FuncId → List AV → Ps → Heap → Res} (hcalls : CallsOk P call) {l : List DOper} (hp : plan P kp nt ops = some l) {T : PT AV} {x : Ps} {H : Heap} {o : Out} {T' : PT AV} {x' : Ps} {H' : Heap}
    (h : drawX call (eraseD (rdr kp nt ops) T) l [] [] (eraseD (ers kp nt ops.toList) T) x H = .out o T' x' H') (id : Nat) : CodeOk P kp nt (.region id ops true) T x H o T' x' H' := by
  obtain ⟨hmix, ms, perm, hms, hdl⟩ := plan_spec hp
  obtain ⟨g, hg⟩ : ∃ g : Rg, g = ⟨P, kp, nt, ops, ms, call, eraseD (rdr kp nt ops) T⟩ := ⟨_, rfl⟩
  obtain ⟨s0, hs0⟩ : ∃ s0 : DS, s0 = ⟨[], eraseD (ers kp nt ops.toList) T, x, H⟩ := ⟨_, rfl⟩
  have h0 : s0.L = [] := by rw [hs0]
  have hx0 : s0.x = x := by rw [hs0]
  have hH0 : s0.H = H := by rw [hs0]
  have hT0 : s0.T = eraseD (ers kp nt ops.toList) T := by rw [hs0]
  have htr := drawX_trace (g := g) perm s0 0 l o T' x' H' (by rw [h0, hg]; exact hdl) (fun i => by rw [tb_zero, h0]; simp) (by rw [h0, hs0, hg]; exact h)
  obtain ⟨rfl, sn, hsn, rfl, rfl, rfl, hall⟩ := htr
  have hgP : g.P = P := by rw [hg]
  have hgops : g.ops = ops := by rw [hg]
  have hgms : g.ms = ms := by rw [hg]
  have hgkp : g.kp = kp := by rw [hg]
  have hgnt : g.nt = nt := by rw [hg]
  have hgcall : CallsOk g.P g.call := by rw [hg]; exact hcalls
  have hgT : g.T1 = eraseD (rdr kp nt ops) T := by rw [hg]
  have hle := hsn.le hgcall
  rw [hx0] at hle
  refine ⟨hle, fun W Fr σ w a hr hf => ?_⟩
  obtain ⟨m1, m2, m3⟩ := masks_spec hms
  have hmso : ∀ (i : Nat) (o : Oper), g.ops[i]? = some o → ∀ m, Bef g.ms i m → m ∈ depL o ∨ ∃ d ∈ depL o, Bef g.ms d m := fun i o ho m hb => by
    rw [hgops] at ho
    rw [hgms] at hb ⊢
    obtain ⟨q, e1, _, e3⟩ := m3 i o (by rw [Array.getElem?_toList]; exact ho)
    simp only [List.length_nil, Nat.zero_add] at e1
    obtain ⟨k, hk, ht⟩ := hb
    rw [e1] at hk; cases hk
    rcases e3 m ht with h1 | ⟨d, hd, q', hq, ht'⟩
    · exact .inl h1
    · exact .inr ⟨d, hd, q', hq, ht'⟩
  have hT1 : ∀ er p v, PT.get p (eraseD er T) = some v → p ∉ er ∧ PT.get p T = some v := fun er p v e => by
    rw [eraseD_get] at e
    split at e
    · cases e
    · rename_i hp; exact ⟨hp, e⟩
  have hf1 : ∀ er, FR g.kp g.nt σ (eraseD er T) a := fun er => by
    rw [hgkp, hgnt]
    exact ⟨hf.size, fun t v e => hf.knows t v (hT1 _ _ _ e).2, fun p v e => hf.dom p v (hT1 _ _ _ e).2⟩
  have herG : ∀ (er : List Ps) (i : Nat) (o : Oper), g.ops[i]? = some o → ∀ d, o.dst = some d → (∀ p, p = Ps.of d → xkeep kp nt o.dst = some (some p) → p ∈ er) → PT.get (Ps.of d) (eraseD er T) = none := fun er i o ho d hd hmemer => by
    cases e : PT.get (Ps.of d) (eraseD er T) with
    | none => rfl
    | some v =>
      exfalso
      obtain ⟨e1, e2⟩ := hT1 _ _ _ e
      have hdlt : d < nt ∧ ∃ q, xkeep kp nt (some d) = some q := by
        have hi : i < g.ops.size := (Array.getElem?_eq_some_iff.1 ho).1
        obtain ⟨j, hj, rfl⟩ := hall i hi
        obtain ⟨s1, s2, k⟩ := hsn.at h0 j hj
        have : j.o = o := Option.some.inj (k.ho.symm.trans ho)
        subst this
        have hx := (xoper_dst k.hco).1
        rw [hd, hgkp, hgnt] at hx
        exact ⟨xkeep_lt hx, _, hx⟩
      obtain ⟨hlt, q, hq⟩ := hdlt
      have hmem : o ∈ ops.toList := by
        rw [hgops] at ho
        exact List.mem_of_getElem? (by rw [Array.getElem?_toList]; exact ho)
      cases q with
      | some p =>
        have hpd : p = Ps.of d := by
          simp only [xkeep] at hq
          split at hq
          · split at hq
            · rename_i q hiq
              split at hq
              · cases hq; exact ix_of hiq
              · cases hq
            · cases hq
          · cases hq
        exact e1 (by rw [← hpd]; exact hmemer p hpd (by rw [hd]; exact hq))
      | none =>
        simp only [xkeep] at hq
        split at hq
        · split at hq
          · rename_i q hiq
            have := ix_of hiq
            subst this
            split at hq
            · cases hq
            · rename_i hk; exact hf.dom _ _ e2 hk
          · cases hq
        · cases hq
  have her0 : ∀ (i : Nat) (o : Oper), g.ops[i]? = some o → ∀ d, o.dst = some d → PT.get (Ps.of d) s0.T = none := fun i o ho d hd => by
    rw [hT0]
    refine herG _ i o ho d hd (fun p _ hx => ers_mem hx ?_)
    rw [hgops] at ho
    exact List.mem_of_getElem? (by rw [Array.getElem?_toList]; exact ho)
  have her : ∀ (i : Nat) (o : Oper), g.ops[i]? = some o → ∀ d, o.dst = some d → PT.get (Ps.of d) g.T1 = none ∨ LastOp g i := fun i o ho d hd => by
    by_cases hl : LastOp g i
    · exact .inr hl
    · left
      rw [hgT]
      refine herG _ i o ho d hd (fun p _ hx => ?_)
      have ho' : ops.toList[i]? = some o := by rw [Array.getElem?_toList, ← hgops]; exact ho
      unfold rdr
      rw [hms]
      rcases ersL_mem hx (n := ops.size) (i := 0) (ms := ms) ho' with e | ⟨m, e1, e2⟩
      · exact e
      · exfalso
        refine hl (fun q hq hne => ?_)
        rw [Nat.zero_add] at e2
        rw [hgms]
        exact ⟨m, e1, lastB_spec e2 (by rw [← hgops]; exact hq) hne⟩
  have hrep : ∀ i, don (List.replicate ops.size false) i = false := fun i => by
    unfold don
    rw [List.getD_eq_getElem?_getD, List.getElem?_replicate]
    split <;> rfl
  refine wp_region_states hmix (Inv g s0 sn W Fr σ a) ?_ (fun ls a' w' i hI hc => ?_) (fun ls a' w' hc hI => ?_)
  · refine ⟨by rw [hgops]; simp, fun i m hd hb => (by rw [hrep] at hd; cases hd), ?_⟩
    have hmid : Mid g s0 sn W Fr σ a (List.replicate ops.size false) s0 σ a { w with drawn := w.drawn + 1 } := by
      refine ⟨.refl _, hsn, fun j hj => (by rw [h0] at hj; simp at hj), fun j hj _ _ => hrep _, FExt.refl _ _, ?_, (by rw [hT0]; exact hf1 _), (fun _ => by rw [hgT]; exact hf1 _), rfl, fun j hj hd => (by rw [hrep] at hd; cases hd), fun j hj => (by rw [h0] at hj; simp at hj), fun j hj => (by rw [h0] at hj; simp at hj)⟩
      rw [hgP, hx0, hH0]
      exact hr.drew
    obtain ⟨s, k1, k2⟩ := Mid.adv h0 sn.L.length s0 (by omega) hmid
    exact ⟨s, σ, k1, k2⟩
  · have := inv_step (Q := After P W Fr kp nt σ x a Out.norm sn.T sn.x sn.H) hgcall her0 her hmso h0 hsn hall hI (by rw [hgops]; exact hc)
    rw [hgP, hgops] at this
    exact this
  · have hdone : ∀ i, i < ops.size → don ls i = true := by
      intro i
      induction i using Nat.strongRecOn with
      | _ i ih =>
        intro hi
        have hci := hc i
        unfold can at hci
        have hget : ops[i]? = some ops[i] := by simp [hi]
        rw [show (depsOf ops)[i]? = some (depL ops[i]) by simp [depsOf, hi]] at hci
        simp only [Bool.and_eq_false_iff, Bool.not_eq_false'] at hci
        have hlen : ls.length = ops.size := by rw [hI.len, hgops]
        rcases hci with e | e
        · unfold don
          rw [List.getD_eq_getElem?_getD] at e ⊢
          rw [List.getElem?_eq_getElem (by omega)] at e ⊢
          exact e
        · exfalso
          obtain ⟨_, _, e2, _⟩ := m3 i ops[i] (by rw [Array.getElem?_toList]; exact hget)
          have : (depL ops[i]).all (fun j => ls.getD j false) = true := by
            rw [List.all_eq_true]
            intro d hd
            have hlt := e2 d hd
            simp only [List.length_nil, Nat.zero_add] at hlt
            exact ih d hlt (by omega)
          rw [this] at e; cases e
    obtain ⟨s, τ, mid, hnext⟩ := hI.ex
    have hs : s = sn := by
      rcases hnext with e | ⟨j, s', k, k', he⟩
      · exact e
      · have hj : j ∈ sn.L := k'.mem j (by rw [k.hL]; simp)
        have hn := mid.effu j hj he (fun hq => (k.hnew j hq) rfl)
        have hlt : j.i < ops.size := by have := (Array.getElem?_eq_some_iff.1 k.ho).1; rwa [hgops] at this
        rw [hdone _ hlt] at hn
        cases hn
    subst hs
    refine ⟨rfl, τ, by rw [← hx0]; exact mid.ext, by rw [← hgP]; exact mid.rel, ?_, mid.dfr⟩
    have hslot := hsn.slots h0
    have hkeep : ∀ p j, j ∈ s.L → j.co.keep = some p → (∃ d, j.o.dst = some d ∧ p = Ps.of d) ∧ PT.get p kp ≠ none ∧ don ls j.i = true := fun p j hj hk => by
      obtain ⟨s1, s2, k⟩ := hsn.at h0 j hj
      have hx := (xoper_dst k.hco).1
      rw [hk, hgkp, hgnt] at hx
      have hlt : j.i < ops.size := by have := (Array.getElem?_eq_some_iff.1 k.ho).1; rwa [hgops] at this
      cases hd : j.o.dst with
      | none => rw [hd] at hx; simp [xkeep] at hx
      | some d =>
        rw [hd] at hx
        simp only [xkeep] at hx
        split at hx
        · split at hx
          · rename_i q hiq
            split at hx
            · rename_i hkk
              cases hx
              exact ⟨⟨d, rfl, ix_of hiq⟩, by rw [hkk]; simp, hdone _ hlt⟩
            · cases hx
          · cases hx
        · cases hx
    have hfr := mid.fr
    rw [hgkp, hgnt] at hfr
    refine ⟨hfr.size, fun t v e => ?_, fun p v e => ?_⟩
    · rcases hslot _ _ e with e | ⟨j, hj, rfl, hk⟩
      · exact hfr.knows t v e
      · obtain ⟨⟨d, hd, hpd⟩, _, hdn⟩ := hkeep _ j hj hk
        have := Ps.of_inj hpd
        subst this
        exact mid.vals j hj hdn _ hd
    · rcases hslot _ _ e with e | ⟨j, hj, rfl, hk⟩
      · exact hfr.dom p v e
      · exact (hkeep _ j hj hk).2.1
end
end Go.Proofs.YtldjbgklmeigmaaGreatDoor.Ev

namespace Go.Proofs.YtldjbgklmeigmaaGreatDoor.Ev
open Go Go.RowKit
noncomputable section
section
variable {P : Program} {W : World} {Fr : Nat → Prop} {σ : Map} {x : Ps} {H : Heap} {w : World}

theorem After.trans {kp : Keep} {nt : Nat} {τ : Map} {x1 : Ps} {a a1 : Act} {o : Out} {T' : PT AV} {x' : Ps} {H' : Heap} (h1 : FExt x σ τ) (h2 : x.nat ≤ x1.nat) (h3 : a1.defers = a.defers) {e : Exit} {a' : Act} {w' : World}
    (h : After P W Fr kp nt τ x1 a1 o T' x' H' e a' w') : After P W Fr kp nt σ x a o T' x' H' e a' w' := by
  obtain ⟨he, υ, k1, k2, k3, k4⟩ := h
  exact ⟨he, υ, h1.trans k1 h2, k2, k3, k4.trans h3⟩
theorem wpOps_mono {ops : Array Oper} {Q Q' : Exit → Act → World → Prop} (hq : ∀ e a w, Q e a w → Q' e a w) : ∀ (l : List Nat) (a : Act) (w : World), wpOps P ops Q l a w → wpOps P ops Q' l a w := by
  intro l
  have hlets : LetsOut Q → LetsOut Q' := fun ⟨a, w, h⟩ => ⟨a, w, hq _ _ _ h⟩
  induction l with
  | nil => exact fun a w h => hq _ _ _ h
  | cons i l ih =>
    intro a w h
    simp only [wpOps] at h ⊢
    cases ho : ops[i]? with
    | none => simp only [ho] at h; exact ih a w h
    | some o =>
      simp only [ho] at h ⊢
      split
      · rename_i hw
        simp only [hw, if_true] at h
        rcases h with h | h
        · left
          unfold Oper.wp at h ⊢
          generalize (execOp a.eval o).run P w = r at h ⊢
          cases r with
          | ok n w' =>
            cases n <;> simp only [Oper.upon] at h ⊢ <;> (try exact ih _ _ h) <;> (try exact h)
            · refine Calls.mono h fun e w'' he => ?_
              cases e with
              | returned v => exact ih _ _ he
              | panicked c => exact hq _ _ _ he
              | outgrown => exact hlets he
            · exact Rows.mono h fun v w'' he => ih _ _ he
          | halt k w' => cases k <;> simp only [Oper.upon] at h ⊢ <;> (try exact h) <;> exact hq _ _ _ h
        · exact .inr ⟨h.1, hlets h.2⟩
      · rename_i hw
        simp only [hw] at h
        exact ih _ _ h

theorem fext_upd (h : Rel P W Fr σ x H w) (s : Spot) : FExt x σ (σ.upd x s) :=
  ⟨Map.upd_ext h.at_fresh, fun n hn hlt => by unfold Map.upd; rw [if_neg (fun e => by subst e; omega)]; exact hn⟩
theorem putArgs_spec {kp : Keep} {σ : Map} : ∀ (args : List AV) (k : Nat) (T T' : PT AV) (us : List Value) (pre : List Value), putArgs kp args k T = some T' → concL σ args = some us → pre.length = k →
    (∀ t v, PT.get (Ps.of t) T = some v → t < k ∧ conc σ v = some (pre.getD t undef)) → (∀ p v, PT.get p T = some v → PT.get p kp ≠ none) →
    (∀ t v, PT.get (Ps.of t) T' = some v → t < k + args.length ∧ conc σ v = some ((pre ++ us).getD t undef)) ∧ ∀ p v, PT.get p T' = some v → PT.get p kp ≠ none
  | [], k, T, T', us, pre, h, hu, hp, hT, hd => by
    simp [putArgs] at h; subst h
    simp [concL] at hu; subst hu
    exact ⟨by simpa using hT, hd⟩
  | a :: l, k, T, T', us, pre, h, hu, hp, hT, hd => by
    simp only [putArgs] at h
    split at h
    · rename_i p hp'
      have := ix_of hp'
      subst this
      obtain ⟨u, vs, rfl, h1, h2⟩ := concL_cons hu
      have hold : ∀ t v, PT.get (Ps.of t) T = some v → t < k + 1 ∧ conc σ v = some ((pre ++ [u]).getD t undef) := fun t v e => by
        obtain ⟨q1, q2⟩ := hT t v e
        refine ⟨by omega, ?_⟩
        rw [q2]; congr 1
        rw [List.getD_eq_getElem?_getD, List.getD_eq_getElem?_getD, List.getElem?_append_left (by omega)]
      have fin : ∀ T1, putArgs kp l (k + 1) T1 = some T' → (∀ t v, PT.get (Ps.of t) T1 = some v → t < k + 1 ∧ conc σ v = some ((pre ++ [u]).getD t undef)) → (∀ p v, PT.get p T1 = some v → PT.get p kp ≠ none) →
          (∀ t v, PT.get (Ps.of t) T' = some v → t < k + (a :: l).length ∧ conc σ v = some ((pre ++ u :: vs).getD t undef)) ∧ ∀ p v, PT.get p T' = some v → PT.get p kp ≠ none := fun T1 e1 e2 e3 => by
        have := putArgs_spec l (k + 1) T1 T' vs (pre ++ [u]) e1 h2 (by simp [hp]) e2 e3
        rw [List.append_assoc, List.singleton_append] at this
        exact ⟨fun t v e => ⟨by have := (this.1 t v e).1; simp; omega, (this.1 t v e).2⟩, this.2⟩
      split at h
      · rename_i hk
        refine fin _ h (fun t v e => ?_) (fun p v e => ?_)
        · rw [PT.get_put] at e
          split at e
          · rename_i ht
            have := Ps.of_inj ht
            subst this
            cases e
            refine ⟨by omega, ?_⟩
            rw [h1]; congr 1
            rw [List.getD_eq_getElem?_getD, List.getElem?_append_right (by omega)]
            simp [hp]
          · exact hold t v e
        · rw [PT.get_put] at e
          split at e
          · rename_i he; subst he; rw [hk]; simp
          · exact hd p v e
      · exact fin _ h hold hd
    · cases h

theorem opsX_ok {kp : Keep} {nt : Nat} {ops : Array Oper} {call : FuncId → List AV → Ps → Heap → Res} (hcalls : CallsOk P call) : ∀ (m i : Nat) (pre : List (Option Tmp)) (E : List AV) (T : PT AV) (x : Ps) (H : Heap) (o : Out) (T' : PT AV) (x' : Ps) (H' : Heap),
    i + m = ops.size → opsX call (xopers P kp nt ops pre (ops.toList.drop i)) E T x H = .out o T' x' H' →
    x.nat ≤ x'.nat ∧ o = .norm ∧ ∀ (W : World) (Fr : Nat → Prop) (σ : Map) (w : World) (a : Act), Rel P W Fr σ x H w → FR kp nt σ T a → EnvOk σ pre E a → wpOps P ops (After P W Fr kp nt σ x a o T' x' H') (List.range' i m) a w := by
  intro m
  induction m with
  | zero =>
    intro i pre E T x H o T' x' H' hi h
    have hd : ops.toList.drop i = [] := List.drop_eq_nil_of_le (by simp; omega)
    rw [hd] at h
    simp only [xopers, opsX, Res.out.injEq] at h
    obtain ⟨rfl, rfl, rfl, rfl⟩ := h
    exact ⟨Nat.le_refl _, rfl, fun W Fr σ w a hr hf he => ⟨rfl, σ, FExt.refl _ _, hr, hf, rfl⟩⟩
  | succ m ih =>
    intro i pre E T x H o T' x' H' hi h
    have hlt : i < ops.size := by omega
    have hdrop : ops.toList.drop i = ops[i] :: ops.toList.drop (i + 1) := by
      rw [List.drop_eq_getElem_cons (by simpa using hlt)]; simp
    rw [hdrop] at h
    simp only [xopers] at h
    rw [List.range'_succ]
    have hget : ops[i]? = some ops[i] := by simp [hlt]
    generalize ops[i] = oo at h hget
    cases hco : xoper P kp nt ops pre oo with
    | none => rw [hco] at h; simp [opsX] at h
    | some co =>
      rw [hco] at h
      simp only [opsX] at h
      obtain ⟨hdst, hguard⟩ := xoper_dst hco
      have hrest := fun E T x H o T' x' H' => ih (i + 1) (oo.dst :: pre) E T x H o T' x' H' (by omega)
      have hin : ∀ {a : Act} {σ : Map} {T : PT AV}, FR kp nt σ T a → ∀ d, oo.dst = some d → d < a.tmps.size := fun hf d hd => by
        rw [hd] at hdst
        rw [hf.size]; exact xkeep_lt hdst
      cases hw : wantX E co.guard with
      | none => rw [hw] at h; cases h
      | some b =>
        rw [hw] at h
        cases b with
        | false =>
          simp only at h
          obtain ⟨m1, e1, k1⟩ := hrest _ _ _ _ _ _ _ _ h
          refine ⟨m1, e1, fun W Fr σ w a hr hf he => ?_⟩
          have hwant := wantX_spec he hguard hw
          simp only [wpOps, hget, hwant]
          have hu : conc σ (.tup []) = some undef := by simp [conc, concL, undef]
          exact wpOps_mono (fun e a2 w2 hq => hq.trans (FExt.refl _ _) (Nat.le_refl _) (put_defers _ _ _)) _ _ _ (k1 W Fr σ w _ hr (hf.putD hdst hu) (he.push hu (hin hf)))
        | true =>
          simp only at h
          cases hvs : evXs T E co.opds with
          | none => rw [hvs] at h; cases h
          | some vs =>
            rw [hvs] at h
            simp only at h
            -- what stands behind the operation
            have key : ∀ (v : AV) (x1 : Ps) (H1 : Heap), opsX call (xopers P kp nt ops (oo.dst :: pre) (ops.toList.drop (i + 1))) (v :: E) (putD co.keep v T) x1 H1 = .out o T' x' H' → x1.nat ≤ x'.nat ∧ o = .norm ∧
                ∀ (W : World) (Fr : Nat → Prop) (σ τ : Map) (w1 : World) (a : Act) (u : Value), FR kp nt σ T a → EnvOk σ pre E a → FExt x σ τ → x.nat ≤ x1.nat → Rel P W Fr τ x1 H1 w1 → conc τ v = some u →
                  wpOps P ops (After P W Fr kp nt σ x a o T' x' H') (List.range' (i + 1) m) (a.put oo.dst u) w1 := by
              intro v x1 H1 hev
              obtain ⟨m1, e1, k1⟩ := hrest _ _ _ _ _ _ _ _ hev
              refine ⟨m1, e1, fun W Fr σ τ w1 a u hf he hx hle hr hu => ?_⟩
              exact wpOps_mono (fun e a2 w2 hq => hq.trans hx hle (put_defers _ _ _)) _ _ _ (k1 W Fr τ w1 _ hr ((hf.mono hx.ext).putD hdst hu) ((he.mono hx.ext).push hu (hin hf)))
            have hwrap : ∀ {q : Prop}, (x.nat ≤ x'.nat ∧ o = .norm ∧ ∀ (W : World) (Fr : Nat → Prop) (σ : Map) (w : World) (a : Act), Rel P W Fr σ x H w → FR kp nt σ T a → EnvOk σ pre E a →
                oo.wp P a w (wpOps P ops (After P W Fr kp nt σ x a o T' x' H') (List.range' (i + 1) m)) (After P W Fr kp nt σ x a o T' x' H')) →
                x.nat ≤ x'.nat ∧ o = .norm ∧ ∀ (W : World) (Fr : Nat → Prop) (σ : Map) (w : World) (a : Act), Rel P W Fr σ x H w → FR kp nt σ T a → EnvOk σ pre E a → wpOps P ops (After P W Fr kp nt σ x a o T' x' H') (i :: List.range' (i + 1) m) a w :=
              fun ⟨q1, q2, q3⟩ => ⟨q1, q2, fun W Fr σ w a hr hf he => by
                have hwant := wantX_spec he hguard hw
                simp only [wpOps, hget, hwant, if_true]
                exact .inl (q3 W Fr σ w a hr hf he)⟩
            refine hwrap (q := True) ?_
            cases hex : exec co.c vs x H with
            | no => rw [hex] at h; cases h
            | val v =>
              rw [hex] at h
              obtain ⟨m1, e1, k1⟩ := key v x H h
              refine ⟨m1, e1, fun W Fr σ w a hr hf he => oper_spec hco hr hf he hvs ?_ ?_ ?_ ?_ (by rw [hex]; exact fun h => by cases h)⟩
              · intro v' hv' u hu
                rw [hex] at hv'; cases hv'
                exact k1 W Fr σ σ w a u hf he (FExt.refl _ _) (Nat.le_refl _) hr hu
              · intro ob' k' hq; rw [hex] at hq; cases hq
              · intro v' x1 H1 hq; rw [hex] at hq; cases hq
              · intro f args hq; rw [hex] at hq; cases hq
            | new ob k =>
              rw [hex] at h
              obtain ⟨m1, e1, k1⟩ := key (k.av x) x.succ _ h
              have hxs : x.nat ≤ x.succ.nat := by rw [Ps.nat_succ]; omega
              refine ⟨Nat.le_trans hxs m1, e1, fun W Fr σ w a hr hf he => oper_spec hco hr hf he hvs ?_ ?_ ?_ ?_ (by rw [hex]; exact fun h => by cases h)⟩
              · intro v' hv'; rw [hex] at hv'; cases hv'
              · intro ob' k' hq u s w' hnw hsb hcu hob
                rw [hex] at hq; cases hq
                refine k1 W Fr σ (σ.upd x s) w' a u hf he (fext_upd hr s) hxs ?_ hcu
                exact NewW.rel (hr.bump ob) (by rw [Ps.nat_succ]; omega) hr.at_fresh (fun u hu => by rw [PT.get_put, if_pos rfl] at hu; cases hu; rfl) hnw hsb hob
              · intro v' x1 H1 hq; rw [hex] at hq; cases hq
              · intro f args hq; rw [hex] at hq; cases hq
            | eff v x1 H1 =>
              rw [hex] at h
              obtain ⟨m1, e1, k1⟩ := key v x1 _ h
              have hle := exec_le hex
              refine ⟨Nat.le_trans hle m1, e1, fun W Fr σ w a hr hf he => oper_spec hco hr hf he hvs ?_ ?_ ?_ ?_ (by rw [hex]; exact fun h => by cases h)⟩
              · intro v' hv'; rw [hex] at hv'; cases hv'
              · intro ob' k' hq; rw [hex] at hq; cases hq
              · intro v' x2 H2 hq u w' τ q1 q2 q3 q4
                rw [hex] at hq; cases hq
                exact k1 W Fr σ τ w' a u hf he q1 q2 q3 q4
              · intro f args hq; rw [hex] at hq; cases hq
            | call f args =>
              rw [hex] at h
              simp only at h
              split at h
              · rename_i v x1 H1 hc
                obtain ⟨hok, mc, kc⟩ := hcalls f args x H v x1 H1 hc
                obtain ⟨m1, e1, k1⟩ := key v x1 _ h
                refine ⟨Nat.le_trans mc m1, e1, fun W Fr σ w a hr hf he => oper_spec hco hr hf he hvs ?_ ?_ ?_ ?_ (by rw [hex]; exact fun h => by cases h)⟩
                · intro v' hv'; rw [hex] at hv'; cases hv'
                · intro ob' k' hq; rw [hex] at hq; cases hq
                · intro v' x1 H1 hq; rw [hex] at hq; cases hq
                · intro f' args' hq
                  rw [hex] at hq; cases hq
                  refine ⟨hok, fun us hus => (kc W Fr σ w us hr hus).mono fun e w1 hq => ?_⟩
                  obtain ⟨τ, u, q1, q2, q3, rfl⟩ := hq
                  exact k1 W Fr σ τ w1 a u hf he q1 mc q2 q3
              · cases h

/-- What a loop must come to, from its round on. -/
def LoopOk (P : Program) (kp : Keep) (nt : Nat) (p : Code) (T : PT AV) (x : Ps) (H : Heap) (o : Out) (T' : PT AV) (x' : Ps) (H' : Heap) : Prop :=
  x.nat ≤ x'.nat ∧ ∀ (W : World) (Fr : Nat → Prop) (σ : Map) (w : World) (a : Act), Rel P W Fr σ x H w → FR kp nt σ T a → ∀ (b : Frame) (k : List Item) (cs : List Frame),
    ∃ e a' w', After P W Fr kp nt σ x a o T' x' H' e a' w' ∧ Arrives P (lone (b.at a (.code p :: .inLoop p :: k)) cs w) b k cs e a' w'
set_option maxHeartbeats 1000000 in
theorem ev_ok {hk : Hook} (hhk : HookOk P hk) : ∀ n : Nat,
    (∀ f args x H v x' H', ev P hk n (.call f args) x H = .val v x' H' → okFn P f = true ∧ CallOk P f args x H v x' H') ∧
    (∀ kp nt c T x H o T' x' H', ev P hk n (.code (compC P kp nt c) T) x H = .out o T' x' H' → CodeOk P kp nt c T x H o T' x' H') ∧
    (∀ kp nt p T x H o T' x' H', ev P hk n (.code (.loop (compC P kp nt p)) T) x H = .out o T' x' H' → LoopOk P kp nt p T x H o T' x' H') := by
  intro n
  induction n with
  | zero => exact ⟨fun _ _ _ _ _ _ _ h => by simp [ev] at h, fun _ _ _ _ _ _ _ _ _ _ h => by simp [ev] at h, fun _ _ _ _ _ _ _ _ _ _ h => by simp [ev] at h⟩
  | succ n ih =>
    obtain ⟨ihc, ihk, ihl⟩ := ih
    have loop_ok : ∀ kp nt p T x H o T' x' H', ev P hk (n + 1) (.code (.loop (compC P kp nt p)) T) x H = .out o T' x' H' → LoopOk P kp nt p T x H o T' x' H' := by
      intro kp nt p T x H o T' x' H' h
      simp only [ev] at h
      split at h
      · rename_i o1 T1 x1 H1 h1
        obtain ⟨m1, k1⟩ := ihk kp nt p T x H o1 T1 x1 H1 h1
        split at h
        · obtain ⟨m2, k2⟩ := ihl kp nt p T1 x1 H1 o T' x' H' h
          refine ⟨Nat.le_trans m1 m2, fun W Fr σ w a hr hf b k cs => ?_⟩
          obtain ⟨e, a1, w1, hq, harr⟩ := k1 W Fr σ w a hr hf b (.inLoop p :: k) cs
          obtain ⟨rfl, τ, q1, q2, q3, q4⟩ := hq
          obtain ⟨e2, a2, w2, hq2, harr2⟩ := k2 W Fr τ w1 a1 q2 q3 b k cs
          exact ⟨e2, a2, w2, hq2.trans q1 m1 q4, .of_steps (Steps.trans harr (.one step_inLoop)) harr2⟩
        · rename_i hne
          cases h
          refine ⟨m1, fun W Fr σ w a hr hf b k cs => ?_⟩
          obtain ⟨e, a1, w1, hq, harr⟩ := k1 W Fr σ w a hr hf b (.inLoop p :: k) cs
          have he := hq.1
          subst he
          refine ⟨_, a1, w1, hq, ?_⟩
          cases o <;> first
            | (exact absurd rfl hne)
            | exact .pass (x := .inLoop p) rfl (fun _ _ => .inl (by simp [Out.exitOf])) harr
      · cases h
    refine ⟨?_, ?_, loop_ok⟩
    · intro f args x H v x' H' h
      simp only [ev] at h
      split at h
      · rename_i v1 x1 H1 hh
        cases h
        exact hhk _ _ _ _ _ _ _ hh
      · split at h
        · cases h
        · rename_i fn hfn
          split at h
          · rename_i hlen
            have hlen := Nat.le_of_ble_eq_true hlen
            rw [lenL_eq] at hlen
            split at h
            · cases h
            · rename_i T hT
              split at h
              · rename_i o1 T1 x1 H1 h1
                obtain ⟨hok, g, bd, hg, hb, hres, hnt, hbody⟩ := cfun_ok hfn
                rw [hbody, ← hnt] at h1
                obtain ⟨m1, k1⟩ := ihk fn.kp fn.nt bd T x H o1 T1 x1 H1 h1
                have hne : (∀ k, o1 ≠ .exit k) ∧ ∃ l, evRes T1 H1 fn.res = some l ∧ Res.val (oneOf l) x1 H1 = Res.val v x' H' := by
                  split at h
                  · cases h
                  · rename_i hex
                    refine ⟨fun k e => hex k e, ?_⟩
                    split at h
                    · rename_i l hl; exact ⟨l, hl, h⟩
                    · cases h
                obtain ⟨hex, l, hl, hval⟩ := hne
                cases hval
                refine ⟨hok, m1, fun W Fr σ w us hr hu => calls_of_wp hg hb (wp_mono (k1 W Fr σ w _ hr ?_) ?_)⟩
                · have hul := (concL_get hu).1
                  have := putArgs_spec args 0 .lf T us [] hT hu rfl (fun t v e => by rw [PT.get_lf] at e; cases e) (fun t v e => by rw [PT.get_lf] at e; cases e)
                  refine ⟨by simp [hnt] at hlen ⊢; omega, fun t v e => ?_, this.2⟩
                  obtain ⟨q1, q2⟩ := this.1 t v e
                  rw [q2]
                  congr 1
                  simp only [List.nil_append]
                  rw [List.getD_eq_getElem?_getD, Array.getD_eq_getD_getElem?, Array.getElem?_append_left (by simp; omega)]
                  simp
                · intro e a1 w1 hq
                  obtain ⟨he, τ, q1, q2, q3, q4⟩ := hq
                  have hend : ∃ v', (results g a1.tmps).run P w1 = .ok v' w1 ∧ conc τ (oneOf l) = some v' := by
                    obtain ⟨us', r1, r2⟩ := evRes_spec q2 q3 hres hl
                    have hm : (g.results.mapM (resOf a1.tmps)).run P w1 = .ok us'.toArray w1 := by
                      rw [Array.mapM_eq_mapM_toList]
                      simp only [Sem.run_map, r2, Result.andThen_ok]
                    have hll := (concL_get r1).1
                    refine ⟨if h : us'.toArray.size = 1 then us'.toArray[0] else .tuple us'.toArray, ?_, ?_⟩
                    · rw [results_eq]
                      simp only [Sem.run_bind, hm, Result.andThen_ok, Sem.run_pure]
                    · match l, us', hll, r1 with
                      | [], [], _, r1 => simp [oneOf, conc, concL]
                      | [a], [u], _, r1 =>
                        obtain ⟨b, hb, hc⟩ := concL1 r1
                        cases hb
                        simpa [oneOf] using hc
                      | a :: b :: l, u :: v :: us, _, r1 =>
                        simp only [oneOf, conc, r1, Option.map_some]
                        simp
                  obtain ⟨v', e1, e2⟩ := hend
                  subst he
                  cases o1 with
                  | norm => exact ⟨q4, v', e1, τ, v', q1, q2, e2, rfl⟩
                  | ret => exact ⟨q4, v', e1, τ, v', q1, q2, e2, rfl⟩
                  | exit k => exact absurd rfl (hex k)
              · cases h
          · cases h
    · intro kp nt c T x H o T' x' H' h
      cases c with
      | skip =>
        simp only [compC, ev, Res.out.injEq] at h
        obtain ⟨rfl, rfl, rfl, rfl⟩ := h
        exact ⟨Nat.le_refl _, fun W Fr σ w a hr hf => wp_skip ⟨rfl, σ, FExt.refl _ _, hr, hf, rfl⟩⟩
      | label l =>
        simp only [compC, ev, Res.out.injEq] at h
        obtain ⟨rfl, rfl, rfl, rfl⟩ := h
        exact ⟨Nat.le_refl _, fun W Fr σ w a hr hf => wp_label ⟨rfl, σ, FExt.refl _ _, hr, hf, rfl⟩⟩
      | exit id =>
        simp only [compC, ev, Res.out.injEq] at h
        obtain ⟨rfl, rfl, rfl, rfl⟩ := h
        exact ⟨Nat.le_refl _, fun W Fr σ w a hr hf => wp_exit ⟨rfl, σ, FExt.refl _ _, hr, hf, rfl⟩⟩
      | ret =>
        simp only [compC, ev, Res.out.injEq] at h
        obtain ⟨rfl, rfl, rfl, rfl⟩ := h
        exact ⟨Nat.le_refl _, fun W Fr σ w a hr hf => wp_ret ⟨rfl, σ, FExt.refl _ _, hr, hf, rfl⟩⟩
      | region id ops draw =>
        cases draw with
        | true =>
          simp only [compC] at h
          cases hp : plan P kp nt ops with
          | none => rw [hp] at h; simp [ev] at h
          | some l =>
            rw [hp] at h
            simp only [ev] at h
            exact drawX_ok (fun f args x H v x' H' => ihc f args x H v x' H') hp h id
        | false =>
          simp only [compC, ev] at h
          have := opsX_ok (P := P) (kp := kp) (nt := nt) (ops := ops) (fun f args x H v x' H' => ihc f args x H v x' H') ops.size 0 [] [] T x H o T' x' H' (by omega) (by simpa using h)
          refine ⟨this.1, fun W Fr σ w a hr hf => wp_region ?_⟩
          have k := this.2.2 W Fr σ w a hr hf (EnvOk.nil _ _)
          rw [← List.range_eq_range'] at k
          exact k
      | seq p q =>
        simp only [compC, ev] at h
        split at h
        · rename_i o1 T1 x1 H1 h1
          obtain ⟨m1, k1⟩ := ihk kp nt p T x H o1 T1 x1 H1 h1
          split at h
          · obtain ⟨m2, k2⟩ := ihk kp nt q T1 x1 H1 o T' x' H' h
            refine ⟨Nat.le_trans m1 m2, fun W Fr σ w a hr hf => wp_seq (wp_mono (k1 W Fr σ w a hr hf) fun e a1 w1 hq => ?_)⟩
            obtain ⟨rfl, τ, q1, q2, q3, q4⟩ := hq
            exact wp_mono (k2 W Fr τ w1 a1 q2 q3) fun e a2 w2 hq2 => hq2.trans q1 m1 q4
          · rename_i hne
            cases h
            refine ⟨m1, fun W Fr σ w a hr hf => wp_seq (wp_mono (k1 W Fr σ w a hr hf) fun e a1 w1 hq => ?_)⟩
            have he := hq.1
            subst he
            cases o <;> first | (exact absurd rfl hne) | exact hq
        · cases h
      | cond X p q =>
        simp only [compC, ev] at h
        split at h
        · cases h
        · rename_i c hc
          split at h
          · rename_i hv
            obtain ⟨m1, k1⟩ := ihk kp nt p T x H o T' x' H' h
            exact ⟨m1, fun W Fr σ w a hr hf => wp_cond_true (by have := evX_spec hr hf (EnvOk.nil _ _) hc hv; simpa [conc] using this.symm) (k1 W Fr σ w a hr hf)⟩
          · rename_i hv
            obtain ⟨m1, k1⟩ := ihk kp nt q T x H o T' x' H' h
            exact ⟨m1, fun W Fr σ w a hr hf => wp_cond_false (by have := evX_spec hr hf (EnvOk.nil _ _) hc hv; simpa [conc] using this.symm) (k1 W Fr σ w a hr hf)⟩
          · cases h
      | block id p =>
        simp only [compC, ev] at h
        split at h
        · rename_i o1 T1 x1 H1 h1
          obtain ⟨m1, k1⟩ := ihk kp nt p T x H o1 T1 x1 H1 h1
          refine ⟨?_, fun W Fr σ w a hr hf => wp_block (wp_mono (k1 W Fr σ w a hr hf) fun e a1 w1 hq => ?_)⟩
          · cases o1 with
            | norm => cases h; exact m1
            | ret => cases h; exact m1
            | exit k =>
              simp only at h
              by_cases hb : Nat.beq k id = true
              · rw [if_pos hb] at h; cases h; exact m1
              · rw [if_neg hb] at h; cases h; exact m1
          · obtain ⟨rfl, τ, q1, q2, q3, q4⟩ := hq
            cases o1 with
            | norm => cases h; exact ⟨rfl, τ, q1, q2, q3, q4⟩
            | ret => cases h; exact ⟨rfl, τ, q1, q2, q3, q4⟩
            | exit k =>
              simp only at h
              simp only [Out.exitOf, Exit.inBlock]
              by_cases hb : Nat.beq k id = true
              · rw [if_pos hb] at h; cases h
                rw [if_pos (Nat.eq_of_beq_eq_true hb)]; exact ⟨rfl, τ, q1, q2, q3, q4⟩
              · rw [if_neg hb] at h; cases h
                rw [if_neg (fun e => hb (by rw [e]; exact Nat.beq_refl _))]; exact ⟨rfl, τ, q1, q2, q3, q4⟩
        · cases h
      | loop p =>
        obtain ⟨m1, k1⟩ := loop_ok kp nt p T x H o T' x' H' (by simpa only [compC] using h)
        refine ⟨m1, fun W Fr σ w a hr hf b k cs => ?_⟩
        obtain ⟨e, a1, w1, hq, harr⟩ := k1 W Fr σ w a hr hf b k cs
        exact ⟨e, a1, w1, hq, .of_steps (.one step_loop) harr⟩
      | scope p =>
        simp only [compC, ev] at h
        obtain ⟨m1, k1⟩ := ihk kp nt p T x H o T' x' H' h
        refine ⟨m1, fun W Fr σ w a hr hf => wp_scope_straight (wp_mono (k1 W Fr σ w a hr hf) fun e a1 w1 hq => ?_)⟩
        have he := hq.1
        subst he
        cases o <;> exact hq
      | _ => simp [compC, ev] at h
end
end
end Go.Proofs.YtldjbgklmeigmaaGreatDoor.Ev

namespace Go.Proofs.YtldjbgklmeigmaaGreatDoor.Ev
set_option linter.unusedVariables false
open Go Go.RowKit
noncomputable section

noncomputable def nthF (l : List AV) (d : Nat) : Option AV :=
  Nat.rec (motive := fun _ => List AV → Option AV) (List.rec (motive := fun _ => Option AV) none (fun a _ _ => some a)) (fun _ ih => List.rec (motive := fun _ => Option AV) none (fun _ l _ => ih l)) d l
theorem nthF_eq : ∀ (l : List AV) (d : Nat), nthF l d = nthA l d
  | [], 0 => rfl
  | [], _ + 1 => rfl
  | _ :: _, 0 => rfl
  | _ :: l, d + 1 => nthF_eq l d
/-- The operands, handed on. -/
noncomputable def opdK (c : XOpd) (T : PT AV) (E : List AV) (k : AV → Res) : Res :=
  XOpd.rec (motive := fun _ => PT AV → List AV → (AV → Res) → Res) (fun p T _ k => Option.rec (motive := fun _ => Res) .no k (PT.get p T)) (fun d _ E k => Option.rec (motive := fun _ => Res) .no k (nthF E d)) (fun a _ _ k => k a) c T E k
noncomputable def opdsK (l : List XOpd) : PT AV → List AV → (List AV → Res) → Res :=
  List.rec (motive := fun _ => PT AV → List AV → (List AV → Res) → Res) (fun _ _ k => k []) (fun c _ ih T E k => opdK c T E fun a => ih T E fun l => k (a :: l)) l
theorem opdK_eq (c : XOpd) (T : PT AV) (E : List AV) (k : AV → Res) : opdK c T E k = (match evX T E c with | some a => k a | none => .no) := by
  cases c with
  | slot p =>
    simp only [opdK, evX]
    cases PT.get p T <;> rfl
  | res d =>
    simp only [opdK, evX, nthF_eq]
    cases nthA E d <;> rfl
  | cst a => rfl
theorem opdsK_eq : ∀ (l : List XOpd) (T : PT AV) (E : List AV) (k : List AV → Res), opdsK l T E k = (match evXs T E l with | some vs => k vs | none => .no)
  | [], T, E, k => rfl
  | c :: l, T, E, k => by
    show opdK c T E (fun a => opdsK l T E fun l => k (a :: l)) = _
    rw [opdK_eq]
    simp only [evXs]
    cases evX T E c with
    | none => rfl
    | some a =>
      simp only
      rw [opdsK_eq]
      cases evXs T E l <;> rfl
/-- A map's head is reckoned first. -/
noncomputable def headF {α β : Type} (t : PT α) (k : PT α → β) : β := PT.rec (motive := fun _ => β) (k .lf) (fun l v r _ _ => k (.nd l v r)) t
theorem headF_eq {α β : Type} (t : PT α) (k : PT α → β) : headF t k = k t := by cases t <;> rfl
/-- A value's parts are reckoned first. -/
noncomputable def natF {β : Type} (n : Nat) (k : Nat → β) : β := Nat.rec (motive := fun _ => β) (k 0) (fun m _ => k (Nat.succ m)) n
theorem natF_eq {β : Type} (n : Nat) (k : Nat → β) : natF n k = k n := by cases n <;> rfl
noncomputable def intF {β : Type} (n : Int) (k : Int → β) : β := Int.rec (motive := fun _ => β) (fun m => natF m fun m => k (.ofNat m)) (fun m => natF m fun m => k (.negSucc m)) n
theorem intF_eq {β : Type} (n : Int) (k : Int → β) : intF n k = k n := by
  cases n with
  | ofNat m => exact natF_eq m fun m => k (.ofNat m)
  | negSucc m => exact natF_eq m fun m => k (.negSucc m)
noncomputable def boolF {β : Type} (b : Bool) (k : Bool → β) : β := Bool.rec (motive := fun _ => β) (k false) (k true) b
theorem boolF_eq {β : Type} (b : Bool) (k : Bool → β) : boolF b k = k b := by cases b <;> rfl
noncomputable def avF (v : AV) (k : AV → Res) : Res :=
  match v with
  | .bool b => boolF b fun b => k (.bool b)
  | .int j n => intF n fun n => k (.int j n)
  | .str l n => natF l fun l => natF n fun n => k (.str l n)
  | .flt j n => natF n fun n => k (.flt j n)
  | .ptr n o => natF o fun o => k (.ptr n o)
  | .slc n o l c => natF o fun o => natF l fun l => k (.slc n o l c)
  | v => k v
theorem avF_eq (v : AV) (k : AV → Res) : avF v k = k v := by
  cases v <;> simp [avF, boolF_eq, intF_eq, natF_eq]
def ex_mv : List AV → Ps → Heap → OR := fun vs x H => match vs with
    | [a] => .val a
    | _ => .no
def ex_pick : List AV → Ps → Heap → OR := fun vs x H => match vs with
    | [.bool b, p, q] => .val (match b with | true => p | false => q)
    | _ => .no
def ex_alloc (e : TypeId) (z : List AV) : List AV → Ps → Heap → OR := fun vs x H => match vs with
    | [] => .new (.cells e (lenL z) false 1 (PT.one (some z) .h)) .ptr
    | _ => .no
def ex_box (e : TypeId) : List AV → Ps → Heap → OR := fun vs x H => match vs with
    | [a] => if isNoTup a then .new (.cells e (lenL a.cells) false 1 (PT.one (some a.cells) .h)) .ptr else .no
    | _ => .no
def ex_build (z : List AV) (pl : List (Nat × Nat)) : List AV → Ps → Heap → OR := fun vs x H => if noTups vs then (match fillA pl z vs with
    | some l => .val (.agg l)
    | none => .no) else .no
def ex_buildS (e : TypeId) (sz : Nat) (len : Nat) (z : List AV) (pl : List (Nat × Nat)) : List AV → Ps → Heap → OR := fun vs x H => if noTups vs then (match fillA pl (repL z len) vs with
    | some l => match chunk sz len l with
      | some r => match layRow r 0 .lf with
        | some t => .new (.cells e sz false len t) (.slc len (.known len))
        | none => .no
      | none => .no
    | none => .no) else .no
def ex_load (agg : Bool) (n : Nat) : List AV → Ps → Heap → OR := fun vs x H => match vs with
    | [.ptr p off] => match loadA H p off n with
      | some l => match agg with
        | true => .val (.agg l)
        | false => match l with
          | [a] => .val a
          | _ => .no
      | none => .no
    | _ => .no
def ex_store (n : Nat) : List AV → Ps → Heap → OR := fun vs x H => match vs with
    | [.ptr p off, a] => if Nat.beq (lenL a.cells) n && isNoTup a then (match storeA H p off a.cells with
      | some H' => .eff (.tup []) x H'
      | none => .no) else .no
    | _ => .no
def ex_nck : List AV → Ps → Heap → OR := fun vs x H => match vs with
    | [.ptr n o] => .val (.ptr n o)
    | [.ifc t v] => .val (.ifc t v)
    | [.fn (.func f) a b] => .val (.fn (.func f) a b)
    | _ => .no
def ex_bin (op : BinOp) : List AV → Ps → Heap → OR := fun vs x H => match vs with
    | [a, b] => match binA op a b with
      | some r => .val r
      | none => .no
    | _ => .no
def ex_eq (E : EqT) (neg : Bool) : List AV → Ps → Heap → OR := fun vs x H => match vs with
    | [a, b] => match eqE E a b with
      | some r => .val (.bool (match neg with | true => !r | false => r))
      | none => .no
    | _ => .no
def ex_not : List AV → Ps → Heap → OR := fun vs x H => match vs with
    | [.bool b] => .val (.bool (!b))
    | _ => .no
def ex_neg : List AV → Ps → Heap → OR := fun vs x H => match vs with
    | [.int k n] => .val (.int k (wrapI k (0 - n)))
    | _ => .no
def ex_toInt (k : IntKind) : List AV → Ps → Heap → OR := fun vs x H => match vs with
    | [.int _ n] => .val (.int k (wrapI k n))
    | _ => .no
def ex_same : List AV → Ps → Heap → OR := fun vs x H => match vs with
    | [.str l n] => .val (.str l n)
    | _ => .no
def ex_s2b (e : TypeId) : List AV → Ps → Heap → OR := fun vs x H => match vs with
    | [.str l n] => match layRow (bytesE l n) 0 .lf with
      | some t => .new (.cells e 1 false l t) (.slc l (.open_ 0))
      | none => .no
    | _ => .no
def ex_b2s : List AV → Ps → Heap → OR := fun vs x H => match vs with
    | [a] => match bytesStr H a with
      | some r => .val r
      | none => .no
    | _ => .no
def ex_mkI (t : TypeId) : List AV → Ps → Heap → OR := fun vs x H => match vs with
    | [a] => .val (.ifc t a)
    | _ => .no
def ex_fieldA (off : Nat) : List AV → Ps → Heap → OR := fun vs x H => match vs with
    | [.ptr n o] => .val (.ptr n (o + off))
    | _ => .no
def ex_field (agg : Bool) (n : Nat) (off : Nat) : List AV → Ps → Heap → OR := fun vs x H => match vs with
    | [.agg l] => match partA agg n off l with
      | some a => .val a
      | none => .no
    | _ => .no
def ex_idxA (sz : Nat) : List AV → Ps → Heap → OR := fun vs x H => match vs with
    | [.slc n o l _, .int _ (.ofNat i)] => if Nat.blt i l then .val (.ptr n (o + i * sz)) else .no
    | _ => .no
def ex_idxR (sz : Nat) (len : Nat) : List AV → Ps → Heap → OR := fun vs x H => match vs with
    | [.ptr n o, .int _ (.ofNat i)] => if Nat.blt i len then .val (.ptr n (o + i * sz)) else .no
    | _ => .no
def ex_idxS : List AV → Ps → Heap → OR := fun vs x H => match vs with
    | [.str l n, .int _ (.ofNat i)] => if Nat.blt i l then .val (.int .u8 (.ofNat (n / 256 ^ i % 256))) else .no
    | _ => .no
def ex_slc (sz : Nat) (lo : Bool) (hi : Bool) : List AV → Ps → Heap → OR := fun vs x H => slcWith (sliceA sz) lo hi vs
def ex_slcS (lo : Bool) (hi : Bool) : List AV → Ps → Heap → OR := fun vs x H => slcWith sliceS lo hi vs
def ex_ext (i : Nat) : List AV → Ps → Heap → OR := fun vs x H => match vs with
    | [.tup l] => match dropS i l with
      | a :: _ => .val a
      | [] => .no
    | _ => .no
def ex_call (f : FuncId) : List AV → Ps → Heap → OR := fun vs x H => .call f vs
def ex_callv : List AV → Ps → Heap → OR := fun vs x H => match vs with
    | .fn (.func f) a b :: r => .call f (a ++ (r ++ b))
    | _ => .no
def ex_app (e : TypeId) (sz : Nat) (bytes : Nat) (byte : Bool) : List AV → Ps → Heap → OR := fun vs x H => match vs with
    | [s, y] => appA e sz bytes byte x H s y
    | _ => .no
def ex_len (k : Nat) : List AV → Ps → Heap → OR := fun vs x H => match vs with
    | [a] => match lenA H k a with
      | some n => .val (.int .i64 (.ofNat n))
      | none => .no
    | _ => .no
def ex_mkfn (fn : Fn) (k : Nat) : List AV → Ps → Heap → OR := fun vs x H => match splitS k vs with
    | some (a, b) => .val (.fn fn a b)
    | none => .no
def ex_mkmap : List AV → Ps → Heap → OR := fun vs x H => match vs with
    | [] => .new (.map [] 0) .mp
    | [.int _ _] => .new (.map [] 0) .mp
    | _ => .no
def ex_look (E : EqT) (z : AV) (ok : Bool) : List AV → Ps → Heap → OR := fun vs x H => match vs with
    | [m, k] => match lookA E z ok H m k with
      | some r => .val r
      | none => .no
    | _ => .no
def ex_upd (E : EqT) : List AV → Ps → Heap → OR := fun vs x H => match vs with
    | [m, k, v] => match updA E H m k v with
      | some H' => .eff (.tup []) x H'
      | none => .no
    | _ => .no
def ex_mx : List AV → Ps → Heap → OR := fun vs x H => match vs with
    | [.int k a, .int _ b] => .val (.int k (if ilt a b then b else a))
    | _ => .no
def ex_mn : List AV → Ps → Heap → OR := fun vs x H => match vs with
    | [.int k a, .int _ b] => .val (.int k (if ilt b a then b else a))
    | _ => .no
def ex_mark : List AV → Ps → Heap → OR := fun vs x H => match vs with
    | [.slc n o l c] => match PT.get n H with
      | some (.cells e sz false k t) => .eff (.slc n o l c) x (PT.put (some (.cells e sz false k t)) n H)
      | _ => .no
    | _ => .no
def ex_mks (e : TypeId) (sz bytes : Nat) (z : List AV) : List AV → Ps → Heap → OR := fun vs x H => match vs with
    | [.int _ (.ofNat l), .int _ (.ofNat c)] => if Nat.ble l c && (Nat.ble (bytes * c) 281474976710656 && Nat.ble c 16777216) then (match layRow (repRow z c) 0 .lf with
      | some t => .new (.cells e sz false c t) (.slc l (.known c))
      | none => .no) else .no
    | _ => .no
def ex_shf (left : Bool) : List AV → Ps → Heap → OR := fun vs x H => match vs with
    | [.int k a, .int _ (.ofNat b)] => .val (.int k (match left with
      | true => wrapI k (a * ((2 ^ (min b k.bits) : Nat) : Int))
      | false => a.fdiv ((2 ^ (min b k.bits) : Nat) : Int)))
    | _ => .no
def ex_toFlt (k : FloatKind) : List AV → Ps → Heap → OR := fun vs x H => match vs with
    | [.int _ n] => .val (.flt k (k.nearest n))
    | _ => .no
def ex_fltInt (k : IntKind) : List AV → Ps → Heap → OR := fun vs x H => match vs with
    | [.flt s b] => match (s.decode b).toInt .zero with
      | some n => if !(ilt n k.min) && !(ilt k.max n) then .val (.int k n) else .no
      | none => .no
    | _ => .no
def ex_fltSame (k : FloatKind) : List AV → Ps → Heap → OR := fun vs x H => match vs with
    | [.flt s b] => match decEq s k with
      | .isTrue _ => .val (.flt k b)
      | .isFalse _ => .no
    | _ => .no
def ex_slcR (len sz : Nat) (lo hi : Bool) : List AV → Ps → Heap → OR := fun vs x H => slcWith (sliceR len sz) lo hi vs
def ex_rngm : List AV → Ps → Heap → OR := fun vs x H => match vs with
    | [.nilm] => .new (.iter none 0 [] 0) .ptr
    | [.mp n] => match PT.get n H with
      | some (.map _ clock) => .new (.iter (some n) clock [] clock) .ptr
      | _ => .no
    | _ => .no
def ex_nxt : List AV → Ps → Heap → OR := fun vs x H => match vs with
    | [.ptr r 0] => nextA H x r
    | _ => .no
def ex_ent : List AV → Ps → Heap → OR := fun vs x H => match vs with
    | [.ptr r 0] => entryA H r
    | _ => .no
def ex_xt (k : XK) : List AV → Ps → Heap → OR := fun vs x H => xtA k vs
noncomputable def execF (c : COp) : List AV → Ps → Heap → OR :=
  COp.rec (motive := fun _ => List AV → Ps → Heap → OR) ex_mv ex_pick ex_alloc ex_box ex_build ex_buildS ex_load ex_store ex_nck ex_bin ex_eq ex_not ex_neg ex_toInt ex_same ex_s2b ex_b2s ex_mkI ex_fieldA ex_field ex_idxA ex_idxR ex_idxS ex_slc ex_slcS ex_ext ex_call ex_callv ex_app ex_len ex_mkfn ex_mkmap ex_look ex_upd ex_mx ex_mn ex_mark ex_mks ex_shf ex_toFlt ex_fltInt ex_fltSame ex_slcR ex_rngm ex_nxt ex_ent ex_xt c
theorem execF_eq (c : COp) (vs : List AV) (x : Ps) (H : Heap) : execF c vs x H = exec c vs x H := by cases c <;> rfl

noncomputable def wantF (g : Option (Nat × Bool)) (E : List AV) (nn skip go : Res) : Res :=
  Option.rec (motive := fun _ => Res) go (fun pw => Option.rec (motive := fun _ => Res) nn (fun a =>
    match a with
    | .bool b => Bool.rec (motive := fun _ => Res) (Bool.rec (motive := fun _ => Res) go skip pw.2) (Bool.rec (motive := fun _ => Res) skip go pw.2) b
    | .tup _ => skip
    | _ => nn) (nthF E pw.1)) g
theorem wantF_eq (g : Option (Nat × Bool)) (E : List AV) (nn skip go : Res) : wantF g E nn skip go = (match wantX E g with | none => nn | some false => skip | some true => go) := by
  cases g with
  | none => rfl
  | some pw =>
    obtain ⟨p, want⟩ := pw
    simp only [wantF, wantX, nthF_eq]
    cases nthA E p with
    | none => rfl
    | some a =>
      cases a <;> try rfl
      rename_i b
      cases b <;> cases want <;> rfl

/-- What is done with the rest of a region. -/
abbrev Rest := List AV → PT AV → Ps → Heap → Res
/-- A result is laid, and on. -/
noncomputable def layF (ih : Rest) (keep : Option Ps) (E : List AV) (T : PT AV) (v : AV) (x : Ps) (H : Heap) : Res :=
  avF v fun v => Option.rec (motive := fun _ => Res) (ih (v :: E) T x H) (fun p => headF (PT.put (some v) p T) fun T => ih (v :: E) T x H) keep
theorem layF_eq (ih : Rest) (keep : Option Ps) (E : List AV) (T : PT AV) (v : AV) (x : Ps) (H : Heap) : layF ih keep E T v x H = ih (v :: E) (putD keep v T) x H := by
  unfold layF
  rw [avF_eq]
  cases keep with
  | none => rfl
  | some p => show headF _ _ = _; rw [headF_eq]; rfl
noncomputable def psF (x : Ps) (k : Ps → Res) : Res := Ps.rec (motive := fun _ => Res) (k .h) (fun p _ => k (.o p)) (fun p _ => k (.i p)) x
theorem psF_eq (x : Ps) (k : Ps → Res) : psF x k = k x := by cases x <;> rfl
abbrev CallJ := FuncId → List AV → Ps → Heap → Res
/-- An operation's outcome. -/
noncomputable def orF (call : CallJ) (ih : Rest) (keep : Option Ps) (E : List AV) (T : PT AV) (x : Ps) (H : Heap) (r : OR) : Res :=
  OR.rec (motive := fun _ => Res) .no (fun v => layF ih keep E T v x H)
    (fun ob k => headF (PT.put (some ob) x H) fun H => psF x.succ fun y => layF ih keep E T (k.av x) y H)
    (fun v x' H' => headF H' fun H => layF ih keep E T v x' H)
    (fun f args => Res.rec (motive := fun _ => Res) .no (fun v x' H' => layF ih keep E T v x' H') (fun _ _ _ _ => .no) (call f args x H)) r
noncomputable def operF (call : CallJ) (ih : Rest) (co : XOper) (E : List AV) (T : PT AV) (x : Ps) (H : Heap) : Res :=
  XOper.rec (motive := fun _ => Res) (fun keep g opds c => wantF g E .no (layF ih keep E T (.tup []) x H) (opdsK opds T E fun vs => orF call ih keep E T x H (execF c vs x H))) co
noncomputable def opsF (call : CallJ) (l : List (Option XOper)) : Rest :=
  List.rec (motive := fun _ => Rest) (fun _ T x H => .out .norm T x H) (fun o _ ih E T x H => Option.rec (motive := fun _ => Res) .no (fun co => operF call ih co E T x H) o) l
theorem opsF_eq (call : CallJ) : ∀ (l : List (Option XOper)) (E : List AV) (T : PT AV) (x : Ps) (H : Heap), opsF call l E T x H = opsX call l E T x H
  | [], E, T, x, H => rfl
  | none :: l, E, T, x, H => rfl
  | some co :: l, E, T, x, H => by
    have ihf : opsF call l = opsX call l := by funext E T x H; exact opsF_eq call l E T x H
    show operF call (opsF call l) co E T x H = _
    rw [ihf]
    obtain ⟨keep, g, opds, c⟩ := co
    show wantF g E .no (layF (opsX call l) keep E T (.tup []) x H) (opdsK opds T E fun vs => orF call (opsX call l) keep E T x H (execF c vs x H)) = _
    rw [wantF_eq, opdsK_eq]
    simp only [opsX, layF_eq]
    cases wantX E g with
    | none => rfl
    | some b =>
      cases b with
      | false => rfl
      | true =>
        simp only
        cases evXs T E opds with
        | none => rfl
        | some vs =>
          simp only [execF_eq]
          cases exec c vs x H with
          | no => rfl
          | val v => exact layF_eq _ _ _ _ _ _ _
          | new ob k =>
            show headF (PT.put (some ob) x H) (fun H => psF x.succ fun y => layF (opsX call l) keep E T (k.av x) y H) = _
            rw [headF_eq, psF_eq, layF_eq]
          | eff v x' H' =>
            show headF H' (fun H => layF (opsX call l) keep E T v x' H) = _
            rw [headF_eq, layF_eq]
          | call f args =>
            simp only [orF]
            generalize call f args x H = r
            cases r with
            | val v x' H' => exact layF_eq _ _ _ _ _ _ _
            | _ => rfl
/-- What is done with the rest of a region that draws. -/
abbrev RestD := List AV → List (Option RE) → PT AV → Ps → Heap → Res
noncomputable def layD (ih : RestD) (keep : Option Ps) (mk : AV → Option RE) (E : List AV) (R : List (Option RE)) (T : PT AV) (v : AV) (x : Ps) (H : Heap) : Res :=
  avF v fun v => Option.rec (motive := fun _ => Res) (ih (v :: E) (mk v :: R) T x H) (fun p => headF (PT.put (some v) p T) fun T => ih (v :: E) (mk v :: R) T x H) keep
theorem layD_eq (ih : RestD) (keep : Option Ps) (mk : AV → Option RE) (E : List AV) (R : List (Option RE)) (T : PT AV) (v : AV) (x : Ps) (H : Heap) : layD ih keep mk E R T v x H = ih (v :: E) (mk v :: R) (putD keep v T) x H := by
  unfold layD
  rw [avF_eq]
  cases keep with
  | none => rfl
  | some p => show headF _ _ = _; rw [headF_eq]; rfl
noncomputable def gateF (b : Bool) (r : Res) : Res := Bool.rec (motive := fun _ => Res) .no r b
theorem gateF_eq (b : Bool) (r : Res) : gateF b r = if b then r else .no := by cases b <;> rfl
noncomputable def sameF (v : AV) (y : Option Ps) (H : Heap) (r : OR) : Bool :=
  OR.rec (motive := fun _ => Bool) false (fun w => Option.rec (motive := fun _ => Bool) (eqAV w v) (fun _ => false) y)
    (fun ob k => Option.rec (motive := fun _ => Bool) false (fun y => Bool.rec (motive := fun _ => Bool) false (Option.rec (motive := fun _ => Bool) false (fun u => eqObj u ob) (PT.get y H)) (eqAV (k.av y) v)) y)
    (fun _ _ _ => false) (fun _ _ => false) r
noncomputable def rechk1F (re : RE) (x : Ps) (H : Heap) : Bool := RE.rec (motive := fun _ => Bool) (fun c vs v y => sameF v y H (execF c vs x H)) re
theorem rechk1F_eq (re : RE) (x : Ps) (H : Heap) : rechk1F re x H = rechk1 re x H := by
  obtain ⟨c, vs, v, y⟩ := re
  show sameF v y H (execF c vs x H) = _
  rw [execF_eq]
  unfold rechk1
  simp only
  cases exec c vs x H with
  | no => rfl
  | val w => cases y <;> rfl
  | new ob k =>
    cases y with
    | none => rfl
    | some y =>
      show Bool.rec (motive := fun _ => Bool) false (Option.rec (motive := fun _ => Bool) false (fun u => eqObj u ob) (PT.get y H)) (eqAV (k.av y) v) = (if eqAV (k.av y) v = true then (match PT.get y H with | some u => eqObj u ob | none => false) else false)
      cases eqAV (k.av y) v with
      | false => rfl
      | true => simp only [if_true]; cases PT.get y H <;> rfl
  | eff v x' H' => rfl
  | call f args => rfl
noncomputable def rechkF (x : Ps) (H : Heap) (l : List Bool) : List (Option RE) → Bool :=
  List.rec (motive := fun _ => List (Option RE) → Bool) (fun _ => true)
    (fun b _ ih R => List.rec (motive := fun _ => Bool) true (fun r R _ => Bool.rec (motive := fun _ => Bool) (ih R) (Option.rec (motive := fun _ => Bool) (ih R) (fun re => Bool.rec (motive := fun _ => Bool) false (ih R) (rechk1F re x H)) r) b) R) l
theorem rechkF_eq (x : Ps) (H : Heap) : ∀ (l : List Bool) (R : List (Option RE)), rechkF x H l R = rechk x H l R
  | [], R => rfl
  | b :: l, [] => rfl
  | b :: l, r :: R => by
    have ih := rechkF_eq x H l R
    show Bool.rec (motive := fun _ => Bool) (rechkF x H l R) (Option.rec (motive := fun _ => Bool) (rechkF x H l R) (fun re => Bool.rec (motive := fun _ => Bool) false (rechkF x H l R) (rechk1F re x H)) r) b = _
    rw [ih]
    simp only [rechk]
    cases b with
    | false => rfl
    | true =>
      cases r with
      | none => rfl
      | some re =>
        simp only [rechkB, rechk1F_eq]
        have key : ∀ b : Bool, Bool.rec (motive := fun _ => Bool) false (rechk x H l R) b = if b = true then rechk x H l R else false := fun b => by cases b <;> rfl
        exact key _
noncomputable def floatD (ih : RestD) (keep : Option Ps) (c : COp) (vs : List AV) (E : List AV) (R : List (Option RE)) (T : PT AV) (x : Ps) (H : Heap) (r : OR) : Res :=
  OR.rec (motive := fun _ => Res) .no (fun v => layD ih keep (fun v => some ⟨c, vs, v, none⟩) E R T v x H)
    (fun ob k => headF (PT.put (some ob) x H) fun H => psF x.succ fun y => layD ih keep (fun v => some ⟨c, vs, v, some x⟩) E R T (k.av x) y H)
    (fun _ _ _ => .no) (fun _ _ => .no) r
noncomputable def effD (call : CallJ) (ih : RestD) (keep : Option Ps) (need : List Bool) (E : List AV) (R : List (Option RE)) (T : PT AV) (x : Ps) (H : Heap) (r : OR) : Res :=
  OR.rec (motive := fun _ => Res) .no (fun v => gateF (rechkF x H need R) (layD ih keep (fun _ => none) E R T v x H))
    (fun ob k => headF (PT.put (some ob) x H) fun H => psF x.succ fun y => gateF (rechkF y H need R) (layD ih keep (fun _ => none) E R T (k.av x) y H))
    (fun v x' H' => headF H' fun H => gateF (rechkF x' H need R) (layD ih keep (fun _ => none) E R T v x' H))
    (fun f args => Res.rec (motive := fun _ => Res) .no (fun v x' H' => gateF (rechkF x' H' need R) (layD ih keep (fun _ => none) E R T v x' H')) (fun _ _ _ _ => .no) (call f args x H)) r
noncomputable def dopF (call : CallJ) (T1 : PT AV) (ih : RestD) (d : DOper) (E : List AV) (R : List (Option RE)) (T : PT AV) (x : Ps) (H : Heap) : Res :=
  DOper.rec (motive := fun _ => Res) (fun o eff need => XOper.rec (motive := fun _ => Res) (fun keep g opds c => wantF g E .no (layD ih keep (fun _ => none) E R T (.tup []) x H)
    (opdsK opds T1 E fun vs => Bool.rec (motive := fun _ => Res) (floatD ih keep c vs E R T x H (execF c vs x H)) (effD call ih keep need E R T x H (execF c vs x H)) eff)) o) d
noncomputable def drawF (call : CallJ) (T1 : PT AV) (l : List DOper) : RestD :=
  List.rec (motive := fun _ => RestD) (fun _ _ T x H => .out .norm T x H) (fun d _ ih E R T x H => dopF call T1 ih d E R T x H) l
theorem drawF_eq (call : CallJ) (T1 : PT AV) : ∀ (l : List DOper) (E : List AV) (R : List (Option RE)) (T : PT AV) (x : Ps) (H : Heap), drawF call T1 l E R T x H = drawX call T1 l E R T x H
  | [], E, R, T, x, H => rfl
  | d :: l, E, R, T, x, H => by
    have ihf : drawF call T1 l = drawX call T1 l := by funext E R T x H; exact drawF_eq call T1 l E R T x H
    show dopF call T1 (drawF call T1 l) d E R T x H = _
    rw [ihf]
    obtain ⟨⟨keep, g, opds, c⟩, eff, need⟩ := d
    show wantF g E .no (layD (drawX call T1 l) keep (fun _ => none) E R T (.tup []) x H) (opdsK opds T1 E fun vs => Bool.rec (motive := fun _ => Res) (floatD (drawX call T1 l) keep c vs E R T x H (execF c vs x H)) (effD call (drawX call T1 l) keep need E R T x H (execF c vs x H)) eff) = _
    rw [wantF_eq, opdsK_eq]
    simp only [drawX, layD_eq]
    cases wantX E g with
    | none => rfl
    | some b =>
      cases b with
      | false => rfl
      | true =>
        simp only
        cases evXs T1 E opds with
        | none => rfl
        | some vs =>
          simp only [execF_eq]
          cases eff with
          | false =>
            simp only
            cases exec c vs x H with
            | val v => exact layD_eq _ _ _ _ _ _ _ _ _
            | new ob k =>
              show headF (PT.put (some ob) x H) (fun H => psF x.succ fun y => layD (drawX call T1 l) keep (fun v => some ⟨c, vs, v, some x⟩) E R T (k.av x) y H) = _
              rw [headF_eq, psF_eq, layD_eq]
            | _ => rfl
          | true =>
            simp only
            cases exec c vs x H with
            | no => rfl
            | val v =>
              show gateF (rechkF x H need R) (layD (drawX call T1 l) keep (fun _ => none) E R T v x H) = _
              rw [gateF_eq, rechkF_eq, layD_eq]
            | new ob k =>
              show headF (PT.put (some ob) x H) (fun H => psF x.succ fun y => gateF (rechkF y H need R) (layD (drawX call T1 l) keep (fun _ => none) E R T (k.av x) y H)) = _
              rw [headF_eq, psF_eq, gateF_eq, rechkF_eq, layD_eq]
            | eff v x' H' =>
              show headF H' (fun H => gateF (rechkF x' H need R) (layD (drawX call T1 l) keep (fun _ => none) E R T v x' H)) = _
              rw [headF_eq, gateF_eq, rechkF_eq, layD_eq]
            | call f args =>
              simp only [effD]
              generalize call f args x H = r
              cases r with
              | val v x' H' =>
                show gateF (rechkF x' H' need R) (layD (drawX call T1 l) keep (fun _ => none) E R T v x' H') = _
                rw [gateF_eq, rechkF_eq, layD_eq]
              | _ => rfl
noncomputable def callF (P : Program) (hk : Hook) (ih : Job → Ps → Heap → Res) (f : FuncId) (args : List AV) (x : Ps) (H : Heap) : Res :=
  match hk f args x H with
  | some (v, x', H') => .val v x' H'
  | none => match cfun P f with
    | none => .no
    | some fn => if Nat.ble (lenL args) fn.nt then
        (match putArgs fn.kp args 0 .lf with
        | none => .no
        | some T => match ih (.code fn.body T) x H with
          | .out o T' x' H' => match o with
            | .exit _ => .no
            | _ => match evRes T' H' fn.res with
              | some l => .val (oneOf l) x' H'
              | none => .no
          | _ => .no) else .no
/-- What comes behind code. -/
noncomputable def thenF (r : Res) (norm : PT AV → Ps → Heap → Res) : Res :=
  Res.rec (motive := fun _ => Res) .no (fun _ _ _ => .no) (fun o T x H => Out.rec (motive := fun _ => Res) (norm T x H) (fun id => .out (.exit id) T x H) (.out .ret T x H) o) r
theorem thenF_eq (r : Res) (k : PT AV → Ps → Heap → Res) : thenF r k = (match r with
    | .out o T' x' H' => match o with
      | .norm => k T' x' H'
      | o => .out o T' x' H'
    | _ => .no) := by
  cases r with
  | out o T x H => cases o <;> rfl
  | _ => rfl
def co_skip (_ih : Job → Ps → Heap → Res) (T : PT AV) (x : Ps) (H : Heap) : Res := .out .norm T x H
noncomputable def co_reg (ops : List (Option XOper)) (ih : Job → Ps → Heap → Res) (T : PT AV) (x : Ps) (H : Heap) : Res := opsF (fun f args x H => ih (.call f args) x H) ops [] T x H
noncomputable def co_drw (ops : List DOper) (er rd : List Ps) (ih : Job → Ps → Heap → Res) (T : PT AV) (x : Ps) (H : Heap) : Res := headF (eraseD er T) fun T0 => headF (eraseD rd T) fun T1 => drawF (fun f args x H => ih (.call f args) x H) T1 ops [] [] T0 x H
noncomputable def co_seq (a b : CCode) (ih : Job → Ps → Heap → Res) (T : PT AV) (x : Ps) (H : Heap) : Res := thenF (ih (.code a T) x H) fun T x H => ih (.code b T) x H
noncomputable def co_cond (c : Option XOpd) (a b : CCode) (ih : Job → Ps → Heap → Res) (T : PT AV) (x : Ps) (H : Heap) : Res :=
  Option.rec (motive := fun _ => Res) .no (fun c => opdK c T [] fun v => match v with
    | .bool q => Bool.rec (motive := fun _ => Res) (ih (.code b T) x H) (ih (.code a T) x H) q
    | _ => .no) c
noncomputable def co_block (id : Nat) (b : CCode) (ih : Job → Ps → Heap → Res) (T : PT AV) (x : Ps) (H : Heap) : Res :=
  Res.rec (motive := fun _ => Res) .no (fun _ _ _ => .no) (fun o T x H => Out.rec (motive := fun _ => Res) (.out .norm T x H) (fun k => if Nat.beq k id then .out .norm T x H else .out (.exit k) T x H) (.out .ret T x H) o) (ih (.code b T) x H)
noncomputable def co_loop (b : CCode) (ih : Job → Ps → Heap → Res) (T : PT AV) (x : Ps) (H : Heap) : Res := thenF (ih (.code b T) x H) fun T x H => ih (.code (.loop b) T) x H
def co_exit (id : Nat) (_ih : Job → Ps → Heap → Res) (T : PT AV) (x : Ps) (H : Heap) : Res := .out (.exit id) T x H
def co_scope (b : CCode) (ih : Job → Ps → Heap → Res) (T : PT AV) (x : Ps) (H : Heap) : Res := ih (.code b T) x H
def co_ret (_ih : Job → Ps → Heap → Res) (T : PT AV) (x : Ps) (H : Heap) : Res := .out .ret T x H
def co_bad (_ih : Job → Ps → Heap → Res) (_ : PT AV) (_ : Ps) (_ : Heap) : Res := .no
noncomputable def codeF (c : CCode) : (Job → Ps → Heap → Res) → PT AV → Ps → Heap → Res :=
  CCode.rec (motive := fun _ => (Job → Ps → Heap → Res) → PT AV → Ps → Heap → Res) co_skip co_reg co_drw (fun a b _ _ => co_seq a b) (fun c a b _ _ => co_cond c a b) (fun id b _ => co_block id b) (fun b _ => co_loop b) co_exit (fun b _ => co_scope b) co_ret co_bad c
noncomputable def jobF (P : Program) (hk : Hook) (ih : Job → Ps → Heap → Res) (j : Job) : Ps → Heap → Res :=
  Job.rec (motive := fun _ => Ps → Heap → Res) (fun f args => callF P hk ih f args) (fun c T => codeF c ih T) j
noncomputable def evF (P : Program) (hk : Hook) (n : Nat) : Job → Ps → Heap → Res :=
  Nat.rec (motive := fun _ => Job → Ps → Heap → Res) (fun _ _ _ => .no) (fun _ ih => jobF P hk ih) n
theorem evF_eq (P : Program) (hk : Hook) : ∀ (n : Nat) (j : Job) (x : Ps) (H : Heap), evF P hk n j x H = ev P hk n j x H := by
  intro n
  induction n with
  | zero => intro j x H; rfl
  | succ n ih =>
    have ihf : evF P hk n = ev P hk n := by funext j x H; exact ih j x H
    intro j x H
    show jobF P hk (evF P hk n) j x H = _
    rw [ihf]
    cases j with
    | call f args =>
      show callF P hk (ev P hk n) f args x H = _
      simp only [callF, ev]
      rfl
    | code c T =>
      show codeF c (ev P hk n) T x H = _
      cases c with
      | seq a b => show thenF _ _ = _; rw [thenF_eq]; rfl
      | reg ops => show opsF _ ops [] T x H = _; rw [opsF_eq]; rfl
      | drw ops er rd => show headF (eraseD er T) (fun T0 => headF (eraseD rd T) (fun T1 => drawF _ T1 ops [] [] T0 x H)) = _; rw [headF_eq, headF_eq, drawF_eq]; rfl
      | loop b => show thenF _ _ = _; rw [thenF_eq]; rfl
      | cond c a b =>
        cases c with
        | none => rfl
        | some c =>
          show opdK c T [] _ = _
          rw [opdK_eq]
          simp only [ev]
          cases evX T [] c with
          | none => rfl
          | some v =>
            cases v <;> try rfl
            rename_i q
            cases q <;> rfl
      | block id b =>
        show co_block id b (ev P hk n) T x H = _
        simp only [co_block, ev]
        cases ev P hk n (.code b T) x H with
        | out o T x H => cases o <;> rfl
        | _ => rfl
      | _ => rfl
end
end Go.Proofs.YtldjbgklmeigmaaGreatDoor.Ev

namespace Go.Proofs.YtldjbgklmeigmaaGreatDoor.Ev
open Go Go.RowKit
noncomputable section
set_option linter.unusedVariables false

def eqObjO : Option AObj → Option AObj → Bool
  | none, _ => true
  | some a, some b => eqObj a b
  | some _, none => false
/-- Is all that the first says said by the second? -/
def subH : Heap → Heap → Bool
  | .lf, _ => true
  | .nd l v r, t => match t with
    | .nd l' v' r' => if eqObjO v v' then (if subH l l' then subH r r' else false) else false
    | .lf => match v with
      | none => if subH l .lf then subH r .lf else false
      | some _ => false
theorem subH_spec : ∀ {H K : Heap}, subH H K = true → ∀ n u, PT.get n H = some u → PT.get n K = some u
  | .lf, K, h, n, u, e => by rw [PT.get_lf] at e; cases e
  | .nd l v r, .nd l' v' r', h, n, u, e => by
    simp only [subH] at h
    split at h
    · rename_i hv
      split at h
      · rename_i hl
        cases n with
        | h =>
          rw [PT.get_h_nd] at e ⊢
          subst e
          cases v' with
          | none => simp [eqObjO] at hv
          | some b => simp only [eqObjO] at hv; rw [eqObj_eq hv]
        | o p => rw [PT.get_o_nd] at e ⊢; exact subH_spec hl p u e
        | i p => rw [PT.get_i_nd] at e ⊢; exact subH_spec h p u e
      · cases h
    · cases h
  | .nd l v r, .lf, h, n, u, e => by
    simp only [subH] at h
    split at h
    · split at h
      · rename_i hl
        cases n with
        | h => rw [PT.get_h_nd] at e; cases e
        | o p => rw [PT.get_o_nd] at e; have := subH_spec hl p u e; rw [PT.get_lf] at this; cases this
        | i p => rw [PT.get_i_nd] at e; have := subH_spec h p u e; rw [PT.get_lf] at this; cases this
      · cases h
    · cases h
/-- What is said of a call's end, less of it. -/
theorem CallOk.sub {P : Program} {f : FuncId} {args : List AV} {x : Ps} {H : Heap} {v : AV} {x' : Ps} {H' K : Heap} (h : CallOk P f args x H v x' H') (hk : ∀ n u, PT.get n K = some u → PT.get n H' = some u) : CallOk P f args x H v x' K :=
  ⟨h.1, fun W Fr σ w us hr hu => (h.2 W Fr σ w us hr hu).mono fun e w1 hq => by
    obtain ⟨τ, u, q1, q2, q3, q4⟩ := hq
    exact ⟨τ, u, q1, q2.sub hk, q3, q4⟩⟩
theorem Rel.later {P : Program} {W : World} {Fr : Nat → Prop} {σ : Map} {x y : Ps} {H : Heap} {w : World} (h : Rel P W Fr σ x H w) (hxy : x.nat ≤ y.nat) : Rel P W Fr σ y H w :=
  ⟨h.glob, by have := h.low; omega, fun n s e => by have := h.fresh n s e; omega, fun n o e => by have := h.hfresh n o e; omega, h.obj, h.inj, h.own, h.size, h.frlt, h.frame, h.os, h.tape, h.output⟩

/-- The first where it says something; else the third, where the second says nothing. -/
def mergeO : Option AObj → Option AObj → Option AObj → Option AObj
  | some a, _, _ => some a
  | none, some _, _ => none
  | none, none, c => c
def mergeH : Heap → Heap → Heap → Heap
  | .lf, .lf, K => K
  | .lf, .nd _ _ _, .lf => .lf
  | .lf, .nd l v r, .nd l' v' r' => .nd (mergeH .lf l l') (mergeO none v v') (mergeH .lf r r')
  | .nd l v r, .lf, .lf => .nd l v r
  | .nd l v r, .lf, .nd l' v' r' => .nd (mergeH l .lf l') (mergeO v none v') (mergeH r .lf r')
  | .nd l v r, .nd _ _ _, .lf => .nd l v r
  | .nd l v r, .nd l0 v0 r0, .nd l' v' r' => .nd (mergeH l l0 l') (mergeO v v0 v') (mergeH r r0 r')
theorem mergeO_none (c : Option AObj) : mergeO none none c = c := rfl
theorem mergeH_get : ∀ (H H0 K : Heap) (n : Ps), PT.get n (mergeH H H0 K) = mergeO (PT.get n H) (PT.get n H0) (PT.get n K)
  | .lf, .lf, K, n => by simp only [mergeH, PT.get_lf, mergeO_none]
  | .lf, .nd l v r, .lf, n => by
    simp only [mergeH, PT.get_lf]
    cases PT.get n (.nd l v r) <;> rfl
  | .lf, .nd l v r, .nd l' v' r', n => by
    cases n with
    | h => simp only [mergeH, PT.get_h_nd, PT.get_lf]
    | o p => simp only [mergeH, PT.get_o_nd, mergeH_get, PT.get_lf]
    | i p => simp only [mergeH, PT.get_i_nd, mergeH_get, PT.get_lf]
  | .nd l v r, .lf, .lf, n => by
    simp only [mergeH, PT.get_lf]
    cases PT.get n (.nd l v r) <;> rfl
  | .nd l v r, .lf, .nd l' v' r', n => by
    cases n with
    | h => simp only [mergeH, PT.get_h_nd, PT.get_lf]
    | o p => simp only [mergeH, PT.get_o_nd, mergeH_get, PT.get_lf]
    | i p => simp only [mergeH, PT.get_i_nd, mergeH_get, PT.get_lf]
  | .nd l v r, .nd l0 v0 r0, .lf, n => by
    simp only [mergeH, PT.get_lf]
    cases PT.get n (.nd l v r) <;> cases PT.get n (.nd l0 v0 r0) <;> rfl
  | .nd l v r, .nd l0 v0 r0, .nd l' v' r', n => by
    cases n with
    | h => simp only [mergeH, PT.get_h_nd]
    | o p => simp only [mergeH, PT.get_o_nd, mergeH_get]
    | i p => simp only [mergeH, PT.get_i_nd, mergeH_get]
theorem merge_cases {H H0 K : Heap} {n : Ps} {u : AObj} (h : PT.get n (mergeH H H0 K) = some u) : PT.get n H = some u ∨ (PT.get n H = none ∧ PT.get n H0 = none ∧ PT.get n K = some u) := by
  rw [mergeH_get] at h
  cases h1 : PT.get n H with
  | some a => rw [h1] at h; simp only [mergeO] at h; exact .inl h
  | none =>
    rw [h1] at h
    cases h2 : PT.get n H0 with
    | some b => rw [h2] at h; simp [mergeO] at h
    | none => rw [h2] at h; exact .inr ⟨rfl, rfl, h⟩

def roO : Option AObj → Option AObj → Bool
  | none, _ => true
  | some _, some _ => true
  | some o, none => !o.ro
/-- Are all that may not be written the first memory's, too? -/
def roIn : Heap → Heap → Bool
  | .lf, _ => true
  | .nd l v r, t => match t with
    | .lf => if roO v none then (if roIn l .lf then roIn r .lf else false) else false
    | .nd l' v' r' => if roO v v' then (if roIn l l' then roIn r r' else false) else false
theorem roO_spec {v w : Option AObj} {u : AObj} (h : roO v w = true) (hv : v = some u) (hu : u.ro = true) : ∃ u', w = some u' := by
  subst hv
  cases w with
  | none => simp [roO, hu] at h
  | some a => exact ⟨a, rfl⟩
theorem roIn_spec : ∀ {H K : Heap}, roIn H K = true → ∀ n u, PT.get n H = some u → u.ro = true → ∃ u', PT.get n K = some u'
  | .lf, K, h, n, u, e, _ => by rw [PT.get_lf] at e; cases e
  | .nd l v r, .lf, h, n, u, e, hu => by
    simp only [roIn] at h
    split at h
    · rename_i hv
      split at h
      · rename_i hl
        cases n with
        | h => rw [PT.get_h_nd] at e; obtain ⟨_, q⟩ := roO_spec hv e hu; cases q
        | o p => rw [PT.get_o_nd] at e; obtain ⟨_, q⟩ := roIn_spec hl p u e hu; rw [PT.get_lf] at q; cases q
        | i p => rw [PT.get_i_nd] at e; obtain ⟨_, q⟩ := roIn_spec h p u e hu; rw [PT.get_lf] at q; cases q
      · cases h
    · cases h
  | .nd l v r, .nd l' v' r', h, n, u, e, hu => by
    simp only [roIn] at h
    split at h
    · rename_i hv
      split at h
      · rename_i hl
        cases n with
        | h =>
          rw [PT.get_h_nd] at e ⊢
          exact roO_spec hv e hu
        | o p => rw [PT.get_o_nd] at e ⊢; exact roIn_spec hl p u e hu
        | i p => rw [PT.get_i_nd] at e ⊢; exact roIn_spec h p u e hu
      · cases h
    · cases h

theorem obj_lt {P : Program} {W : World} {Fr : Nat → Prop} {σ : Map} {x : Ps} {H : Heap} {w : World} (h : Rel P W Fr σ x H w) {n : Ps} {o : AObj} {s : Spot} (e : PT.get n H = some o) (hs : σ n = some s) : s.block < w.heap.size := by
  have := h.obj n o s e hs
  cases o with
  | cells => obtain ⟨_, _, _, hh, _⟩ := this; exact (Array.getElem?_eq_some_iff.1 hh).1
  | map => obtain ⟨_, _, hh, _⟩ := this; exact (Array.getElem?_eq_some_iff.1 hh).1
  | iter => obtain ⟨_, _, _, hh⟩ := this; exact (Array.getElem?_eq_some_iff.1 hh).1

/-- A call over a part of memory, over all of it. -/
theorem CallOk.frame {P : Program} {f : FuncId} {args : List AV} {x0 : Ps} {H0 : Heap} {v : AV} {x' : Ps} {H' : Heap} (h : CallOk P f args x0 H0 v x' H') (hro : roIn H' H0 = true) {x : Ps} {K : Heap} (hx : x.nat ≤ x0.nat) (hsub : subH H0 K = true) :
    CallOk P f args x K v x' (mergeH H' H0 K) := by
  refine ⟨Nat.le_trans hx h.1, fun W Fr σ w us hr hu => ?_⟩
  have hk0 := subH_spec hsub
  let Fr' : Nat → Prop := fun b => Fr b ∨ ∃ n o s, PT.get n K = some o ∧ PT.get n H0 = none ∧ σ n = some s ∧ s.block = b
  have hrel : Rel P w Fr' σ x0 H0 w := by
    have h1 := (hr.later hx).sub hk0
    refine ⟨h1.glob, h1.low, h1.fresh, h1.hfresh, h1.obj, h1.inj, fun n o s e hro hs => ?_, Nat.le_refl _, fun b hb => ?_, fun b _ => rfl, rfl, rfl, rfl⟩
    · rintro (hq | ⟨m, o', t, e1, e2, e3, e4⟩)
      · exact h1.own n o s e hro hs hq
      · have := hr.inj m n o' o t s e1 (hk0 n o e) e3 hs e4
        subst this
        rw [e] at e2; cases e2
    · rcases hb with hb | ⟨m, o', t, e1, e2, e3, e4⟩
      · exact Nat.lt_of_lt_of_le (hr.frlt b hb) hr.size
      · rw [← e4]; exact obj_lt hr e1 e3
  refine (h.2 w Fr' σ w us hrel hu).mono fun e w1 hq => ?_
  obtain ⟨τ, u, q1, q2, q3, q4⟩ := hq
  have hext : FExt x σ τ := ⟨q1.ext, fun n hn hl => q1.none n hn (by omega)⟩
  have hxx := h.1
  -- a name of the rest: as it was
  have rest : ∀ n o t, PT.get n K = some o → PT.get n H0 = none → τ n = some t → σ n = some t ∧ Fr' t.block := fun n o t e1 e2 ht => by
    cases hs : σ n with
    | none =>
      have := hext.none n hs (hr.hfresh n o e1)
      rw [this] at ht; cases ht
    | some s =>
      have := q1.ext n s hs
      rw [this] at ht; cases ht
      exact ⟨rfl, .inr ⟨n, o, t, e1, e2, hs, rfl⟩⟩
  have hwf : ∀ b, Fr' b → w1.heap[b]? = w.heap[b]? := q2.frame
  refine ⟨τ, u, hext, ?_, q3, q4⟩
  refine ⟨q2.glob, q2.low, q2.fresh, fun n o e => ?_, fun n o s e hs => ?_, fun m n o u' s t e1 e2 hs ht hst => ?_, fun n o s e hro' hs => ?_, Nat.le_trans hr.size q2.size, hr.frlt, fun b hb => ?_, q2.os.trans hr.os, q2.tape.trans hr.tape, q2.output.trans hr.output⟩
  · rcases merge_cases e with e | ⟨_, _, e⟩
    · exact q2.hfresh n o e
    · have := hr.hfresh n o e; omega
  · rcases merge_cases e with e | ⟨_, e2, e⟩
    · exact q2.obj n o s e hs
    · obtain ⟨k1, k2⟩ := rest n o s e e2 hs
      exact ((hr.obj n o s e k1).of_block (hwf _ k2)).mono q1.ext
  · -- no two names for one block
    have cross : ∀ m n o u' s t, PT.get m H' = some o → PT.get n K = some u' → PT.get n H0 = none → τ m = some s → τ n = some t → s.block = t.block → False := fun m n o u' s t e1 e2 e3 hs ht hst => by
      obtain ⟨k1, k2⟩ := rest n u' t e2 e3 ht
      cases hmo : o.ro with
      | false => exact q2.own m o s e1 hmo hs (hst ▸ k2)
      | true =>
        obtain ⟨o0, h0⟩ := roIn_spec hro m o e1 hmo
        have hsm : σ m = some s := by
          cases hsm : σ m with
          | none =>
            have := q1.none m hsm (hrel.hfresh m o0 h0)
            rw [this] at hs; cases hs
          | some s' =>
            have := q1.ext m s' hsm
            rw [this] at hs; cases hs; rfl
        have := hr.inj m n o0 u' s t (hk0 m o0 h0) e2 hsm k1 hst
        subst this
        rw [h0] at e3; cases e3
    rcases merge_cases e1 with e1 | ⟨_, e1', e1⟩
    · rcases merge_cases e2 with e2 | ⟨_, e2', e2⟩
      · exact q2.inj m n o u' s t e1 e2 hs ht hst
      · exact (cross m n o u' s t e1 e2 e2' hs ht hst).elim
    · rcases merge_cases e2 with e2 | ⟨_, e2', e2⟩
      · exact (cross n m u' o t s e2 e1 e1' ht hs hst.symm).elim
      · exact hr.inj m n o u' s t e1 e2 (rest m o s e1 e1' hs).1 (rest n u' t e2 e2' ht).1 hst
  · rcases merge_cases e with e | ⟨_, e2, e⟩
    · exact fun hb => q2.own n o s e hro' hs (.inl hb)
    · exact hr.own n o s e hro' (rest n o s e e2 hs).1
  · rw [hwf b (.inl hb), hr.frame b hb]
end
end Go.Proofs.YtldjbgklmeigmaaGreatDoor.Ev

namespace Go.Proofs.YtldjbgklmeigmaaGreatDoor.Ev
open Go Go.RowKit
noncomputable section
set_option linter.unusedVariables false

/-- The name of a number, at once. -/
def nm (k : Nat) : Ps := match Ps.fast 48 (k + 1) with
  | some p => p
  | none => .h
def rw_ (l : List (List AV)) : PT (List AV) := match layRow l 0 .lf with
  | some t => t
  | none => .lf
def hpF : List (Ps × AObj) → Heap → Heap
  | [], H => H
  | (p, o) :: l, H => match PT.put (some o) p H with
    | .lf => .lf
    | .nd a b c => hpF l (.nd a b c)
/-- A memory written out. -/
def hp (l : List (Ps × AObj)) : Heap := hpF l .lf
/-- A call, and what it comes to. -/
structure Chunk where
  f : FuncId
  args : List AV
  x : Ps
  H : Heap
  v : AV
  x' : Ps
  H' : Heap
def ChunkOk (P : Program) (c : Chunk) : Prop := okFn P c.f = true ∧ CallOk P c.f c.args c.x c.H c.v c.x' c.H' ∧ roIn c.H' c.H = true
/-- Does the evaluator say so? -/
def chkC (P : Program) (hk : Hook) (n : Nat) (c : Chunk) : Bool :=
  match evF P hk n (.call c.f c.args) c.x c.H with
  | .val u y K => if eqAV u c.v then (if Ps.eqb y c.x' then (if subH c.H' K then roIn c.H' c.H else false) else false) else false
  | _ => false
theorem chk_ok {P : Program} {hk : Hook} (hhk : HookOk P hk) {n : Nat} {c : Chunk} (h : chkC P hk n c = true) : ChunkOk P c := by
  unfold chkC at h
  split at h
  · rename_i u y K he
    rw [evF_eq] at he
    obtain ⟨h1, h2⟩ := (ev_ok hhk n).1 _ _ _ _ _ _ _ he
    split at h
    · rename_i hu
      split at h
      · rename_i hy
        split at h
        · rename_i hs
          have := eqAV_eq hu
          subst this
          have := Ps.eqb_iff.1 hy
          subst this
          exact ⟨h1, h2.sub (subH_spec hs), h⟩
        · cases h
      · cases h
    · cases h
  · cases h
def lookC : List Chunk → FuncId → List AV → Ps → Heap → Option (AV × Ps × Heap)
  | [], _, _, _, _ => none
  | c :: l, f, args, x, K => if Nat.beq c.f f then (if eqAVs c.args args then (if Nat.ble x.nat c.x.nat then (if subH c.H K then some (c.v, c.x', mergeH c.H' c.H K) else lookC l f args x K) else lookC l f args x K) else lookC l f args x K) else lookC l f args x K
theorem lookC_ok {P : Program} : ∀ {cs : List Chunk}, (∀ c ∈ cs, ChunkOk P c) → ∀ {f : FuncId} {args : List AV} {x : Ps} {K : Heap} {v : AV} {x' : Ps} {H' : Heap}, lookC cs f args x K = some (v, x', H') → okFn P f = true ∧ CallOk P f args x K v x' H'
  | [], _, _, _, _, _, _, _, _, h => by cases h
  | c :: l, hc, f, args, x, K, v, x', H', h => by
    have ih := @lookC_ok P l (fun c h => hc c (List.mem_cons_of_mem _ h)) f args x K v x' H'
    simp only [lookC] at h
    split at h
    · rename_i h1
      split at h
      · rename_i h2
        split at h
        · rename_i h3
          split at h
          · rename_i h4
            obtain ⟨k1, k2, k3⟩ := hc c (by simp)
            have e1 := Nat.eq_of_beq_eq_true h1
            have e2 := eqAVs_eq h2
            subst e1 e2
            cases h
            exact ⟨k1, k2.frame k3 (Nat.le_of_ble_eq_true h3) h4⟩
          · exact ih h
        · exact ih h
      · exact ih h
    · exact ih h
/-- The calls that are known already (mask: of which functions). -/
def hookC (mask : Nat) (cs : List Chunk) : Hook := fun f args x H => if tb mask f then lookC cs f args x H else none
theorem hookC_ok {P : Program} {mask : Nat} {cs : List Chunk} (h : ∀ c ∈ cs, ChunkOk P c) : HookOk P (hookC mask cs) := fun f args x H v x' H' e => by
  unfold hookC at e
  split at e
  · exact lookC_ok h e
  · cases e
def noHook : Hook := fun _ _ _ _ => none
theorem noHook_ok {P : Program} : HookOk P noHook := fun _ _ _ _ _ _ _ e => by cases e
end
end Go.Proofs.YtldjbgklmeigmaaGreatDoor.Ev

namespace Go.Proofs.YtldjbgklmeigmaaGreatDoor.Ev
open Go Go.RowKit
noncomputable section
set_option linter.unusedVariables false

/-- The object, not to be written. -/
def frzO : AObj → AObj
  | .cells e sz _ n t => .cells e sz true n t
  | o => o
def frzV : Option AObj → Option AObj
  | none => none
  | some o => some (frzO o)
def frzH : Heap → Heap
  | .lf => .lf
  | .nd l v r => .nd (frzH l) (frzV v) (frzH r)
theorem get_frzH : ∀ (H : Heap) (n : Ps), PT.get n (frzH H) = (PT.get n H).map frzO
  | .lf, n => by rw [frzH, PT.get_lf]; rfl
  | .nd l v r, .h => by rw [frzH, PT.get_h_nd, PT.get_h_nd]; cases v <;> rfl
  | .nd l v r, .o p => by rw [frzH, PT.get_o_nd, PT.get_o_nd, get_frzH l p]
  | .nd l v r, .i p => by rw [frzH, PT.get_i_nd, PT.get_i_nd, get_frzH r p]
theorem ObjOk.frz {σ : Map} {s : Spot} {w : World} : ∀ {o : AObj}, ObjOk σ s w o → ObjOk σ s w (frzO o)
  | .cells _ _ _ _ _, h => h
  | .map _ _, h => h
  | .iter _ _ _ _, h => h

/-- What names say of a world. -/
structure Stand (P : Program) (σ : Map) (x : Ps) (H : Heap) (w : World) : Prop where
  glob : ∀ g, g < P.globals.size → σ (.of g) = some ⟨g, 0, 0⟩
  low : P.globals.size < x.nat
  fresh : ∀ n s, σ n = some s → n.nat < x.nat
  hfresh : ∀ n o, PT.get n H = some o → n.nat < x.nat
  obj : ∀ n o s, PT.get n H = some o → σ n = some s → ObjOk σ s w o
  inj : ∀ m n o u s t, PT.get m H = some o → PT.get n H = some u → σ m = some s → σ n = some t → s.block = t.block → m = n
theorem Rel.stand {P : Program} {W : World} {Fr : Nat → Prop} {σ : Map} {x : Ps} {H : Heap} {w : World} (h : Rel P W Fr σ x H w) : Stand P σ x H w := ⟨h.glob, h.low, h.fresh, h.hfresh, h.obj, h.inj⟩
theorem Stand.sub {P : Program} {σ : Map} {x : Ps} {H K : Heap} {w : World} (h : Stand P σ x H w) (hk : ∀ n u, PT.get n K = some u → PT.get n H = some u) : Stand P σ x K w :=
  ⟨h.glob, h.low, h.fresh, fun n o e => h.hfresh n o (hk n o e), fun n o s e hs => h.obj n o s (hk n o e) hs, fun m n o u s t e1 e2 => h.inj m n o u s t (hk m o e1) (hk n u e2)⟩
theorem Stand.frz {P : Program} {σ : Map} {x : Ps} {H : Heap} {w : World} (h : Stand P σ x H w) : Stand P σ x (frzH H) w := by
  have key : ∀ n u, PT.get n (frzH H) = some u → ∃ o, PT.get n H = some o ∧ u = frzO o := fun n u e => by
    rw [get_frzH] at e
    cases ho : PT.get n H with
    | none => rw [ho] at e; cases e
    | some o => rw [ho] at e; cases e; exact ⟨o, rfl, rfl⟩
  refine ⟨h.glob, h.low, h.fresh, fun n o e => ?_, fun n o s e hs => ?_, fun m n o u s t e1 e2 hs ht => ?_⟩
  · obtain ⟨o', h1, _⟩ := key n o e; exact h.hfresh n o' h1
  · obtain ⟨o', h1, rfl⟩ := key n o e; exact (h.obj n o' s h1 hs).frz
  · obtain ⟨o', h1, _⟩ := key m o e1
    obtain ⟨u', h2, _⟩ := key n u e2
    exact h.inj m n o' u' s t h1 h2 hs ht
theorem Stand.lt {P : Program} {σ : Map} {x : Ps} {H : Heap} {w : World} (h : Stand P σ x H w) {n : Ps} {o : AObj} {s : Spot} (e : PT.get n H = some o) (hs : σ n = some s) : s.block < w.heap.size := by
  have := h.obj n o s e hs
  cases o with
  | cells => obtain ⟨_, _, _, hh, _⟩ := this; exact (Array.getElem?_eq_some_iff.1 hh).1
  | map => obtain ⟨_, _, hh, _⟩ := this; exact (Array.getElem?_eq_some_iff.1 hh).1
  | iter => obtain ⟨_, _, _, hh⟩ := this; exact (Array.getElem?_eq_some_iff.1 hh).1
/-- It stands as long as its blocks do. -/
theorem Stand.on {P : Program} {σ : Map} {x : Ps} {H : Heap} {w w' : World} (h : Stand P σ x H w) (hb : ∀ b, b < w.heap.size → w'.heap[b]? = w.heap[b]?) : Stand P σ x H w' :=
  ⟨h.glob, h.low, h.fresh, h.hfresh, fun n o s e hs => (h.obj n o s e hs).of_block (hb _ (h.lt e hs)), h.inj⟩
/-- For a call whose memory is all its own. -/
theorem Stand.rel {P : Program} {σ : Map} {x : Ps} {H : Heap} {w : World} (h : Stand P σ x H w) : Rel P w (fun b => b < w.heap.size ∧ ∀ n o s, PT.get n H = some o → o.ro = false → σ n = some s → s.block ≠ b) σ x H w :=
  ⟨h.glob, h.low, h.fresh, h.hfresh, h.obj, h.inj, fun n o s e hr hs hf => hf.2 n o s e hr hs rfl, Nat.le_refl _, fun b hb => hb.1, fun _ _ => rfl, rfl, rfl, rfl⟩

/-- Are the first memory's maps the second's, and does it hold no iterator? -/
def mapsO : Option AObj → Option AObj → Bool
  | some (.map es c), some o => eqObj (.map es c) o
  | some (.map _ _), none => false
  | some (.iter _ _ _ _), _ => false
  | _, _ => true
def mapsIn : Heap → Heap → Bool
  | .lf, _ => true
  | .nd l v r, .lf => if mapsO v none then (if mapsIn l .lf then mapsIn r .lf else false) else false
  | .nd l v r, .nd l' v' r' => if mapsO v v' then (if mapsIn l l' then mapsIn r r' else false) else false
theorem mapsIn_spec : ∀ {H K : Heap}, mapsIn H K = true → ∀ n o, PT.get n H = some o → (∃ e sz r k t, o = .cells e sz r k t) ∨ (∃ es c, o = .map es c ∧ PT.get n K = some (.map es c)) := by
  have base : ∀ {v v' : Option AObj} {o : AObj}, mapsO v v' = true → v = some o → (∃ e sz r k t, o = .cells e sz r k t) ∨ (∃ es c, o = .map es c ∧ v' = some (.map es c)) := by
    intro v v' o h hv
    subst hv
    cases o with
    | cells e sz r k t => exact .inl ⟨_, _, _, _, _, rfl⟩
    | iter => cases v' <;> simp [mapsO] at h
    | map es c =>
      cases v' with
      | none => simp [mapsO] at h
      | some o' =>
        have e := eqObj_eq (a := .map es c) (b := o') (by simpa [mapsO] using h)
        exact .inr ⟨es, c, rfl, by rw [e]⟩
  intro H
  induction H with
  | lf => intro K h n o e; rw [PT.get_lf] at e; cases e
  | nd l v r ihl ihr =>
    intro K h n o e
    cases K with
    | lf =>
      simp only [mapsIn] at h
      split at h
      · rename_i hv
        split at h
        · rename_i hl
          cases n with
          | h => rw [PT.get_h_nd] at e; have := base hv e; simpa [PT.get_lf] using this
          | o p => rw [PT.get_o_nd] at e; simpa [PT.get_lf] using ihl hl p o e
          | i p => rw [PT.get_i_nd] at e; simpa [PT.get_lf] using ihr h p o e
        · cases h
      · cases h
    | nd l' v' r' =>
      simp only [mapsIn] at h
      split at h
      · rename_i hv
        split at h
        · rename_i hl
          cases n with
          | h => rw [PT.get_h_nd] at e ⊢; exact base hv e
          | o p => rw [PT.get_o_nd] at e ⊢; exact ihl hl p o e
          | i p => rw [PT.get_i_nd] at e ⊢; exact ihr h p o e
        · cases h
      · cases h

theorem Ents.det {σ τ : Map} (h : Ext σ τ) {es : List (AV × AV × Nat)} {l l' : List MapEntry} (h1 : Ents σ es l) (h2 : Ents τ es l') : l = l' := by
  induction h1 generalizing l' with
  | nil => cases h2; rfl
  | @cons k v b m es l a1 a2 a3 hh ih =>
    cases h2 with
    | @cons _ _ _ m' _ l2 b1 b2 b3 hh' =>
      rw [ih hh']
      have e1 := conc_mono h _ _ a1
      have e2 := conc_mono h _ _ a2
      rw [e1] at b1
      rw [e2] at b2
      have : m = m' := by
        cases m; cases m'
        simp_all
      rw [this]
/-- A call that reads a memory that is not to be written: the world below is as it was. -/
theorem read_call {P : Program} {c : Chunk} (hc : ChunkOk P c) {H : Heap} (hH : c.H = frzH H) (hm : mapsIn c.H c.H' = true) {σ : Map} {w : World} (h : Stand P σ c.x H w) {us : List Value} (hu : concL σ c.args = some us) :
    Calls P c.f us.toArray w fun e w' => ∃ τ u, Ext σ τ ∧ conc τ c.v = some u ∧ e = .returned u ∧ Below w.heap.size w w' ∧ Stand P τ c.x' c.H' w' := by
  have hs := h.frz
  rw [← hH] at hs
  refine (hc.2.1.2 w _ σ w us hs.rel hu).mono fun e w' hq => ?_
  obtain ⟨τ, u, q1, q2, q3, rfl⟩ := hq
  refine ⟨τ, u, q1.ext, q3, rfl, ⟨q2.os, q2.tape, q2.output, q2.size, fun b hb => ?_⟩, q2.stand⟩
  by_cases hf : ∀ n o s, PT.get n c.H = some o → o.ro = false → σ n = some s → s.block ≠ b
  · exact q2.frame b ⟨hb, hf⟩
  · simp only [Classical.not_forall] at hf
    obtain ⟨n, o, s, e1, e2, e3, e4⟩ := hf
    have e4 : s.block = b := Classical.not_not.1 e4
    subst e4
    rcases mapsIn_spec hm n o e1 with ⟨e, sz, r, k, t, rfl⟩ | ⟨es, cl, rfl, e5⟩
    · exfalso
      rw [hH, get_frzH] at e1
      cases ho : PT.get n H with
      | none => rw [ho] at e1; cases e1
      | some o' =>
        rw [ho] at e1
        cases o' with
        | cells a1 a2 a3 a4 a5 =>
          simp only [frzO, Option.map_some, Option.some.injEq, AObj.cells.injEq] at e1
          obtain ⟨_, _, hr, _⟩ := e1
          subst hr
          simp [AObj.ro] at e2
        | map => simp [frzO] at e1
        | iter => simp [frzO] at e1
    · obtain ⟨_, l, h1, h2, h3⟩ := hs.obj n _ s e1 e3
      obtain ⟨_, l', k1, k2, k3⟩ := q2.obj n _ s e5 (q1.ext n s e3)
      rw [h1, k1, Ents.det q1.ext (Ents.of h2 h3) (Ents.of k2 k3)]

/-- No names but the variables'. -/
def sig0 (P : Program) : Map := fun n => if n.nat ≤ P.globals.size then some ⟨n.nat - 1, 0, 0⟩ else none
theorem sig0_glob (P : Program) {g : Nat} (h : g < P.globals.size) : sig0 P (.of g) = some ⟨g, 0, 0⟩ := by
  unfold sig0
  rw [Ps.nat_of, if_pos (by omega), Nat.add_sub_cancel]
theorem stand0 (P : Program) {x : Ps} (hx : P.globals.size < x.nat) (w : World) : Stand P (sig0 P) x .lf w :=
  ⟨fun g h => sig0_glob P h, hx, fun n s e => (by
    unfold sig0 at e
    split at e
    · omega
    · cases e), fun n o e => (by rw [PT.get_lf] at e; cases e), fun n o s e => (by rw [PT.get_lf] at e; cases e), fun m n o u s t e => (by rw [PT.get_lf] at e; cases e)⟩
/-- One more name, for a block. -/
theorem stand1 {P : Program} {σ : Map} {x : Ps} {w : World} (h : Stand P σ x .lf w) {o : AObj} {s : Spot} (ho : ObjOk (σ.upd x s) s w o) : Stand P (σ.upd x s) x.succ (PT.put (some o) x .lf) w := by
  have hn : σ x = none := by
    cases e : σ x with
    | none => rfl
    | some s' => have := h.fresh x s' e; omega
  have hnx : x.succ.nat = x.nat + 1 := Ps.nat_succ x
  have key : ∀ n u, PT.get n (PT.put (some o) x .lf) = some u → n = x ∧ u = o := fun n u e => by
    rw [PT.get_put, PT.get_lf] at e
    split at e
    · rename_i hnx; cases e; exact ⟨hnx, rfl⟩
    · cases e
  refine ⟨fun g hg => Map.upd_ext hn _ _ (h.glob g hg), by have := h.low; omega, fun n t e => ?_, fun n u e => ?_, fun n u t e ht => ?_, fun m n a b t1 t2 e1 e2 _ _ _ => ?_⟩
  · unfold Map.upd at e
    split at e
    · rename_i hnx'; rw [hnx']; omega
    · have := h.fresh n t e; omega
  · rw [(key n u e).1]; omega
  · obtain ⟨rfl, rfl⟩ := key n u e
    rw [Map.upd_same] at ht
    cases ht
    exact ho
  · rw [(key m a e1).1, (key n b e2).1]
end
end Go.Proofs.YtldjbgklmeigmaaGreatDoor.Ev

namespace Go.Proofs.YtldjbgklmeigmaaGreatDoor.Ev
open Go Go.RowKit
noncomputable section
theorem own_call {P : Program} {c : Chunk} (hc : ChunkOk P c) {σ : Map} {w : World} (h : Stand P σ c.x c.H w) {us : List Value} (hu : concL σ c.args = some us) :
    Calls P c.f us.toArray w fun e w' => ∃ τ u, Ext σ τ ∧ conc τ c.v = some u ∧ e = .returned u ∧ w'.os = w.os ∧ w'.tape = w.tape ∧ w'.output = w.output ∧ w.heap.size ≤ w'.heap.size ∧
      (∀ b, b < w.heap.size → (∀ n o s, PT.get n c.H = some o → o.ro = false → σ n = some s → s.block ≠ b) → w'.heap[b]? = w.heap[b]?) ∧ Stand P τ c.x' c.H' w' := by
  refine (hc.2.1.2 w _ σ w us h.rel hu).mono fun e w' hq => ?_
  obtain ⟨τ, u, q1, q2, q3, rfl⟩ := hq
  exact ⟨τ, u, q1.ext, q3, rfl, q2.os, q2.tape, q2.output, q2.size, fun b hb hf => q2.frame b ⟨hb, hf⟩, q2.stand⟩
end
end Go.Proofs.YtldjbgklmeigmaaGreatDoor.Ev
