/- Several texts in one: Plain laws of getting and setting at a path. Helper text: the lists of several boxes gathered, box by box, and held apart; what Get and Set answer of two values. Helper text: the walk over parts of the statements: the same count as the reference's Size at one less. Conditions: none. -/
import Derived.Test.YtnmnmkdmnohbmaaDoorPut
import Derived.Test.YtnmnmkdmnohbmaaDoorUnder
import Derived.Test.YtnmnmkdmnohbmaaDoorPenT
import Derived.Test.YtnmnmkdmnohbmaaDoorGather
import Derived.Test.YtnmnmkdmnohbmaaDoorWholeW
import Derived.Test.YtnmnmkdmnohbmaaDoorRefSet
import Derived.Test.YtnmnmkdmnohbmaaDoorRefGet
import Derived.Test.YtnmnmkdmnohbmaaDoorSet
import Derived.Test.YtnmnmkdmnohbmaaDoorSize
namespace Go.Proofs.YtnmnmkdmnohbmaaDoor
open Go.RowKit

theorem names_modify (l : List (ByteArray × V)) (n : Nat) (x : V) : (l.modify n (fun y => (y.1, x))).map (·.1) = l.map (·.1) := by
  induction l generalizing n with
  | nil => cases n <;> rfl
  | cons a r ih => cases n <;> simp [ih]

theorem findIdx_names {l l' : List (ByteArray × V)} (h : l.map (·.1) = l'.map (·.1)) (nm : ByteArray) : l.findIdx? (nameIs nm) = l'.findIdx? (nameIs nm) := by
  have e : ∀ m : List (ByteArray × V), m.findIdx? (nameIs nm) = (m.map (·.1)).findIdx? (fun b => b.toList == nm.toList) := by
    intro m
    rw [List.findIdx?_map]
    rfl
  rw [e, e, h]

theorem childIx_putC (v : V) (s : St) (x : V) (s' : St) : childIx (putC v s x) s' = childIx v s' := by
  obtain ⟨k, b, i, f, t, ty, its, fs⟩ := v
  unfold putC
  cases hc : childIx (.mk k b i f t ty its fs) s with
  | none => rfl
  | some n =>
    by_cases hit : s.it = true
    · simp only [hit, if_true, childIx, V.kind, V.its, V.fs, List.length_set]
      rfl
    · simp only [hit, Bool.false_eq_true, if_false, childIx, V.kind, V.its, V.fs]
      rw [findIdx_names (names_modify fs n x)]
      rfl

/-- The two ways in which a step leads to a child. -/
theorem child_cases {v : V} {s : St} {c : V} (h : child v s = some c) :
    ∃ k b i f t ty its fs n, v = .mk k b i f t ty its fs ∧ childIx v s = some n ∧
      ((s.it = true ∧ its[n]? = some c ∧ ∀ x, putC v s x = .mk k b i f t ty (its.set n x) fs) ∨
       (s.it = false ∧ ∃ nm, fs[n]? = some (nm, c) ∧ ∀ x, putC v s x = .mk k b i f t ty its (fs.modify n (fun y => (y.1, x))))) := by
  obtain ⟨k, b, i, f, t, ty, its, fs⟩ := v
  unfold child at h
  cases hc : childIx (.mk k b i f t ty its fs) s with
  | none => rw [hc] at h; cases h
  | some n =>
    rw [hc] at h
    refine ⟨k, b, i, f, t, ty, its, fs, n, rfl, rfl, ?_⟩
    by_cases hit : s.it = true
    · simp only [Option.bind_some, hit, if_true, V.its] at h
      exact .inl ⟨hit, h, fun x => by simp only [putC, hc, hit, if_true]⟩
    · simp only [Option.bind_some, hit, Bool.false_eq_true, if_false, V.fs] at h
      obtain ⟨y, hy, rfl⟩ : ∃ y, fs[n]? = some y ∧ y.2 = c := by simpa using h
      exact .inr ⟨by simpa using hit, y.1, hy, fun x => by simp only [putC, hc, hit, Bool.false_eq_true, if_false]⟩

theorem child_putC {v : V} {s : St} {c : V} (h : child v s = some c) (x : V) : child (putC v s x) s = some x := by
  have hix := childIx_putC v s x s
  obtain ⟨k, b, i, f, t, ty, its, fs, n, rfl, hn, ⟨hit, hg, hp⟩ | ⟨hit, nm, hg, hp⟩⟩ := child_cases h
  · have hlt := (List.getElem?_eq_some_iff.1 hg).1
    unfold child
    rw [hix, hn, hp]
    simp [hit, V.its, List.getElem?_set, hlt]
  · unfold child
    rw [hix, hn, hp]
    simp [hit, V.fs, List.getElem?_modify, hg]

theorem putC_putC {v : V} {s : St} {c : V} (h : child v s = some c) (x y : V) : putC (putC v s x) s y = putC v s y := by
  have hix := childIx_putC v s x s
  obtain ⟨k, b, i, f, t, ty, its, fs, n, rfl, hn, ⟨hit, hg, hp⟩ | ⟨hit, nm, hg, hp⟩⟩ := child_cases h
  · rw [hp, hn] at hix
    rw [hp, hp]
    simp only [putC, hix, hit, if_true, List.set_set]
  · rw [hp, hn] at hix
    rw [hp, hp]
    simp only [putC, hix, hit, Bool.false_eq_true, if_false]
    congr 1
    apply List.ext_getElem?
    intro j
    simp only [List.getElem?_modify]
    cases fs[j]? <;> simp
    split <;> rfl

theorem putC_same {v : V} {s : St} {c : V} (h : child v s = some c) : putC v s c = v := by
  obtain ⟨k, b, i, f, t, ty, its, fs, n, rfl, hn, ⟨hit, hg, hp⟩ | ⟨hit, nm, hg, hp⟩⟩ := child_cases h
  · obtain ⟨hlt, rfl⟩ := List.getElem?_eq_some_iff.1 hg
    rw [hp, List.set_getElem_self]
  · rw [hp]
    congr 1
    apply List.ext_getElem?
    intro j
    simp only [List.getElem?_modify]
    by_cases hj : n = j
    · subst hj; simp [hg]
    · simp [hj]

theorem bytes_ext {a b : ByteArray} (h : a.toList = b.toList) : nameIs a = nameIs b := by
  funext x
  simp only [nameIs, h]

/-- Steps that are one in order lead to one child. -/
theorem childIx_eq {v : V} {s s' : St} (h : stepOrd s s' = 0) : childIx v s = childIx v s' ∧ s.it = s'.it := by
  obtain ⟨h1, h2, h3⟩ := stepOrd_zero.1 h
  obtain ⟨nm, ix, it⟩ := s
  obtain ⟨nm', ix', it'⟩ := s'
  cases it <;> cases it' <;> simp [bareS] at h1 h2 h3
  · exact ⟨by simp only [childIx, Bool.false_eq_true, if_false, bytes_ext h1], rfl⟩
  · subst h2; exact ⟨rfl, rfl⟩

theorem child_eq {v : V} {s s' : St} (h : stepOrd s s' = 0) : child v s = child v s' := by
  obtain ⟨h1, h2⟩ := childIx_eq (v := v) h
  unfold child
  rw [h1, h2]

theorem name_at {l : List (ByteArray × V)} {nm : ByteArray} {n : Nat} (h : l.findIdx? (nameIs nm) = some n) : ∃ y, l[n]? = some y ∧ y.1.toList = nm.toList := by
  rw [List.findIdx?_eq_some_iff_getElem] at h
  obtain ⟨hn, hy, _⟩ := h
  exact ⟨_, List.getElem?_eq_getElem hn, by simpa [nameIs] using hy⟩

theorem child_other {v : V} {s s' : St} {c : V} (h : child v s = some c) (hs : ¬ stepOrd s s' = 0) (x : V) : child (putC v s x) s' = child v s' := by
  have hix := childIx_putC v s x s'
  obtain ⟨k, b, i, f, t, ty, its, fs, n, rfl, hn, ⟨hit, hg, hp⟩ | ⟨hit, nm, hg, hp⟩⟩ := child_cases h
  · unfold child
    rw [hix, hp]
    cases hn' : childIx (.mk k b i f t ty its fs) s' with
    | none => rfl
    | some n' =>
      by_cases hit' : s'.it = true
      · simp only [Option.bind_some, hit', if_true, V.its]
        have hne : n ≠ n' := by
          rintro rfl
          apply hs
          unfold stepOrd
          simp only [hit, hit', Bool.not_true, Bool.and_false, Bool.false_eq_true, if_false, if_true]
          rw [cmpI_zero]
          simp only [childIx, hit, hit', if_true] at hn hn'
          split at hn <;> split at hn' <;> simp_all
          omega
        rw [List.getElem?_set_ne hne]
      · simp only [Option.bind_some, hit', Bool.false_eq_true, if_false, V.fs]
  · unfold child
    rw [hix, hp]
    cases hn' : childIx (.mk k b i f t ty its fs) s' with
    | none => rfl
    | some n' =>
      by_cases hit' : s'.it = true
      · simp only [Option.bind_some, hit', if_true, V.its]
      · simp only [Option.bind_some, hit', Bool.false_eq_true, if_false, V.fs]
        have hne : n ≠ n' := by
          rintro rfl
          apply hs
          unfold stepOrd
          have hit2 : s'.it = false := by simpa using hit'
          simp only [hit, hit2, Bool.and_true, Bool.not_false, Bool.false_eq_true, if_false]
          rw [cmpS_zero]
          simp only [childIx, hit, hit', Bool.false_eq_true, if_false] at hn hn'
          by_cases hk : kd (V.mk k b i f t ty its fs).kind = 6
          case neg => rw [if_neg hk] at hn; cases hn
          rw [if_pos hk] at hn hn'
          obtain ⟨y, hy, e1⟩ := name_at hn
          obtain ⟨y', hy', e2⟩ := name_at hn'
          rw [hy] at hy'
          cases hy'
          rw [← e1, ← e2]
        rw [List.getElem?_modify]
        simp [hne]

theorem set_isSome : ∀ (l : List St) (v x : V), (setV v l x).isSome = (getV v l).isSome
  | [], _, _ => rfl
  | s :: r, v, x => by
    unfold setV getV
    cases hc : child v s with
    | none => rfl
    | some c => simpa using set_isSome r c x

theorem get_set : ∀ (l : List St) {v x y : V}, setV v l x = some y → getV y l = some x
  | [], v, x, y, h => by unfold setV at h; unfold getV; exact h.symm ▸ rfl
  | s :: r, v, x, y, h => by
    unfold setV at h
    cases hc : child v s with
    | none => rw [hc] at h; cases h
    | some c =>
      rw [hc] at h
      obtain ⟨z, hz, rfl⟩ : ∃ z, setV c r x = some z ∧ putC v s z = y := by simpa using h
      unfold getV
      rw [child_putC hc]
      exact get_set r hz

theorem set_same : ∀ (l : List St) {v u : V}, getV v l = some u → setV v l u = some v
  | [], v, u, h => by unfold getV at h; unfold setV; exact h.symm
  | s :: r, v, u, h => by
    unfold getV at h
    unfold setV
    cases hc : child v s with
    | none => rw [hc] at h; cases h
    | some c =>
      rw [hc] at h
      simp [set_same r (show getV c r = some u from h), putC_same hc]

theorem set_back : ∀ (l : List St) {v u x y : V}, getV v l = some u → setV v l x = some y → setV y l u = some v
  | [], v, u, x, y, h, _ => by unfold getV at h; unfold setV; exact h.symm
  | s :: r, v, u, x, y, h, h' => by
    unfold getV at h
    unfold setV at h' ⊢
    cases hc : child v s with
    | none => rw [hc] at h; cases h
    | some c =>
      rw [hc] at h h'
      obtain ⟨z, hz, rfl⟩ : ∃ z, setV c r x = some z ∧ putC v s z = y := by simpa using h'
      rw [child_putC hc]
      simp [set_back r (show getV c r = some u from h) hz, putC_putC hc, putC_same hc]

theorem stepOrd_symm {s s' : St} (h : stepOrd s s' = 0) : stepOrd s' s = 0 := by
  obtain ⟨h1, h2, h3⟩ := stepOrd_zero.1 h
  exact stepOrd_zero.2 ⟨h1.symm, h2.symm, h3.symm⟩

theorem underP_nil (a : List St) : underP a [] = true := by simp [underP, cmpP]
theorem underP_cons {s s' : St} {a b : List St} (h : stepOrd s s' = 0) : underP (s :: a) (s' :: b) = underP a b := by
  simp [underP, cmpP, h]

theorem get_other : ∀ (l m : List St) {v x y : V}, setV v l x = some y → underP l m = false → underP m l = false → getV y m = getV v m
  | [], m, _, _, _, _, _, h2 => by rw [underP_nil] at h2; cases h2
  | _ :: _, [], _, _, _, _, h1, _ => by rw [underP_nil] at h1; cases h1
  | s :: r, s' :: r', v, x, y, h, h1, h2 => by
    unfold setV at h
    cases hc : child v s with
    | none => rw [hc] at h; cases h
    | some c =>
      rw [hc] at h
      obtain ⟨z, hz, rfl⟩ : ∃ z, setV c r x = some z ∧ putC v s z = y := by simpa using h
      unfold getV
      by_cases hs : stepOrd s s' = 0
      · rw [underP_cons hs] at h1
        rw [underP_cons (stepOrd_symm hs)] at h2
        rw [← child_eq hs, ← child_eq hs, child_putC hc, hc]
        exact get_other r r' hz h1 h2
      · rw [child_other hc hs]

theorem szVs_set {l : List V} {n : Nat} {c x : V} (h : l[n]? = some c) : szV.szVs (l.set n x) + szV c = szV.szVs l + szV x := by
  induction l generalizing n with
  | nil => simp at h
  | cons a r ih =>
    cases n with
    | zero => simp at h; subst h; simp only [List.set_cons_zero, szV.szVs]; omega
    | succ n => simp at h; simp only [List.set_cons_succ, szV.szVs]; have := ih h; omega

theorem szFs_modify {l : List (ByteArray × V)} {n : Nat} {nm : ByteArray} {c x : V} (h : l[n]? = some (nm, c)) : szV.szFs (l.modify n (fun y => (y.1, x))) + szV c = szV.szFs l + szV x := by
  induction l generalizing n with
  | nil => simp at h
  | cons a r ih =>
    cases n with
    | zero => simp at h; subst h; simp only [List.modify_zero_cons, szV.szFs]; omega
    | succ n => simp at h; simp only [List.modify_succ_cons, szV.szFs]; have := ih h; omega

theorem szV_set : ∀ (l : List St) {v x y : V}, setV v l x = some y → szV y ≤ szV v + szV x
  | [], v, x, y, h => by obtain rfl : x = y := by simpa [setV] using h
                         omega
  | s :: r, v, x, y, h => by
    unfold setV at h
    cases hc : child v s with
    | none => rw [hc] at h; cases h
    | some c =>
      rw [hc] at h
      obtain ⟨z, hz, rfl⟩ : ∃ z, setV c r x = some z ∧ putC v s z = y := by simpa using h
      have hzs := szV_set r hz
      obtain ⟨k, b, i, f, t, ty, its, fs, n, rfl, hn, ⟨hit, hg, hp⟩ | ⟨hit, nm, hg, hp⟩⟩ := child_cases hc
      · rw [hp]
        have := szVs_set (x := z) hg
        simp only [szV, List.length_set]; omega
      · rw [hp]
        have := szFs_modify (x := z) hg
        simp only [szV, List.length_modify]; omega

end Go.Proofs.YtnmnmkdmnohbmaaDoor

namespace Go.Proofs.YtnmnmkdmnohbmaaDoor
open Go Go.RowKit

/-- Some boxes' lists are gathered, those of r are still to be. -/
def GS (W0 : World) (B H : Nat) (r : List Pen) (eI eF : List Ent) (w : World) : Prop :=
  ∃ dI dF rI rF s0 s1, Held2 w B H s0 s1 (.slice none 0 0) (.slice none 0 0) (dI.map Ent.ptr) (dF.map Ent.ptr) ∧ Below B W0 w ∧ LaidAll W0 r rI rF ∧ eI = dI ++ rI ∧ eF = dF ++ rF
theorem GS.start {W : World} {L : List Pen} {eI eF : List Ent} (hl : LaidAll W L eI eF) : GS W W.heap.size W.heap.size L eI eF (W.alloc (.cells #[.slice none 0 0, .slice none 0 0, .slice none 0 0, .slice none 0 0] 49)) :=
  ⟨[], [], eI, eF, .slice none 0 0, .slice none 0 0, ⟨heap_new W _, World.ownsRow_nil _ _ _ _, World.ownsRow_nil _ _ _ _, Nat.le_refl _, by simp [Value.ownBlock], by simp [Value.ownBlock], .inl rfl, .inl rfl⟩, (Below.refl _ W).alloc (Nat.le_refl _) _, hl, rfl, rfl⟩
theorem gather_step {W0 : World} {B H : Nat} {x : Pen} {r : List Pen} {eI eF : List Ent} {w : World} (h : GS W0 B H (x :: r) eI eF w) (lt : ∀ b ∈ pensBlocks (x :: r), b < B) (hB : B ≤ W0.heap.size) (l0 : eI.length ≤ 500000000) (l1 : eF.length ≤ 500000000) (hz : szV x.v ≤ 500000000) :
    Calls Tryd.prog 24 #[.pointer (some ⟨H, 0, none⟩), .pointer (some ⟨x.g, 0, none⟩)] w (fun e w' => e = .returned (.tuple #[]) ∧ GS W0 B H r eI eF w') := by
  obtain ⟨dI, dF, rI, rF, s0, s1, hh, hb, hl, rfl, rfl⟩ := h
  obtain ⟨i1, f1, i2, f2, rfl, rfl, h1, h2, h3⟩ := hl
  have hg : x.g < B := lt _ (by simp [pensBlocks])
  have hbs : ∀ b, b ∈ blks i1 ∨ b ∈ blks f1 → b < B := fun b hb' => lt b (by
    have : b ∈ x.bs := h2.mem_iff.1 (List.mem_append.2 hb')
    simp [pensBlocks, this])
  refine (gather_any _ x.v (Nat.le_refl _) x.g 0 B H s0 s1 _ _ _ _ i1 f1 w (h1.below hb hg hbs) hg hbs (Nat.le_trans hB hb.size) hh (by simp only [List.length_map, List.length_append] at *; omega) (by simp only [List.length_map, List.length_append] at *; omega)).mono ?_
  rintro e w' ⟨rfl, ⟨s0', s1', hh'⟩, hb'⟩
  exact ⟨rfl, dI ++ i1, dF ++ f1, i2, f2, s0', s1', by simpa using hh', hb.trans hb', h3, by simp, by simp⟩
theorem laidAll_len {W : World} {S : Nat} : ∀ {L : List Pen} {eI eF : List Ent}, LaidAll W L eI eF → (∀ x ∈ L, szV x.v ≤ S) → eI.length ≤ L.length * S ∧ eF.length ≤ L.length * S ∧ ∀ e, e ∈ eI ∨ e ∈ eF → e.n ≤ S
  | [], _, _, h, _ => by rw [h.1, h.2]; simp
  | x :: r, eI, eF, h, hs => by
    obtain ⟨i1, f1, i2, f2, rfl, rfl, h1, _, h3⟩ := h
    have a1 := laid_len h1
    have a2 := laid_ns h1
    obtain ⟨b1, b2, b3⟩ := laidAll_len h3 (fun y hy => hs y (by simp [hy]))
    have hx := hs x (by simp)
    simp only [List.length_append, List.length_cons, Nat.add_mul, Nat.one_mul]
    refine ⟨by omega, by omega, fun e he => ?_⟩
    simp only [List.mem_append] at he
    rcases he with (h | h) | (h | h)
    · have := a2 e (.inl h); omega
    · exact b3 e (.inl h)
    · have := a2 e (.inr h); omega
    · exact b3 e (.inr h)
/-- All gathered: nothing is shared. -/
theorem apart_gs {W0 w : World} {B0 H : Nat} {L : List Pen} {eI eF : List Ent} (hl : LaidAll W0 L eI eF) (hF : Four W0 eI eF [] []) (hbad : ∀ b, Bad eI eF [] [] b → B0 ≤ b ∧ b < W0.heap.size) (h : GS W0 W0.heap.size H [] eI eF w) (hB : B0 ≤ W0.heap.size)
    (hs : ∀ x ∈ L, szV x.v ≤ 1000000) (hL : L.length ≤ 100) (htab : ∀ W, Below B0 w W → Lib.TabIs Tryd.prog W "internal/strconv.uint64pow10" .u64 Lib.pow10Tab) :
    Calls Tryd.prog 25 #[.pointer (some ⟨H, 0, none⟩)] w (fun e w' => e = .returned (.bool true) ∧ Below B0 w w') := by
  obtain ⟨dI, dF, rI, rF, s0, s1, hh, hb, ⟨rfl, rfl⟩, rfl, rfl⟩ := h
  simp only [List.append_nil] at *
  obtain ⟨a1, a2, a3⟩ := laidAll_len hl hs
  have := Nat.mul_le_mul_right 1000000 hL
  exact apart_any w H B0 _ _ _ _ dI dF [] [] (hF.below hb) (hh.four (fun b hb' => (hbad b hb').2)) (by omega) (by omega) (by simp) (by simp) (fun e he => by have := a3 e (.inl he); omega) (fun e he => by have := a3 e (.inr he); omega) (by simp) (by simp) (Nat.le_trans hB hb.size) (fun b hb' => (hbad b hb').1) htab

/-- A value and whether, in memory of its own. -/
def BoxPost (v : V) (ok : Bool) (w : World) (e : Ending) (w' : World) : Prop :=
  ∃ cs bs, e = .returned (.tuple #[.agg cs, .bool ok]) ∧ OwnV w' v cs bs ∧ bs.Nodup ∧ (∀ x ∈ bs, w.heap.size ≤ x ∧ x < w'.heap.size) ∧ Below w.heap.size w w'
theorem okV0 : okV V0 := by simp [V0, okV, okVs, okFs]
theorem get_set_boxes (x y : V) (path : List St) (pp : Option Addr) (cap : Nat) (hx : szV x ≤ 9999) (hy : szV y ≤ 9999) (ox : okV x) (oy : okV y) (lc : path.length ≤ cap) (lm : cap ≤ maxLen) :
    ∃ gv sv ok, okV gv ∧ okV sv ∧ szV gv ≤ 20000 ∧ szV sv ≤ 20000 ∧
      (∀ cs w, IsV w.heap.size w x cs → StepsAt w.heap.size w pp path → Calls Tryd.prog 20 #[.agg cs, .slice pp path.length cap] w (BoxPost gv ok w)) ∧
      (∀ cs w, IsV w.heap.size w x cs → StepsAt w.heap.size w pp path → Calls Tryd.prog 23 #[.agg cs, .slice pp path.length cap] w (BoxPost gv ok w)) ∧
      (∀ cs cs' w, IsV w.heap.size w x cs → IsV w.heap.size w y cs' → StepsAt w.heap.size w pp path → Calls Tryd.prog 21 #[.agg cs, .slice pp path.length cap, .agg cs'] w (BoxPost sv ok w)) ∧
      (∀ cs cs' w, IsV w.heap.size w x cs → IsV w.heap.size w y cs' → StepsAt w.heap.size w pp path → Calls Tryd.prog 18 #[.agg cs, .slice pp path.length cap, .agg cs'] w (BoxPost sv ok w)) := by
  refine ⟨(getV x path).getD V0, (setV x path y).getD V0, (getV x path).isSome, ?_, ?_, ?_, ?_, fun cs w hv hp => Get_any x path cs pp cap w hv hp (Nat.le_trans lc lm) (by omega), fun cs w hv hp => refGet_any x path cs pp cap w hv hp (Nat.le_trans lc lm) (by omega), fun cs cs' w hv hv' hp => ?_, fun cs cs' w hv hv' hp => ?_⟩
  · cases h : getV x path with
    | none => exact okV0
    | some u => exact (getV_size h).2 ox
  · cases h : setV x path y with
    | none => exact okV0
    | some u => exact okV_setV ox oy h
  · cases h : getV x path with
    | none => simp [V0, szV, szV.szVs, szV.szFs]
    | some u => have := (getV_size h).1; simp; omega
  · cases h : setV x path y with
    | none => simp [V0, szV, szV.szVs, szV.szFs]
    | some u => have := szV_set path h; simp; omega
  · rw [← set_isSome path x y]
    exact Set_any x path y cs cs' pp cap w hv hv' hp (Nat.le_trans lc lm) (by omega) (by omega)
  · rw [← set_isSome path x y]
    exact refSet_any path x y cs cs' pp cap w hv hv' hp lc lm (by omega) (by omega)
end Go.Proofs.YtnmnmkdmnohbmaaDoor

namespace Go.Proofs.YtnmnmkdmnohbmaaDoor
open Go.RowKit

set_option maxRecDepth 100000 in
set_option maxHeartbeats 1000000 in
theorem lawParts_any : ∀ (N : Nat) (v : V), szV v ≤ N → ∀ (cs : Array Value) (w : World) (most : Int), IsV w.heap.size w v cs → 1 ≤ most → most ≤ 1000000 →
    Calls Tryd.prog 16 #[.agg cs, .int .i64 most] w (RetB (.int .i64 (sizeR v (most - 1))) w) := by
  intro N
  induction N with
  | zero => intro v hv; have := szV_pos v; omega
  | succ N ih =>
    intro v hN cs w most hv hm0 hm1
    obtain ⟨k, b, i, f, t, ty, its, fs⟩ := v
    have hv0 := hv
    obtain ⟨p, c, q, d, rfl, hi, hf, l1, l2⟩ := hv
    unfold lenMax at l1 l2
    have IH := Lib.hid ih
    have HV := Lib.hid hv0
    have HI := Lib.hid hi
    have HF := Lib.hid hf
    have HN := Lib.hid hN
    clear ih hv0 hi hf hN
    go_enter Tryd.func16, Tryd.ntmps16
    go_wp2_with fail
    have hal := cellsAt_alloc w (vcells k b i f t ty p its.length c q fs.length d) 27 (0, 0)
    have hwa : Below w.heap.size w (w.alloc (.cells (vcells k b i f t ty p its.length c q fs.length d) 27)) := (Below.refl _ _).alloc (Nat.le_refl _) _
    have hsz : w.heap.size < (w.alloc (.cells (vcells k b i f t ty p its.length c q fs.length d) 27)).heap.size := by simp
    obtain ⟨wa, hW⟩ : ∃ wa, w.alloc (.cells (vcells k b i f t ty p its.length c q fs.length d) 27) = wa := ⟨_, rfl⟩
    rw [hW] at hal hwa hsz ⊢
    clear hW
    go_loopw [5, 6] (fun n ii wr => ∃ j : Nat, j ≤ its.length ∧ ii = .int .i64 j ∧ ∃ nn : Int, n = .int .i64 nn ∧ 1 ≤ nn ∧ nn ≤ most + 8796093022208 ∧ Hid (sizeIs (its.drop j) (most - 1) nn = sizeIs its (most - 1) (1 + its.length + fs.length)) ∧ Below wa.heap.size wa wr) (fun _ ii _ => its.length - (intOf ii).toNat)
    case atStart => exact ⟨0, by omega, rfl, _, rfl, by omega, by omega, rfl, Below.refl _ _⟩
    case round =>
      obtain ⟨j, hj, rfl, nn, rfl, hn1, hn2, hrel, hbel⟩ := hrel
      obtain ⟨_, _, _, _, _, _, e6, e7⟩ := (hal.below hbel hsz).all0
      by_cases h1 : j < its.length
      · by_cases h2 : nn < most
        · obtain ⟨x, hx⟩ : ∃ x, its[j]? = some x := ⟨its[j], by simp [h1]⟩
          obtain hi := HI.out
          rcases hi with hi | ⟨g, o, rfl, hg, hvs⟩
          · subst hi; simp at h1
          obtain ⟨csx, hcx, hvx⟩ := hvs.get hx
          have hbw := hwa.trans (hbel.mono hwa.size)
          have hcx' := hcx.below hbw hg
          have hvx' := hvx.on hbw
          have hle := sizeR_le hvx (most - 1 - nn) (by omega)
          have hpos := sizeR_pos x (most - 1 - nn)
          have hxN : szV x ≤ N := by
            have := szVs_get hx
            have := HN.out
            simp only [szV] at this
            omega
          have hstep : sizeIs (its.drop (j + 1)) (most - 1) (nn + sizeR x (most - 1 - nn)) = sizeIs its (most - 1) (1 + its.length + fs.length) := by
            rw [← hrel.out, drop_some hx, sizeIs, if_pos (by omega)]
          have hc := IH.out x hxN csx wr (most - nn) hvx' (by omega) (by omega)
          rw [show most - nn - 1 = most - 1 - nn by omega] at hc
          have HC := Lib.hid hc
          have HSTEP := Lib.hid hstep
          obtain ⟨xk, xb, xi, xf, xt, xty, xits, xfs⟩ := x
          obtain ⟨xp, xc, xq, xd, rfl, _, _, _, _⟩ := hvx
          obtain ⟨c0, c1, c2, c3, c4, c5, c6, c7⟩ := hcx'.all
          clear hc hstep hvx' hx hvs hcx hcx' hal hwa
          generalize sizeR (V.mk xk xb xi xf xt xty xits xfs) (most - 1 - nn) = kk at *
          go_wp2_with (go_at_call 16; refine HC.out.mono ?_; rintro e w1 ⟨rfl, hb1⟩)
          go_roundw
          case rel => exact ⟨j + 1, by omega, by go_num, _, rfl, by omega, by omega, HSTEP, hbel.trans (hb1.mono hbel.size)⟩
          case measure => simp [intOf]; omega
        · have hend : sizeIs its (most - 1) (1 + its.length + fs.length) = nn := by
            rw [← hrel.out]
            cases hd : its.drop j with
            | nil => rw [sizeIs]
            | cons x r => rw [sizeIs, if_neg (by omega)]
          have HEND := Lib.hid hend
          clear hend hrel
          go_wp2_with fail
          go_loopw [5, 7] (fun n ii wr => ∃ j : Nat, j ≤ fs.length ∧ ii = .int .i64 j ∧ ∃ mm : Int, n = .int .i64 mm ∧ 1 ≤ mm ∧ mm ≤ most + 8796093022208 ∧ Hid (sizeFs (fs.drop j) (most - 1) mm = sizeFs fs (most - 1) nn) ∧ Below wa.heap.size wa wr) (fun _ ii _ => fs.length - (intOf ii).toNat)
          case atStart => exact ⟨0, by omega, rfl, _, rfl, by omega, by omega, rfl, hbel⟩
          case round =>
            clear hbel e6 e7
            obtain ⟨j2, hj2, rfl, mm, rfl, hm3, hm4, hrel, hbel⟩ := hrel
            obtain ⟨_, _, _, _, _, _, e6, e7⟩ := (hal.below hbel hsz).all0
            by_cases h3 : j2 < fs.length
            · by_cases h4 : mm < most
              · obtain ⟨x, hx⟩ : ∃ x, fs[j2]? = some x := ⟨fs[j2], by simp [h3]⟩
                obtain hf := HF.out
                rcases hf with hf | ⟨g, o, rfl, hg, hvs⟩
                · subst hf; simp at h3
                obtain ⟨hnm, csx, hcx, hvx⟩ := hvs.get hx
                have hbw := hwa.trans (hbel.mono hwa.size)
                have hcx' := hcx.below hbw hg
                have hvx' := hvx.on hbw
                have hle := sizeR_le hvx (most - 1 - mm) (by omega)
                have hpos := sizeR_pos x.2 (most - 1 - mm)
                have hxN : szV x.2 ≤ N := by
                  have := szFs_get hx
                  have := HN.out
                  simp only [szV] at this
                  omega
                have hstep : sizeFs (fs.drop (j2 + 1)) (most - 1) (mm + sizeR x.2 (most - 1 - mm)) = sizeFs fs (most - 1) nn := by
                  rw [← hrel.out, drop_some hx, sizeFs, if_pos (by omega)]
                have hc := IH.out x.2 hxN csx wr (most - mm) hvx' (by omega) (by omega)
                rw [show most - mm - 1 = most - 1 - mm by omega] at hc
                have HC := Lib.hid hc
                have HSTEP := Lib.hid hstep
                obtain ⟨xn, xk, xb, xi, xf, xt, xty, xits, xfs⟩ := x
                obtain ⟨xp, xc, xq, xd, rfl, _, _, _, _⟩ := hvx
                obtain ⟨c0, c1, c2, c3, c4, c5, c6, c7⟩ := hcx'.all
                clear hc hstep hvx' hx hvs hcx hcx' hal hwa hnm
                generalize sizeR (xn, V.mk xk xb xi xf xt xty xits xfs).2 (most - 1 - mm) = kk at *
                go_wp2_with (go_at_call 16; refine HC.out.mono ?_; rintro e w1 ⟨rfl, hb1⟩)
                go_roundw
                case rel => exact ⟨j2 + 1, by omega, by go_num, _, rfl, by omega, by omega, HSTEP, hbel.trans (hb1.mono hbel.size)⟩
                case measure => simp [intOf]; omega
              · have hfin : sizeFs fs (most - 1) nn = mm := by
                  rw [← hrel.out]
                  cases hd : fs.drop j2 with
                  | nil => rw [sizeFs]
                  | cons x r => rw [sizeFs, if_neg (by omega)]
                have HFIN := Lib.hid hfin
                clear hfin
                go_wp2_with fail
                go_ret
                exact ⟨ret_eq (by rw [sizeR, HEND.out, HFIN.out]; rfl), hwa.trans (hbel.mono hwa.size)⟩
            · have hfin : sizeFs fs (most - 1) nn = mm := by
                rw [← hrel.out, List.drop_of_length_le (by omega), sizeFs]
              have HFIN := Lib.hid hfin
              clear hfin
              go_wp2_with fail
              go_ret
              exact ⟨ret_eq (by rw [sizeR, HEND.out, HFIN.out]; rfl), hwa.trans (hbel.mono hwa.size)⟩
      · have hend : sizeIs its (most - 1) (1 + its.length + fs.length) = nn := by
          rw [← hrel.out, List.drop_of_length_le (by omega), sizeIs]
        have HEND := Lib.hid hend
        clear hend hrel
        go_wp2_with fail
        go_loopw [5, 7] (fun n ii wr => ∃ j : Nat, j ≤ fs.length ∧ ii = .int .i64 j ∧ ∃ mm : Int, n = .int .i64 mm ∧ 1 ≤ mm ∧ mm ≤ most + 8796093022208 ∧ Hid (sizeFs (fs.drop j) (most - 1) mm = sizeFs fs (most - 1) nn) ∧ Below wa.heap.size wa wr) (fun _ ii _ => fs.length - (intOf ii).toNat)
        case atStart => exact ⟨0, by omega, rfl, _, rfl, by omega, by omega, rfl, hbel⟩
        case round =>
          clear hbel e6 e7
          obtain ⟨j2, hj2, rfl, mm, rfl, hm3, hm4, hrel, hbel⟩ := hrel
          obtain ⟨_, _, _, _, _, _, e6, e7⟩ := (hal.below hbel hsz).all0
          by_cases h3 : j2 < fs.length
          · by_cases h4 : mm < most
            · obtain ⟨x, hx⟩ : ∃ x, fs[j2]? = some x := ⟨fs[j2], by simp [h3]⟩
              obtain hf := HF.out
              rcases hf with hf | ⟨g, o, rfl, hg, hvs⟩
              · subst hf; simp at h3
              obtain ⟨hnm, csx, hcx, hvx⟩ := hvs.get hx
              have hbw := hwa.trans (hbel.mono hwa.size)
              have hcx' := hcx.below hbw hg
              have hvx' := hvx.on hbw
              have hle := sizeR_le hvx (most - 1 - mm) (by omega)
              have hpos := sizeR_pos x.2 (most - 1 - mm)
              have hxN : szV x.2 ≤ N := by
                have := szFs_get hx
                have := HN.out
                simp only [szV] at this
                omega
              have hstep : sizeFs (fs.drop (j2 + 1)) (most - 1) (mm + sizeR x.2 (most - 1 - mm)) = sizeFs fs (most - 1) nn := by
                rw [← hrel.out, drop_some hx, sizeFs, if_pos (by omega)]
              have hc := IH.out x.2 hxN csx wr (most - mm) hvx' (by omega) (by omega)
              rw [show most - mm - 1 = most - 1 - mm by omega] at hc
              have HC := Lib.hid hc
              have HSTEP := Lib.hid hstep
              obtain ⟨xn, xk, xb, xi, xf, xt, xty, xits, xfs⟩ := x
              obtain ⟨xp, xc, xq, xd, rfl, _, _, _, _⟩ := hvx
              obtain ⟨c0, c1, c2, c3, c4, c5, c6, c7⟩ := hcx'.all
              clear hc hstep hvx' hx hvs hcx hcx' hal hwa hnm
              generalize sizeR (xn, V.mk xk xb xi xf xt xty xits xfs).2 (most - 1 - mm) = kk at *
              go_wp2_with (go_at_call 16; refine HC.out.mono ?_; rintro e w1 ⟨rfl, hb1⟩)
              go_roundw
              case rel => exact ⟨j2 + 1, by omega, by go_num, _, rfl, by omega, by omega, HSTEP, hbel.trans (hb1.mono hbel.size)⟩
              case measure => simp [intOf]; omega
            · have hfin : sizeFs fs (most - 1) nn = mm := by
                rw [← hrel.out]
                cases hd : fs.drop j2 with
                | nil => rw [sizeFs]
                | cons x r => rw [sizeFs, if_neg (by omega)]
              have HFIN := Lib.hid hfin
              clear hfin
              go_wp2_with fail
              go_ret
              exact ⟨ret_eq (by rw [sizeR, HEND.out, HFIN.out]; rfl), hwa.trans (hbel.mono hwa.size)⟩
          · have hfin : sizeFs fs (most - 1) nn = mm := by
              rw [← hrel.out, List.drop_of_length_le (by omega), sizeFs]
            have HFIN := Lib.hid hfin
            clear hfin
            go_wp2_with fail
            go_ret
            exact ⟨ret_eq (by rw [sizeR, HEND.out, HFIN.out]; rfl), hwa.trans (hbel.mono hwa.size)⟩
end Go.Proofs.YtnmnmkdmnohbmaaDoor
