/- Plain laws of getting and setting at a path. Conditions: none. -/
import Derived.Test.YtnmnmkdmnohbmaaPut
import Derived.Test.YtnmnmkdmnohbmaaUnder
namespace Go.Proofs.Ytnmnmkdmnohbmaa
open Go.RowKit

theorem names_modify (l : List (ByteArray × V)) (n : Nat) (x : V) : (l.modify n (fun y => (y.1, x))).map (·.1) = l.map (·.1) := by
  induction l generalizing n with
  | nil => cases n <;> rfl
  | cons a r ih => cases n <;> simp [ih]

theorem findIdx_names {l l' : List (ByteArray × V)} (h : l.map (·.1) = l'.map (·.1)) (nm : ByteArray) : l.findIdx? (nameIs nm) = l'.findIdx? (nameIs nm) := by
  have e : ∀ m : List (ByteArray × V), m.findIdx? (nameIs nm) = (m.map (·.1)).findIdx? (fun b => b.toList == nm.toList) := by
    intro m
    rw [List.findIdx?_map]
    rfl
  rw [e, e, h]

theorem childIx_putC (v : V) (s : St) (x : V) (s' : St) : childIx (putC v s x) s' = childIx v s' := by
  obtain ⟨k, b, i, f, t, ty, its, fs⟩ := v
  unfold putC
  cases hc : childIx (.mk k b i f t ty its fs) s with
  | none => rfl
  | some n =>
    by_cases hit : s.it = true
    · simp only [hit, if_true, childIx, V.kind, V.its, V.fs, List.length_set]
      rfl
    · simp only [hit, Bool.false_eq_true, if_false, childIx, V.kind, V.its, V.fs]
      rw [findIdx_names (names_modify fs n x)]
      rfl

/-- The two ways in which a step leads to a child. -/
theorem child_cases {v : V} {s : St} {c : V} (h : child v s = some c) :
    ∃ k b i f t ty its fs n, v = .mk k b i f t ty its fs ∧ childIx v s = some n ∧
      ((s.it = true ∧ its[n]? = some c ∧ ∀ x, putC v s x = .mk k b i f t ty (its.set n x) fs) ∨
       (s.it = false ∧ ∃ nm, fs[n]? = some (nm, c) ∧ ∀ x, putC v s x = .mk k b i f t ty its (fs.modify n (fun y => (y.1, x))))) := by
  obtain ⟨k, b, i, f, t, ty, its, fs⟩ := v
  unfold child at h
  cases hc : childIx (.mk k b i f t ty its fs) s with
  | none => rw [hc] at h; cases h
  | some n =>
    rw [hc] at h
    refine ⟨k, b, i, f, t, ty, its, fs, n, rfl, rfl, ?_⟩
    by_cases hit : s.it = true
    · simp only [Option.bind_some, hit, if_true, V.its] at h
      exact .inl ⟨hit, h, fun x => by simp only [putC, hc, hit, if_true]⟩
    · simp only [Option.bind_some, hit, Bool.false_eq_true, if_false, V.fs] at h
      obtain ⟨y, hy, rfl⟩ : ∃ y, fs[n]? = some y ∧ y.2 = c := by simpa using h
      exact .inr ⟨by simpa using hit, y.1, hy, fun x => by simp only [putC, hc, hit, Bool.false_eq_true, if_false]⟩

theorem child_putC {v : V} {s : St} {c : V} (h : child v s = some c) (x : V) : child (putC v s x) s = some x := by
  have hix := childIx_putC v s x s
  obtain ⟨k, b, i, f, t, ty, its, fs, n, rfl, hn, ⟨hit, hg, hp⟩ | ⟨hit, nm, hg, hp⟩⟩ := child_cases h
  · have hlt := (List.getElem?_eq_some_iff.1 hg).1
    unfold child
    rw [hix, hn, hp]
    simp [hit, V.its, List.getElem?_set, hlt]
  · unfold child
    rw [hix, hn, hp]
    simp [hit, V.fs, List.getElem?_modify, hg]

theorem putC_putC {v : V} {s : St} {c : V} (h : child v s = some c) (x y : V) : putC (putC v s x) s y = putC v s y := by
  have hix := childIx_putC v s x s
  obtain ⟨k, b, i, f, t, ty, its, fs, n, rfl, hn, ⟨hit, hg, hp⟩ | ⟨hit, nm, hg, hp⟩⟩ := child_cases h
  · rw [hp, hn] at hix
    rw [hp, hp]
    simp only [putC, hix, hit, if_true, List.set_set]
  · rw [hp, hn] at hix
    rw [hp, hp]
    simp only [putC, hix, hit, Bool.false_eq_true, if_false]
    congr 1
    apply List.ext_getElem?
    intro j
    simp only [List.getElem?_modify]
    cases fs[j]? <;> simp
    split <;> rfl

theorem putC_same {v : V} {s : St} {c : V} (h : child v s = some c) : putC v s c = v := by
  obtain ⟨k, b, i, f, t, ty, its, fs, n, rfl, hn, ⟨hit, hg, hp⟩ | ⟨hit, nm, hg, hp⟩⟩ := child_cases h
  · obtain ⟨hlt, rfl⟩ := List.getElem?_eq_some_iff.1 hg
    rw [hp, List.set_getElem_self]
  · rw [hp]
    congr 1
    apply List.ext_getElem?
    intro j
    simp only [List.getElem?_modify]
    by_cases hj : n = j
    · subst hj; simp [hg]
    · simp [hj]

theorem bytes_ext {a b : ByteArray} (h : a.toList = b.toList) : nameIs a = nameIs b := by
  funext x
  simp only [nameIs, h]

/-- Steps that are one in order lead to one child. -/
theorem childIx_eq {v : V} {s s' : St} (h : stepOrd s s' = 0) : childIx v s = childIx v s' ∧ s.it = s'.it := by
  obtain ⟨h1, h2, h3⟩ := stepOrd_zero.1 h
  obtain ⟨nm, ix, it⟩ := s
  obtain ⟨nm', ix', it'⟩ := s'
  cases it <;> cases it' <;> simp [bareS] at h1 h2 h3
  · exact ⟨by simp only [childIx, Bool.false_eq_true, if_false, bytes_ext h1], rfl⟩
  · subst h2; exact ⟨rfl, rfl⟩

theorem child_eq {v : V} {s s' : St} (h : stepOrd s s' = 0) : child v s = child v s' := by
  obtain ⟨h1, h2⟩ := childIx_eq (v := v) h
  unfold child
  rw [h1, h2]

theorem name_at {l : List (ByteArray × V)} {nm : ByteArray} {n : Nat} (h : l.findIdx? (nameIs nm) = some n) : ∃ y, l[n]? = some y ∧ y.1.toList = nm.toList := by
  rw [List.findIdx?_eq_some_iff_getElem] at h
  obtain ⟨hn, hy, _⟩ := h
  exact ⟨_, List.getElem?_eq_getElem hn, by simpa [nameIs] using hy⟩

theorem child_other {v : V} {s s' : St} {c : V} (h : child v s = some c) (hs : ¬ stepOrd s s' = 0) (x : V) : child (putC v s x) s' = child v s' := by
  have hix := childIx_putC v s x s'
  obtain ⟨k, b, i, f, t, ty, its, fs, n, rfl, hn, ⟨hit, hg, hp⟩ | ⟨hit, nm, hg, hp⟩⟩ := child_cases h
  · unfold child
    rw [hix, hp]
    cases hn' : childIx (.mk k b i f t ty its fs) s' with
    | none => rfl
    | some n' =>
      by_cases hit' : s'.it = true
      · simp only [Option.bind_some, hit', if_true, V.its]
        have hne : n ≠ n' := by
          rintro rfl
          apply hs
          unfold stepOrd
          simp only [hit, hit', Bool.not_true, Bool.and_false, Bool.false_eq_true, if_false, if_true]
          rw [cmpI_zero]
          simp only [childIx, hit, hit', if_true] at hn hn'
          split at hn <;> split at hn' <;> simp_all
          omega
        rw [List.getElem?_set_ne hne]
      · simp only [Option.bind_some, hit', Bool.false_eq_true, if_false, V.fs]
  · unfold child
    rw [hix, hp]
    cases hn' : childIx (.mk k b i f t ty its fs) s' with
    | none => rfl
    | some n' =>
      by_cases hit' : s'.it = true
      · simp only [Option.bind_some, hit', if_true, V.its]
      · simp only [Option.bind_some, hit', Bool.false_eq_true, if_false, V.fs]
        have hne : n ≠ n' := by
          rintro rfl
          apply hs
          unfold stepOrd
          have hit2 : s'.it = false := by simpa using hit'
          simp only [hit, hit2, Bool.and_true, Bool.not_false, Bool.false_eq_true, if_false]
          rw [cmpS_zero]
          simp only [childIx, hit, hit', Bool.false_eq_true, if_false] at hn hn'
          by_cases hk : kd (V.mk k b i f t ty its fs).kind = 6
          case neg => rw [if_neg hk] at hn; cases hn
          rw [if_pos hk] at hn hn'
          obtain ⟨y, hy, e1⟩ := name_at hn
          obtain ⟨y', hy', e2⟩ := name_at hn'
          rw [hy] at hy'
          cases hy'
          rw [← e1, ← e2]
        rw [List.getElem?_modify]
        simp [hne]

theorem set_isSome : ∀ (l : List St) (v x : V), (setV v l x).isSome = (getV v l).isSome
  | [], _, _ => rfl
  | s :: r, v, x => by
    unfold setV getV
    cases hc : child v s with
    | none => rfl
    | some c => simpa using set_isSome r c x

theorem get_set : ∀ (l : List St) {v x y : V}, setV v l x = some y → getV y l = some x
  | [], v, x, y, h => by unfold setV at h; unfold getV; exact h.symm ▸ rfl
  | s :: r, v, x, y, h => by
    unfold setV at h
    cases hc : child v s with
    | none => rw [hc] at h; cases h
    | some c =>
      rw [hc] at h
      obtain ⟨z, hz, rfl⟩ : ∃ z, setV c r x = some z ∧ putC v s z = y := by simpa using h
      unfold getV
      rw [child_putC hc]
      exact get_set r hz

theorem set_same : ∀ (l : List St) {v u : V}, getV v l = some u → setV v l u = some v
  | [], v, u, h => by unfold getV at h; unfold setV; exact h.symm
  | s :: r, v, u, h => by
    unfold getV at h
    unfold setV
    cases hc : child v s with
    | none => rw [hc] at h; cases h
    | some c =>
      rw [hc] at h
      simp [set_same r (show getV c r = some u from h), putC_same hc]

theorem set_back : ∀ (l : List St) {v u x y : V}, getV v l = some u → setV v l x = some y → setV y l u = some v
  | [], v, u, x, y, h, _ => by unfold getV at h; unfold setV; exact h.symm
  | s :: r, v, u, x, y, h, h' => by
    unfold getV at h
    unfold setV at h' ⊢
    cases hc : child v s with
    | none => rw [hc] at h; cases h
    | some c =>
      rw [hc] at h h'
      obtain ⟨z, hz, rfl⟩ : ∃ z, setV c r x = some z ∧ putC v s z = y := by simpa using h'
      rw [child_putC hc]
      simp [set_back r (show getV c r = some u from h) hz, putC_putC hc, putC_same hc]

theorem stepOrd_symm {s s' : St} (h : stepOrd s s' = 0) : stepOrd s' s = 0 := by
  obtain ⟨h1, h2, h3⟩ := stepOrd_zero.1 h
  exact stepOrd_zero.2 ⟨h1.symm, h2.symm, h3.symm⟩

theorem underP_nil (a : List St) : underP a [] = true := by simp [underP, cmpP]
theorem underP_cons {s s' : St} {a b : List St} (h : stepOrd s s' = 0) : underP (s :: a) (s' :: b) = underP a b := by
  simp [underP, cmpP, h]

theorem get_other : ∀ (l m : List St) {v x y : V}, setV v l x = some y → underP l m = false → underP m l = false → getV y m = getV v m
  | [], m, _, _, _, _, _, h2 => by rw [underP_nil] at h2; cases h2
  | _ :: _, [], _, _, _, _, h1, _ => by rw [underP_nil] at h1; cases h1
  | s :: r, s' :: r', v, x, y, h, h1, h2 => by
    unfold setV at h
    cases hc : child v s with
    | none => rw [hc] at h; cases h
    | some c =>
      rw [hc] at h
      obtain ⟨z, hz, rfl⟩ : ∃ z, setV c r x = some z ∧ putC v s z = y := by simpa using h
      unfold getV
      by_cases hs : stepOrd s s' = 0
      · rw [underP_cons hs] at h1
        rw [underP_cons (stepOrd_symm hs)] at h2
        rw [← child_eq hs, ← child_eq hs, child_putC hc, hc]
        exact get_other r r' hz h1 h2
      · rw [child_other hc hs]

theorem szVs_set {l : List V} {n : Nat} {c x : V} (h : l[n]? = some c) : szV.szVs (l.set n x) + szV c = szV.szVs l + szV x := by
  induction l generalizing n with
  | nil => simp at h
  | cons a r ih =>
    cases n with
    | zero => simp at h; subst h; simp only [List.set_cons_zero, szV.szVs]; omega
    | succ n => simp at h; simp only [List.set_cons_succ, szV.szVs]; have := ih h; omega

theorem szFs_modify {l : List (ByteArray × V)} {n : Nat} {nm : ByteArray} {c x : V} (h : l[n]? = some (nm, c)) : szV.szFs (l.modify n (fun y => (y.1, x))) + szV c = szV.szFs l + szV x := by
  induction l generalizing n with
  | nil => simp at h
  | cons a r ih =>
    cases n with
    | zero => simp at h; subst h; simp only [List.modify_zero_cons, szV.szFs]; omega
    | succ n => simp at h; simp only [List.modify_succ_cons, szV.szFs]; have := ih h; omega

theorem szV_set : ∀ (l : List St) {v x y : V}, setV v l x = some y → szV y ≤ szV v + szV x
  | [], v, x, y, h => by obtain rfl : x = y := by simpa [setV] using h
                         omega
  | s :: r, v, x, y, h => by
    unfold setV at h
    cases hc : child v s with
    | none => rw [hc] at h; cases h
    | some c =>
      rw [hc] at h
      obtain ⟨z, hz, rfl⟩ : ∃ z, setV c r x = some z ∧ putC v s z = y := by simpa using h
      have hzs := szV_set r hz
      obtain ⟨k, b, i, f, t, ty, its, fs, n, rfl, hn, ⟨hit, hg, hp⟩ | ⟨hit, nm, hg, hp⟩⟩ := child_cases hc
      · rw [hp]
        have := szVs_set (x := z) hg
        simp only [szV, List.length_set]; omega
      · rw [hp]
        have := szFs_modify (x := z) hg
        simp only [szV, List.length_modify]; omega

end Go.Proofs.Ytnmnmkdmnohbmaa
