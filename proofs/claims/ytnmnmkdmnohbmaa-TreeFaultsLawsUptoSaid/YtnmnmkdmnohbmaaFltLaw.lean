/- The two unions are one: plain. Conditions: none. -/
import Derived.Test.YtnmnmkdmnohbmaaTFaults
namespace Go.Proofs.Ytnmnmkdmnohbmaa

section
variable {α : Type} {c : α → α → Int}

theorem mrg_facts (h : OrdC c) : ∀ a b : List α, a.Pairwise (fun x y => c x y < 0) → b.Pairwise (fun x y => c x y < 0) →
    (mrg c a b).Pairwise (fun x y => c x y < 0) ∧ ∀ z, z ∈ a ∨ z ∈ b → ∃ u ∈ mrg c a b, c u z = 0
  | [], b, _, pb => by
    rw [mrg]
    exact ⟨pb, fun z hz => ⟨z, hz.resolve_left (by simp), h.refl z⟩⟩
  | x :: a, [], pa, _ => by
    rw [mrg]
    exact ⟨pa, fun z hz => ⟨z, hz.resolve_right (by simp), h.refl z⟩⟩
  | x :: a, y :: b, pa, pb => by
    have pa' := pa
    have pb' := pb
    rw [List.pairwise_cons] at pa pb
    rw [mrg]
    by_cases h1 : c x y < 0
    · rw [if_pos h1]
      obtain ⟨p, q⟩ := mrg_facts h a (y :: b) pa.2 pb'
      refine ⟨List.pairwise_cons.2 ⟨fun z hz => ?_, p⟩, fun z hz => ?_⟩
      · rcases mrg_mem c a (y :: b) z hz with hz | hz
        · exact pa.1 z hz
        · rcases List.mem_cons.1 hz with rfl | hz
          · exact h1
          · exact h.lt_le h1 (by have := pb.1 z hz; omega)
      · by_cases e : z = x
        · subst e; exact ⟨z, by simp, h.refl z⟩
        · obtain ⟨u, hu, e2⟩ := q z (hz.elim (fun hz => .inl ((List.mem_cons.1 hz).resolve_left e)) .inr)
          exact ⟨u, by simp [hu], e2⟩
    · rw [if_neg h1]
      by_cases h2 : c x y = 0
      · rw [if_pos h2]
        obtain ⟨p, q⟩ := mrg_facts h a b pa.2 pb.2
        refine ⟨List.pairwise_cons.2 ⟨fun z hz => ?_, p⟩, fun z hz => ?_⟩
        · rcases mrg_mem c a b z hz with hz | hz
          · exact pa.1 z hz
          · have := h.eq_left h2 z; have := pb.1 z hz; omega
        · by_cases e : z = x
          · subst e; exact ⟨z, by simp, h.refl z⟩
          · by_cases e3 : z = y
            · subst e3; exact ⟨x, by simp, h2⟩
            · obtain ⟨u, hu, e2⟩ := q z (by
                rcases hz with hz | hz
                · rcases List.mem_cons.1 hz with hz | hz
                  · exact absurd hz e
                  · exact .inl hz
                · rcases List.mem_cons.1 hz with hz | hz
                  · exact absurd hz e3
                  · exact .inr hz)
              exact ⟨u, by simp [hu], e2⟩
      · rw [if_neg h2]
        have h3 : c y x < 0 := by have := h.swap x y; omega
        obtain ⟨p, q⟩ := mrg_facts h (x :: a) b pa' pb.2
        refine ⟨List.pairwise_cons.2 ⟨fun z hz => ?_, p⟩, fun z hz => ?_⟩
        · rcases mrg_mem c (x :: a) b z hz with hz | hz
          · rcases List.mem_cons.1 hz with rfl | hz
            · exact h3
            · exact h.lt_le h3 (by have := pa.1 z hz; omega)
          · exact pb.1 z hz
        · by_cases e : z = y
          · subst e; exact ⟨z, by simp, h.refl z⟩
          · obtain ⟨u, hu, e2⟩ := q z (hz.elim .inl (fun hz => .inr ((List.mem_cons.1 hz).resolve_left e)))
            exact ⟨u, by simp [hu], e2⟩
termination_by a b => a.length + b.length

theorem ordL_facts (h : OrdC c) : ∀ (n : Nat) (l : List α), l.length ≤ n → (ordL c n l).Pairwise (fun x y => c x y < 0) ∧ ∀ z ∈ l, ∃ u ∈ ordL c n l, c u z = 0
  | 0, l, hl => by
    obtain rfl : l = [] := List.length_eq_zero_iff.1 (by omega)
    rw [ordL]
    exact ⟨List.Pairwise.nil, fun z hz => by cases hz⟩
  | n + 1, l, hl => by
    rw [ordL]
    split
    · rename_i h2
      refine ⟨?_, fun z hz => ⟨z, hz, h.refl z⟩⟩
      match l, h2 with
      | [], _ => exact List.Pairwise.nil
      | [x], _ => exact List.pairwise_singleton _ _
    · obtain ⟨p1, q1⟩ := ordL_facts h n (l.take (l.length / 2)) (by rw [List.length_take]; omega)
      obtain ⟨p2, q2⟩ := ordL_facts h n (l.drop (l.length / 2)) (by rw [List.length_drop]; omega)
      obtain ⟨p, q⟩ := mrg_facts h _ _ p1 p2
      refine ⟨p, fun z hz => ?_⟩
      rw [← List.take_append_drop (l.length / 2) l] at hz
      rcases List.mem_append.1 hz with hz | hz
      · obtain ⟨u, hu, e⟩ := q1 z hz
        obtain ⟨v, hv, e2⟩ := q u (.inl hu)
        exact ⟨v, hv, h.eq_trans e2 e⟩
      · obtain ⟨u, hu, e⟩ := q2 z hz
        obtain ⟨v, hv, e2⟩ := q u (.inr hu)
        exact ⟨v, hv, h.eq_trans e2 e⟩
end

theorem cF_ord : OrdC cF := cmpF_ord.comap (fun x : LF => x.f)

theorem dedP_facts (S : List LF) (hs : S.Pairwise (fun x y => 0 ≤ cmpF y.f x.f)) : ∀ n, n ≤ S.length →
    (dedP S n).Pairwise (fun x y => cF x y < 0) ∧ (∀ z ∈ S.take n, ∃ u ∈ dedP S n, cF u z = 0) ∧ ∀ u ∈ dedP S n, u ∈ S.take n
  | 0, _ => ⟨by simp [dedP], by simp, by simp [dedP]⟩
  | 1, hn => by
    obtain ⟨x, hx⟩ : ∃ x, S[0]? = some x := ⟨_, List.getElem?_eq_getElem (by omega)⟩
    have e := dedP_first hx
    have e0 : dedP S 0 = [] := rfl
    rw [Nat.zero_add, e0, List.nil_append] at e
    rw [e, List.take_add_one, hx]
    refine ⟨List.pairwise_singleton _ _, ?_, ?_⟩
    · intro z hz
      obtain rfl : z = x := by simpa using hz
      exact ⟨z, by simp, cF_ord.refl z⟩
    · intro u hu
      simpa using hu
  | n + 1 + 1, hn => by
    obtain ⟨p, q, m⟩ := dedP_facts S hs (n + 1) (by omega)
    obtain ⟨x, hx⟩ : ∃ x, S[n + 1]? = some x := ⟨_, List.getElem?_eq_getElem (by omega)⟩
    obtain ⟨y, hy⟩ : ∃ y, S[n]? = some y := ⟨_, List.getElem?_eq_getElem (by omega)⟩
    have hle : ∀ (i j : Nat) (a b : LF), i < j → S[i]? = some a → S[j]? = some b → cF a b ≤ 0 := fun i j a b hij ha hb => by
      obtain ⟨hi, ea⟩ := List.getElem?_eq_some_iff.1 ha
      obtain ⟨hj, eb⟩ := List.getElem?_eq_some_iff.1 hb
      have := List.pairwise_iff_getElem.1 hs i j hi hj hij
      rw [ea, eb] at this
      have e := cmpF_ord.swap b.f a.f
      show cmpF a.f b.f ≤ 0
      omega
    have hyx := hle n (n + 1) y x (by omega) hy hx
    have hyt : y ∈ S.take (n + 1) := List.mem_of_getElem? (i := n) (by rw [List.getElem?_take_of_lt (by omega)]; exact hy)
    have hay : ∀ u ∈ S.take (n + 1), cF u y ≤ 0 := fun u hu => by
      obtain ⟨i, hi⟩ := List.getElem?_of_mem hu
      rw [List.getElem?_take] at hi
      split at hi
      · by_cases e : i = n
        · subst e
          rw [hy] at hi
          cases hi
          have := cF_ord.refl y
          omega
        · exact hle i n u y (by omega) hi hy
      · cases hi
    have tk : S.take (n + 1 + 1) = S.take (n + 1) ++ [x] := by rw [List.take_add_one, hx]; rfl
    by_cases h0 : cmpF y.f x.f = 0
    · rw [dedP_skip hx hy h0, tk]
      refine ⟨p, fun z hz => ?_, fun u hu => List.mem_append.2 (.inl (m u hu))⟩
      rcases List.mem_append.1 hz with hz | hz
      · exact q z hz
      · obtain rfl : z = x := by simpa using hz
        obtain ⟨u, hu, e⟩ := q y hyt
        exact ⟨u, hu, cF_ord.eq_trans e h0⟩
    · rw [dedP_keep hx hy h0, tk]
      have hlt : cF y x < 0 := by
        have : ¬ cF y x = 0 := h0
        omega
      refine ⟨List.pairwise_append.2 ⟨p, List.pairwise_singleton _ _, fun u hu z hz => ?_⟩, fun z hz => ?_, fun u hu => ?_⟩
      · obtain rfl : z = x := by simpa using hz
        exact cF_ord.le_lt (hay u (m u hu)) hlt
      · rcases List.mem_append.1 hz with hz | hz
        · obtain ⟨u, hu, e⟩ := q z hz
          exact ⟨u, List.mem_append.2 (.inl hu), e⟩
        · obtain rfl : z = x := by simpa using hz
          exact ⟨z, by simp, cF_ord.refl z⟩
      · rcases List.mem_append.1 hu with hu | hu
        · exact List.mem_append.2 (.inl (m u hu))
        · exact List.mem_append.2 (.inr hu)

theorem bareS_twice (s : St) : bareS (bareS s) = bareS s := by
  obtain ⟨n, i, b⟩ := s
  cases b <;> rfl
theorem stepOrd_bare {x y : St} (h : stepOrd x y = 0) : bareS x = bareS y := by
  obtain ⟨h1, h2, h3⟩ := stepOrd_zero.1 h
  exact st_eq.2 ⟨h3, h2, by simp [h1]⟩
theorem stepOrd_self (x : St) : stepOrd x (bareS x) = 0 := stepOrd_zero.2 (by rw [bareS_twice]; exact ⟨rfl, rfl, rfl⟩)

theorem lexL_bare : ∀ {a b : List St}, lexL stepOrd a b = 0 → a.map bareS = b.map bareS
  | [], [], _ => rfl
  | [], _ :: _, h => by cases h
  | _ :: _, [], h => by cases h
  | x :: a, y :: b, h => by
    rw [lexL] at h
    by_cases h0 : stepOrd x y = 0
    · rw [if_pos h0] at h
      rw [List.map_cons, List.map_cons, stepOrd_bare h0, lexL_bare h]
    · rw [if_neg h0] at h
      exact absurd h h0
theorem lexL_self : ∀ a : List St, lexL stepOrd a (a.map bareS) = 0
  | [] => rfl
  | x :: a => by rw [List.map_cons, lexL, if_pos (stepOrd_self x), lexL_self a]

theorem cleanF_twice (x : Fl) : cleanF (cleanF x) = cleanF x := by
  obtain ⟨k, p, q⟩ := x
  simp [cleanF, bareS_twice]
theorem cmpF_clean {x y : Fl} (h : cmpF x y = 0) : cleanF x = cleanF y := by
  obtain ⟨k, p, q⟩ := x
  obtain ⟨k2, p2, q2⟩ := y
  unfold cmpF at h
  dsimp only at h
  by_cases h1 : cmpI k k2 = 0
  · rw [if_pos h1] at h
    by_cases h2 : lexL cmpPos1 p p2 = 0
    · rw [if_pos h2, cmpP_lex] at h
      have e1 := cmpI_zero.1 h1
      have e2 := (lexL_refl_eq (fun _ _ => cmpPos1_zero)).1 h2
      have e3 := lexL_bare h
      simp [cleanF, e1, e2, e3]
    · rw [if_neg h2] at h
      exact absurd h h2
  · rw [if_neg h1] at h
    exact absurd h h1
theorem cmpF_self (x : Fl) : cmpF x (cleanF x) = 0 := by
  obtain ⟨k, p, q⟩ := x
  unfold cmpF cleanF
  dsimp only
  rw [if_pos (cmpI_zero.2 rfl), if_pos ((lexL_refl_eq (fun _ _ => cmpPos1_zero)).2 rfl), cmpP_lex]
  exact lexL_self q
theorem cmpF_both (x y : Fl) : cmpF (cleanF x) (cleanF y) = cmpF x y := by
  have h := cmpF_ord
  have h1 := h.eq_left (cmpF_self x) (cleanF y)
  have h2 := h.eq_right (cmpF_self y) x
  omega

/-- What a rising list of clean faults is, that has just the clean ones of a list. -/
def IsUnion (A : List Fl) (l : List LF) : Prop := A.Pairwise (fun x y => cmpF x y < 0) ∧ (∀ a ∈ A, ∃ z ∈ l, a = cleanF z.f) ∧ ∀ z ∈ l, ∃ a ∈ A, cmpF a (cleanF z.f) = 0

theorem IsUnion.unique {A B : List Fl} {l l' : List LF} (hA : IsUnion A l) (hB : IsUnion B l') (hl : ∀ z, z ∈ l ↔ z ∈ l') : A = B := by
  have h := rising_unique cmpF_ord A B hA.1 hB.1 (fun x hx => by
    obtain ⟨z, hz, rfl⟩ := hA.2.1 x hx
    obtain ⟨b, hb, e⟩ := hB.2.2 z ((hl z).1 hz)
    exact ⟨b, hb, by have := cmpF_ord.swap b (cleanF z.f); omega⟩) (fun y hy => by
    obtain ⟨z, hz, rfl⟩ := hB.2.1 y hy
    obtain ⟨a, ha, e⟩ := hA.2.2 z ((hl z).2 hz)
    exact ⟨a, ha, e⟩)
  refine lexL_eq (fun x hx y hy e => ?_) h
  obtain ⟨z, _, rfl⟩ := hA.2.1 x hx
  obtain ⟨z', _, rfl⟩ := hB.2.1 y hy
  have := cmpF_clean e
  rwa [cleanF_twice, cleanF_twice] at this

theorem union_prog {S l : List LF} (hp : S.Perm l) (hs : S.Pairwise (fun x y => 0 ≤ cmpF y.f x.f)) : IsUnion ((dedP S S.length).map (fun x => cleanF x.f)) l := by
  obtain ⟨p, q, m⟩ := dedP_facts S hs S.length (Nat.le_refl _)
  rw [List.take_length] at q m
  refine ⟨?_, ?_, ?_⟩
  · rw [List.pairwise_map]
    exact p.imp (fun h => by rw [cmpF_both]; exact h)
  · intro a ha
    obtain ⟨u, hu, rfl⟩ := List.mem_map.1 ha
    exact ⟨u, hp.mem_iff.1 (m u hu), rfl⟩
  · intro z hz
    obtain ⟨u, hu, e⟩ := q z (hp.mem_iff.2 hz)
    exact ⟨cleanF u.f, List.mem_map.2 ⟨u, hu, rfl⟩, by rw [cmpF_both]; exact e⟩

theorem union_ref {r l : List LF} (h : r.map LF.f = l.map (fun x => cleanF x.f)) : IsUnion ((ordL cF r.length r).map LF.f) l := by
  obtain ⟨p, q⟩ := ordL_facts cF_ord r.length r (Nat.le_refl _)
  refine ⟨?_, ?_, ?_⟩
  · rw [List.pairwise_map]
    exact p
  · intro a ha
    obtain ⟨u, hu, rfl⟩ := List.mem_map.1 ha
    have : u.f ∈ l.map (fun x => cleanF x.f) := by rw [← h]; exact List.mem_map.2 ⟨u, ordL_mem cF _ _ u hu, rfl⟩
    obtain ⟨z, hz, e⟩ := List.mem_map.1 this
    exact ⟨z, hz, e.symm⟩
  · intro z hz
    have : cleanF z.f ∈ r.map LF.f := by rw [h]; exact List.mem_map.2 ⟨z, hz, rfl⟩
    obtain ⟨u, hu, e⟩ := List.mem_map.1 this
    obtain ⟨v, hv, e2⟩ := q u hu
    exact ⟨v.f, List.mem_map.2 ⟨v, hv, rfl⟩, by rw [← e]; exact e2⟩
end Go.Proofs.Ytnmnmkdmnohbmaa
