/- Plain: the text of a path: unlike paths have unlike texts; under is told by the texts. Conditions: none. -/
import Derived.Test.YtnmnmkdmnohbmaaGreatDoorPackB
import Derived.Lib.ItoaNum
namespace Go.Proofs.YtnmnmkdmnohbmaaGreatDoor
open Go.RowKit

/-- A name's byte as it is written. -/
def escB (b : UInt8) : List UInt8 := if b = 126 then [126, 48] else if b = 47 then [126, 49] else [b]
/-- Does a name want a mark? -/
def markedL : List UInt8 → Bool
  | [] => true
  | b :: _ => b == 45 || (48 ≤ b && b ≤ 57)
def nameT (n : List UInt8) : List UInt8 := (if markedL n then [126, 50] else []) ++ n.flatMap escB
def stepT (s : St) : List UInt8 := if s.it then Lib.itoa s.ix else nameT s.nm.data.toList
def pathT (l : List St) : List UInt8 := l.flatMap (fun s => 47 :: stepT s)

theorem escB_slash (b : UInt8) : ∀ c ∈ escB b, c ≠ 47 := by
  unfold escB
  intro c hc
  split at hc
  · simp at hc; rcases hc with rfl | rfl <;> decide
  · split at hc
    · simp at hc; rcases hc with rfl | rfl <;> decide
    · simp at hc; subst hc; assumption

/-- A decimal digit. -/
def isDig (b : UInt8) : Bool := 48 ≤ b && b ≤ 57

theorem dig_of (k : Nat) (h : k < 10) : isDig (UInt8.ofNat (48 + k)) = true := by
  have : ∀ k : Fin 10, isDig (UInt8.ofNat (48 + k.val)) = true := by decide
  exact this ⟨k, h⟩
theorem dig_val (k : Nat) (h : k < 10) : (UInt8.ofNat (48 + k)).toNat = 48 + k := by
  have : ∀ k : Fin 10, (UInt8.ofNat (48 + k.val)).toNat = 48 + k.val := by decide
  exact this ⟨k, h⟩

theorem dec_dig (u : Nat) : ∀ b ∈ Lib.decDigits u, isDig b = true := by
  induction u using Nat.strongRecOn with
  | _ u ih =>
    intro b hb
    by_cases h : u < 10
    · rw [Lib.decDigits, dif_pos h] at hb
      rw [List.mem_singleton.1 hb]
      exact dig_of u h
    · rw [Lib.decDigits, dif_neg h] at hb
      rcases List.mem_append.1 hb with hb | hb
      · exact ih (u / 10) (by omega) b hb
      · rw [List.mem_singleton.1 hb]
        exact dig_of (u % 10) (by omega)

/-- What a row of digits says. -/
def decVal (l : List UInt8) : Nat := l.foldl (fun n b => n * 10 + (b.toNat - 48)) 0
theorem decVal_snoc (l : List UInt8) (b : UInt8) : decVal (l ++ [b]) = decVal l * 10 + (b.toNat - 48) := by simp [decVal]
theorem decVal_dec (u : Nat) : decVal (Lib.decDigits u) = u := by
  induction u using Nat.strongRecOn with
  | _ u ih =>
    by_cases h : u < 10
    · rw [Lib.decDigits, dif_pos h]
      have := dig_val u h
      simp only [decVal, List.foldl_cons, List.foldl_nil, this]
      omega
    · rw [Lib.decDigits, dif_neg h, decVal_snoc, ih (u / 10) (by omega), dig_val (u % 10) (by omega)]
      omega
theorem dec_ne (u : Nat) : Lib.decDigits u ≠ [] := by
  rw [Lib.decDigits]
  split <;> simp

theorem itoa_inj {i j : Int} (h : Lib.itoa i = Lib.itoa j) : i = j := by
  unfold Lib.itoa at h
  have no : ∀ u : Nat, ∀ l, Lib.decDigits u ≠ 45 :: l := fun u l e => by
    have := dec_dig u 45 (by rw [e]; exact List.mem_cons_self)
    revert this
    decide
  by_cases hi : i < 0 <;> by_cases hj : j < 0
  · rw [if_pos hi, if_pos hj] at h
    have := congrArg decVal (List.cons.inj h).2
    rw [decVal_dec, decVal_dec] at this
    omega
  · rw [if_pos hi, if_neg hj] at h
    exact absurd h.symm (no _ _)
  · rw [if_neg hi, if_pos hj] at h
    exact absurd h (no _ _)
  · rw [if_neg hi, if_neg hj] at h
    have := congrArg decVal h
    rw [decVal_dec, decVal_dec] at this
    omega
/-- An item's text begins with a digit or a minus sign. -/
theorem itoa_head (i : Int) : ∃ b l, Lib.itoa i = b :: l ∧ (b == 45 || isDig b) = true := by
  unfold Lib.itoa
  by_cases hi : i < 0
  · rw [if_pos hi]
    exact ⟨45, _, rfl, rfl⟩
  · rw [if_neg hi]
    cases e : Lib.decDigits i.toNat with
    | nil => exact absurd e (dec_ne _)
    | cons b l =>
      have := dec_dig i.toNat b (by rw [e]; exact List.mem_cons_self)
      exact ⟨b, l, rfl, by rw [this]; simp⟩
theorem itoa_slash (i : Int) : ∀ c ∈ Lib.itoa i, c ≠ 47 := by
  have dg : ∀ c : UInt8, isDig c = true → c ≠ 47 := fun c h e => by subst e; revert h; decide
  unfold Lib.itoa
  intro c hc
  split at hc
  · rcases List.mem_cons.1 hc with rfl | hc
    · decide
    · exact dg c (dec_dig _ c hc)
  · exact dg c (dec_dig _ c hc)

theorem nameT_slash (n : List UInt8) : ∀ c ∈ nameT n, c ≠ 47 := by
  unfold nameT
  intro c hc
  rcases List.mem_append.1 hc with hc | hc
  · split at hc
    · simp at hc; rcases hc with rfl | rfl <;> decide
    · cases hc
  · obtain ⟨b, _, hb⟩ := List.mem_flatMap.1 hc
    exact escB_slash b c hb
theorem stepT_slash (s : St) : ∀ c ∈ stepT s, c ≠ 47 := by
  unfold stepT
  split
  · exact itoa_slash _
  · exact nameT_slash _

/-- A name's first written byte: a mark, the byte itself, or a wave with 0 or 1 behind it. -/
theorem escB_cases (b : UInt8) : (b = 126 ∧ escB b = [126, 48]) ∨ (b = 47 ∧ escB b = [126, 49]) ∨ (b ≠ 126 ∧ b ≠ 47 ∧ escB b = [b]) := by
  unfold escB
  by_cases h : b = 126
  · exact .inl ⟨h, by rw [if_pos h]⟩
  · by_cases h2 : b = 47
    · exact .inr (.inl ⟨h2, by rw [if_neg h, if_pos h2]⟩)
    · exact .inr (.inr ⟨h, h2, by rw [if_neg h, if_neg h2]⟩)

theorem esc_inj : ∀ {a b : List UInt8}, a.flatMap escB = b.flatMap escB → a = b
  | [], [], _ => rfl
  | [], y :: b, h => by
    rw [List.flatMap_cons] at h
    rcases escB_cases y with ⟨_, e⟩ | ⟨_, e⟩ | ⟨_, _, e⟩ <;> rw [e] at h <;> cases h
  | x :: a, [], h => by
    rw [List.flatMap_cons] at h
    rcases escB_cases x with ⟨_, e⟩ | ⟨_, e⟩ | ⟨_, _, e⟩ <;> rw [e] at h <;> cases h
  | x :: a, y :: b, h => by
    rw [List.flatMap_cons, List.flatMap_cons] at h
    rcases escB_cases x with ⟨hx, e⟩ | ⟨hx, e⟩ | ⟨hx, hx2, e⟩ <;> rcases escB_cases y with ⟨hy, f⟩ | ⟨hy, f⟩ | ⟨hy, hy2, f⟩ <;>
      rw [e, f] at h <;> simp only [List.cons_append, List.nil_append, List.cons.injEq] at h
    · rw [esc_inj h.2.2, hx, hy]
    · exact absurd h.2.1 (by decide)
    · exact absurd h.1.symm hy
    · exact absurd h.2.1 (by decide)
    · rw [esc_inj h.2.2, hx, hy]
    · exact absurd h.1.symm hy
    · exact absurd h.1 hx
    · exact absurd h.1 hx
    · rw [esc_inj h.2, h.1]

/-- An unmarked name's text: no digit, no minus, and no mark at its head. -/
theorem plain_head {n : List UInt8} (h : markedL n = false) : ∃ b l, n.flatMap escB = b :: l ∧ (b == 45 || isDig b) = false ∧ ∀ r, b :: l ≠ 126 :: 50 :: r := by
  cases n with
  | nil => cases h
  | cons x n =>
    rw [List.flatMap_cons]
    have hx : (x == 45 || isDig x) = false := h
    rcases escB_cases x with ⟨rfl, e⟩ | ⟨rfl, e⟩ | ⟨h1, _, e⟩ <;> rw [e]
    · exact ⟨126, _, rfl, by decide, fun r e => by simp at e⟩
    · exact ⟨126, _, rfl, by decide, fun r e => by simp at e⟩
    · exact ⟨x, _, rfl, hx, fun r e => h1 (List.cons.inj e).1⟩

theorem nameT_inj {a b : List UInt8} (h : nameT a = nameT b) : a = b := by
  unfold nameT at h
  cases ha : markedL a <;> cases hb : markedL b <;> rw [ha, hb] at h <;> simp only [if_true, if_false, Bool.false_eq_true, List.nil_append] at h
  · exact esc_inj h
  · obtain ⟨c, l, e, _, no⟩ := plain_head ha
    rw [e] at h
    exact absurd h (no _)
  · obtain ⟨c, l, e, _, no⟩ := plain_head hb
    rw [e] at h
    exact absurd h.symm (no _)
  · exact esc_inj (List.append_cancel_left h)
theorem nameT_head (n : List UInt8) : ∃ b l, nameT n = b :: l ∧ (b == 45 || isDig b) = false := by
  unfold nameT
  cases h : markedL n
  · obtain ⟨b, l, e, hb, _⟩ := plain_head h
    exact ⟨b, l, by simpa using e, hb⟩
  · exact ⟨126, _, rfl, by decide⟩

theorem ba_eq {a b : ByteArray} (h : a.data.toList = b.data.toList) : a = b := ByteArray.ext (Array.toList_inj.1 h)

theorem stepT_bare (s : St) : stepT (bareS s) = stepT s := by
  obtain ⟨n, i, t⟩ := s
  cases t <;> rfl
theorem stepT_inj {s t : St} (h : stepT s = stepT t) : bareS s = bareS t := by
  obtain ⟨n, i, b⟩ := s
  obtain ⟨n2, i2, b2⟩ := t
  cases b <;> cases b2
  · have := ba_eq (nameT_inj (show nameT n.data.toList = nameT n2.data.toList from h))
    subst this
    rfl
  · obtain ⟨c, l, e, hc⟩ := nameT_head n.data.toList
    obtain ⟨d, m, f, hd⟩ := itoa_head i2
    have h : nameT n.data.toList = Lib.itoa i2 := h
    rw [e, f] at h
    rw [(List.cons.inj h).1, hd] at hc
    cases hc
  · obtain ⟨c, l, e, hc⟩ := nameT_head n2.data.toList
    obtain ⟨d, m, f, hd⟩ := itoa_head i
    have h : Lib.itoa i = nameT n2.data.toList := h
    rw [e, f] at h
    rw [← (List.cons.inj h).1, hd] at hc
    cases hc
  · have := itoa_inj (show Lib.itoa i = Lib.itoa i2 from h)
    subst this
    rfl

/-- Nothing, or a slash and more. -/
def Cut (l : List UInt8) : Prop := l = [] ∨ ∃ r, l = 47 :: r
theorem pathT_cut (l : List St) : Cut (pathT l) := by
  cases l with
  | nil => exact .inl rfl
  | cons s l => exact .inr ⟨_, rfl⟩
theorem cut_split : ∀ {x y u v : List UInt8}, (∀ c ∈ x, c ≠ 47) → (∀ c ∈ y, c ≠ 47) → Cut u → Cut v → x ++ u = y ++ v → x = y ∧ u = v
  | [], [], u, v, _, _, _, _, h => ⟨rfl, h⟩
  | [], d :: y, u, v, _, hy, hu, _, h => by
    rcases hu with rfl | ⟨r, rfl⟩
    · cases h
    · exact absurd (List.cons.inj h).1.symm (hy d List.mem_cons_self)
  | c :: x, [], u, v, hx, _, _, hv, h => by
    rcases hv with rfl | ⟨r, rfl⟩
    · cases h
    · exact absurd (List.cons.inj h).1 (hx c List.mem_cons_self)
  | c :: x, d :: y, u, v, hx, hy, hu, hv, h => by
    obtain ⟨e, h⟩ := List.cons.inj h
    obtain ⟨e2, h2⟩ := cut_split (fun z hz => hx z (List.mem_cons_of_mem _ hz)) (fun z hz => hy z (List.mem_cons_of_mem _ hz)) hu hv h
    exact ⟨by rw [e, e2], h2⟩

theorem pathT_bare (l : List St) : pathT (l.map bareS) = pathT l := by
  unfold pathT
  rw [List.flatMap_map]
  simp only [stepT_bare]

/-- The text of b, and behind it nothing or a slash, begins the text of a, just if b's steps begin a's. -/
theorem pathT_under : ∀ {a b : List St} {r : List UInt8}, Cut r → pathT a = pathT b ++ r → b.length ≤ a.length ∧ (a.take b.length).map bareS = b.map bareS
  | a, [], r, _, _ => ⟨Nat.zero_le _, rfl⟩
  | [], t :: b, r, _, h => by
    simp [pathT] at h
  | s :: a, t :: b, r, hr, h => by
    simp only [pathT, List.flatMap_cons, List.cons_append, List.append_assoc, List.cons.injEq, true_and] at h
    have hc : Cut (pathT b ++ r) := by
      cases b with
      | nil => exact hr
      | cons _ _ => exact .inr ⟨_, rfl⟩
    obtain ⟨e1, e2⟩ := cut_split (stepT_slash s) (stepT_slash t) (pathT_cut a) hc h
    obtain ⟨h1, h2⟩ := pathT_under hr e2
    exact ⟨by simpa using h1, by simp only [List.length_cons, List.take_succ_cons, List.map_cons, h2, stepT_inj e1]⟩

theorem pathT_app (a b : List St) : pathT (a ++ b) = pathT a ++ pathT b := by simp [pathT]
theorem st_ext {s t : St} (h1 : s.nm.toList = t.nm.toList) (h2 : s.ix = t.ix) (h3 : s.it = t.it) : s = t := by
  obtain ⟨n, i, b⟩ := s
  obtain ⟨n2, i2, b2⟩ := t
  simp only at h1 h2 h3
  have : n = n2 := ba_eq (by rw [ByteArray.toList_eq, ByteArray.toList_eq] at h1; exact h1)
  subst this h2 h3
  rfl
theorem cmpP_zero {a b : List St} : cmpP a b = 0 ↔ a.map bareS = b.map bareS := by
  rw [cmpP_lex]
  induction a generalizing b with
  | nil => cases b <;> simp [lexL]
  | cons x a ih =>
    cases b with
    | nil => simp [lexL]
    | cons y b =>
      rw [lexL]
      have e : stepOrd x y = 0 ↔ bareS x = bareS y := by
        rw [stepOrd_zero]
        constructor
        · rintro ⟨h1, h2, h3⟩
          exact st_ext h1 h2 h3
        · intro h
          rw [h]
          exact ⟨rfl, rfl, rfl⟩
      by_cases h : stepOrd x y = 0
      · rw [if_pos h, ih]
        simp [e.1 h]
      · rw [if_neg h]
        have h2 := fun h' => h (e.2 h')
        simp only [h, List.map_cons, List.cons.injEq, false_iff]
        exact fun h' => h2 h'.1

/-- Under is told by the texts. -/
theorem under_text (a b : List St) : underP a b = true ↔ pathT a = pathT b ∨ (pathT b ++ [47]) <+: pathT a := by
  have hu : underP a b = true ↔ b.length ≤ a.length ∧ (a.take b.length).map bareS = b.map bareS := by
    unfold underP
    rw [Bool.and_eq_true, decide_eq_true_eq, beq_iff_eq, cmpP_zero]
  rw [hu]
  constructor
  · rintro ⟨h1, h2⟩
    have h3 : pathT a = pathT b ++ pathT (a.drop b.length) := by
      rw [← pathT_bare b, ← h2, pathT_bare, ← pathT_app, List.take_append_drop]
    rcases pathT_cut (a.drop b.length) with e | ⟨r, e⟩
    · exact .inl (by rw [h3, e, List.append_nil])
    · exact .inr ⟨r, by rw [h3, e]; simp⟩
  · rintro (h | ⟨r, h⟩)
    · exact pathT_under (.inl rfl) (by simpa using h)
    · exact pathT_under (.inr ⟨r, rfl⟩) (by rw [← h]; simp)

/-- A path that lies under another is not ahead of it. -/
theorem under_ge {a b : List St} (h : underP a b = true) : 0 ≤ cmpP a b := by
  unfold underP at h
  rw [Bool.and_eq_true, decide_eq_true_eq, beq_iff_eq] at h
  obtain ⟨h1, h2⟩ := h
  rw [cmpP_lex] at *
  induction b generalizing a with
  | nil => cases a <;> simp [lexL]
  | cons y b ih =>
    cases a with
    | nil => simp at h1
    | cons x a =>
      simp only [List.length_cons, List.take_succ_cons] at h2
      rw [lexL] at *
      by_cases e : stepOrd x y = 0
      · rw [if_pos e] at *
        exact ih (by simpa using h1) h2
      · rw [if_neg e] at h2
        exact absurd h2 e
end Go.Proofs.YtnmnmkdmnohbmaaGreatDoor
