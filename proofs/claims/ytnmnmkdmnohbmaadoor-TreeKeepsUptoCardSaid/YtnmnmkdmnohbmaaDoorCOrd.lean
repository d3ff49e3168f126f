/- Orders told by a comparison; lexicographic ones; sorted lists without twins. Plain. Conditions: none. -/
import Derived.Test.YtnmnmkdmnohbmaaDoorUnder
namespace Go.Proofs.YtnmnmkdmnohbmaaDoor

/-- A comparison that orders: total, each way round the opposite, transitive. -/
structure OrdC {α : Type} (c : α → α → Int) : Prop where
  rng : ∀ x y, c x y = -1 ∨ c x y = 0 ∨ c x y = 1
  swap : ∀ x y, c y x = - c x y
  trans : ∀ x y z, c x y ≤ 0 → c y z ≤ 0 → c x z ≤ 0

namespace OrdC
variable {α β : Type} {c d : α → α → Int}

theorem refl (h : OrdC c) (x : α) : c x x = 0 := by have := h.swap x x; omega
theorem lt_le (h : OrdC c) {x y z : α} (h1 : c x y < 0) (h2 : c y z ≤ 0) : c x z < 0 := by
  have h3 := h.trans x y z (by omega) h2
  by_cases h0 : c x z = 0
  · have e1 := h.swap x z
    have h4 := h.trans y z x h2 (by omega)
    have e2 := h.swap x y
    omega
  · omega
theorem le_lt (h : OrdC c) {x y z : α} (h1 : c x y ≤ 0) (h2 : c y z < 0) : c x z < 0 := by
  have h3 := h.trans x y z h1 (by omega)
  by_cases h0 : c x z = 0
  · have e1 := h.swap x z
    have h4 := h.trans z x y (by omega) h1
    have e2 := h.swap y z
    omega
  · omega
theorem eq_left (h : OrdC c) {x y : α} (h1 : c x y = 0) (z : α) : c x z = c y z := by
  have e1 := h.swap x y
  have a := fun (hh : c y z ≤ 0) => h.trans x y z (by omega) hh
  have b := fun (hh : c x z ≤ 0) => h.trans y x z (by omega) hh
  have a' := fun (hh : c y z < 0) => h.le_lt (x := x) (y := y) (z := z) (by omega) hh
  have b' := fun (hh : c x z < 0) => h.le_lt (x := y) (y := x) (z := z) (by omega) hh
  rcases h.rng x z with r | r | r <;> rcases h.rng y z with s | s | s <;> first | omega | (have := a (by omega); have := b (by omega); omega) | (have := a (by omega); omega) | (have := b (by omega); omega) | (have := a' (by omega); omega) | (have := b' (by omega); omega)
theorem eq_right (h : OrdC c) {x y : α} (h1 : c x y = 0) (z : α) : c z x = c z y := by
  have e1 := h.swap x z
  have e2 := h.swap y z
  have := h.eq_left h1 z
  omega
theorem eq_trans (h : OrdC c) {x y z : α} (h1 : c x y = 0) (h2 : c y z = 0) : c x z = 0 := by rw [h.eq_left h1]; exact h2

theorem comap (h : OrdC c) (f : β → α) : OrdC (fun x y => c (f x) (f y)) := ⟨fun _ _ => h.rng _ _, fun _ _ => h.swap _ _, fun _ _ _ => h.trans _ _ _⟩

theorem lex (h : OrdC c) (k : OrdC d) : OrdC (fun x y => if c x y = 0 then d x y else c x y) := by
  refine ⟨fun x y => ?_, fun x y => ?_, fun x y z => ?_⟩
  · split
    · exact k.rng x y
    · exact h.rng x y
  · have e1 := h.swap x y
    have e2 := k.swap x y
    by_cases h0 : c x y = 0
    · rw [if_pos (by omega), if_pos h0]; exact e2
    · rw [if_neg (by omega), if_neg h0]; exact e1
  · intro h1 h2
    by_cases a : c x y = 0
    · rw [if_pos a] at h1
      have e := h.eq_left a z
      by_cases b : c y z = 0
      · rw [if_pos b] at h2
        rw [if_pos (by omega)]
        exact k.trans x y z h1 h2
      · rw [if_neg b] at h2
        rw [if_neg (by omega)]
        omega
    · rw [if_neg a] at h1
      by_cases b : c y z = 0
      · have e := h.eq_right b x
        rw [if_neg (by omega)]
        omega
      · rw [if_neg b] at h2
        have := h.lt_le (x := x) (y := y) (z := z) (by omega) (by omega)
        rw [if_neg (by omega)]
        omega
end OrdC

/-- Lists, element by element, the shorter first. -/
def lexL {α : Type} (c : α → α → Int) : List α → List α → Int
  | [], [] => 0
  | [], _ :: _ => -1
  | _ :: _, [] => 1
  | x :: a, y :: b => if c x y = 0 then lexL c a b else c x y

theorem lexL_ord {α : Type} {c : α → α → Int} (h : OrdC c) : OrdC (lexL c) := by
  have rng : ∀ a b, lexL c a b = -1 ∨ lexL c a b = 0 ∨ lexL c a b = 1 := by
    intro a
    induction a with
    | nil => intro b; cases b <;> simp [lexL]
    | cons x a ih =>
      intro b
      cases b with
      | nil => simp [lexL]
      | cons y b =>
        rw [lexL]
        split
        · exact ih b
        · exact h.rng x y
  have swap : ∀ a b, lexL c b a = - lexL c a b := by
    intro a
    induction a with
    | nil => intro b; cases b <;> simp [lexL]
    | cons x a ih =>
      intro b
      cases b with
      | nil => simp [lexL]
      | cons y b =>
        have e := h.swap x y
        rw [lexL, lexL]
        by_cases h0 : c x y = 0
        · rw [if_pos (by omega), if_pos h0]; exact ih b
        · rw [if_neg (by omega), if_neg h0]; exact e
  refine ⟨rng, swap, ?_⟩
  intro a
  induction a with
  | nil =>
    intro b z _ _
    cases z with
    | nil => show (0 : Int) ≤ 0; omega
    | cons _ _ => show (-1 : Int) ≤ 0; omega
  | cons x a ih =>
    intro b z h1 h2
    cases b with
    | nil => simp [lexL] at h1
    | cons y b =>
      cases z with
      | nil => simp [lexL] at h2
      | cons u z =>
        rw [lexL] at h1 h2 ⊢
        by_cases p : c x y = 0
        · rw [if_pos p] at h1
          have e := h.eq_left p u
          by_cases q : c y u = 0
          · rw [if_pos q] at h2
            rw [if_pos (by omega)]
            exact ih b z h1 h2
          · rw [if_neg q] at h2
            rw [if_neg (by omega)]
            omega
        · rw [if_neg p] at h1
          by_cases q : c y u = 0
          · have e := h.eq_right q x
            rw [if_neg (by omega)]
            omega
          · rw [if_neg q] at h2
            have := h.lt_le (x := x) (y := y) (z := u) (by omega) (by omega)
            rw [if_neg (by omega)]
            omega

theorem lexL_eq {α : Type} {c : α → α → Int} : ∀ {a b : List α}, (∀ x ∈ a, ∀ y ∈ b, c x y = 0 → x = y) → lexL c a b = 0 → a = b
  | [], [], _, _ => rfl
  | [], _ :: _, _, h => by cases h
  | _ :: _, [], _, h => by cases h
  | x :: a, y :: b, hc, h => by
    rw [lexL] at h
    by_cases h0 : c x y = 0
    · rw [if_pos h0] at h
      rw [hc x (by simp) y (by simp) h0, lexL_eq (fun u hu v hv => hc u (by simp [hu]) v (by simp [hv])) h]
    · rw [if_neg h0] at h
      exact absurd h h0

theorem cmpI_ord : OrdC cmpI := by
  refine ⟨fun x y => ?_, fun x y => ?_, fun x y z => ?_⟩ <;> unfold cmpI <;> (repeat' split) <;> omega

theorem bytes_lex : ∀ a b : List UInt8, (if Op.bytesLess a b = true then (-1 : Int) else if a == b then 0 else 1) = lexL (fun x y => cmpI x.toNat y.toNat) a b
  | [], [] => rfl
  | [], _ :: _ => rfl
  | _ :: _, [] => rfl
  | x :: a, y :: b => by
    have ih := bytes_lex a b
    rw [lexL, ← ih]
    have hl : x < y ↔ x.toNat < y.toNat := UInt8.lt_iff_toNat_lt
    have he : x = y ↔ x.toNat = y.toNat := ⟨fun e => by rw [e], fun e => UInt8.toNat_inj.1 e⟩
    simp only [Op.bytesLess]
    rcases Nat.lt_trichotomy x.toNat y.toNat with h | h | h
    · rw [cmpI_lt (by omega)]
      simp [hl.2 h]
    · obtain rfl := he.2 h
      rw [cmpI_eq (by omega) (by omega)]
      simp
    · rw [cmpI_gt (by omega)]
      have h1 : ¬ x < y := fun e => by have := hl.1 e; omega
      have h2 : ¬ x = y := fun e => by have := he.1 e; omega
      simp [h1, h2]

theorem cmpS_ord : OrdC cmpS := by
  have h := lexL_ord (cmpI_ord.comap (fun x : UInt8 => (x.toNat : Int)))
  have e : cmpS = fun a b => lexL (fun x y : UInt8 => cmpI x.toNat y.toNat) a.toList b.toList := by
    funext a b
    exact bytes_lex _ _
  rw [e]
  exact h.comap _

theorem stepOrd_ord : OrdC stepOrd := by
  have hI := cmpI_ord
  have hS := cmpS_ord
  refine ⟨fun x y => ?_, fun x y => ?_, fun x y z => ?_⟩
  · obtain ⟨n, i, b⟩ := x
    obtain ⟨n2, i2, b2⟩ := y
    cases b <;> cases b2 <;> simp only [stepOrd] <;> simp
    · exact hS.rng n n2
    · exact hI.rng i i2
  · obtain ⟨n, i, b⟩ := x
    obtain ⟨n2, i2, b2⟩ := y
    cases b <;> cases b2 <;> simp only [stepOrd] <;> simp
    · exact hS.swap n n2
    · exact hI.swap i i2
  · obtain ⟨n, i, b⟩ := x
    obtain ⟨n2, i2, b2⟩ := y
    obtain ⟨n3, i3, b3⟩ := z
    cases b <;> cases b2 <;> cases b3 <;> simp only [stepOrd] <;> simp
    · exact hS.trans n n2 n3
    · exact hI.trans i i2 i3

theorem cmpP_lex : ∀ a b : List St, cmpP a b = lexL stepOrd a b
  | [], [] => rfl
  | [], _ :: _ => rfl
  | _ :: _, [] => rfl
  | x :: a, y :: b => by rw [cmpP, lexL, cmpP_lex a b]

theorem cmpP_ord : OrdC cmpP := by
  have e : cmpP = lexL stepOrd := by funext a b; exact cmpP_lex a b
  rw [e]
  exact lexL_ord stepOrd_ord

/-- Two rising lists without twins whose members are alike are alike. -/
theorem rising_unique {α : Type} {c : α → α → Int} (h : OrdC c) : ∀ (a b : List α), a.Pairwise (fun x y => c x y < 0) → b.Pairwise (fun x y => c x y < 0) →
    (∀ x ∈ a, ∃ y ∈ b, c x y = 0) → (∀ y ∈ b, ∃ x ∈ a, c x y = 0) → lexL c a b = 0
  | [], [], _, _, _, _ => rfl
  | [], y :: b, _, _, _, hb => by obtain ⟨x, hx, _⟩ := hb y (by simp); cases hx
  | x :: a, [], _, _, ha, _ => by obtain ⟨y, hy, _⟩ := ha x (by simp); cases hy
  | x :: a, y :: b, pa, pb, ha, hb => by
    rw [List.pairwise_cons] at pa pb
    have hxy : c x y = 0 := by
      obtain ⟨y', hy', e1⟩ := ha x (by simp)
      obtain ⟨x', hx', e2⟩ := hb y (by simp)
      rcases List.mem_cons.1 hy' with rfl | hy'
      · exact e1
      · rcases List.mem_cons.1 hx' with rfl | hx'
        · exact e2
        · have l1 := pb.1 y' hy'
          have l2 := pa.1 x' hx'
          have s1 := h.eq_right e1 y
          have s2 := h.eq_left e2 x
          have w1 := h.swap x y
          have w2 := h.swap x x'
          omega
    rw [lexL, if_pos hxy]
    refine (rising_unique h a b pa.2 pb.2 (fun z hz => ?_) (fun z hz => ?_))
    · obtain ⟨y', hy', e⟩ := ha z (by simp [hz])
      rcases List.mem_cons.1 hy' with rfl | hy'
      · have l := pa.1 z hz
        have := h.eq_right e x
        omega
      · exact ⟨y', hy', e⟩
    · obtain ⟨x', hx', e⟩ := hb z (by simp [hz])
      rcases List.mem_cons.1 hx' with rfl | hx'
      · have l := pb.1 z hz
        have := h.eq_left hxy z
        have := h.swap x' z
        omega
      · exact ⟨x', hx', e⟩
end Go.Proofs.YtnmnmkdmnohbmaaDoor
