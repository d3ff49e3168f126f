/- Plain law: values the same, members in any order: what the greedy pairing says, and that it is an equivalence. Conditions: none. -/
import Derived.Test.YtnmnmkdmnohbmaaDoorEqual
namespace Go.Proofs.YtnmnmkdmnohbmaaDoor
open Go.RowKit

mutual
/-- The same value, members in any order. -/
def sameV : V → V → Bool
  | .mk k b i f t ty its fs, .mk k' b' i' f' t' ty' its' fs' =>
    if kd k = kd k' then
      if kd k = 5 then decide (its.length = its'.length) && sameVs its its'
      else if kd k = 6 then decide (fs.length = fs'.length) && pairFs fs fs' (List.range fs'.length)
      else plainV (kd k) b b' i i' f f' t t' ty ty'
    else false
def sameVs : List V → List V → Bool
  | v :: r, v' :: r' => sameV v v' && sameVs r r'
  | _, _ => true
/-- The members of the first list find each the first free one that will do. -/
def pairFs : List (ByteArray × V) → List (ByteArray × V) → List Nat → Bool
  | [], _, _ => true
  | x :: r, bs, free =>
    match free.find? (fun j => match bs[j]? with | some y => x.1.toList == y.1.toList && sameV x.2 y.2 | none => false) with
    | none => false
    | some j => pairFs r bs (free.filter (fun i => i != j))
end

/-- Two members alike. -/
def memS (x y : ByteArray × V) : Bool := x.1.toList == y.1.toList && sameV x.2 y.2

/-- Does the free member number j fit? -/
def fits (x : ByteArray × V) (bs : List (ByteArray × V)) (j : Nat) : Bool := match bs[j]? with | some y => memS x y | none => false

theorem pairFs_nil (bs : List (ByteArray × V)) (free : List Nat) : pairFs [] bs free = true := by rw [pairFs]
theorem pairFs_cons (x : ByteArray × V) (r bs : List (ByteArray × V)) (free : List Nat) : pairFs (x :: r) bs free = match free.find? (fits x bs) with | none => false | some j => pairFs r bs (free.filter (fun i => i != j)) := by
  rw [pairFs]; rfl

section
variable {α : Type} (r : α → α → Bool)

/-- The greedy pairing, over the members themselves. -/
def greedy : List α → List α → Bool
  | [], _ => true
  | x :: as0, bs => match bs.findIdx? (r x) with
    | none => false
    | some i => greedy as0 (bs.eraseIdx i)

theorem countP_eraseIdx (p : α → Bool) : ∀ (bs : List α) (i : Nat) (y : α), bs[i]? = some y → bs.countP p = (bs.eraseIdx i).countP p + if p y then 1 else 0
  | [], _, _, h => by simp at h
  | b :: bs, 0, y, h => by
    obtain rfl : b = y := by simpa using h
    simp [List.countP_cons]
  | b :: bs, i + 1, y, h => by
    have := countP_eraseIdx p bs i y (by simpa using h)
    simp only [List.eraseIdx_cons_succ, List.countP_cons]
    omega

variable (P : α → Prop)
variable (hr : ∀ x, P x → r x x = true) (hs : ∀ x y, P x → P y → r x y = true → r y x = true) (ht : ∀ x y z, P x → P y → P z → r x y = true → r y z = true → r x z = true)
include hr hs ht

theorem greedy_iff : ∀ (as0 bs : List α), (∀ x ∈ as0, P x) → (∀ y ∈ bs, P y) → (greedy r as0 bs = true ↔ ∀ z, P z → as0.countP (r z) ≤ bs.countP (r z))
  | [], bs, _, _ => by simp [greedy]
  | x :: as0, bs, ha, hb => by
    have hx := ha x (by simp)
    have ha' : ∀ y ∈ as0, P y := fun y hy => ha y (by simp [hy])
    unfold greedy
    have congr : ∀ y, P y → r x y = true → ∀ z, P z → r z x = r z y := fun y hy hxy z hz => by
      cases h1 : r z x
      · cases h2 : r z y
        · rfl
        · rw [ht z y x hz hy hx h2 (hs x y hx hy hxy)] at h1; cases h1
      · rw [ht z x y hz hx hy h1 hxy]
    cases hf : bs.findIdx? (r x) with
    | none =>
      simp only [Bool.false_eq_true, false_iff]
      intro h
      have h1 := h x hx
      have h2 : bs.countP (r x) = 0 := by
        rw [List.countP_eq_zero]
        intro y hy
        rw [List.findIdx?_eq_none_iff] at hf
        simp [hf y hy]
      rw [List.countP_cons, hr x hx, h2] at h1
      simp at h1
    | some i =>
      obtain ⟨hi, hxi, _⟩ := List.findIdx?_eq_some_iff_getElem.1 hf
      have hy : bs[i]? = some bs[i] := List.getElem?_eq_getElem hi
      have hpy : P bs[i] := hb _ (List.getElem_mem _)
      simp only []
      rw [greedy_iff as0 (bs.eraseIdx i) ha' (fun y hy => hb y (List.mem_of_mem_eraseIdx hy))]
      constructor
      · intro h z hz
        have h1 := h z hz
        have h2 := countP_eraseIdx (r z) bs i _ hy
        rw [List.countP_cons, congr _ hpy hxi z hz]
        omega
      · intro h z hz
        have h1 := h z hz
        have h2 := countP_eraseIdx (r z) bs i _ hy
        rw [List.countP_cons, congr _ hpy hxi z hz] at h1
        omega

/-- Between lists of one length, the counts that are never more are never less. -/
theorem counts_symm : ∀ (as0 bs : List α), (∀ x ∈ as0, P x) → (∀ y ∈ bs, P y) → as0.length = bs.length → (∀ z, P z → as0.countP (r z) ≤ bs.countP (r z)) → ∀ z, P z → bs.countP (r z) ≤ as0.countP (r z)
  | [], bs, _, _, hl, _ => by
    obtain rfl : bs = [] := List.length_eq_zero_iff.1 (by simpa using hl.symm)
    simp
  | x :: as0, bs, ha, hb, hl, h => by
    have hx := ha x (by simp)
    have ha' : ∀ y ∈ as0, P y := fun y hy => ha y (by simp [hy])
    have hg := (greedy_iff r P hr hs ht (x :: as0) bs ha hb).2 h
    unfold greedy at hg
    cases hf : bs.findIdx? (r x) with
    | none => rw [hf] at hg; cases hg
    | some i =>
      rw [hf] at hg
      obtain ⟨hi, hxi, _⟩ := List.findIdx?_eq_some_iff_getElem.1 hf
      have hy : bs[i]? = some bs[i] := List.getElem?_eq_getElem hi
      have hpy : P bs[i] := hb _ (List.getElem_mem _)
      have hb' : ∀ y ∈ bs.eraseIdx i, P y := fun y hy => hb y (List.mem_of_mem_eraseIdx hy)
      have hle := (greedy_iff r P hr hs ht as0 (bs.eraseIdx i) ha' hb').1 hg
      have hlen : (bs.eraseIdx i).length + 1 = bs.length := by rw [List.length_eraseIdx]; simp [hi]; omega
      have hi2 := counts_symm as0 (bs.eraseIdx i) ha' hb' (by simp at hl; omega) hle
      intro z hz
      have h1 := hi2 z hz
      have h2 := countP_eraseIdx (r z) bs i _ hy
      have hc : r z x = r z bs[i] := by
        cases h1 : r z x
        · cases h2 : r z bs[i]
          · rfl
          · rw [ht z bs[i] x hz hpy hx h2 (hs x bs[i] hx hpy hxi)] at h1; cases h1
        · rw [ht z x bs[i] hz hx hpy h1 hxi]
      rw [List.countP_cons, hc]
      omega
end

/-- What the free numbers stand for. -/
def frees (bs : List (ByteArray × V)) (free : List Nat) : List (ByteArray × V) := free.filterMap (fun j => bs[j]?)

theorem pairFs_greedy : ∀ (as0 bs : List (ByteArray × V)) (free : List Nat), free.Nodup → (∀ j ∈ free, j < bs.length) → pairFs as0 bs free = greedy memS as0 (frees bs free)
  | [], _, _, _, _ => by rw [pairFs_nil]; rfl
  | x :: r, bs, free, hn, hl => by
    rw [pairFs_cons]
    unfold greedy
    have key : ∀ (l : List Nat), l.Nodup → (∀ j ∈ l, j < bs.length) → (match l.find? (fits x bs) with
        | none => (frees bs l).findIdx? (memS x) = none
        | some j => ∃ i, (frees bs l).findIdx? (memS x) = some i ∧ (frees bs l).eraseIdx i = frees bs (l.filter (fun i => i != j))) := by
      intro l hn hl
      induction l with
      | nil => simp [frees]
      | cons a l ih =>
        have ha := hl a (by simp)
        have hn' := (List.nodup_cons.1 hn).2
        have hna := (List.nodup_cons.1 hn).1
        have hfr : frees bs (a :: l) = bs[a] :: frees bs l := by simp [frees, List.getElem?_eq_getElem ha]
        have hfi : fits x bs a = memS x bs[a] := by simp [fits, List.getElem?_eq_getElem ha]
        rw [hfr]
        cases hm : memS x bs[a]
        · rw [List.find?_cons, hfi, hm]
          simp only []
          have h0 := ih hn' (fun j hj => hl j (by simp [hj]))
          cases hf : l.find? (fits x bs) with
          | none =>
            rw [hf] at h0
            simp only [] at h0 ⊢
            rw [List.findIdx?_cons, hm, h0]
            rfl
          | some j =>
            rw [hf] at h0
            simp only [] at h0 ⊢
            obtain ⟨i, h1, h2⟩ := h0
            refine ⟨i + 1, by rw [List.findIdx?_cons, hm, h1]; rfl, ?_⟩
            have hja : a ≠ j := fun e => by subst e; exact hna (List.mem_of_find?_eq_some hf)
            rw [List.eraseIdx_cons_succ, h2, List.filter_cons, if_pos (by simpa using hja)]
            simp [frees, List.getElem?_eq_getElem ha]
        · rw [List.find?_cons, hfi, hm]
          simp only []
          refine ⟨0, by rw [List.findIdx?_cons, hm]; rfl, ?_⟩
          rw [List.filter_cons, if_neg (by simp)]
          have : l.filter (fun i => i != a) = l := by
            rw [List.filter_eq_self]
            intro j hj
            simp only [bne_iff_ne, ne_eq]
            exact fun e => hna (e ▸ hj)
          rw [this]
          rfl
    have h := key free hn hl
    cases hf : free.find? (fits x bs) with
    | none => rw [hf] at h; simp only [] at h ⊢; rw [h]
    | some j =>
      rw [hf] at h
      simp only [] at h ⊢
      obtain ⟨i, h1, h2⟩ := h
      rw [h1]
      simp only []
      rw [h2]
      exact pairFs_greedy r bs _ (hn.filter _) (fun i hi => hl i ((List.mem_filter.1 hi).1))

theorem frees_range' : ∀ (l pre : List (ByteArray × V)), frees (pre ++ l) (List.range' pre.length l.length) = l
  | [], pre => by simp [frees]
  | b :: l, pre => by
    have h := frees_range' l (pre ++ [b])
    rw [List.append_assoc, List.singleton_append, List.length_append, List.length_singleton] at h
    unfold frees at h ⊢
    rw [List.length_cons, List.range'_succ, List.filterMap_cons]
    have h0 : (pre ++ b :: l)[pre.length]? = some b := by simp
    simp only [h0]
    rw [h]

theorem frees_range (bs : List (ByteArray × V)) : frees bs (List.range bs.length) = bs := by
  have h := frees_range' bs []
  rw [List.range_eq_range']
  simpa using h

theorem pair_all (as0 bs : List (ByteArray × V)) : pairFs as0 bs (List.range bs.length) = greedy memS as0 bs := by
  rw [pairFs_greedy as0 bs _ List.nodup_range (fun j hj => List.mem_range.1 hj), frees_range]

theorem sameV_mk (k : Int) (b : Bool) (i : Int) (f : Nat) (t ty : ByteArray) (its : List V) (fs : List (ByteArray × V)) (k' : Int) (b' : Bool) (i' : Int) (f' : Nat) (t' ty' : ByteArray) (its' : List V) (fs' : List (ByteArray × V)) :
    sameV (.mk k b i f t ty its fs) (.mk k' b' i' f' t' ty' its' fs') = if kd k = kd k' then
      if kd k = 5 then decide (its.length = its'.length) && sameVs its its'
      else if kd k = 6 then decide (fs.length = fs'.length) && greedy memS fs fs'
      else plainV (kd k) b b' i i' f f' t t' ty ty'
    else false := by
  rw [sameV, pair_all]

theorem plainV_refl (k : Int) (b : Bool) (i : Int) (f : Nat) (t ty : ByteArray) : plainV k b b i i f f t t ty ty = true := by
  simp [plainV, sameF_refl]
theorem plainV_symm (k : Int) (b b' : Bool) (i i' : Int) (f f' : Nat) (t t' ty ty' : ByteArray) (h : plainV k b b' i i' f f' t t' ty ty' = true) : plainV k b' b i' i f' f t' t ty' ty = true := by
  unfold plainV at h ⊢
  split at h
  · rename_i h1; rw [if_pos h1]; simp_all
  · rename_i h1; rw [if_neg h1]
    split at h
    · rename_i h1; rw [if_pos h1]; simp_all
    · rename_i h1; rw [if_neg h1]
      split at h
      · rename_i h1; rw [if_pos h1, sameF_symm]; exact h
      · rename_i h1; rw [if_neg h1]
        split at h
        · rename_i h1; rw [if_pos h1]; simp_all
        · rename_i h1; rw [if_neg h1]
          split at h
          · rename_i h1; rw [if_pos h1]; simp_all
          · rename_i h1; rw [if_neg h1]
theorem plainV_trans (k : Int) (b b' b'' : Bool) (i i' i'' : Int) (f f' f'' : Nat) (t t' t'' ty ty' ty'' : ByteArray) (h : plainV k b b' i i' f f' t t' ty ty' = true) (h' : plainV k b' b'' i' i'' f' f'' t' t'' ty' ty'' = true) :
    plainV k b b'' i i'' f f'' t t'' ty ty'' = true := by
  unfold plainV at h h' ⊢
  by_cases h1 : k = 1
  · rw [if_pos h1] at h h' ⊢; simp_all
  · rw [if_neg h1] at h h' ⊢
    by_cases h2 : k = 2
    · rw [if_pos h2] at h h' ⊢; simp_all
    · rw [if_neg h2] at h h' ⊢
      by_cases h3 : k = 3
      · rw [if_pos h3] at h h' ⊢; exact sameF_trans h h'
      · rw [if_neg h3] at h h' ⊢
        by_cases h4 : k = 4
        · rw [if_pos h4] at h h' ⊢; simp_all
        · rw [if_neg h4] at h h' ⊢
          by_cases h7 : k = 7
          · rw [if_pos h7] at h h' ⊢; simp_all
          · rw [if_neg h7]

theorem szVs_mem {l : List V} {v : V} (h : v ∈ l) : szV v ≤ szV.szVs l := by obtain ⟨i, hi⟩ := List.getElem?_of_mem h; exact szVs_get hi
theorem szFs_mem {l : List (ByteArray × V)} {x : ByteArray × V} (h : x ∈ l) : szV x.2 ≤ szV.szFs l := by obtain ⟨i, hi⟩ := List.getElem?_of_mem h; exact szFs_get hi

theorem sameVs_refl : ∀ (l : List V), (∀ v ∈ l, sameV v v = true) → sameVs l l = true
  | [], _ => by rw [sameVs]; simp
  | v :: r, h => by rw [sameVs, h v (by simp), sameVs_refl r (fun x hx => h x (by simp [hx]))]; rfl
theorem sameVs_symm : ∀ (l m : List V), (∀ u ∈ l, ∀ v ∈ m, sameV u v = true → sameV v u = true) → l.length = m.length → sameVs l m = true → sameVs m l = true
  | [], [], _, _, _ => by rw [sameVs]; simp
  | u :: l, v :: m, h, hl, hh => by
    rw [sameVs, Bool.and_eq_true] at hh ⊢
    exact ⟨h u (by simp) v (by simp) hh.1, sameVs_symm l m (fun a ha b hb => h a (by simp [ha]) b (by simp [hb])) (by simpa using hl) hh.2⟩
  | [], _ :: _, _, hl, _ => by simp at hl
  | _ :: _, [], _, hl, _ => by simp at hl
theorem sameVs_trans : ∀ (l m n : List V), (∀ u ∈ l, ∀ v ∈ m, ∀ w ∈ n, sameV u v = true → sameV v w = true → sameV u w = true) → l.length = m.length → sameVs l m = true → sameVs m n = true → sameVs l n = true
  | [], _, n, _, _, _, _ => by cases n <;> (rw [sameVs]; simp)
  | u :: l, v :: m, w :: n, h, hl, h1, h2 => by
    rw [sameVs, Bool.and_eq_true] at h1 h2 ⊢
    exact ⟨h u (by simp) v (by simp) w (by simp) h1.1 h2.1, sameVs_trans l m n (fun a ha b hb c hc => h a (by simp [ha]) b (by simp [hb]) c (by simp [hc])) (by simpa using hl) h1.2 h2.2⟩
  | _ :: _, [], _, _, hl, _, _ => by simp at hl
  | _ :: _, _ :: _, [], _, _, _, _ => by rw [sameVs]; simp

/-- To be the same is an equivalence. -/
theorem same_equiv : ∀ N : Nat, (∀ u, szV u ≤ N → sameV u u = true) ∧ (∀ u v, szV u ≤ N → szV v ≤ N → sameV u v = true → sameV v u = true) ∧
    (∀ u v w, szV u ≤ N → szV v ≤ N → szV w ≤ N → sameV u v = true → sameV v w = true → sameV u w = true) := by
  intro N
  induction N with
  | zero => exact ⟨fun u h => by have := szV_pos u; omega, fun u v h => by have := szV_pos u; omega, fun u v w h => by have := szV_pos u; omega⟩
  | succ N ih =>
    obtain ⟨i1, i2, i3⟩ := ih
    have m1 : ∀ x : ByteArray × V, szV x.2 ≤ N → memS x x = true := fun x hx => by simp [memS, i1 x.2 hx]
    have m2 : ∀ x y : ByteArray × V, szV x.2 ≤ N → szV y.2 ≤ N → memS x y = true → memS y x = true := fun x y hx hy h => by
      simp only [memS, Bool.and_eq_true, beq_iff_eq] at h ⊢
      exact ⟨h.1.symm, i2 _ _ hx hy h.2⟩
    have m3 : ∀ x y z : ByteArray × V, szV x.2 ≤ N → szV y.2 ≤ N → szV z.2 ≤ N → memS x y = true → memS y z = true → memS x z = true := fun x y z hx hy hz h h' => by
      simp only [memS, Bool.and_eq_true, beq_iff_eq] at h h' ⊢
      exact ⟨h.1.trans h'.1, i3 _ _ _ hx hy hz h.2 h'.2⟩
    have small : ∀ (k : Int) (b : Bool) (i : Int) (f : Nat) (t ty : ByteArray) (its : List V) (fs : List (ByteArray × V)), szV (.mk k b i f t ty its fs) ≤ N + 1 → (∀ x ∈ its, szV x ≤ N) ∧ (∀ x ∈ fs, szV x.2 ≤ N) := fun k b i f t ty its fs h => by
      simp only [szV] at h
      exact ⟨fun x hx => by have := szVs_mem hx; omega, fun x hx => by have := szFs_mem hx; omega⟩
    have G := fun as0 bs ha hb => greedy_iff memS (fun x : ByteArray × V => szV x.2 ≤ N) m1 m2 m3 as0 bs ha hb
    refine ⟨?_, ?_, ?_⟩
    · rintro ⟨k, b, i, f, t, ty, its, fs⟩ h
      obtain ⟨s1, s2⟩ := small _ _ _ _ _ _ _ _ h
      rw [sameV_mk, if_pos rfl]
      by_cases h5 : kd k = 5
      · rw [if_pos h5, sameVs_refl its (fun v hv => i1 v (s1 v hv))]; simp
      · rw [if_neg h5]
        by_cases h6 : kd k = 6
        · rw [if_pos h6, (G fs fs s2 s2).2 (fun z _ => Nat.le_refl _)]; simp
        · rw [if_neg h6]; exact plainV_refl _ _ _ _ _ _
    · rintro ⟨k, b, i, f, t, ty, its, fs⟩ ⟨k', b', i', f', t', ty', its', fs'⟩ h h' hh
      obtain ⟨s1, s2⟩ := small _ _ _ _ _ _ _ _ h
      obtain ⟨s1', s2'⟩ := small _ _ _ _ _ _ _ _ h'
      rw [sameV_mk] at hh ⊢
      by_cases hk : kd k = kd k'
      · rw [if_pos hk] at hh
        rw [if_pos hk.symm, ← hk]
        by_cases h5 : kd k = 5
        · rw [if_pos h5] at hh ⊢
          simp only [Bool.and_eq_true, decide_eq_true_eq] at hh ⊢
          exact ⟨hh.1.symm, sameVs_symm its its' (fun u hu v hv => i2 u v (s1 u hu) (s1' v hv)) hh.1 hh.2⟩
        · rw [if_neg h5] at hh ⊢
          by_cases h6 : kd k = 6
          · rw [if_pos h6] at hh ⊢
            simp only [Bool.and_eq_true, decide_eq_true_eq] at hh ⊢
            exact ⟨hh.1.symm, (G fs' fs s2' s2).2 (counts_symm memS _ m1 m2 m3 fs fs' s2 s2' hh.1 ((G fs fs' s2 s2').1 hh.2))⟩
          · rw [if_neg h6] at hh ⊢
            exact plainV_symm _ _ _ _ _ _ _ _ _ _ _ hh
      · rw [if_neg hk] at hh; cases hh
    · rintro ⟨k, b, i, f, t, ty, its, fs⟩ ⟨k', b', i', f', t', ty', its', fs'⟩ ⟨k2, b2, i2', f2, t2, ty2, its2, fs2⟩ h h' h2 hh hh'
      obtain ⟨s1, s2⟩ := small _ _ _ _ _ _ _ _ h
      obtain ⟨s1', s2'⟩ := small _ _ _ _ _ _ _ _ h'
      obtain ⟨s3, s4⟩ := small _ _ _ _ _ _ _ _ h2
      rw [sameV_mk] at hh hh' ⊢
      by_cases hk : kd k = kd k'
      · rw [if_pos hk] at hh
        by_cases hk' : kd k' = kd k2
        · rw [if_pos hk', ← hk] at hh'
          rw [if_pos (hk.trans hk')]
          by_cases h5 : kd k = 5
          · rw [if_pos h5] at hh hh' ⊢
            simp only [Bool.and_eq_true, decide_eq_true_eq] at hh hh' ⊢
            exact ⟨hh.1.trans hh'.1, sameVs_trans its its' its2 (fun u hu v hv w hw => i3 u v w (s1 u hu) (s1' v hv) (s3 w hw)) hh.1 hh.2 hh'.2⟩
          · rw [if_neg h5] at hh hh' ⊢
            by_cases h6 : kd k = 6
            · rw [if_pos h6] at hh hh' ⊢
              simp only [Bool.and_eq_true, decide_eq_true_eq] at hh hh' ⊢
              exact ⟨hh.1.trans hh'.1, (G fs fs2 s2 s4).2 (fun z hz => Nat.le_trans ((G fs fs' s2 s2').1 hh.2 z hz) ((G fs' fs2 s2' s4).1 hh'.2 z hz))⟩
            · rw [if_neg h6] at hh hh' ⊢
              exact plainV_trans _ _ _ _ _ _ _ _ _ _ _ _ _ _ _ _ hh hh'
        · rw [if_neg hk'] at hh'; cases hh'
      · rw [if_neg hk] at hh; cases hh

theorem sameV_refl (u : V) : sameV u u = true := (same_equiv _).1 u (Nat.le_refl _)
theorem sameV_symm (u v : V) : sameV u v = sameV v u := by
  have h := (same_equiv (szV u + szV v)).2.1
  cases h1 : sameV u v
  · cases h2 : sameV v u
    · rfl
    · rw [h v u (by omega) (by omega) h2] at h1; cases h1
  · rw [h u v (by omega) (by omega) h1]
theorem sameV_trans {u v w : V} (h1 : sameV u v = true) (h2 : sameV v w = true) : sameV u w = true := (same_equiv (szV u + szV v + szV w)).2.2 u v w (by omega) (by omega) (by omega) h1 h2
theorem sameV_left {u v : V} (w : V) (h : sameV u v = true) : sameV v w = sameV u w := by
  cases h1 : sameV u w
  · cases h2 : sameV v w
    · rfl
    · rw [sameV_trans h h2] at h1; cases h1
  · exact sameV_trans (by rw [sameV_symm]; exact h) h1
end Go.Proofs.YtnmnmkdmnohbmaaDoor
