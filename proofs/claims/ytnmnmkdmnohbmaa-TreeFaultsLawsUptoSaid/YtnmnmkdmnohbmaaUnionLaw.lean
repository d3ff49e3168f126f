/- Plain: unions of faults over lists with the same clean faults; the program's union with its length. Conditions: none. -/
import Derived.Test.YtnmnmkdmnohbmaaInFaults
namespace Go.Proofs.Ytnmnmkdmnohbmaa
open Go.RowKit

def SameC (l l' : List LF) : Prop := ∀ a, (∃ z ∈ l, cleanF z.f = a) ↔ (∃ z ∈ l', cleanF z.f = a)
theorem SameC.refl (l : List LF) : SameC l l := fun _ => Iff.rfl
theorem SameC.symm {l l' : List LF} (h : SameC l l') : SameC l' l := fun a => (h a).symm
theorem SameC.trans {a b c : List LF} (h : SameC a b) (k : SameC b c) : SameC a c := fun x => (h x).trans (k x)
theorem mem_app {l l' : List LF} {a : Fl} : (∃ z ∈ l ++ l', cleanF z.f = a) ↔ (∃ z ∈ l, cleanF z.f = a) ∨ (∃ z ∈ l', cleanF z.f = a) := by
  constructor
  · rintro ⟨z, hz, e⟩
    rcases List.mem_append.1 hz with hz | hz
    · exact .inl ⟨z, hz, e⟩
    · exact .inr ⟨z, hz, e⟩
  · rintro (⟨z, hz, e⟩ | ⟨z, hz, e⟩)
    · exact ⟨z, List.mem_append.2 (.inl hz), e⟩
    · exact ⟨z, List.mem_append.2 (.inr hz), e⟩
theorem SameC.append {a a' b b' : List LF} (h : SameC a a') (k : SameC b b') : SameC (a ++ b) (a' ++ b') := fun x => by rw [mem_app, mem_app, h x, k x]
theorem SameC.comm (a b : List LF) : SameC (a ++ b) (b ++ a) := fun x => by rw [mem_app, mem_app, or_comm]
theorem SameC.absorb (a b : List LF) : SameC ((a ++ b) ++ a) (a ++ b) := fun x => by
  rw [mem_app, mem_app]
  constructor
  · rintro (h | h)
    · exact h
    · exact .inl h
  · exact .inl

theorem IsUnion.congr {A : List Fl} {l l' : List LF} (h : IsUnion A l) (hs : SameC l l') : IsUnion A l' := by
  refine ⟨h.1, fun a ha => ?_, fun z hz => ?_⟩
  · obtain ⟨z, hz, e⟩ := h.2.1 a ha
    obtain ⟨z', hz', e'⟩ := (hs (cleanF z.f)).1 ⟨z, hz, rfl⟩
    exact ⟨z', hz', by rw [e, e']⟩
  · obtain ⟨z', hz', e'⟩ := (hs (cleanF z.f)).2 ⟨z, hz, rfl⟩
    obtain ⟨a, ha, e⟩ := h.2.2 z' hz'
    exact ⟨a, ha, by rw [← e']; exact e⟩
theorem IsUnion.same {u l : List LF} (h : IsUnion (u.map LF.f) l) : SameC u l := fun a => by
  constructor
  · rintro ⟨z, hz, rfl⟩
    obtain ⟨z', hz', e⟩ := h.2.1 z.f (List.mem_map.2 ⟨z, hz, rfl⟩)
    exact ⟨z', hz', by rw [e, cleanF_twice]⟩
  · rintro ⟨z, hz, rfl⟩
    obtain ⟨b, hb, e⟩ := h.2.2 z hz
    obtain ⟨z', hz', rfl⟩ := List.mem_map.1 hb
    exact ⟨z', hz', by have := cmpF_clean e; rwa [cleanF_twice] at this⟩
theorem IsUnion.eqv {u v l l' : List LF} (h : IsUnion (u.map LF.f) l) (k : IsUnion (v.map LF.f) l') (hs : SameC l' l) : u.map LF.f = v.map LF.f := h.unique (k.congr hs) (fun _ => Iff.rfl)

/-- A fault of a list is found in the union. -/
theorem IsUnion.has {u l : List LF} (h : IsUnion (u.map LF.f) l) {z : LF} (hz : z ∈ l) : ∃ a ∈ u, cmpF a.f z.f = 0 := by
  obtain ⟨a, ha, e⟩ := h.2.2 z hz
  obtain ⟨z', hz', rfl⟩ := List.mem_map.1 ha
  refine ⟨z', hz', ?_⟩
  have h1 := cmpF_ord.eq_left (cmpF_self z.f) z'.f
  have h2 := cmpF_ord.swap z'.f z.f
  have h3 := cmpF_ord.swap z'.f (cleanF z.f)
  omega
/-- A fault of the union is one of the lists'. -/
theorem IsUnion.from_ {u l : List LF} (h : IsUnion (u.map LF.f) l) {z : LF} (hz : z ∈ u) : ∃ a ∈ l, cmpF a.f z.f = 0 := by
  obtain ⟨a, ha, e⟩ := h.2.1 z.f (List.mem_map.2 ⟨z, hz, rfl⟩)
  exact ⟨a, ha, by rw [e]; exact cmpF_self a.f⟩
theorem IsUnion.rise {u l : List LF} (h : IsUnion (u.map LF.f) l) {k : Nat} {x y : LF} (hx : u[k]? = some x) (hy : u[k + 1]? = some y) : x.f.k ≤ y.f.k ∧ ¬ x.f = y.f := by
  have h1 := List.pairwise_map.1 h.1
  have hk := (List.getElem?_eq_some_iff.1 hy).1
  have h2 := List.pairwise_iff_getElem.1 h1 k (k + 1) (by omega) hk (by omega)
  rw [(List.getElem?_eq_some_iff.1 hx).2, (List.getElem?_eq_some_iff.1 hy).2] at h2
  constructor
  · unfold cmpF at h2
    by_cases e : cmpI x.f.k y.f.k = 0
    · have := cmpI_zero.1 e
      omega
    · rw [if_neg e] at h2
      by_cases g : x.f.k < y.f.k
      · omega
      · by_cases g2 : y.f.k < x.f.k
        · rw [cmpI_gt g2] at h2
          omega
        · omega
  · intro e
    rw [e, cmpF_ord.refl] at h2
    omega

theorem FaultsL_of (L : List (Value × List LF)) (vs : Array Value) (hvs : vs.toList = L.map (·.1)) (W : World) (hL : ∀ x ∈ L, ArgF W x.1 x.2) (hlen : L.length ≤ big) (hcat : (cat L).length ≤ big) (m : Nat) (hm : m = L.length) :
    Calls Try.prog 50 #[.slice (some ⟨W.heap.size, 0, none⟩) m m] (W.alloc (.cells vs 85)) (fun e w' => ∃ p' c' r, e = .returned (.slice p' (List.length r) c') ∧ IsUnion (r.map LF.f) (cat L) ∧ ArgF w' (.slice p' (List.length r) c') r ∧ List.length r ≤ (cat L).length ∧ Below W.heap.size W w') := by
  subst hm
  refine (Faults_any L _ L.length _ (lsAt_new hvs hL) hlen hcat).mono ?_
  rintro e w' ⟨p', c', r, S, rfl, hp, hs, hr, hF, hb, hc⟩
  have hl : r.length ≤ (cat L).length := by
    have h := congrArg List.length hr
    simp only [List.length_map] at h
    have := dedP_len S S.length
    have := hp.length_eq
    omega
  exact ⟨p', c', r, rfl, by rw [hr]; exact union_prog hp hs, ⟨p', c', rfl, hc, hF⟩, hl, ((Below.refl _ _).alloc (Nat.le_refl _) _).trans (hb.mono (by simp))⟩
end Go.Proofs.Ytnmnmkdmnohbmaa
