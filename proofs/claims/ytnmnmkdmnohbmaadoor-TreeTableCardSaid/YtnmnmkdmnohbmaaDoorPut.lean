/- Helper text: a value in blocks of its own, with another value put at a path. Conditions: none. -/
import Derived.Test.YtnmnmkdmnohbmaaDoorGet
import Derived.Deep.MidRow
namespace Go.Proofs.YtnmnmkdmnohbmaaDoor
open Go.RowKit

/-- v, with x for the child to which s leads. -/
def putC (v : V) (s : St) (x : V) : V := match v, childIx v s with
  | .mk k b i f t ty its fs, some n => if s.it then .mk k b i f t ty (its.set n x) fs else .mk k b i f t ty its (fs.modify n (fun y => (y.1, x)))
  | v, none => v

def setV : V → List St → V → Option V
  | _, [], x => some x
  | v, s :: r, x => (child v s).bind fun c => (setV c r x).map (putC v s)

theorem OwnVs.from {w w' : World} : ∀ {l : List V} {g o : Nat} {bs : List Nat}, OwnVs w l g o bs → Kept bs w w' → (∀ j, o ≤ j → w'.cell? ⟨g, j, none⟩ = w.cell? ⟨g, j, none⟩) → OwnVs w' l g o bs
  | [], _, _, _, h, _, _ => h
  | v :: r, g, o, bs, h, hk, hc => by
    obtain ⟨b1, b2, cs, rfl, h1, h2, h3⟩ := h
    exact ⟨b1, b2, cs, rfl, fun j x hx => (hc _ (by omega)).trans (h1 j x hx), h2.kept (fun x hx => hk x (by simp [hx])), OwnVs.from h3 (fun x hx => hk x (by simp [hx])) (fun j hj => hc j (by omega))⟩

theorem OwnFs.from {w w' : World} : ∀ {l : List (ByteArray × V)} {g o : Nat} {bs : List Nat}, OwnFs w l g o bs → Kept bs w w' → (∀ j, o ≤ j → w'.cell? ⟨g, j, none⟩ = w.cell? ⟨g, j, none⟩) → OwnFs w' l g o bs
  | [], _, _, _, h, _, _ => h
  | v :: r, g, o, bs, h, hk, hc => by
    obtain ⟨b1, b2, cs, rfl, h0, h1, h2, h3⟩ := h
    exact ⟨b1, b2, cs, rfl, (hc _ (by omega)).trans h0, fun j x hx => (hc _ (by omega)).trans (h1 j x hx), h2.kept (fun x hx => hk x (by simp [hx])), OwnFs.from h3 (fun x hx => hk x (by simp [hx])) (fun j hj => hc j (by omega))⟩

/-- One of a list of values is put anew. -/
theorem OwnVs.put {w : World} : ∀ {l : List V} {g o n : Nat} {bs : List Nat} {c : V}, OwnVs w l g o bs → l[n]? = some c →
    ∃ A B C ccs, bs = A ++ (B ++ C) ∧ CellsAt w g (o + n * 8) ccs ∧ OwnV w c ccs B ∧
      ∀ w' c' ccs' B', CellsAt w' g (o + n * 8) ccs' → OwnV w' c' ccs' B' → Kept A w w' → Kept C w w' → (∀ j, (j < o + n * 8 ∨ o + n * 8 + 8 ≤ j) → w'.cell? ⟨g, j, none⟩ = w.cell? ⟨g, j, none⟩) →
        OwnVs w' (l.set n c') g o (A ++ (B' ++ C))
  | [], _, _, _, _, _, _, h => by simp at h
  | v :: r, g, o, 0, bs, c, h, hn => by
    obtain rfl : v = c := by simpa using hn
    obtain ⟨b1, b2, cs, rfl, h1, h2, h3⟩ := h
    refine ⟨[], b1, b2, cs, by simp, by simpa using h1, h2, fun w' c' ccs' B' k1 k2 _ k3 k4 => ?_⟩
    rw [List.set_cons_zero]
    exact ⟨B', b2, ccs', by simp, by simpa using k1, k2, h3.from k3 (fun j hj => k4 j (by omega))⟩
  | v :: r, g, o, n + 1, bs, c, h, hn => by
    obtain ⟨b1, b2, cs, rfl, h1, h2, h3⟩ := h
    have hv := vsize h2
    obtain ⟨A, B, C, ccs, rfl, g1, g2, g3⟩ := OwnVs.put (n := n) h3 (by simpa using hn)
    have e : o + (n + 1) * 8 = o + 8 + n * 8 := by omega
    refine ⟨b1 ++ A, B, C, ccs, by simp, by rw [e]; exact g1, g2, fun w' c' ccs' B' k1 k2 kA kC k4 => ?_⟩
    rw [List.set_cons_succ]
    refine ⟨b1, A ++ (B' ++ C), cs, by simp, fun j x hx => ?_, h2.kept (fun x hx => kA x (by simp [hx])), g3 w' c' ccs' B' (by rw [← e]; exact k1) k2 (fun x hx => kA x (by simp [hx])) kC (fun j hj => k4 j (by omega))⟩
    have hj := (Array.getElem?_eq_some_iff.1 hx).1
    exact (k4 _ (by omega)).trans (h1 j x hx)

theorem OwnFs.put {w : World} : ∀ {l : List (ByteArray × V)} {g o n : Nat} {bs : List Nat} {nm : ByteArray} {c : V}, OwnFs w l g o bs → l[n]? = some (nm, c) →
    ∃ A B C ccs, bs = A ++ (B ++ C) ∧ CellsAt w g (o + n * 9 + 1) ccs ∧ OwnV w c ccs B ∧
      ∀ w' c' ccs' B', CellsAt w' g (o + n * 9 + 1) ccs' → OwnV w' c' ccs' B' → Kept A w w' → Kept C w w' → (∀ j, (j < o + n * 9 + 1 ∨ o + n * 9 + 1 + 8 ≤ j) → w'.cell? ⟨g, j, none⟩ = w.cell? ⟨g, j, none⟩) →
        OwnFs w' (l.modify n (fun y => (y.1, c'))) g o (A ++ (B' ++ C))
  | [], _, _, _, _, _, _, _, h => by simp at h
  | v :: r, g, o, 0, bs, nm, c, h, hn => by
    obtain rfl : v = (nm, c) := by simpa using hn
    obtain ⟨b1, b2, cs, rfl, h0, h1, h2, h3⟩ := h
    refine ⟨[], b1, b2, cs, by simp, by simpa using h1, h2, fun w' c' ccs' B' k1 k2 _ k3 k4 => ?_⟩
    rw [List.modify_zero_cons]
    exact ⟨B', b2, ccs', by simp, (k4 _ (by omega)).trans h0, by simpa using k1, k2, h3.from k3 (fun j hj => k4 j (by omega))⟩
  | v :: r, g, o, n + 1, bs, nm, c, h, hn => by
    obtain ⟨b1, b2, cs, rfl, h0, h1, h2, h3⟩ := h
    have hv := vsize h2
    obtain ⟨A, B, C, ccs, rfl, g1, g2, g3⟩ := OwnFs.put (n := n) h3 (by simpa using hn)
    have e : o + (n + 1) * 9 = o + 9 + n * 9 := by omega
    refine ⟨b1 ++ A, B, C, ccs, by simp, by rw [e]; exact g1, g2, fun w' c' ccs' B' k1 k2 kA kC k4 => ?_⟩
    rw [List.modify_succ_cons]
    refine ⟨b1, A ++ (B' ++ C), cs, by simp, (k4 _ (by omega)).trans h0, fun j x hx => ?_, h2.kept (fun x hx => kA x (by simp [hx])), g3 w' c' ccs' B' (by rw [← e]; exact k1) k2 (fun x hx => kA x (by simp [hx])) kC (fun j hj => k4 j (by omega))⟩
    have hj := (Array.getElem?_eq_some_iff.1 hx).1
    exact (k4 _ (by omega)).trans (h1 j x hx)

/-- Block g is as it was but for eight cells from o on. -/
def SameBut (w w' : World) (g o : Nat) : Prop := ∀ cur e fz, w.heap[g]? = some (.cells cur e fz) → ∃ cur', w'.heap[g]? = some (.cells cur' e fz) ∧ cur'.size = cur.size ∧ ∀ j, (j < o ∨ o + 8 ≤ j) → cur'[j]? = cur[j]?

theorem SameBut.cell {w w' : World} {g o : Nat} (h : SameBut w w' g o) {cur : Array Value} {e : TypeId} {fz : Nat × Nat} (hg : w.heap[g]? = some (.cells cur e fz)) :
    ∀ j, (j < o ∨ o + 8 ≤ j) → w'.cell? ⟨g, j, none⟩ = w.cell? ⟨g, j, none⟩ := by
  intro j hj
  obtain ⟨cur', h1, _, h3⟩ := h _ _ _ hg
  simp only [World.cell?, h1, hg]
  exact h3 j hj

/-- A place: what is put at (g, o) leaves a value in blocks of its own at the head of block G. -/
def Plug (w : World) (F : V → V) (own : List Nat) (g o G : Nat) : Prop :=
  ∀ w' x xcs xb, CellsAt w' g o xcs → OwnV w' x xcs xb → xb.Nodup → (∀ y ∈ xb, y ∉ own) → (∀ y ∈ own, y ≠ g → w'.heap[y]? = w.heap[y]?) → SameBut w w' g o →
    ∃ cs bs, CellsAt w' G 0 cs ∧ OwnV w' (F x) cs bs ∧ bs.Nodup ∧ G ∉ bs ∧ ∀ y ∈ bs, y ∈ own ∨ y ∈ xb

theorem Plug.root (w : World) (G : Nat) : Plug w id [G] G 0 G := fun w' x xcs xb h1 h2 h3 h4 _ _ => ⟨xcs, xb, h1, h2, h3, fun h => h4 _ h (by simp), fun y hy => .inr hy⟩

theorem Plug.step {w : World} {F : V → V} {own : List Nat} {g o G : Nat} (hP : Plug w F own g o G) {u u1 : V} {s : St} {k : Int} {b : Bool} {i : Int} {f : Nat} {t ty : ByteArray} {its : List V} {fs : List (ByteArray × V)} {p q : Option Addr} {c d : Nat} {ub : List Nat}
    (hu : u = .mk k b i f t ty its fs) (hc : CellsAt w g o (vcells k b i f t ty p its.length c q fs.length d)) (ho : OwnV w u (vcells k b i f t ty p its.length c q fs.length d) ub) (hn : ub.Nodup) (hd : ∀ y ∈ ub, y ∉ own) (hg : g ∈ own)
    (hch : child u s = some u1) :
    ∃ g1 o1 ucs1 ub1 own1, spotA p q u s = some ⟨g1, o1, none⟩ ∧ CellsAt w g1 o1 ucs1 ∧ OwnV w u1 ucs1 ub1 ∧ ub1.Nodup ∧ (∀ y ∈ ub1, y ∉ own1) ∧ g1 ∈ own1 ∧ Plug w (fun x => F (putC u s x)) own1 g1 o1 G ∧
      (∀ y, y ∈ own1 ∨ y ∈ ub1 → y ∈ own ∨ y ∈ ub) ∧ (∀ j, j < 8 → w.frozen? ⟨g1, o1 + j, none⟩ = false) ∧ g1 ∈ ub := by
  subst hu
  obtain ⟨p', c', q', d', b1, b2, he, rfl, l1, l2, hi, hf⟩ := ho
  obtain ⟨⟨rfl, rfl⟩, rfl, rfl⟩ : (p = p' ∧ c = c') ∧ q = q' ∧ d = d' := by simpa [vcells] using he
  obtain ⟨n, hix, -, hxi, hxf⟩ : ∃ n : Nat, childIx (.mk k b i f t ty its fs) s = some n ∧ True ∧ (s.it = true → its[n]? = some u1) ∧ (s.it = false → ∃ nm, fs[n]? = some (nm, u1)) := by
    unfold child at hch
    cases hx : childIx (.mk k b i f t ty its fs) s with
    | none => rw [hx] at hch; cases hch
    | some n =>
      rw [hx] at hch
      refine ⟨n, rfl, trivial, fun hi => ?_, fun hi => ?_⟩
      · simpa [hi, V.its] using hch
      · obtain ⟨x, hx, rfl⟩ : ∃ x, fs[n]? = some x ∧ x.2 = u1 := by simpa [hi, V.fs] using hch
        exact ⟨x.1, hx⟩
  cases hit : s.it with
  | true =>
    have hx := hxi hit
    rcases hi with ⟨rfl, _⟩ | ⟨gi, br, cur, rfl, rfl, hh, e1, e2, e3, hvs⟩
    · simp at hx
    obtain ⟨A, B, C, ccs, rfl, g1, g2, g3⟩ := hvs.put hx
    have hgo : gi ∉ own := hd gi (by simp)
    have hgg : g ≠ gi := fun e => hgo (e ▸ hg)
    simp only [List.cons_append, List.nodup_cons, List.nodup_append, List.mem_append, not_or] at hn
    refine ⟨gi, 0 + n * 8, ccs, B, gi :: (own ++ (A ++ (C ++ b2))), ?_, g1, g2, hn.2.1.2.1.1, ?_, by simp, ?_, ?_, ?_, by simp⟩
    · simp [spotA, hix, hit, shift]
    · intro y hy hm
      have hyo := hd y (by simp [hy])
      simp only [List.mem_cons, List.mem_append] at hm
      rcases hm with rfl | hm | hm | hm | hm
      · exact hn.1.1.2.1 hy
      · exact hyo hm
      · exact hn.2.1.2.2 y hm y (.inl hy) rfl
      · exact hn.2.1.2.1.2.2 y hy y hm rfl
      · exact hn.2.2.2 y (.inr (.inl hy)) y hm rfl
    · intro w' x xcs xb k1 k2 k3 k4 k5 k6
      have kA : Kept A w w' := fun y hy => k5 y (by simp [hy]) (fun e => hn.1.1.1 (e ▸ hy))
      have kC : Kept C w w' := fun y hy => k5 y (by simp [hy]) (fun e => hn.1.1.2.2 (e ▸ hy))
      have kb : Kept b2 w w' := fun y hy => k5 y (by simp [hy]) (fun e => hn.1.2 (e ▸ hy))
      have hput := g3 w' x xcs xb k1 k2 kA kC (k6.cell hh)
      obtain ⟨cur', m1, m2, m3⟩ := k6 _ _ _ hh
      have hpc : putC (.mk k b i f t ty its fs) s x = .mk k b i f t ty (its.set n x) fs := by simp [putC, hix, hit]
      have hown : OwnV w' (putC (.mk k b i f t ty its fs) s x) (vcells k b i f t ty (some ⟨gi, 0, none⟩) its.length c q fs.length d) ((gi :: (A ++ (xb ++ C))) ++ b2) := by
        rw [hpc]
        have hI : ItemsOwn w' (its.set n x) (some ⟨gi, 0, none⟩) c (gi :: (A ++ (xb ++ C))) := .inr ⟨gi, _, cur', rfl, rfl, m1, by rw [m2, e1], by simpa using e2, e3, hput⟩
        have hF : FieldsOwn w' fs q d b2 := (show FieldsOwn w fs q d b2 from hf).kept kb
        have := OwnV.intro (k := k) (b := b) (i := i) (f := f) (t := t) (ty := ty) (by simpa using l1) l2 hI hF
        simpa using this
      have hcell : CellsAt w' g o (vcells k b i f t ty (some ⟨gi, 0, none⟩) its.length c q fs.length d) := hc.kept (k5 g (by simp [hg]) hgg)
      have hA : ((gi :: (A ++ (xb ++ C))) ++ b2).Nodup := by
        simp only [List.cons_append, List.nodup_cons, List.nodup_append, List.mem_append, not_or]
        refine ⟨⟨⟨hn.1.1.1, ⟨fun h => k4 gi h (by simp), hn.1.1.2.2⟩⟩, hn.1.2⟩, ⟨hn.2.1.1, ⟨k3, hn.2.1.2.1.2.1, fun a ha y hy e => k4 a ha (by subst e; simp [hy])⟩, fun a ha y hy e => ?_⟩, hn.2.2.1, fun a ha y hy e => ?_⟩
        · subst e
          rcases hy with hy | hy
          · exact k4 a hy (by simp [ha])
          · exact hn.2.1.2.2 a ha a (.inr hy) rfl
        · subst e
          rcases ha with ha | ha | ha
          · exact hn.2.2.2 a (.inl ha) a hy rfl
          · exact k4 a ha (by simp [hy])
          · exact hn.2.2.2 a (.inr (.inr ha)) a hy rfl
      have hB : ∀ y ∈ (gi :: (A ++ (xb ++ C))) ++ b2, y ∉ own := by
        intro y hy hyo
        simp only [List.mem_append, List.mem_cons] at hy
        rcases hy with (rfl | hy | hy | hy) | hy
        · exact hgo hyo
        · exact hd y (by simp [hy]) hyo
        · exact k4 y hy (by simp [hyo])
        · exact hd y (by simp [hy]) hyo
        · exact hd y (by simp [hy]) hyo
      obtain ⟨cs, bs, r1, r2, r3, r4, r5⟩ := hP w' _ _ _ hcell hown hA hB (fun y hy hyg => k5 y (by simp [hy]) (fun e => hgo (e ▸ hy))) (fun cur e fz h => ⟨cur, by rw [k5 g (by simp [hg]) hgg]; exact h, rfl, fun _ _ => rfl⟩)
      refine ⟨cs, bs, r1, r2, r3, r4, fun y hy => ?_⟩
      have := r5 y hy
      simp only [List.mem_append, List.mem_cons] at this ⊢
      grind
    · intro y hy
      simp only [List.mem_append, List.mem_cons] at hy ⊢
      grind
    · intro j hj
      simp [World.frozen?, hh]
  | false =>
    obtain ⟨nm, hx⟩ := hxf hit
    rcases hf with ⟨rfl, _⟩ | ⟨gi, br, cur, rfl, rfl, hh, e1, e2, e3, hvs⟩
    · simp at hx
    obtain ⟨A, B, C, ccs, rfl, g1, g2, g3⟩ := hvs.put hx
    have hgo : gi ∉ own := hd gi (by simp)
    have hgg : g ≠ gi := fun e => hgo (e ▸ hg)
    have hub : b1.Nodup ∧ gi ∉ b1 ∧ gi ∉ A ∧ gi ∉ B ∧ gi ∉ C ∧ A.Nodup ∧ B.Nodup ∧ C.Nodup ∧ (∀ y ∈ b1, y ∉ A ∧ y ∉ B ∧ y ∉ C) ∧ (∀ y ∈ A, y ∉ B ∧ y ∉ C) ∧ (∀ y ∈ B, y ∉ C) := by
      simp only [List.nodup_cons, List.nodup_append, List.mem_append, List.mem_cons, not_or] at hn
      grind
    obtain ⟨n1, n2, n3, n4, n5, n6, n7, n8, n9, n10, n11⟩ := hub
    refine ⟨gi, 0 + (n * 9 + 1), ccs, B, gi :: (own ++ (b1 ++ (A ++ C))), ?_, by rw [← Nat.add_assoc]; exact g1, g2, n7, ?_, by simp, ?_, ?_, ?_, by simp⟩
    · simp [spotA, hix, hit, shift]
    · intro y hy hm
      have hyo := hd y (by simp [hy])
      simp only [List.mem_cons, List.mem_append] at hm
      grind
    · rw [← Nat.add_assoc]
      intro w' x xcs xb k1 k2 k3 k4 k5 k6
      have kA : Kept A w w' := fun y hy => k5 y (by simp [hy]) (fun e => n3 (e ▸ hy))
      have kC : Kept C w w' := fun y hy => k5 y (by simp [hy]) (fun e => n5 (e ▸ hy))
      have kb : Kept b1 w w' := fun y hy => k5 y (by simp [hy]) (fun e => n2 (e ▸ hy))
      have hput := g3 w' x xcs xb k1 k2 kA kC (k6.cell hh)
      obtain ⟨cur', m1, m2, m3⟩ := k6 _ _ _ hh
      have hpc : putC (.mk k b i f t ty its fs) s x = .mk k b i f t ty its (fs.modify n (fun y => (y.1, x))) := by simp [putC, hix, hit]
      have hown : OwnV w' (putC (.mk k b i f t ty its fs) s x) (vcells k b i f t ty p its.length c (some ⟨gi, 0, none⟩) fs.length d) (b1 ++ (gi :: (A ++ (xb ++ C)))) := by
        rw [hpc]
        have hF : FieldsOwn w' (fs.modify n (fun y => (y.1, x))) (some ⟨gi, 0, none⟩) d (gi :: (A ++ (xb ++ C))) := .inr ⟨gi, _, cur', rfl, rfl, m1, by rw [m2, e1], by simpa using e2, e3, hput⟩
        have hI : ItemsOwn w' its p c b1 := (show ItemsOwn w its p c b1 from hi).kept kb
        have := OwnV.intro (k := k) (b := b) (i := i) (f := f) (t := t) (ty := ty) l1 (by simpa using l2) hI hF
        simpa using this
      have hcell : CellsAt w' g o (vcells k b i f t ty p its.length c (some ⟨gi, 0, none⟩) fs.length d) := hc.kept (k5 g (by simp [hg]) hgg)
      have hA : (b1 ++ (gi :: (A ++ (xb ++ C)))).Nodup := by
        have k4' : ∀ y ∈ xb, ¬ y = gi ∧ y ∉ b1 ∧ y ∉ A ∧ y ∉ C := fun y hy => by
          have := k4 y hy
          simp only [List.mem_append, List.mem_cons, not_or] at this
          grind
        simp only [List.nodup_cons, List.nodup_append, List.mem_append, List.mem_cons, not_or]
        grind
      have hB : ∀ y ∈ b1 ++ (gi :: (A ++ (xb ++ C))), y ∉ own := by
        intro y hy hyo
        simp only [List.mem_append, List.mem_cons] at hy
        rcases hy with hy | rfl | hy | hy | hy
        · exact hd y (by simp [hy]) hyo
        · exact hgo hyo
        · exact hd y (by simp [hy]) hyo
        · exact k4 y hy (by simp [hyo])
        · exact hd y (by simp [hy]) hyo
      obtain ⟨cs, bs, r1, r2, r3, r4, r5⟩ := hP w' _ _ _ hcell hown hA hB (fun y hy hyg => k5 y (by simp [hy]) (fun e => hgo (e ▸ hy))) (fun cur e fz h => ⟨cur, by rw [k5 g (by simp [hg]) hgg]; exact h, rfl, fun _ _ => rfl⟩)
      refine ⟨cs, bs, r1, r2, r3, r4, fun y hy => ?_⟩
      have := r5 y hy
      simp only [List.mem_append, List.mem_cons] at this ⊢
      grind
    · intro y hy
      simp only [List.mem_append, List.mem_cons] at hy ⊢
      grind
    · intro j hj
      simp [World.frozen?, hh]

theorem heap_setCells_other (g : Nat) {b : Nat} (hb : b ≠ g) : ∀ (vs : List Value) (o : Nat) (w : World), (w.setCells g o vs).heap[b]? = w.heap[b]?
  | [], _, _ => rfl
  | v :: r, o, w => by
    rw [World.setCells, heap_setCells_other g hb r (o + 1)]
    exact Below.heap_setCell _ _ _ _ hb

theorem size_setCells (g : Nat) : ∀ (vs : List Value) (o : Nat) (w : World), (w.setCells g o vs).heap.size = w.heap.size
  | [], _, _ => rfl
  | v :: r, o, w => by rw [World.setCells, size_setCells g r (o + 1)]; simp [World.setCell]

theorem heap_setCells_same (g : Nat) {e : TypeId} {fz : Nat × Nat} : ∀ (vs : List Value) (o : Nat) (w : World) (cur : Array Value), w.heap[g]? = some (.cells cur e fz) →
    ∃ cur', (w.setCells g o vs).heap[g]? = some (.cells cur' e fz) ∧ cur'.size = cur.size ∧ ∀ j, (j < o ∨ o + vs.length ≤ j) → cur'[j]? = cur[j]?
  | [], _, _, cur, h => ⟨cur, h, rfl, fun _ _ => rfl⟩
  | v :: r, o, w, cur, h => by
    obtain ⟨cur', h1, h2, h3⟩ := heap_setCells_same g r (o + 1) _ _ (heap_setCell_same (j := o) h v)
    refine ⟨cur', h1, by simpa using h2, fun j hj => ?_⟩
    rw [h3 j (by simp only [List.length_cons] at hj; omega)]
    rw [Array.getElem?_setIfInBounds_ne (by simp only [List.length_cons] at hj; omega)]

theorem below_setCells {B : Nat} {a w : World} (h : Below B a w) {g : Nat} (hg : B ≤ g) : ∀ (vs : List Value) (o : Nat), Below B a (w.setCells g o vs)
  | [], _ => h
  | v :: r, o => by rw [World.setCells]; exact below_setCells (h.setCell hg v) hg r (o + 1)

/-- Where the walk of Set stands: at (g, o) lies u, and what is put there makes the whole. -/
def Here (w : World) (G : Nat) (obs : List Nat) (v : V) (path : List St) (j g o : Nat) (u : V) (ucs : Array Value) : Prop :=
  ∃ ub own F, CellsAt w g o ucs ∧ OwnV w u ucs ub ∧ ub.Nodup ∧ (∀ y ∈ ub, y ∉ own) ∧ g ∈ own ∧ Plug w F own g o G ∧ (∀ y, y ∈ own ∨ y ∈ ub → y = G ∨ y ∈ obs) ∧
    (∀ j, j < 8 → w.frozen? ⟨g, o + j, none⟩ = false) ∧ (∀ x, setV v path x = (setV u (path.drop j) x).map F) ∧ szV u ≤ szV v

theorem Here.start {w : World} {G : Nat} {obs : List Nat} {v : V} {ocs : Array Value} (path : List St) {e : TypeId} (h0 : w.heap[G]? = some (.cells ocs e (0, 0))) (ho : OwnV w v ocs obs) (hn : obs.Nodup) (hG : G ∉ obs) : Here w G obs v path 0 G 0 v ocs := by
  refine ⟨obs, [G], id, ?_, ho, hn, fun y hy h => hG (by simp at h; exact h ▸ hy), by simp, Plug.root w G, by simp, fun j hj => by simp [World.frozen?, h0], fun x => by simp, Nat.le_refl _⟩
  intro m x hx
  rw [Nat.zero_add]
  simp only [World.cell?, h0]
  exact hx

theorem Here.next {w : World} {G : Nat} {obs : List Nat} {v : V} {path : List St} {j g o : Nat} {k : Int} {b : Bool} {i : Int} {f : Nat} {t ty : ByteArray} {its : List V} {fs : List (ByteArray × V)} {p q : Option Addr} {c d : Nat} {u1 : V} {s : St}
    (h : Here w G obs v path j g o (.mk k b i f t ty its fs) (vcells k b i f t ty p its.length c q fs.length d)) (hs : path[j]? = some s) (hch : child (.mk k b i f t ty its fs) s = some u1) :
    ∃ g1 o1 ucs1, spotA p q (.mk k b i f t ty its fs) s = some ⟨g1, o1, none⟩ ∧ Here w G obs v path (j + 1) g1 o1 u1 ucs1 := by
  obtain ⟨ub, own, F, h1, h2, h3, h4, h5, h6, h7, _, h9, h10⟩ := h
  obtain ⟨g1, o1, ucs1, ub1, own1, k1, k2, k3, k4, k5, k6, k7, k8, k9, _⟩ := h6.step rfl h1 h2 h3 h4 h5 hch
  refine ⟨g1, o1, ucs1, k1, ub1, own1, _, k2, k3, k4, k5, k6, k7, fun y hy => h7 y (k8 y hy), k9, fun x => ?_, ?_⟩
  · rw [h9, drop_some hs, setV, hch]
    simp [Option.map_map, Function.comp_def]
  · have := (child_size hch).1; omega

theorem Here.no {w : World} {G : Nat} {obs : List Nat} {v : V} {path : List St} {j g o : Nat} {u : V} {ucs : Array Value} {s : St} (h : Here w G obs v path j g o u ucs) (hs : path[j]? = some s) (hch : child u s = none) (x : V) : setV v path x = none := by
  obtain ⟨ub, own, F, _, _, _, _, _, _, _, _, h9, _⟩ := h
  rw [h9, drop_some hs, setV, hch]
  rfl

theorem Here.done {w wr : World} {G : Nat} {obs : List Nat} {v : V} {path : List St} {g o : Nat} {u : V} {ucs : Array Value} (h : Here w G obs v path path.length g o u ucs) (hbel : Below w.heap.size w wr) {x : V} {xcs : Array Value} {xb : List Nat}
    (hx : OwnV wr x xcs xb) (hn : xb.Nodup) (hlow : ∀ y ∈ xb, w.heap.size ≤ y ∧ y < wr.heap.size) (hG : G < w.heap.size) (ho : ∀ y ∈ obs, y < w.heap.size) :
    wr.there g o 8 ∧ (g = G ∨ g ∈ obs) ∧ ∃ y cs bs, setV v path x = some y ∧ CellsAt (wr.setCells g o xcs.toList) G 0 cs ∧ OwnV (wr.setCells g o xcs.toList) y cs bs ∧ bs.Nodup ∧ G ∉ bs ∧ ∀ z ∈ bs, (z = G ∨ z ∈ obs) ∨ z ∈ xb := by
  obtain ⟨ub, own, F, h1, h2, h3, h4, h5, h6, h7, h8, h9, h10⟩ := h
  have hgo := h7 g (.inl h5)
  have hgl : g < w.heap.size := by rcases hgo with rfl | hgo; exact hG; exact ho _ hgo
  have hlt : ∀ y, y ∈ own → y < w.heap.size := fun y hy => by rcases h7 y (.inl hy) with rfl | hy; exact hG; exact ho _ hy
  have hxs := vsize hx
  have hus := vsize h2
  have ht : wr.there g o 8 := fun j hj => by
    constructor
    · rw [hbel.cell (p := ⟨g, _, none⟩) hgl, h1 j ucs[j] (by simp [hus, hj])]
      rfl
    · have := h8 j hj
      simp only [World.frozen?] at this ⊢
      rw [hbel.block g hgl]
      exact this
  have hgx : g ∉ xb := fun hm => by have := (hlow g hm).1; omega
  have hr := World.rangeAt_setCells_same wr g o xcs.toList (by simpa [hxs] using ht)
  refine ⟨ht, hgo, ?_⟩
  obtain ⟨cs, bs, r1, r2, r3, r4, r5⟩ := h6 (wr.setCells g o xcs.toList) x xcs xb (fun m y hy => hr m y (by simpa using hy)) (hx.kept (fun y hy => heap_setCells_other g (fun e => hgx (e ▸ hy)) _ _ _)) hn
    (fun y hy hm => by have := (hlow y hy).1; have := hlt y hm; omega) (fun y hy hyg => (heap_setCells_other g hyg _ _ _).trans (hbel.block y (hlt y hy)))
    (fun cur e fz hc => by
      obtain ⟨cur', m1, m2, m3⟩ := heap_setCells_same g xcs.toList o wr cur (by rw [hbel.block g hgl]; exact hc)
      exact ⟨cur', m1, m2, fun j hj => m3 j (by simpa [hxs] using hj)⟩)
  refine ⟨F x, cs, bs, ?_, r1, r2, r3, r4, fun z hz => ?_⟩
  · rw [h9, List.drop_length]; rfl
  · rcases r5 z hz with hz | hz
    · exact .inl (h7 z (.inl hz))
    · exact .inr hz

theorem okVs_set : ∀ {l : List V} {n : Nat} {x : V}, okVs l → okV x → okVs (l.set n x)
  | [], _, _, h, _ => h
  | v :: r, 0, x, h, hx => ⟨hx, h.2⟩
  | v :: r, n + 1, x, h, hx => ⟨h.1, okVs_set (n := n) h.2 hx⟩
theorem okFs_set : ∀ {l : List (ByteArray × V)} {n : Nat} {x : V}, okFs l → okV x → okFs (l.modify n (fun y => (y.1, x)))
  | [], 0, _, h, _ => h
  | [], n + 1, _, h, _ => h
  | v :: r, 0, x, h, hx => ⟨hx, h.2⟩
  | v :: r, n + 1, x, h, hx => by rw [List.modify_succ_cons]; exact ⟨h.1, okFs_set (n := n) h.2 hx⟩

theorem okV_putC {v : V} {s : St} {x : V} (h : okV v) (hx : okV x) : okV (putC v s x) := by
  obtain ⟨k, b, i, f, t, ty, its, fs⟩ := v
  unfold putC
  cases hc : childIx (.mk k b i f t ty its fs) s with
  | none => exact h
  | some n =>
    simp only []
    split
    · exact ⟨h.1, okVs_set h.2.1 hx, h.2.2⟩
    · exact ⟨h.1, h.2.1, okFs_set h.2.2 hx⟩

theorem okV_setV : ∀ {path : List St} {v x y : V}, okV v → okV x → setV v path x = some y → okV y
  | [], v, x, y, _, hx, h => by obtain rfl : x = y := by simpa [setV] using h
                                exact hx
  | s :: r, v, x, y, hv, hx, h => by
    unfold setV at h
    cases hc : child v s with
    | none => rw [hc] at h; cases h
    | some u =>
      rw [hc] at h
      simp only [Option.bind_some, Option.map_eq_some_iff] at h
      obtain ⟨z, hz, rfl⟩ := h
      exact okV_putC hv (okV_setV ((child_size hc).2 hv) hx hz)
end Go.Proofs.YtnmnmkdmnohbmaaDoor
