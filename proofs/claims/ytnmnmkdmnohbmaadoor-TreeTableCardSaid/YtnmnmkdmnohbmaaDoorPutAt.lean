/- Helper text: one of the items or members of a value in blocks of its own put anew. Conditions: none. -/
import Derived.Test.YtnmnmkdmnohbmaaDoorPut
namespace Go.Proofs.YtnmnmkdmnohbmaaDoor
open Go.RowKit

theorem there_of {w : World} {g o n : Nat} {cur : Array Value} {e : TypeId} (h : w.heap[g]? = some (.cells cur e (0, 0))) (hn : o + n ≤ cur.size) : w.there g o n := by
  intro j hj
  constructor
  · simp only [World.cell?, h]
    rw [Array.getElem?_eq_getElem (by omega)]
    rfl
  · simp [World.frozen?, h]

theorem ItemsOwn.putAt {w : World} {its : List V} {p : Option Addr} {c : Nat} {b1 : List Nat} (h : ItemsOwn w its p c b1) (hn : b1.Nodup) {n : Nat} {u : V} (hu : its[n]? = some u) :
    ∃ g, p = some ⟨g, 0, none⟩ ∧ g ∈ b1 ∧ (∃ ucs B, CellsAt w g (n * 8) ucs ∧ OwnV w u ucs B ∧ ∀ y ∈ B, y ∈ b1) ∧
      ∀ wr x xcs xb, Kept b1 w wr → OwnV wr x xcs xb → xb.Nodup → (∀ y ∈ xb, y ∉ b1) → wr.there g (n * 8) 8 ∧
        ∃ b1', ItemsOwn (wr.setCells g (n * 8) xcs.toList) (its.set n x) p c b1' ∧ b1'.Nodup ∧ ∀ y ∈ b1', y ∈ b1 ∨ y ∈ xb := by
  rcases h with ⟨rfl, _⟩ | ⟨g, br, cur, rfl, rfl, hh, e1, e2, e3, hvs⟩
  · simp at hu
  obtain ⟨A, B, C, ccs, rfl, g1, g2, g3⟩ := hvs.put hu
  have hnl := (List.getElem?_eq_some_iff.1 hu).1
  have hus := vsize g2
  rw [Nat.zero_add] at g1
  simp only [List.nodup_cons, List.nodup_append, List.mem_append, not_or] at hn
  obtain ⟨⟨n1, n2, n3⟩, n4, ⟨n5, n6, n7⟩, n8⟩ := hn
  refine ⟨g, rfl, by simp, ⟨ccs, B, g1, g2, fun y hy => by simp [hy]⟩, fun wr x xcs xb hk hx hxn hxd => ?_⟩
  have hxs := vsize hx
  have hg := hk g (by simp)
  have hh' := hg.trans hh
  have hgx : g ∉ xb := fun hm => hxd g hm (by simp)
  have ht : wr.there g (n * 8) 8 := there_of hh' (by omega)
  obtain ⟨cur', m1, m2, m3⟩ := heap_setCells_same g xcs.toList (n * 8) wr cur hh'
  have hr := World.rangeAt_setCells_same wr g (n * 8) xcs.toList (by simpa [hxs] using ht)
  refine ⟨ht, g :: (A ++ (xb ++ C)), .inr ⟨g, _, cur', rfl, rfl, m1, by rw [m2, e1], by simpa using e2, e3, ?_⟩, ?_, fun y hy => ?_⟩
  · refine g3 _ x xcs xb (by rw [Nat.zero_add]; exact fun m y hy => hr m y (by simpa using hy)) (hx.kept (fun y hy => heap_setCells_other g (fun e => hgx (e ▸ hy)) _ _ _)) ?_ ?_ ?_
    · exact fun y hy => (heap_setCells_other g (fun e => n1 (e ▸ hy)) _ _ _).trans (hk y (by simp [hy]))
    · exact fun y hy => (heap_setCells_other g (fun e => n3 (e ▸ hy)) _ _ _).trans (hk y (by simp [hy]))
    · intro j hj
      rw [Nat.zero_add] at hj
      simp only [World.cell?, m1, hh]
      exact m3 j (by simpa [hxs] using hj)
  · have hd : ∀ y ∈ xb, ¬ y = g ∧ y ∉ A ∧ y ∉ C := fun y hy => by
      have := hxd y hy
      simp only [List.mem_cons, List.mem_append, not_or] at this
      exact ⟨this.1, this.2.1, this.2.2.2⟩
    simp only [List.nodup_cons, List.nodup_append, List.mem_append, not_or]
    grind
  · simp only [List.mem_cons, List.mem_append] at hy ⊢
    grind

theorem OwnFs.putM {w : World} : ∀ {l : List (ByteArray × V)} {g o n : Nat} {bs : List Nat} {u : ByteArray × V}, OwnFs w l g o bs → l[n]? = some u →
    ∃ A B C ccs, bs = A ++ (B ++ C) ∧ w.cell? ⟨g, o + n * 9, none⟩ = some (.string u.1) ∧ CellsAt w g (o + n * 9 + 1) ccs ∧ OwnV w u.2 ccs B ∧
      ∀ w' x ccs' B', w'.cell? ⟨g, o + n * 9, none⟩ = some (.string x.1) → CellsAt w' g (o + n * 9 + 1) ccs' → OwnV w' x.2 ccs' B' → Kept A w w' → Kept C w w' → (∀ j, (j < o + n * 9 ∨ o + n * 9 + 9 ≤ j) → w'.cell? ⟨g, j, none⟩ = w.cell? ⟨g, j, none⟩) →
        OwnFs w' (l.set n x) g o (A ++ (B' ++ C))
  | [], _, _, _, _, _, _, h => by simp at h
  | v :: r, g, o, 0, bs, u, h, hn => by
    obtain rfl : v = u := by simpa using hn
    obtain ⟨b1, b2, cs, rfl, h0, h1, h2, h3⟩ := h
    refine ⟨[], b1, b2, cs, by simp, by simpa using h0, by simpa using h1, h2, fun w' x ccs' B' k0 k1 k2 _ k3 k4 => ?_⟩
    rw [List.set_cons_zero]
    exact ⟨B', b2, ccs', by simp, by simpa using k0, by simpa using k1, k2, h3.from k3 (fun j hj => k4 j (by omega))⟩
  | v :: r, g, o, n + 1, bs, u, h, hn => by
    obtain ⟨b1, b2, cs, rfl, h0, h1, h2, h3⟩ := h
    have hv := vsize h2
    obtain ⟨A, B, C, ccs, rfl, g0, g1, g2, g3⟩ := OwnFs.putM (n := n) h3 (by simpa using hn)
    have e : o + (n + 1) * 9 = o + 9 + n * 9 := by omega
    refine ⟨b1 ++ A, B, C, ccs, by simp, by rw [e]; exact g0, by rw [e]; exact g1, g2, fun w' x ccs' B' k0 k1 k2 kA kC k4 => ?_⟩
    rw [List.set_cons_succ]
    refine ⟨b1, A ++ (B' ++ C), cs, by simp, (k4 _ (by omega)).trans h0, fun j x hx => ?_, h2.kept (fun x hx => kA x (by simp [hx])), g3 w' x ccs' B' (by rw [← e]; exact k0) (by rw [← e]; exact k1) k2 (fun x hx => kA x (by simp [hx])) kC (fun j hj => k4 j (by omega))⟩
    have hj := (Array.getElem?_eq_some_iff.1 hx).1
    exact (k4 _ (by omega)).trans (h1 j x hx)

theorem FieldsOwn.putAt {w : World} {fs : List (ByteArray × V)} {p : Option Addr} {c : Nat} {b1 : List Nat} (h : FieldsOwn w fs p c b1) (hn : b1.Nodup) {n : Nat} {u : ByteArray × V} (hu : fs[n]? = some u) :
    ∃ g, p = some ⟨g, 0, none⟩ ∧ g ∈ b1 ∧
      ∀ wr (x : ByteArray × V) xcs xb, Kept b1 w wr → OwnV wr x.2 xcs xb → xb.Nodup → (∀ y ∈ xb, y ∉ b1) → wr.there g (n * 9) 9 ∧
        ∃ b1', FieldsOwn (wr.setCells g (n * 9) (.string x.1 :: xcs.toList)) (fs.set n x) p c b1' ∧ b1'.Nodup ∧ ∀ y ∈ b1', y ∈ b1 ∨ y ∈ xb := by
  rcases h with ⟨rfl, _⟩ | ⟨g, br, cur, rfl, rfl, hh, e1, e2, e3, hvs⟩
  · simp at hu
  obtain ⟨A, B, C, ccs, rfl, g0, g1, g2, g3⟩ := hvs.putM hu
  have hnl := (List.getElem?_eq_some_iff.1 hu).1
  have hus := vsize g2
  rw [Nat.zero_add] at g1 g0
  simp only [List.nodup_cons, List.nodup_append, List.mem_append, not_or] at hn
  obtain ⟨⟨n1, n2, n3⟩, n4, ⟨n5, n6, n7⟩, n8⟩ := hn
  refine ⟨g, rfl, by simp, fun wr x xcs xb hk hx hxn hxd => ?_⟩
  have hxs := vsize hx
  have hg := hk g (by simp)
  have hh' := hg.trans hh
  have hgx : g ∉ xb := fun hm => hxd g hm (by simp)
  have ht : wr.there g (n * 9) 9 := there_of hh' (by omega)
  obtain ⟨cur', m1, m2, m3⟩ := heap_setCells_same g (.string x.1 :: xcs.toList) (n * 9) wr cur hh'
  have hr := World.rangeAt_setCells_same wr g (n * 9) (.string x.1 :: xcs.toList) (by simpa [hxs] using ht)
  refine ⟨ht, g :: (A ++ (xb ++ C)), .inr ⟨g, _, cur', rfl, rfl, m1, by rw [m2, e1], by simpa using e2, e3, ?_⟩, ?_, fun y hy => ?_⟩
  · refine g3 _ x xcs xb ?_ ?_ (hx.kept (fun y hy => heap_setCells_other g (fun e => hgx (e ▸ hy)) _ _ _)) ?_ ?_ ?_
    · rw [Nat.zero_add]
      exact hr 0 _ (by simp)
    · rw [Nat.zero_add]
      intro m y hy
      have := hr (m + 1) y (by simpa using hy)
      rw [show n * 9 + 1 + m = n * 9 + (m + 1) by omega]
      exact this
    · exact fun y hy => (heap_setCells_other g (fun e => n1 (e ▸ hy)) _ _ _).trans (hk y (by simp [hy]))
    · exact fun y hy => (heap_setCells_other g (fun e => n3 (e ▸ hy)) _ _ _).trans (hk y (by simp [hy]))
    · intro j hj
      rw [Nat.zero_add] at hj
      simp only [World.cell?, m1, hh]
      exact m3 j (by simp [hxs]; omega)
  · have hd : ∀ y ∈ xb, ¬ y = g ∧ y ∉ A ∧ y ∉ C := fun y hy => by
      have := hxd y hy
      simp only [List.mem_cons, List.mem_append, not_or] at this
      exact ⟨this.1, this.2.1, this.2.2.2⟩
    simp only [List.nodup_cons, List.nodup_append, List.mem_append, not_or]
    grind
  · simp only [List.mem_cons, List.mem_append] at hy ⊢
    grind
end Go.Proofs.YtnmnmkdmnohbmaaDoor
