/- Helper text: a map of lists of numbers, told by what each name finds; an element taken out of such a list. Conditions: none. -/
import Derived.Test.YtnmnmkdmnohbmaaDoorRefSame
import Derived.Test.YtnmnmkdmnohbmaaDoorPutAt
import Derived.Maps.OwnRows
import Derived.Maps.Views
import Derived.ArgAppend
namespace Go.Proofs.YtnmnmkdmnohbmaaDoor
open Go Go.RowKit Go.Maps Go.ChangeShapes

def nkey (s : ByteArray) : Lit := .string s.data.toList

theorem nkey_eq {a b : ByteArray} : nkey a = nkey b ↔ a.toList = b.toList := by
  rw [ByteArray.toList_eq, ByteArray.toList_eq]
  simp [nkey]

def itemsD : DataW Unit → List (DataW Unit)
  | .slice es _ => es
  | _ => []

theorem itemsD_row {w : World} {base : Nat} {e : TypeId} {q : IntKind} {v : Value} {zs : List Int} (h : w.ownsInts base e q v zs) : itemsD (rowDatum q v zs) = lits q zs := by
  rcases h.datum (H := Unit) with ⟨h1, h2⟩ | h1
  · rw [h1, h2]; rfl
  · rw [h1]; rfl

theorem lits_inj {q : IntKind} {l m : List Int} (h : lits (H := Unit) q l = lits q m) : l = m := by
  unfold lits at h
  exact (List.map_inj_right (fun a b hab => by cases hab; rfl)).1 h

/-- Has the member number j this name? -/
def named (bs : List (ByteArray × V)) (s : ByteArray) (j : Nat) : Bool := match bs[j]? with | some y => s.toList == y.1.toList | none => false

def idx (bs : List (ByteArray × V)) (free : List Nat) (s : ByteArray) : List Nat := free.filter (named bs s)

/-- At each name the map has the free members of that name, in order. -/
def GroupsIs (D : DataW Unit) (bs : List (ByteArray × V)) (free : List Nat) : Prop := IsMap D ∧ ∀ s, itemsD (D.atKey (nkey s) .nil) = lits .i64 ((idx bs free s).map (Nat.cast : Nat → Int))

theorem GroupsIs.start (bs : List (ByteArray × V)) : GroupsIs (.map []) bs [] := ⟨isMap_empty, fun _ => rfl⟩

theorem GroupsIs.found {D : DataW Unit} {bs : List (ByteArray × V)} {free : List Nat} (h : GroupsIs D bs free) {w : World} {base : Nat} {e : TypeId} {v : Value} {zs : List Int} {s : ByteArray} (ho : w.ownsInts base e .i64 v zs) (hat : D.atKey (nkey s) .nil = rowDatum .i64 v zs) :
    zs = (idx bs free s).map (Nat.cast : Nat → Int) := by
  have h1 := h.2 s
  rw [hat, itemsD_row ho] at h1
  exact lits_inj h1

theorem named_eq {bs : List (ByteArray × V)} {s t : ByteArray} (h : s.toList = t.toList) : named bs s = named bs t := by
  funext j; simp [named, h]

theorem GroupsIs.put {D : DataW Unit} {bs : List (ByteArray × V)} {free free' : List Nat} (h : GroupsIs D bs free) {w : World} {base : Nat} {e : TypeId} {v : Value} {zs : List Int} {s : ByteArray} (ho : w.ownsInts base e .i64 v zs)
    (h1 : zs = (idx bs free' s).map (Nat.cast : Nat → Int)) (h2 : ∀ t, s.toList ≠ t.toList → idx bs free' t = idx bs free t) : GroupsIs (D.put (nkey s) (rowDatum .i64 v zs)) bs free' := by
  refine ⟨h.1.put _ _, fun t => ?_⟩
  by_cases e : s.toList = t.toList
  · rw [← nkey_eq.2 e, atKey_put_same h.1 (show WideAt.IsKeyLit (nkey s) from (trivial : WideAt.IsKeyLit (.string s.data.toList))), itemsD_row ho, h1]
    unfold idx
    rw [named_eq e]
  · rw [atKey_put_other (fun hc => e (nkey_eq.1 hc).symm), h.2 t, h2 t e]

theorem idx_snoc {bs : List (ByteArray × V)} {n : Nat} {y : ByteArray × V} (hy : bs[n]? = some y) : idx bs (List.range (n + 1)) y.1 = idx bs (List.range n) y.1 ++ [n] := by
  unfold idx
  rw [List.range_succ, List.filter_append]
  congr 1
  simp [named, hy]
theorem idx_other {bs : List (ByteArray × V)} {n : Nat} {y : ByteArray × V} (hy : bs[n]? = some y) (t : ByteArray) (h : y.1.toList ≠ t.toList) : idx bs (List.range (n + 1)) t = idx bs (List.range n) t := by
  unfold idx
  rw [List.range_succ, List.filter_append]
  have : named bs t n = false := by simp [named, hy, Ne.symm h]
  simp [this]

/-- The first of the free ones that fits stands in its name's list. -/
theorem idx_find (bs : List (ByteArray × V)) (free : List Nat) (x : ByteArray × V) : free.find? (fits x bs) = (idx bs free x.1).find? (fits x bs) := by
  unfold idx
  rw [List.find?_filter]
  congr 1
  funext j
  have h : fits x bs j = (named bs x.1 j && fits x bs j) := by
    unfold named fits
    cases bs[j]? with
    | none => rfl
    | some y => simp only [memS]; cases (x.1.toList == y.1.toList) <;> simp
  rw [h]
  simp

theorem idx_drop_same (bs : List (ByteArray × V)) (free : List Nat) (s : ByteArray) {k j : Nat} (hn : free.Nodup) (hk : (idx bs free s)[k]? = some j) : idx bs (free.filter (fun i => i != j)) s = (idx bs free s).eraseIdx k := by
  have hd : (idx bs free s).Nodup := hn.filter _
  have h1 : idx bs (free.filter (fun i => i != j)) s = (idx bs free s).filter (fun i => i != j) := by
    unfold idx
    rw [List.filter_filter, List.filter_filter]
    apply List.filter_congr
    intro a _
    rw [Bool.and_comm]
  rw [h1]
  obtain ⟨hlt, hj⟩ := List.getElem?_eq_some_iff.1 hk
  rw [← List.Nodup.erase_eq_filter hd, ← hj, List.erase_eq_eraseIdx_of_idxOf]
  exact List.Nodup.idxOf_getElem hd k hlt

theorem idx_drop_other (bs : List (ByteArray × V)) (free : List Nat) (s t : ByteArray) {j : Nat} (hj : named bs s j = true) (h : s.toList ≠ t.toList) : idx bs (free.filter (fun i => i != j)) t = idx bs free t := by
  unfold idx
  rw [List.filter_filter]
  apply List.filter_congr
  intro a _
  by_cases e : a = j
  · subst e
    have : named bs t a = false := by
      unfold named at hj ⊢
      cases hb : bs[a]? with
      | none => rfl
      | some y =>
        rw [hb] at hj
        simp only [beq_iff_eq] at hj
        simp only [beq_eq_false_iff_ne, ne_eq]
        exact fun hc => h (hj.trans hc.symm)
    simp [this]
  · simp [e]

/-- The moved numbers. -/
def movedI (q : IntKind) (zs : List Int) (k : Nat) : List Value := (zs.drop (k + 1)).map (Value.int q)

theorem eraseIdx_eq {α : Type} (l : List α) (k : Nat) : l.eraseIdx k = l.take k ++ l.drop (k + 1) := List.eraseIdx_eq_take_drop_succ ..

theorem setCells_at (g : Nat) {e : TypeId} {fz : Nat × Nat} : ∀ (vs : List Value) (o : Nat) (w : World) (cur : Array Value), w.heap[g]? = some (.cells cur e fz) → o + vs.length ≤ cur.size →
    ∃ cur', (w.setCells g o vs).heap[g]? = some (.cells cur' e fz) ∧ cur'.size = cur.size ∧ (∀ j, j < o → cur'[j]? = cur[j]?) ∧ ∀ j u, vs[j]? = some u → cur'[o + j]? = some u
  | [], _, _, cur, h, _ => ⟨cur, h, rfl, fun _ _ => rfl, fun j u hu => by simp at hu⟩
  | v :: r, o, w, cur, h, hl => by
    simp only [List.length_cons] at hl
    obtain ⟨cur', h1, h2, h3, h4⟩ := setCells_at g r (o + 1) _ _ (heap_setCell_same (j := o) h v) (by simp; omega)
    refine ⟨cur', h1, by simpa using h2, fun j hj => ?_, fun j u hu => ?_⟩
    · rw [h3 j (by omega), Array.getElem?_setIfInBounds_ne (by omega)]
    · cases j with
      | zero =>
        obtain rfl : v = u := by simpa using hu
        rw [Nat.add_zero, h3 o (by omega), Array.getElem?_setIfInBounds_self]
        simp; omega
      | succ j =>
        have := h4 j u (by simpa using hu)
        rw [show o + (j + 1) = o + 1 + j by omega]
        exact this

theorem ownsInts_cells {w : World} {base : Nat} {e : TypeId} {q : IntKind} {g n cap : Nat} {zs : List Int} (h : w.ownsInts base e q (.slice (some ⟨g, 0, none⟩) n cap) zs) :
    n = zs.length ∧ n ≤ cap ∧ cap ≤ maxLen ∧ base ≤ g ∧ g < w.heap.size ∧ ∀ j z, zs[j]? = some z → w.cell? ⟨g, j, none⟩ = some (.int q z) := by
  obtain ⟨⟨_, h2⟩, _⟩ := h
  rcases h2 with ⟨hv, _⟩ | ⟨g', cap', cur, hv, hb, hh, hn, hc, hs, ht⟩
  · cases hv
  · simp only [Value.slice.injEq, Option.some.injEq, Addr.mk.injEq] at hv
    obtain ⟨⟨rfl, _⟩, rfl, rfl⟩ := hv
    refine ⟨rfl, hn, hc, hb, (Array.getElem?_eq_some_iff.1 hh).1, fun j z hz => ?_⟩
    simp only [World.cell?, hh]
    have hj : (zs.map (Value.int q))[j]? = some (.int q z) := by simp [hz]
    have := row_at ht j _ hj
    simpa using this

/-- What is behind number k is moved down by one. -/
theorem ownsInts_del {w : World} {base : Nat} {e : TypeId} {q : IntKind} {g n cap k : Nat} {zs : List Int} (h : w.ownsInts base e q (.slice (some ⟨g, 0, none⟩) n cap) zs) (hk : k < n) :
    (w.setCells g (0 + k * 1) (movedI q zs k)).ownsInts base e q (.slice (some ⟨g, 0, none⟩) (k + (n - (k + 1))) cap) (zs.eraseIdx k) ∧ w.grownBy (w.setCells g (0 + k * 1) (movedI q zs k)) (some g) ∧
    w.there g (0 + k * 1) (n - (k + 1)) ∧ (movedI q zs k).length = n - (k + 1) := by
  obtain ⟨⟨_, h2⟩, hw⟩ := h
  rcases h2 with ⟨hv, _⟩ | ⟨g', cap', cur, hv, hb, hh, hn, hc, hs, ht⟩
  · cases hv
  · simp only [Value.slice.injEq, Option.some.injEq, Addr.mk.injEq] at hv
    obtain ⟨⟨rfl, _⟩, rfl, rfl⟩ := hv
    simp only [Nat.mul_one, Nat.zero_add] at *
    have hml : (movedI q zs k).length = zs.length - (k + 1) := by simp [movedI]
    obtain ⟨cur', h1, h2, h3, h4⟩ := setCells_at g (movedI q zs k) k w cur hh (by rw [hml]; omega)
    refine ⟨⟨⟨by simp [List.length_eraseIdx], .inr ⟨g, cap, cur', ?_, hb, h1, ?_, hc, ?_, ?_⟩⟩, fun z hz => hw z (List.mem_of_mem_eraseIdx hz)⟩, ⟨?_, ?_, ?_, ?_, ?_⟩, there_of hh (by omega), hml⟩
    · rw [List.length_eraseIdx]; simp [hk]; omega
    · rw [List.length_eraseIdx]; simp [hk]; omega
    · rw [h2, hs, Nat.mul_one]
    · apply List.ext_getElem?
      intro j
      rw [List.getElem?_take]
      have hel : (zs.eraseIdx k).length = zs.length - 1 := by rw [List.length_eraseIdx]; simp [hk]
      by_cases hj : j < zs.length - 1
      · rw [if_pos (by simpa [hel] using hj), Array.getElem?_toList, List.getElem?_map]
        by_cases hjk : j < k
        · rw [h3 j hjk, List.getElem?_eraseIdx_of_lt hjk]
          have := row_at ht j (.int q zs[j]) (by simp [show j < zs.length by omega])
          rw [Nat.zero_add] at this
          rw [this, List.getElem?_eq_getElem (by omega)]
          rfl
        · have := h4 (j - k) (.int q zs[j + 1]) (by
            simp only [movedI, List.getElem?_map, List.getElem?_drop]
            rw [show k + 1 + (j - k) = j + 1 by omega, List.getElem?_eq_getElem (by omega)]
            rfl)
          rw [show k + (j - k) = j by omega] at this
          rw [this, List.getElem?_eraseIdx_of_ge (by omega), List.getElem?_eq_getElem (by omega)]
          rfl
      · rw [if_neg (by simpa [hel] using hj)]
        rw [List.getElem?_eq_none (by simp [hel]; omega)]
    all_goals first
      | exact (below_setCells (Below.refl 0 w) (Nat.zero_le g) _ _).os
      | exact (below_setCells (Below.refl 0 w) (Nat.zero_le g) _ _).tape
      | exact (below_setCells (Below.refl 0 w) (Nat.zero_le g) _ _).output
      | exact (below_setCells (Below.refl 0 w) (Nat.zero_le g) _ _).size
      | exact fun j _ hj => heap_setCells_other g (fun e => hj (by rw [e])) _ _ _

/-- append of a part of a list behind another part of it, where there is room. -/
theorem wp_append_cells {P : Program} {o : Oper} {a : Act} {w : World} {K : Act → World → Prop} {Q : Exit → Act → World → Prop}
    (s x : Operand) (t : TypeId) (hop : o.op = Op.call { callee := Callee.builtin Builtin.append, args := #[s, x], argTypes := #[t, t] })
    (e : TypeId) (i : TypeInfo) (size : Nat) (h1 : P.underlying t = some (.slice e)) (h2 : P.info? e = some i) (h4 : i.size = size)
    (b off n cap : Nat) (hs : a.eval s = .slice (some ⟨b, off, none⟩) n cap)
    (ad : Addr) (m c : Nat) (news : List Value) (hx : a.eval x = .slice (some ad) m c) (hn : news.length = m * size) (hc : ∀ j u, news[j]? = some u → w.cell? (ad.add j) = some u) (h1c : ∀ u ∈ news, u.oneCell' = true)
    (hroom : n + m ≤ cap) (hspare : ∀ j, j < news.length → (w.cell? ⟨b, off + n * size + j, none⟩).isSome = true ∧ w.frozen? ⟨b, off + n * size + j, none⟩ = false)
    (hK : K (a.put o.dst (.slice (some ⟨b, off, none⟩) (n + m) cap)) (w.setCells b (off + n * size) news)) : o.wp P a w K Q := by
  subst h4
  have hrun := run_append_room_cells (P := P) w t o.type e i h1 h2 b off n cap ad m c news hn hc h1c hroom (fun j hj => (hspare j hj).1) (fun j hj => (hspare j hj).2)
  unfold Oper.wp
  simp [execOp, hop, resolve, invoke, builtin, hs, hx, hrun, Result.andThen]
  exact hK

theorem grown_of_below {w w' : World} (h : Below w.heap.size w w') (row : Option Nat) : w.grownBy w' row := ⟨h.os, h.tape, h.output, h.size, fun k hk _ => h.block k hk⟩

theorem ownsGroups_below {w w' : World} {P : Program} {k e : TypeId} {q : IntKind} {base b n : Nat} {D : DataW Unit} (h : w.ownsGroups P k base e q b n D) (hb : Below w.heap.size w w') : w'.ownsGroups P k base e q b n D := by
  obtain ⟨es, clock, h1, F, h3, h4, h5, h6, h7⟩ := h
  have hg := grown_of_below hb none
  have hk : ∀ v zs, w.ownsInts base e q v zs → w'.ownsInts base e q v zs := fun v zs ho => ho.kept hg (by cases v.ownBlock <;> simp)
  have hs : ∀ x ∈ es.toList, ∀ z, rowElem (H := Unit) w base e q x.val = some z → rowElem w' base e q x.val = some z := fun x _ z hz => by
    obtain ⟨zs, ho, rfl⟩ := rowElem_inv hz
    exact rowElem_mk (hk _ _ ho)
  obtain ⟨F2, hm, _⟩ := F.stay hs
  refine ⟨es, clock, (hb.block b (Array.getElem?_eq_some_iff.1 h1).1).trans h1, F2, h3, by rw [h4, hm], h5, fun x hx zs ho => ?_, h7⟩
  obtain ⟨y, hy⟩ := F.reads x hx
  obtain ⟨z, hz, _⟩ := Go.WideElems.rd_val hy
  obtain ⟨zs', ho', _⟩ := rowElem_inv hz
  rw [ho.unique (hk _ _ ho')]
  exact h6 x hx _ ho'
end Go.Proofs.YtnmnmkdmnohbmaaDoor
