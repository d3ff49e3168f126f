/- Helper text: values that lie in blocks of their own; append onto such a list. Conditions: none. -/
import Derived.Test.YtnmnmkdmnohbmaaDoorSize
namespace Go.Proofs.YtnmnmkdmnohbmaaDoor
open Go.RowKit

section
variable {P : Program} (w : World)

/-- As the library's law, and where the new list lies: where the old one lay, or in the block just made. -/
theorem run_append_x (base : Nat) (t ty e : TypeId) (i : TypeInfo) (z : Value) (size bytes : Nat) (ht : P.underlying t = some (.slice e)) (hi : P.info? e = some i) (hz : i.zero = some z)
    (hsize : i.size = size) (hby : i.bytes = bytes) (hzs : z.cells.size = size) (hsz : 0 < size)
    (v : Value) (n : Nat) (xs : List Value) (hown : w.ownsRow base e size v n xs)
    (a : Addr) (m c : Nat) (news : List Value) (hm : 0 < m) (hl : news.length = m * size) (hnews : ∀ j u, news[j]? = some u → w.cell? (a.add j) = some u) (h1 : ∀ u ∈ news, u.oneCell' = true)
    (h63 : n + m ≤ maxLen) (hbytes : (n + m) * bytes ≤ 140737488355328) (hbase : base ≤ w.heap.size) :
    ∃ v' w', (Builtin.append_ #[t, t] ty #[v, .slice (some a) m c]).run P w = .ok v' w' ∧ w'.ownsRow base e size v' (n + m) (xs ++ news) ∧ w.grownBy w' v.ownBlock ∧
      (v'.ownBlock = v.ownBlock ∨ v'.ownBlock = some w.heap.size) := by
  obtain ⟨v', w', hr, h2, h3, _⟩ := run_append_own (P := P) w base t ty e i z size bytes ht hi hz hsize hby hzs hsz v n xs hown a m c news hl hnews h1 h63 hbytes hbase
  refine ⟨v', w', hr, h2, h3, ?_⟩
  subst hsize
  subst hby
  have hsmall : n + m ≤ 9223372036854775807 := by simp only [maxLen] at h63; omega
  rcases hown.2 with ⟨rfl, rfl⟩ | ⟨g, cap, cur, rfl, hbg, hg, hnc, hcm, hcs, htake⟩
  · have hx := run_append_nil (P := P) w t ty e i z ht hi hz a m c news hl hnews hm (by omega) (by have hb := hbytes; simp only [Nat.zero_add] at hb; omega)
    rw [hx] at hr
    injection hr with h4 h5
    subst h4
    exact .inr rfl
  · by_cases hroom : n + m ≤ cap
    · have hfit : n * i.size + news.length ≤ cur.size := by rw [hl, hcs, ← Nat.add_mul]; exact Nat.mul_le_mul_right _ hroom
      have hx := run_append_room (P := P) w t ty e i ht hi g n cap cur hg a m c news hl hnews h1 hroom hfit
      rw [hx] at hr
      injection hr with h4 h5
      subst h4
      exact .inl rfl
    · have hx := run_append_grow (P := P) w t ty e i z ht hi hz ⟨g, 0, none⟩ n cap xs hown.1 (hown.cells (g := g) rfl) a m c news hl hnews (by omega) (by omega) (growslice_fits (by omega) hbytes)
      rw [hx] at hr
      injection hr with h4 h5
      subst h4
      exact .inr rfl

theorem wp_append_x {o : Oper} {a : Act} {K : Act → World → Prop} {Q : Exit → Act → World → Prop} (s x : Operand) (t : TypeId)
    (ho : o.op = .call { callee := .builtin .append, args := #[s, x], argTypes := #[t, t] })
    (base : Nat) (e : TypeId) (z : Value) (size bytes : Nat) (ht : P.underlying t = some (.slice e)) (hi : (P.info? e).map (fun i => (i.zero, i.size, i.bytes)) = some (some z, size, bytes))
    (hzs : z.cells.size = size) (hsz : 0 < size)
    (v : Value) (n : Nat) (xs : List Value) (hs : a.eval s = v) (hown : w.ownsRow base e size v n xs)
    (ad : Addr) (m c : Nat) (news : List Value) (hx : a.eval x = .slice (some ad) m c) (hm : 0 < m) (hl : news.length = m * size) (hnews : ∀ j u, news[j]? = some u → w.cell? (ad.add j) = some u) (h1 : ∀ u ∈ news, u.oneCell' = true)
    (h63 : n + m ≤ maxLen) (hbytes : (n + m) * bytes ≤ 140737488355328) (hbase : base ≤ w.heap.size)
    (h : ∀ v' w', w'.ownsRow base e size v' (n + m) (xs ++ news) → w.grownBy w' v.ownBlock → (v'.ownBlock = v.ownBlock ∨ v'.ownBlock = some w.heap.size) → K (a.put o.dst v') w') : o.wp P a w K Q := by
  obtain ⟨i, hi', hz, hsize, hby⟩ := info_parts hi
  obtain ⟨v', w', hr, h2, h3, h4⟩ := run_append_x (P := P) w base t o.type e i z size bytes ht hi' hz hsize hby hzs hsz v n xs hown ad m c news hm hl hnews h1 h63 hbytes hbase
  unfold Oper.wp execOp
  simp only [ho, resolve, invoke, builtin, Sem.run_bind, Sem.run_pure, Result.andThen_ok, List.map_toArray, List.map_cons, List.map_nil, hs, hx, hr]
  exact h v' w' h2 h3 h4
end

theorem addr_add (g o m : Nat) : (⟨g, o, none⟩ : Addr).add m = ⟨g, o + m, none⟩ := by
  unfold Addr.add
  by_cases h : m = 0 <;> simp [h]

mutual
/-- v lies in w, its lists in the blocks bs (each met once), from their heads on. -/
def OwnV (w : World) : V → Array Value → List Nat → Prop
  | .mk k b i f t ty its fs, cs, bs => ∃ p c q d b1 b2, cs = vcells k b i f t ty p its.length c q fs.length d ∧ bs = b1 ++ b2 ∧ its.length ≤ lenMax ∧ fs.length ≤ lenMax ∧
      ((its = [] ∧ b1 = [] ∧ p = none ∧ c = 0) ∨ ∃ g br cur, p = some ⟨g, 0, none⟩ ∧ b1 = g :: br ∧ w.heap[g]? = some (.cells cur 27 (0, 0)) ∧ cur.size = c * 8 ∧ its.length ≤ c ∧ c ≤ maxLen ∧ OwnVs w its g 0 br) ∧
      ((fs = [] ∧ b2 = [] ∧ q = none ∧ d = 0) ∨ ∃ g br cur, q = some ⟨g, 0, none⟩ ∧ b2 = g :: br ∧ w.heap[g]? = some (.cells cur 79 (0, 0)) ∧ cur.size = d * 9 ∧ fs.length ≤ d ∧ d ≤ maxLen ∧ OwnFs w fs g 0 br)
def OwnVs (w : World) : List V → Nat → Nat → List Nat → Prop
  | [], _, _, bs => bs = []
  | v :: r, g, o, bs => ∃ b1 b2 cs, bs = b1 ++ b2 ∧ CellsAt w g o cs ∧ OwnV w v cs b1 ∧ OwnVs w r g (o + 8) b2
def OwnFs (w : World) : List (ByteArray × V) → Nat → Nat → List Nat → Prop
  | [], _, _, bs => bs = []
  | x :: r, g, o, bs => ∃ b1 b2 cs, bs = b1 ++ b2 ∧ w.cell? ⟨g, o, none⟩ = some (.string x.1) ∧ CellsAt w g (o + 1) cs ∧ OwnV w x.2 cs b1 ∧ OwnFs w r g (o + 9) b2
end

/-- The blocks bs hold what they held. -/
def Kept (bs : List Nat) (w w' : World) : Prop := ∀ b ∈ bs, w'.heap[b]? = w.heap[b]?

theorem CellsAt.kept {w w' : World} {g o : Nat} {cs : Array Value} (h : CellsAt w g o cs) (hk : w'.heap[g]? = w.heap[g]?) : CellsAt w' g o cs :=
  fun j x hx => (World.cell?_of_block (w := w) (w' := w') (a := ⟨g, o + j, none⟩) hk).trans (h j x hx)

mutual
theorem OwnV.kept {w w' : World} : ∀ {v : V} {cs : Array Value} {bs : List Nat}, OwnV w v cs bs → Kept bs w w' → OwnV w' v cs bs
  | .mk k b i f t ty its fs, cs, bs, h, hk => by
    obtain ⟨p, c, q, d, b1, b2, hcs, hbs, l1, l2, hi, hf⟩ := h
    subst hbs
    refine ⟨p, c, q, d, b1, b2, hcs, rfl, l1, l2, ?_, ?_⟩
    · rcases hi with h0 | ⟨g, br, cur, hp, hb, hh, h1, h2, h3, hv⟩
      · exact .inl h0
      · subst hb
        have hg := hk g (by simp)
        exact .inr ⟨g, br, cur, hp, rfl, hg.trans hh, h1, h2, h3, OwnVs.kept hv hg (fun x hx => hk x (by simp [hx]))⟩
    · rcases hf with h0 | ⟨g, br, cur, hp, hb, hh, h1, h2, h3, hv⟩
      · exact .inl h0
      · subst hb
        have hg := hk g (by simp)
        exact .inr ⟨g, br, cur, hp, rfl, hg.trans hh, h1, h2, h3, OwnFs.kept hv hg (fun x hx => hk x (by simp [hx]))⟩
theorem OwnVs.kept {w w' : World} : ∀ {l : List V} {g o : Nat} {bs : List Nat}, OwnVs w l g o bs → w'.heap[g]? = w.heap[g]? → Kept bs w w' → OwnVs w' l g o bs
  | [], _, _, _, h, _, _ => h
  | v :: r, g, o, bs, h, hg, hk => by
    obtain ⟨b1, b2, cs, rfl, h1, h2, h3⟩ := h
    exact ⟨b1, b2, cs, rfl, h1.kept hg, OwnV.kept h2 (fun x hx => hk x (by simp [hx])), OwnVs.kept h3 hg (fun x hx => hk x (by simp [hx]))⟩
theorem OwnFs.kept {w w' : World} : ∀ {l : List (ByteArray × V)} {g o : Nat} {bs : List Nat}, OwnFs w l g o bs → w'.heap[g]? = w.heap[g]? → Kept bs w w' → OwnFs w' l g o bs
  | [], _, _, _, h, _, _ => h
  | x :: r, g, o, bs, h, hg, hk => by
    obtain ⟨b1, b2, cs, rfl, h0, h1, h2, h3⟩ := h
    exact ⟨b1, b2, cs, rfl, (World.cell?_of_block (w := w) (w' := w') (a := ⟨g, o, none⟩) hg).trans h0, h1.kept hg, OwnV.kept h2 (fun x hx => hk x (by simp [hx])), OwnFs.kept h3 hg (fun x hx => hk x (by simp [hx]))⟩
end

mutual
/-- What is owned is there. -/
theorem OwnV.isV {B : Nat} {w : World} : ∀ {v : V} {cs : Array Value} {bs : List Nat}, OwnV w v cs bs → (∀ b ∈ bs, b < B) → IsV B w v cs
  | .mk k b i f t ty its fs, cs, bs, h, hk => by
    obtain ⟨p, c, q, d, b1, b2, hcs, hbs, l1, l2, hi, hf⟩ := h
    subst hbs
    refine ⟨p, c, q, d, hcs, ?_, ?_, l1, l2⟩
    · rcases hi with ⟨h0, _⟩ | ⟨g, br, cur, hp, hb, hh, h1, h2, h3, hv⟩
      · exact .inl h0
      · subst hb
        exact .inr ⟨g, 0, hp, hk g (by simp), OwnVs.isV hv (fun x hx => hk x (by simp [hx]))⟩
    · rcases hf with ⟨h0, _⟩ | ⟨g, br, cur, hp, hb, hh, h1, h2, h3, hv⟩
      · exact .inl h0
      · subst hb
        exact .inr ⟨g, 0, hp, hk g (by simp), OwnFs.isV hv (fun x hx => hk x (by simp [hx]))⟩
theorem OwnVs.isV {B : Nat} {w : World} : ∀ {l : List V} {g o : Nat} {bs : List Nat}, OwnVs w l g o bs → (∀ b ∈ bs, b < B) → IsVs B w l g o
  | [], _, _, _, _, _ => trivial
  | v :: r, g, o, bs, h, hk => by
    obtain ⟨b1, b2, cs, rfl, h1, h2, h3⟩ := h
    exact ⟨⟨cs, h1, OwnV.isV h2 (fun x hx => hk x (by simp [hx]))⟩, OwnVs.isV h3 (fun x hx => hk x (by simp [hx]))⟩
theorem OwnFs.isV {B : Nat} {w : World} : ∀ {l : List (ByteArray × V)} {g o : Nat} {bs : List Nat}, OwnFs w l g o bs → (∀ b ∈ bs, b < B) → IsFs B w l g o
  | [], _, _, _, _, _ => trivial
  | x :: r, g, o, bs, h, hk => by
    obtain ⟨b1, b2, cs, rfl, h0, h1, h2, h3⟩ := h
    exact ⟨⟨h0, cs, h1, OwnV.isV h2 (fun x hx => hk x (by simp [hx]))⟩, OwnFs.isV h3 (fun x hx => hk x (by simp [hx]))⟩
end

/-- Values with their cells, as they are gathered: the cells lie in no list yet. -/
def OwnL (w : World) : List V → List (Array Value) → List Nat → Prop
  | [], [], bs => bs = []
  | v :: r, cs :: ss, bs => ∃ b1 b2, bs = b1 ++ b2 ∧ OwnV w v cs b1 ∧ OwnL w r ss b2
  | _, _, _ => False

theorem OwnL.kept {w w' : World} : ∀ {l : List V} {ss : List (Array Value)} {bs : List Nat}, OwnL w l ss bs → Kept bs w w' → OwnL w' l ss bs
  | [], [], _, h, _ => h
  | v :: r, cs :: ss, bs, h, hk => by
    obtain ⟨b1, b2, rfl, h1, h2⟩ := h
    exact ⟨b1, b2, rfl, h1.kept (fun x hx => hk x (by simp [hx])), OwnL.kept h2 (fun x hx => hk x (by simp [hx]))⟩
  | [], _ :: _, _, h, _ => h.elim
  | _ :: _, [], _, h, _ => h.elim

theorem OwnL.snoc {w : World} {v : V} {cs : Array Value} {b2 : List Nat} (h2 : OwnV w v cs b2) : ∀ {l : List V} {ss : List (Array Value)} {bs : List Nat}, OwnL w l ss bs → OwnL w (l ++ [v]) (ss ++ [cs]) (bs ++ b2)
  | [], [], bs, h => by
    obtain rfl : bs = [] := h
    exact ⟨b2, [], by simp, h2, rfl⟩
  | x :: r, y :: ss, bs, h => by
    obtain ⟨b1, b3, rfl, h1, h3⟩ := h
    exact ⟨b1, b3 ++ b2, by simp, h1, OwnL.snoc h2 h3⟩
  | [], _ :: _, _, h => h.elim
  | _ :: _, [], _, h => h.elim

theorem OwnL.length {w : World} : ∀ {l : List V} {ss : List (Array Value)} {bs : List Nat}, OwnL w l ss bs → ss.length = l.length
  | [], [], _, _ => rfl
  | _ :: _, _ :: _, _, h => by obtain ⟨_, _, _, _, h3⟩ := h; simp [OwnL.length h3]
  | [], _ :: _, _, h => h.elim
  | _ :: _, [], _, h => h.elim

theorem vsize {w : World} {v : V} {cs : Array Value} {bs : List Nat} (h : OwnV w v cs bs) : cs.size = 8 := by
  obtain ⟨k, b, i, f, t, ty, its, fs⟩ := v
  obtain ⟨p, c, q, d, b1, b2, rfl, _⟩ := h
  rfl

/-- The gathered cells lie in the row from o on. -/
theorem OwnL.row {w : World} {g : Nat} {cur : Array Value} {e : TypeId} {fz : Nat × Nat} (hg : w.heap[g]? = some (.cells cur e fz)) :
    ∀ {l : List V} {ss : List (Array Value)} {bs : List Nat} (o : Nat), OwnL w l ss bs → (∀ j x, (ss.flatMap (·.toList))[j]? = some x → cur[o + j]? = some x) → OwnVs w l g o bs
  | [], [], _, _, h, _ => h
  | v :: r, cs :: ss, bs, o, h, hc => by
    obtain ⟨b1, b2, rfl, h1, h2⟩ := h
    have hsz := vsize h1
    refine ⟨b1, b2, cs, rfl, fun j x hx => ?_, h1, OwnL.row hg (o + 8) h2 (fun j x hx => ?_)⟩
    · have := hc j x (by rw [List.flatMap_cons, List.getElem?_append_left (by simpa using (Array.getElem?_eq_some_iff.1 hx).1)]; simpa using hx)
      simp only [World.cell?, hg]
      exact this
    · have := hc (8 + j) x (by rw [List.flatMap_cons, List.getElem?_append_right (by simp [hsz])]; simpa [hsz] using hx)
      rw [show o + 8 + j = o + (8 + j) by omega]
      exact this
  | [], _ :: _, _, _, h, _ => h.elim
  | _ :: _, [], _, _, h, _ => h.elim

/-- The cells of a list of members. -/
def flatF : List ByteArray → List (Array Value) → List Value
  | n :: r, cs :: ss => (.string n :: cs.toList) ++ flatF r ss
  | _, _ => []

theorem flatF_snoc (n : ByteArray) (cs : Array Value) : ∀ (r : List ByteArray) (ss : List (Array Value)), r.length = ss.length → flatF (r ++ [n]) (ss ++ [cs]) = flatF r ss ++ (.string n :: cs.toList)
  | [], [], _ => by simp [flatF]
  | m :: r, c :: ss, h => by simp [flatF, flatF_snoc n cs r ss (by simpa using h)]
  | [], _ :: _, h => by simp at h
  | _ :: _, [], h => by simp at h

theorem OwnL.rowF {w : World} {g : Nat} {cur : Array Value} {e : TypeId} {fz : Nat × Nat} (hg : w.heap[g]? = some (.cells cur e fz)) :
    ∀ {l : List (ByteArray × V)} {ss : List (Array Value)} {bs : List Nat} (o : Nat), OwnL w (l.map (·.2)) ss bs → (∀ j x, (flatF (l.map (·.1)) ss)[j]? = some x → cur[o + j]? = some x) → OwnFs w l g o bs
  | [], [], _, _, h, _ => h
  | v :: r, cs :: ss, bs, o, h, hc => by
    obtain ⟨b1, b2, rfl, h1, h2⟩ := h
    have hsz := vsize h1
    have h0 := hc 0 (.string v.1) (by simp [flatF])
    refine ⟨b1, b2, cs, rfl, ?_, fun j x hx => ?_, h1, OwnL.rowF hg (o + 9) h2 (fun j x hx => ?_)⟩
    · simp only [World.cell?, hg]
      simpa using h0
    · have hj := (Array.getElem?_eq_some_iff.1 hx).1
      have := hc (1 + j) x (by
        simp only [List.map_cons, flatF]
        rw [List.getElem?_append_left (by simp; omega), show 1 + j = j + 1 by omega, List.getElem?_cons_succ]
        simpa using hx)
      simp only [World.cell?, hg]
      rw [show o + 1 + j = o + (1 + j) by omega]
      exact this
    · have := hc (9 + j) x (by
        simp only [List.map_cons, flatF]
        rw [List.getElem?_append_right (by simp [hsz])]
        simpa [hsz] using hx)
      rw [show o + 9 + j = o + (9 + j) by omega]
      exact this
  | [], _ :: _, _, _, h, _ => h.elim
  | _ :: _, [], _, _, h, _ => h.elim

theorem ownsRow_below {w w' : World} {base : Nat} {e : TypeId} {size : Nat} {v : Value} {n : Nat} {xs : List Value} (h : w.ownsRow base e size v n xs) (hb : Below w.heap.size w w') : w'.ownsRow base e size v n xs := by
  obtain ⟨h1, h2⟩ := h
  refine ⟨h1, ?_⟩
  rcases h2 with h2 | ⟨g, cap, cur, hv, hg, hh, r⟩
  · exact .inl h2
  · exact .inr ⟨g, cap, cur, hv, hg, (hb.block g (Array.getElem?_eq_some_iff.1 hh).1).trans hh, r⟩

theorem heap_setCell_same {w : World} {L j : Nat} {c : Array Value} {e : TypeId} {fz : Nat × Nat} (h : w.heap[L]? = some (.cells c e fz)) (v : Value) : (w.setCell ⟨L, j, none⟩ v).heap[L]? = some (.cells (c.setIfInBounds j v) e fz) := by
  simp [World.setCell, Array.getElem?_modify, h]

/-- What a loop that gathers copies knows: the list so far lies in a row sv of its own, the copies xs in the blocks bs. -/
structure Gath (B1 : Nat) (e : TypeId) (size : Nat) (w : World) (sv : Value) (n : Nat) (row : List Value) (l : List V) (css : List (Array Value)) (bs : List Nat) : Prop where
  row : w.ownsRow B1 e size sv n row
  own : OwnL w l css bs
  nodup : bs.Nodup
  low : ∀ x ∈ bs, B1 ≤ x ∧ x < w.heap.size
  apart : ∀ g, sv.ownBlock = some g → g ∉ bs

theorem Gath.start (B1 : Nat) (e : TypeId) (size : Nat) (w : World) : Gath B1 e size w (.slice none 0 0) 0 [] [] [] [] :=
  ⟨World.ownsRow_nil w B1 e size, rfl, List.nodup_nil, by simp, by simp⟩

theorem Gath.below {B1 : Nat} {e : TypeId} {size : Nat} {w w' : World} {sv : Value} {n : Nat} {row : List Value} {l : List V} {css : List (Array Value)} {bs : List Nat} (h : Gath B1 e size w sv n row l css bs) (hb : Below w.heap.size w w') :
    Gath B1 e size w' sv n row l css bs :=
  ⟨ownsRow_below h.row hb, h.own.kept (fun x hx => hb.block x (h.low x hx).2), h.nodup, fun x hx => ⟨(h.low x hx).1, Nat.lt_of_lt_of_le (h.low x hx).2 hb.size⟩, h.apart⟩

/-- One more copy, appended. -/
theorem Gath.step {B1 : Nat} {e : TypeId} {size : Nat} {w W3 w' : World} {sv v' : Value} {n : Nat} {row news : List Value} {l : List V} {css : List (Array Value)} {bs : List Nat} (h : Gath B1 e size w sv n row l css bs) (hb : Below w.heap.size w W3)
    {x : V} {cs : Array Value} {b : List Nat} (hx : OwnV W3 x cs b) (hn : b.Nodup) (hlow : ∀ y ∈ b, w.heap.size ≤ y ∧ y < W3.heap.size) (hB : B1 ≤ w.heap.size)
    (hown : w'.ownsRow B1 e size v' (n + 1) (row ++ news)) (hgr : W3.grownBy w' sv.ownBlock) (hv : v'.ownBlock = sv.ownBlock ∨ v'.ownBlock = some W3.heap.size) :
    Gath B1 e size w' v' (n + 1) (row ++ news) (l ++ [x]) (css ++ [cs]) (bs ++ b) := by
  have hlt : ∀ g, sv.ownBlock = some g → g < w.heap.size := fun g hg => (h.row.lt g hg).2
  have k1 : Kept bs w w' := fun y hy => by
    have h1 := h.low y hy
    rw [hgr.block y (Nat.lt_of_lt_of_le h1.2 hb.size) (fun e => h.apart y e.symm hy)]
    exact hb.block y h1.2
  have k2 : Kept b W3 w' := fun y hy => hgr.block y (hlow y hy).2 (fun e => by have := hlt y e.symm; have := (hlow y hy).1; omega)
  refine ⟨hown, OwnL.snoc (hx.kept k2) (h.own.kept k1), ?_, fun y hy => ?_, fun g hg hmem => ?_⟩
  · rw [List.nodup_append]
    exact ⟨h.nodup, hn, fun a ha c hc e => by have h1 := (h.low a ha).2; have h2 := (hlow c hc).1; omega⟩
  · rcases List.mem_append.1 hy with hy | hy
    · exact ⟨(h.low y hy).1, Nat.lt_of_lt_of_le (h.low y hy).2 (Nat.le_trans hb.size hgr.size)⟩
    · exact ⟨Nat.le_trans hB (hlow y hy).1, Nat.lt_of_lt_of_le (hlow y hy).2 hgr.size⟩
  · rcases hv with hv | hv
    · rw [hv] at hg
      rcases List.mem_append.1 hmem with hy | hy
      · exact h.apart g hg hy
      · have := hlt g hg; have := (hlow g hy).1; omega
    · rw [hv] at hg
      obtain rfl : W3.heap.size = g := by simpa using hg
      rcases List.mem_append.1 hmem with hy | hy
      · have := (h.low _ hy).2; have := hb.size; omega
      · have := (hlow _ hy).2; omega

/-- A store into a block below. -/
theorem Gath.setCell {B1 : Nat} {e : TypeId} {size : Nat} {w : World} {sv : Value} {n : Nat} {row : List Value} {l : List V} {css : List (Array Value)} {bs : List Nat} (h : Gath B1 e size w sv n row l css bs) {L j : Nat} (hL : L < B1) (u : Value) :
    Gath B1 e size (w.setCell ⟨L, j, none⟩ u) sv n row l css bs :=
  ⟨ownsRow_setCell_below h.row hL u, h.own.kept (fun x hx => Below.heap_setCell _ _ _ _ (by have := (h.low x hx).1; simp only []; omega)), h.nodup, fun x hx => by simpa [World.setCell] using h.low x hx, h.apart⟩

/-- The items of an owned value. -/
def ItemsOwn (w : World) (its : List V) (p : Option Addr) (c : Nat) (b1 : List Nat) : Prop :=
  (its = [] ∧ b1 = [] ∧ p = none ∧ c = 0) ∨ ∃ g br cur, p = some ⟨g, 0, none⟩ ∧ b1 = g :: br ∧ w.heap[g]? = some (.cells cur 27 (0, 0)) ∧ cur.size = c * 8 ∧ its.length ≤ c ∧ c ≤ maxLen ∧ OwnVs w its g 0 br
def FieldsOwn (w : World) (fs : List (ByteArray × V)) (q : Option Addr) (d : Nat) (b2 : List Nat) : Prop :=
  (fs = [] ∧ b2 = [] ∧ q = none ∧ d = 0) ∨ ∃ g br cur, q = some ⟨g, 0, none⟩ ∧ b2 = g :: br ∧ w.heap[g]? = some (.cells cur 79 (0, 0)) ∧ cur.size = d * 9 ∧ fs.length ≤ d ∧ d ≤ maxLen ∧ OwnFs w fs g 0 br

theorem ItemsOwn.kept {w w' : World} {its : List V} {p : Option Addr} {c : Nat} {b1 : List Nat} (h : ItemsOwn w its p c b1) (hk : Kept b1 w w') : ItemsOwn w' its p c b1 := by
  rcases h with h | ⟨g, br, cur, hp, rfl, hh, h1, h2, h3, hv⟩
  · exact .inl h
  · have hg := hk g (by simp)
    exact .inr ⟨g, br, cur, hp, rfl, hg.trans hh, h1, h2, h3, hv.kept hg (fun x hx => hk x (by simp [hx]))⟩
theorem FieldsOwn.kept {w w' : World} {fs : List (ByteArray × V)} {p : Option Addr} {c : Nat} {b1 : List Nat} (h : FieldsOwn w fs p c b1) (hk : Kept b1 w w') : FieldsOwn w' fs p c b1 := by
  rcases h with h | ⟨g, br, cur, hp, rfl, hh, h1, h2, h3, hv⟩
  · exact .inl h
  · have hg := hk g (by simp)
    exact .inr ⟨g, br, cur, hp, rfl, hg.trans hh, h1, h2, h3, hv.kept hg (fun x hx => hk x (by simp [hx]))⟩

theorem OwnV.intro {w : World} {k : Int} {b : Bool} {i : Int} {f : Nat} {t ty : ByteArray} {its : List V} {fs : List (ByteArray × V)} {p q : Option Addr} {c d : Nat} {b1 b2 : List Nat} (l1 : its.length ≤ lenMax) (l2 : fs.length ≤ lenMax) (hi : ItemsOwn w its p c b1) (hf : FieldsOwn w fs q d b2) :
    OwnV w (.mk k b i f t ty its fs) (vcells k b i f t ty p its.length c q fs.length d) (b1 ++ b2) := ⟨p, c, q, d, b1, b2, rfl, rfl, l1, l2, hi, hf⟩

theorem row_at {cur : Array Value} {xs : List Value} {n : Nat} (h : cur.toList.take n = xs) : ∀ j x, xs[j]? = some x → cur[0 + j]? = some x := by
  intro j x hj
  rw [← h, List.getElem?_take] at hj
  split at hj
  · rw [Nat.zero_add, ← Array.getElem?_toList]; exact hj
  · cases hj

theorem Gath.items {B1 : Nat} {w : World} {sv : Value} {its : List V} {css : List (Array Value)} {bs : List Nat} (h : Gath B1 27 8 w sv its.length (css.flatMap (·.toList)) its css bs) :
    ∃ p c b1, sv = .slice p its.length c ∧ ItemsOwn w its p c b1 ∧ b1.Nodup ∧ ∀ x ∈ b1, B1 ≤ x ∧ x < w.heap.size := by
  rcases h.row.2 with ⟨rfl, h0⟩ | ⟨g, cap, cur, rfl, hg, hh, hn, hm, hs, ht⟩
  · have : its = [] := List.eq_nil_of_length_eq_zero h0
    subst this
    exact ⟨none, 0, [], rfl, .inl ⟨rfl, rfl, rfl, rfl⟩, by simp, by simp⟩
  · refine ⟨_, cap, g :: bs, rfl, .inr ⟨g, bs, cur, rfl, rfl, hh, hs, hn, hm, ?_⟩, ?_, ?_⟩
    · exact OwnL.row hh 0 h.own (row_at ht)
    · exact List.nodup_cons.2 ⟨h.apart g rfl, h.nodup⟩
    · intro x hx
      rcases List.mem_cons.1 hx with rfl | hx
      · exact ⟨hg, (Array.getElem?_eq_some_iff.1 hh).1⟩
      · exact h.low x hx

theorem Gath.fields {B1 : Nat} {w : World} {sv : Value} {fs : List (ByteArray × V)} {css : List (Array Value)} {bs : List Nat} (h : Gath B1 79 9 w sv fs.length (flatF (fs.map (·.1)) css) (fs.map (·.2)) css bs) :
    ∃ p c b1, sv = .slice p fs.length c ∧ FieldsOwn w fs p c b1 ∧ b1.Nodup ∧ ∀ x ∈ b1, B1 ≤ x ∧ x < w.heap.size := by
  rcases h.row.2 with ⟨rfl, h0⟩ | ⟨g, cap, cur, rfl, hg, hh, hn, hm, hs, ht⟩
  · have : fs = [] := List.eq_nil_of_length_eq_zero h0
    subst this
    exact ⟨none, 0, [], rfl, .inl ⟨rfl, rfl, rfl, rfl⟩, by simp, by simp⟩
  · refine ⟨_, cap, g :: bs, rfl, .inr ⟨g, bs, cur, rfl, rfl, hh, hs, hn, hm, ?_⟩, ?_, ?_⟩
    · exact OwnL.rowF hh 0 h.own (row_at ht)
    · exact List.nodup_cons.2 ⟨h.apart g rfl, h.nodup⟩
    · intro x hx
      rcases List.mem_cons.1 hx with rfl | hx
      · exact ⟨hg, (Array.getElem?_eq_some_iff.1 hh).1⟩
      · exact h.low x hx

theorem Kept.below {bs : List Nat} {B : Nat} {w w' : World} (hb : Below B w w') (h : ∀ x ∈ bs, x < B) : Kept bs w w' := fun x hx => hb.block x (h x hx)
theorem Kept.trans {bs : List Nat} {a b c : World} (h : Kept bs a b) (k : Kept bs b c) : Kept bs a c := fun x hx => (k x hx).trans (h x hx)
theorem Kept.setCell {bs : List Nat} {a w : World} (h : Kept bs a w) {L j : Nat} (hL : L ∉ bs) (u : Value) : Kept bs a (w.setCell ⟨L, j, none⟩ u) :=
  fun x hx => (Below.heap_setCell _ _ _ _ (fun e => hL (by have e' : x = L := e; rw [← e']; exact hx))).trans (h x hx)
theorem Kept.setRow {bs : List Nat} {a w : World} (h : Kept bs a w) {L : Nat} (hL : L ∉ bs) (cs : Array Value) : Kept bs a (w.setRow L cs) :=
  fun x hx => (setRow_other w L x cs (fun e => hL (by rw [← e]; exact hx))).trans (h x hx)
theorem Kept.grown {bs : List Nat} {a w w' : World} {row : Option Nat} (h : Kept bs a w) (hg : w.grownBy w' row) (hs : ∀ x ∈ bs, x < w.heap.size) (hr : ∀ g, row = some g → g ∉ bs) : Kept bs a w' :=
  fun x hx => (hg.block x (hs x hx) (fun e => hr x e.symm hx)).trans (h x hx)
theorem below_setRow {B : Nat} {a w : World} (h : Below B a w) {L : Nat} (hL : B ≤ L) (cs : Array Value) : Below B a (w.setRow L cs) :=
  h.trans ⟨rfl, rfl, rfl, by simp, fun k hk => setRow_other w L k cs (by omega)⟩

theorem vcells_one (k : Int) (b : Bool) (i : Int) (f : Nat) (t ty : ByteArray) (p : Option Addr) (n c : Nat) (q : Option Addr) (m d : Nat) : (vcells k b i f t ty p n c q m d).all (·.oneCell') = true := by simp [vcells, Value.oneCell']
end Go.Proofs.YtnmnmkdmnohbmaaDoor
