/- Several texts in one: Helper text: marks written into the elements of lists, one after another. Helper text: what stands while lists grow: the first elements of each list, and every other block. Helper text: rows of lists: of values that lie in memory of their own; a value whose lists bear marks; lists that grow. Helper text: where the headers of a value's lists stand. Helper text: four kinds of lists gathered, the gatherer's block, and what keeps them. Helper text: boxes that hold values in memory of their own, all apart; their lists piled up. Helper text: two boxes overwritten by copies, two boxes more; what the walk over the law keeps of its boxes. Conditions: none. -/
import Derived.Test.YtldjbgklmeigmaaGreatDoorPackI
import Derived.Test.YtldjbgklmeigmaaGreatDoorPackG
import Derived.Test.YtldjbgklmeigmaaGreatDoorPackB
import Derived.Test.YtldjbgklmeigmaaGreatDoorPackJ
import Derived.Test.YtldjbgklmeigmaaGreatDoorPackE
import Derived.Test.YtldjbgklmeigmaaGreatDoorPackH
set_option linter.unusedVariables false
set_option linter.unusedSimpArgs false
namespace Go.Proofs.YtldjbgklmeigmaaGreatDoor
open Go Go.RowKit

/-- No header lies in a mark's cell. -/
def Safe (es : List Ent) (z mo : Nat) (e : Ent) : Prop := e.hb ∉ blks es ∨ ∀ i, e.ho ≠ i * z + mo
/-- Marks stand in the lists ahead of K and in the first I elements of list K; but for marks all cells of w0 stand. -/
structure Wrote (w0 W : World) (es : List Ent) (T z mo : Nat) (mk : Nat → Nat → Value) (K I : Nat) : Prop where
  moved : Moved (fun b => b ∈ blks es) w0 W
  rest : ∀ b o, b < w0.heap.size → (∀ i, o ≠ i * z + mo) → W.cell? ⟨b, o, none⟩ = w0.cell? ⟨b, o, none⟩
  rows : ∀ e ∈ es, EntAt W T z e
  done : ∀ k i e g, es[k]? = some e → e.p = some ⟨g, 0, none⟩ → i < e.n → (k < K ∨ (k = K ∧ i < I)) → W.cell? ⟨g, i * z + mo, none⟩ = some (mk k i)
theorem Wrote.start {w0 : World} {es : List Ent} {T z mo : Nat} {mk : Nat → Nat → Value} (h : ∀ e ∈ es, EntAt w0 T z e) : Wrote w0 w0 es T z mo mk 0 0 :=
  ⟨⟨rfl, rfl, rfl, Nat.le_refl _, fun _ _ _ => rfl⟩, fun _ _ _ _ => rfl, h, fun k i e g _ _ _ hk => by omega⟩
theorem Wrote.grow {w0 W W' : World} {es : List Ent} {T z mo : Nat} {mk : Nat → Nat → Value} {K I : Nat} (h : Wrote w0 W es T z mo mk K I) (hb : Below W.heap.size W W') (hw : ∀ b ∈ blks es, b < w0.heap.size) (hh : ∀ e ∈ es, e.hb < w0.heap.size) : Wrote w0 W' es T z mo mk K I := by
  have hs := h.moved.size
  have hblk : ∀ e ∈ es, ∀ b, e.p.map (·.block) = some b → b < W.heap.size := fun e he b hb' => Nat.lt_of_lt_of_le (hw b (List.mem_filterMap.2 ⟨e, he, hb'⟩)) hs
  refine ⟨⟨hb.os.trans h.moved.os, hb.tape.trans h.moved.tape, hb.output.trans h.moved.output, Nat.le_trans hs hb.size, fun k hk hn => (hb.block k (by omega)).trans (h.moved.block k hk hn)⟩, fun b o hbl ho => (hb.cell (p := ⟨b, o, none⟩) (by show b < _; omega)).trans (h.rest b o hbl ho), fun e he => (h.rows e he).below hb (Nat.lt_of_lt_of_le (hh e he) hs) (hblk e he), fun k i e g he hp hi hk => ?_⟩
  have hg := hblk e (List.mem_of_getElem? he) g (by rw [hp]; rfl)
  exact (hb.cell (p := ⟨g, i * z + mo, none⟩) hg).trans (h.done k i e g he hp hi hk)
theorem Wrote.next {w0 W : World} {es : List Ent} {T z mo : Nat} {mk : Nat → Nat → Value} {K I : Nat} {e : Ent} (h : Wrote w0 W es T z mo mk K I) (he : es[K]? = some e) (hI : e.n ≤ I) : Wrote w0 W es T z mo mk (K + 1) 0 :=
  ⟨h.moved, h.rest, h.rows, fun k i e' g he' hp hi hk => h.done k i e' g he' hp hi (by
    rcases hk with hk | ⟨_, hk⟩
    · by_cases hkK : k = K
      · subst hkK
        rw [he] at he'
        cases he'
        exact .inr ⟨rfl, by omega⟩
      · exact .inl (by omega)
    · omega)⟩
theorem cell_set_off (W : World) (g j b o : Nat) (u : Value) (h : b ≠ g ∨ o ≠ j) : (W.setCell ⟨g, j, none⟩ u).cell? ⟨b, o, none⟩ = W.cell? ⟨b, o, none⟩ := by
  have := World.cell?_setCells_out g [u] j W ⟨b, o, none⟩ (fun hb _ => by
    rcases h with h | h
    · exact absurd hb h
    · simp; omega)
  simpa [World.setCells] using this
theorem blks_ne {es : List Ent} (hn : (blks es).Nodup) {k k' : Nat} {e e' : Ent} {g g' : Nat} (h : es[k]? = some e) (h' : es[k']? = some e') (hp : e.p = some ⟨g, 0, none⟩) (hp' : e'.p = some ⟨g', 0, none⟩) (hk : k ≠ k') : g ≠ g' := by
  induction es generalizing k k' with
  | nil => simp at h
  | cons a r ih =>
    have hc : blks (a :: r) = (a.p.map (·.block)).toList ++ blks r := by cases ha : a.p <;> simp [blks, ha]
    rw [hc, List.nodup_append] at hn
    have mem : ∀ (j : Nat) (x : Ent) (y : Nat), r[j]? = some x → x.p = some ⟨y, 0, none⟩ → y ∈ blks r := fun j x y hj hx => List.mem_filterMap.2 ⟨x, List.mem_of_getElem? hj, by rw [hx]; rfl⟩
    cases k with
    | zero =>
      cases k' with
      | zero => exact absurd rfl hk
      | succ k' =>
        obtain rfl : a = e := by simpa using h
        exact hn.2.2 g (by rw [hp]; simp) g' (mem k' e' g' (by simpa using h') hp')
    | succ k =>
      cases k' with
      | zero =>
        obtain rfl : a = e' := by simpa using h'
        exact fun e0 => hn.2.2 g' (by rw [hp']; simp) g (mem k e g (by simpa using h) hp) e0.symm
      | succ k' => exact ih hn.2.1 (by simpa using h) (by simpa using h') (by omega)
theorem Wrote.step {w0 W : World} {es : List Ent} {T z mo : Nat} {mk : Nat → Nat → Value} {K I : Nat} {e : Ent} {g : Nat} (h : Wrote w0 W es T z mo mk K I) (hn : (blks es).Nodup) (hz : mo < z) (hsafe : ∀ e ∈ es, Safe es z mo e)
    (he : es[K]? = some e) (hp : e.p = some ⟨g, 0, none⟩) (hI : I < e.n) : Wrote w0 (W.setCell ⟨g, I * z + mo, none⟩ (mk K I)) es T z mo mk K (I + 1) := by
  have hg : g ∈ blks es := List.mem_filterMap.2 ⟨e, List.mem_of_getElem? he, by rw [hp]; rfl⟩
  have hme := h.rows e (List.mem_of_getElem? he)
  obtain ⟨cur, hcur, hsz, hnc⟩ : ∃ cur, W.heap[g]? = some (.cells cur T (0, 0)) ∧ cur.size = e.c * z ∧ e.n ≤ e.c := by
    rcases hme.2 with h0 | ⟨g', cur, q1, q2, q3, q4, _⟩
    · omega
    · rw [hp] at q1
      cases q1
      exact ⟨cur, q2, q3, q4⟩
  have hb := heap_setCell_same (j := I * z + mo) hcur (mk K I)
  refine ⟨⟨h.moved.os, h.moved.tape, h.moved.output, by simpa [World.setCell] using h.moved.size, fun k hk hnk => ?_⟩, fun b o hbl ho => ?_, fun e' he' => ?_, fun k i e' g' he' hp' hi hk => ?_⟩
  · exact (Below.heap_setCell _ _ _ _ (fun e0 => hnk (by have e1 : k = g := e0; rw [e1]; exact hg))).trans (h.moved.block k hk hnk)
  · exact (cell_set_off _ _ _ _ _ _ (.inr (ho I))).trans (h.rest b o hbl ho)
  · obtain ⟨h1, h2⟩ := h.rows e' he'
    refine ⟨(cell_set_off _ _ _ _ _ _ ?_).trans h1, ?_⟩
    · rcases hsafe e' he' with hs | hs
      · exact .inl (fun e0 => hs (by rw [e0]; exact hg))
      · exact .inr (hs I)
    · rcases h2 with h0 | ⟨g', cur', q1, q2, q3, q4⟩
      · exact .inl h0
      · by_cases e0 : g' = g
        · subst e0
          rw [hcur] at q2
          cases q2
          exact .inr ⟨g', _, q1, hb, by simpa using q3, q4⟩
        · exact .inr ⟨g', cur', q1, (Below.heap_setCell _ _ _ _ e0).trans q2, q3, q4⟩
  · by_cases hkK : k = K
    · subst hkK
      rw [he] at he'
      cases he'
      rw [hp] at hp'
      cases hp'
      by_cases hiI : i = I
      · subst hiI
        simp only [World.cell?, hb, Option.isSome_none, Bool.false_eq_true, if_false]
        have : i * z + mo < cur.size := by rw [hsz]; have := Nat.mul_le_mul_right z (show i + 1 ≤ e.c by omega); rw [Nat.add_mul] at this; omega
        simp [this]
      · rw [cell_set_off _ _ _ _ _ _ (.inr (fun e0 => hiI (Nat.eq_of_mul_eq_mul_right (by omega : 0 < z) (by omega))))]
        exact h.done k i e g he hp hi (.inr ⟨rfl, by omega⟩)
    · have hgg := blks_ne hn he' he hp' hp hkK
      rw [cell_set_off _ _ _ _ _ _ (.inl hgg)]
      exact h.done k i e' g' he' hp' hi (.inl (by omega))
end Go.Proofs.YtldjbgklmeigmaaGreatDoor

namespace Go.Proofs.YtldjbgklmeigmaaGreatDoor
open Go Go.RowKit

/-- Behind W's making: of a block with a limit the cells ahead of it stand, of every other block all. -/
structure Keep (lim : Nat → Option Nat) (w W : World) : Prop where
  os : W.os = w.os
  tape : W.tape = w.tape
  output : W.output = w.output
  size : w.heap.size ≤ W.heap.size
  block : ∀ b, b < w.heap.size → lim b = none → W.heap[b]? = w.heap[b]?
  part : ∀ b m cur T f, lim b = some m → w.heap[b]? = some (.cells cur T f) → ∃ cur', W.heap[b]? = some (.cells cur' T f) ∧ cur'.size = cur.size ∧ ∀ o, o < m → cur'[o]? = cur[o]?
theorem Keep.refl (lim : Nat → Option Nat) (w : World) : Keep lim w w := ⟨rfl, rfl, rfl, Nat.le_refl _, fun _ _ _ => rfl, fun _ _ cur _ _ _ h => ⟨cur, h, rfl, fun _ _ => rfl⟩⟩
theorem cell_inv {w : World} {b o : Nat} {v : Value} (h : w.cell? ⟨b, o, none⟩ = some v) : ∃ cur T f, w.heap[b]? = some (.cells cur T f) ∧ cur[o]? = some v := by
  unfold World.cell? at h
  split at h
  · rename_i c T f e
    exact ⟨c, T, f, e, by simpa using h⟩
  · cases h
theorem Keep.step {lim : Nat → Option Nat} {w W W' : World} (h : Keep lim w W) (h1 : W'.os = W.os) (h2 : W'.tape = W.tape) (h3 : W'.output = W.output) (h4 : W.heap.size ≤ W'.heap.size) (g : Nat)
    (hb : ∀ k, k < W.heap.size → k ≠ g → W'.heap[k]? = W.heap[k]?)
    (hg : w.heap.size ≤ g ∨ ∃ m, lim g = some m ∧ ∀ cur T f, W.heap[g]? = some (.cells cur T f) → ∃ cur', W'.heap[g]? = some (.cells cur' T f) ∧ cur'.size = cur.size ∧ ∀ o, o < m → cur'[o]? = cur[o]?) : Keep lim w W' := by
  refine ⟨h1.trans h.os, h2.trans h.tape, h3.trans h.output, Nat.le_trans h.size h4, fun b hb1 hl => ?_, fun b m cur T f hl hc => ?_⟩
  · refine (hb b (Nat.lt_of_lt_of_le hb1 h.size) (fun e => ?_)).trans (h.block b hb1 hl)
    subst e
    rcases hg with hg | ⟨m, hg, _⟩
    · omega
    · rw [hl] at hg; cases hg
  · obtain ⟨cur1, q1, q2, q3⟩ := h.part b m cur T f hl hc
    have hlt : b < w.heap.size := (Array.getElem?_eq_some_iff.1 hc).1
    by_cases e : b = g
    · subst e
      rcases hg with hg | ⟨m', hg, hk⟩
      · omega
      · rw [hl] at hg
        cases hg
        obtain ⟨cur2, r1, r2, r3⟩ := hk cur1 T f q1
        exact ⟨cur2, r1, r2.trans q2, fun o ho => (r3 o ho).trans (q3 o ho)⟩
    · exact ⟨cur1, (hb b (Nat.lt_of_lt_of_le hlt h.size) e).trans q1, q2, q3⟩
theorem Keep.grow {lim : Nat → Option Nat} {w W W' : World} (h : Keep lim w W) (hb : Below W.heap.size W W') : Keep lim w W' :=
  h.step hb.os hb.tape hb.output hb.size W.heap.size (fun k hk _ => hb.block k hk) (.inl h.size)
theorem Keep.cell {lim : Nat → Option Nat} {w W : World} (h : Keep lim w W) {b o : Nat} {v : Value} (hc : w.cell? ⟨b, o, none⟩ = some v) (hl : ∀ m, lim b = some m → o < m) : W.cell? ⟨b, o, none⟩ = some v := by
  obtain ⟨cur, T, f, h1, h2⟩ := cell_inv hc
  cases e : lim b with
  | none => exact (World.cell?_of_block (a := ⟨b, o, none⟩) (h.block b (Array.getElem?_eq_some_iff.1 h1).1 e)).trans hc
  | some m =>
    obtain ⟨cur', q1, _, q3⟩ := h.part b m cur T f e h1
    simp only [World.cell?, q1, Option.isSome_none, Bool.false_eq_true, if_false]
    exact (q3 o (hl m e)).trans h2
/-- The header's place is kept, and a list's elements. -/
def Lim (lim : Nat → Option Nat) (z : Nat) (e : Ent) : Prop := (∀ m, lim e.hb = some m → e.ho < m) ∧ ∀ g, e.p = some ⟨g, 0, none⟩ → lim g = some (e.n * z)
theorem EntAt.keep {lim : Nat → Option Nat} {w W : World} {T z : Nat} {e : Ent} (h : EntAt w T z e) (hk : Keep lim w W) (hl : Lim lim z e) : EntAt W T z e := by
  refine ⟨hk.cell h.1 hl.1, ?_⟩
  rcases h.2 with h0 | ⟨g, cur, q1, q2, q3, q4⟩
  · exact .inl h0
  · obtain ⟨cur', r1, r2, _⟩ := hk.part g _ cur T _ (hl.2 g q1) q2
    exact .inr ⟨g, cur', q1, r1, r2.trans q3, q4⟩
/-- A list of the call's own, or one that a limit keeps. -/
def Loose (lim : Nat → Option Nat) (S0 : Nat) (W : World) (T z : Nat) (v : Value) (n : Nat) : Prop :=
  (∃ xs, W.ownsRow 0 T z v n xs) ∧ ∀ g, v.ownBlock = some g → S0 ≤ g ∨ ∃ m, lim g = some m ∧ m ≤ n * z
theorem EntAt.loose {lim : Nat → Option Nat} {W : World} {S0 T z : Nat} {e : Ent} (h : EntAt W T z e) (hl : Lim lim z e) : Loose lim S0 W T z e.sl e.n := by
  obtain ⟨hb, ho, p, n, c⟩ := e
  rcases h.2 with ⟨h1, h2, h3⟩ | ⟨g, cur, q1, q2, q3, q4, q5⟩
  · cases h1; cases h2; cases h3
    exact ⟨⟨[], World.ownsRow_nil _ _ _ _⟩, fun g hg => by cases hg⟩
  · cases q1
    refine ⟨⟨_, ?_, .inr ⟨g, c, cur, rfl, Nat.zero_le _, q2, q4, q5, q3, rfl⟩⟩, fun g' hg => ?_⟩
    · have : n * z ≤ c * z := Nat.mul_le_mul_right _ q4
      simp only [List.length_take, Array.length_toList, q3]
      exact Nat.min_eq_left this
    · cases hg
      exact .inr ⟨_, hl.2 g rfl, Nat.le_refl _⟩

theorem Loose.grow {lim : Nat → Option Nat} {W W' : World} {S0 T z : Nat} {v : Value} {n : Nat} (h : Loose lim S0 W T z v n) (hb : Below W.heap.size W W') : Loose lim S0 W' T z v n := by
  obtain ⟨⟨xs, h1⟩, h2⟩ := h
  exact ⟨⟨xs, h1.kept (grown_of_below hb none) (by cases v.ownBlock <;> simp)⟩, h2⟩
section
variable {P : Program} (w : World)

theorem keep_setRow {lim : Nat → Option Nat} {w0 w : World} (hk : Keep lim w0 w) {g : Nat} {cur : Array Value} {e : TypeId} (hg : w.heap[g]? = some (.cells cur e (0, 0))) (k : Nat) (mid : List Value) (hfit : k + mid.length ≤ cur.size)
    (hl : w0.heap.size ≤ g ∨ ∃ m, lim g = some m ∧ m ≤ k) : Keep lim w0 (w.setRow g (cur.toList.take k ++ mid ++ cur.toList.drop (k + mid.length)).toArray) := by
  refine hk.step rfl rfl rfl (by simp) g (fun b _ hb => setRow_other w g b _ hb) ?_
  rcases hl with hl | ⟨m, h1, h2⟩
  · exact .inl hl
  · refine .inr ⟨m, h1, fun cur1 T f hc => ?_⟩
    rw [hg] at hc
    cases hc
    refine ⟨_, setRow_heap w g cur _ e _ hg, ?_, fun o ho => ?_⟩
    · simp only [List.size_toArray, List.length_append, List.length_take, List.length_drop, Array.length_toList]
      omega
    · rw [List.getElem?_toArray, List.append_assoc, List.getElem?_append_left (by simp; omega), List.getElem?_take_of_lt (by omega), Array.getElem?_toList]

theorem run_append_l {lim : Nat → Option Nat} {w0 : World} (hk : Keep lim w0 w) (t ty e : TypeId) (i : TypeInfo) (z : Value) (size bytes : Nat) (ht : P.underlying t = some (.slice e)) (hi : P.info? e = some i) (hz : i.zero = some z)
    (hsize : i.size = size) (hby : i.bytes = bytes) (hzs : z.cells.size = size) (hsz : 0 < size)
    (v : Value) (n : Nat) (hlo : Loose lim w0.heap.size w e size v n)
    (a : Addr) (m c : Nat) (news : List Value) (hm : 0 < m) (hl : news.length = m * size) (hnews : ∀ j u, news[j]? = some u → w.cell? (a.add j) = some u) (h1 : ∀ u ∈ news, u.oneCell' = true)
    (h63 : n + m ≤ maxLen) (hbytes : (n + m) * bytes ≤ 140737488355328) :
    ∃ v' w', (Builtin.append_ #[t, t] ty #[v, .slice (some a) m c]).run P w = .ok v' w' ∧ Loose lim w0.heap.size w' e size v' (n + m) ∧ Keep lim w0 w' := by
  obtain ⟨⟨xs, hown⟩, hloc⟩ := hlo
  obtain ⟨v', w', hr, h2, h3, _⟩ := run_append_own (P := P) w 0 t ty e i z size bytes ht hi hz hsize hby hzs hsz v n xs hown a m c news hl hnews h1 h63 hbytes (Nat.zero_le _)
  refine ⟨v', w', hr, ⟨⟨_, h2⟩, ?_⟩, ?_⟩
  all_goals
    subst hsize
    subst hby
    have hsmall : n + m ≤ 9223372036854775807 := by simp only [maxLen] at h63; omega
    rcases hown.2 with ⟨rfl, rfl⟩ | ⟨g, cap, cur, rfl, hbg, hg, hnc, hcm, hcs, htake⟩
  · have hx := run_append_nil (P := P) w t ty e i z ht hi hz a m c news hl hnews hm (by omega) (by have hb := hbytes; simp only [Nat.zero_add] at hb; omega)
    rw [hx] at hr
    injection hr with h4 h5
    subst h4
    intro g hg
    cases hg
    exact .inl hk.size
  · by_cases hroom : n + m ≤ cap
    · have hfit : n * i.size + news.length ≤ cur.size := by rw [hl, hcs, ← Nat.add_mul]; exact Nat.mul_le_mul_right _ hroom
      have hx := run_append_room (P := P) w t ty e i ht hi g n cap cur hg a m c news hl hnews h1 hroom hfit
      rw [hx] at hr
      injection hr with h4 h5
      subst h4
      intro g' hg'
      rcases hloc g' hg' with h | ⟨q, h, h'⟩
      · exact .inl h
      · exact .inr ⟨q, h, by rw [Nat.add_mul]; omega⟩
    · have hx := run_append_grow (P := P) w t ty e i z ht hi hz ⟨g, 0, none⟩ n cap xs hown.1 (hown.cells (g := g) rfl) a m c news hl hnews (by omega) (by omega) (growslice_fits (by omega) hbytes)
      rw [hx] at hr
      injection hr with h4 h5
      subst h4
      intro g' hg'
      cases hg'
      exact .inl hk.size
  · have hx := run_append_nil (P := P) w t ty e i z ht hi hz a m c news hl hnews hm (by omega) (by have hb := hbytes; simp only [Nat.zero_add] at hb; omega)
    rw [hx] at hr
    injection hr with h4 h5
    subst h5
    exact hk.grow (((Below.refl _ w).drew).alloc (Nat.le_refl _) _)
  · by_cases hroom : n + m ≤ cap
    · have hfit : n * i.size + news.length ≤ cur.size := by rw [hl, hcs, ← Nat.add_mul]; exact Nat.mul_le_mul_right _ hroom
      have hx := run_append_room (P := P) w t ty e i ht hi g n cap cur hg a m c news hl hnews h1 hroom hfit
      rw [hx] at hr
      injection hr with h4 h5
      subst h5
      exact keep_setRow hk hg _ _ hfit (hloc g rfl)
    · have hx := run_append_grow (P := P) w t ty e i z ht hi hz ⟨g, 0, none⟩ n cap xs hown.1 (hown.cells (g := g) rfl) a m c news hl hnews (by omega) (by omega) (growslice_fits (by omega) hbytes)
      rw [hx] at hr
      injection hr with h4 h5
      subst h5
      exact hk.grow (((Below.refl _ w).drew).alloc (Nat.le_refl _) _)

theorem wp_append_l {lim : Nat → Option Nat} {w0 : World} {o : Oper} {a : Act} {K : Act → World → Prop} {Q : Exit → Act → World → Prop} (hk : Keep lim w0 w) (s x : Operand) (t : TypeId)
    (ho : o.op = .call { callee := .builtin .append, args := #[s, x], argTypes := #[t, t] })
    (e : TypeId) (z : Value) (size bytes : Nat) (ht : P.underlying t = some (.slice e)) (hi : (P.info? e).map (fun i => (i.zero, i.size, i.bytes)) = some (some z, size, bytes))
    (hzs : z.cells.size = size) (hsz : 0 < size)
    (v : Value) (n : Nat) (hs : a.eval s = v) (hlo : Loose lim w0.heap.size w e size v n)
    (ad : Addr) (m c : Nat) (news : List Value) (hx : a.eval x = .slice (some ad) m c) (hm : 0 < m) (hl : news.length = m * size) (hnews : ∀ j u, news[j]? = some u → w.cell? (ad.add j) = some u) (h1 : ∀ u ∈ news, u.oneCell' = true)
    (h63 : n + m ≤ maxLen) (hbytes : (n + m) * bytes ≤ 140737488355328)
    (h : ∀ v' w', Loose lim w0.heap.size w' e size v' (n + m) → Keep lim w0 w' → K (a.put o.dst v') w') : o.wp P a w K Q := by
  obtain ⟨i, hi', hz, hsize, hby⟩ := info_parts hi
  obtain ⟨v', w', hr, h2, h3⟩ := run_append_l (P := P) w hk t o.type e i z size bytes ht hi' hz hsize hby hzs hsz v n hlo ad m c news hm hl hnews h1 h63 hbytes
  unfold Oper.wp execOp
  simp only [ho, resolve, invoke, builtin, Sem.run_bind, Sem.run_pure, Result.andThen_ok, List.map_toArray, List.map_cons, List.map_nil, hs, hx, hr]
  exact h v' w' h2 h3

end
end Go.Proofs.YtldjbgklmeigmaaGreatDoor

namespace Go.Proofs.YtldjbgklmeigmaaGreatDoor
open Go Go.RowKit

mutual
theorem laid_rows {w : World} : ∀ {v : V} {g o : Nat} {eI eF : List Ent}, Laid w v g o eI eF → (∀ e ∈ eI, RowB w 34 8 e) ∧ ∀ e ∈ eF, RowB w 58 9 e
  | .mk k b i f t ty its fs, g, o, eI, eF, h => by
    obtain ⟨p, c, q, d, i1, f1, i2, f2, hc, rfl, rfl, e1, e2, h3, h4⟩ := h
    have r1 : (∀ e ∈ i1, RowB w 34 8 e) ∧ ∀ e ∈ f1, RowB w 58 9 e := by
      rcases h3 with ⟨_, rfl, rfl⟩ | ⟨gi, _, h3⟩
      · exact ⟨by simp, by simp⟩
      · exact laidIs_rows h3
    have r2 : (∀ e ∈ i2, RowB w 34 8 e) ∧ ∀ e ∈ f2, RowB w 58 9 e := by
      rcases h4 with ⟨_, rfl, rfl⟩ | ⟨gi, _, h4⟩
      · exact ⟨by simp, by simp⟩
      · exact laidFs_rows h4
    refine ⟨fun e he => ?_, fun e he => ?_⟩
    · rcases List.mem_cons.1 he with rfl | he
      · exact e1.2
      · rcases List.mem_append.1 he with he | he
        · exact r1.1 e he
        · exact r2.1 e he
    · rcases List.mem_cons.1 he with rfl | he
      · exact e2.2
      · rcases List.mem_append.1 he with he | he
        · exact r1.2 e he
        · exact r2.2 e he
theorem laidIs_rows {w : World} : ∀ {l : List V} {g o : Nat} {eI eF : List Ent}, LaidIs w l g o eI eF → (∀ e ∈ eI, RowB w 34 8 e) ∧ ∀ e ∈ eF, RowB w 58 9 e
  | [], _, _, _, _, h => by rw [h.1, h.2]; exact ⟨by simp, by simp⟩
  | v :: r, g, o, eI, eF, h => by
    obtain ⟨i1, f1, i2, f2, rfl, rfl, h1, h2⟩ := h
    have r1 := laid_rows h1
    have r2 := laidIs_rows h2
    exact ⟨fun e he => (List.mem_append.1 he).elim (r1.1 e) (r2.1 e), fun e he => (List.mem_append.1 he).elim (r1.2 e) (r2.2 e)⟩
theorem laidFs_rows {w : World} : ∀ {l : List (ByteArray × V)} {g o : Nat} {eI eF : List Ent}, LaidFs w l g o eI eF → (∀ e ∈ eI, RowB w 34 8 e) ∧ ∀ e ∈ eF, RowB w 58 9 e
  | [], _, _, _, _, h => by rw [h.1, h.2]; exact ⟨by simp, by simp⟩
  | x :: r, g, o, eI, eF, h => by
    obtain ⟨i1, f1, i2, f2, rfl, rfl, h1, h2⟩ := h
    have r1 := laid_rows h1
    have r2 := laidFs_rows h2
    exact ⟨fun e he => (List.mem_append.1 he).elim (r1.1 e) (r2.1 e), fun e he => (List.mem_append.1 he).elim (r1.2 e) (r2.2 e)⟩
end

/-- The sum of the lists' lengths. -/
theorem tot_cons (e : Ent) (r : List Ent) : tot (e :: r) = e.n + tot r := by simp [tot]
theorem tot_append (a b : List Ent) : tot (a ++ b) = tot a + tot b := by simp [tot]
mutual
theorem laid_tot {w : World} : ∀ {v : V} {g o : Nat} {eI eF : List Ent}, Laid w v g o eI eF → tot eI ≤ szV v ∧ tot eF ≤ szV v
  | .mk k b i f t ty its fs, g, o, eI, eF, h => by
    obtain ⟨p, c, q, d, i1, f1, i2, f2, hc, rfl, rfl, e1, e2, h3, h4⟩ := h
    have r1 : tot i1 ≤ szV.szVs its ∧ tot f1 ≤ szV.szVs its := by
      rcases h3 with ⟨_, rfl, rfl⟩ | ⟨gi, _, h3⟩
      · exact ⟨by simp [tot], by simp [tot]⟩
      · exact laidIs_tot h3
    have r2 : tot i2 ≤ szV.szFs fs ∧ tot f2 ≤ szV.szFs fs := by
      rcases h4 with ⟨_, rfl, rfl⟩ | ⟨gi, _, h4⟩
      · exact ⟨by simp [tot], by simp [tot]⟩
      · exact laidFs_tot h4
    simp only [tot_cons, tot_append, szV]
    omega
theorem laidIs_tot {w : World} : ∀ {l : List V} {g o : Nat} {eI eF : List Ent}, LaidIs w l g o eI eF → tot eI ≤ szV.szVs l ∧ tot eF ≤ szV.szVs l
  | [], _, _, _, _, h => by rw [h.1, h.2]; exact ⟨by simp [tot], by simp [tot]⟩
  | v :: r, g, o, eI, eF, h => by
    obtain ⟨i1, f1, i2, f2, rfl, rfl, h1, h2⟩ := h
    have r1 := laid_tot h1
    have r2 := laidIs_tot h2
    simp only [tot_append, szV.szVs]
    omega
theorem laidFs_tot {w : World} : ∀ {l : List (ByteArray × V)} {g o : Nat} {eI eF : List Ent}, LaidFs w l g o eI eF → tot eI ≤ szV.szFs l ∧ tot eF ≤ szV.szFs l
  | [], _, _, _, _, h => by rw [h.1, h.2]; exact ⟨by simp [tot], by simp [tot]⟩
  | x :: r, g, o, eI, eF, h => by
    obtain ⟨i1, f1, i2, f2, rfl, rfl, h1, h2⟩ := h
    have r1 := laid_tot h1
    have r2 := laidFs_tot h2
    simp only [tot_append, szV.szFs]
    omega
end

/-- Items and members that bear marks. -/
def mkIs (s : Int) : Nat → Nat → List V
  | _, 0 => []
  | j, m + 1 => .mk 2 false (s + j + 1) 0 ⟨#[]⟩ ⟨#[]⟩ [] [] :: mkIs s (j + 1) m
def mkFs (s : Int) : Nat → Nat → List (ByteArray × V)
  | _, 0 => []
  | j, m + 1 => (⟨#[]⟩, .mk 2 false (s + j + 1) 0 ⟨#[]⟩ ⟨#[]⟩ [] []) :: mkFs s (j + 1) m
theorem mkIs_len (s : Int) : ∀ j m, (mkIs s j m).length = m
  | _, 0 => rfl
  | j, m + 1 => by rw [mkIs, List.length_cons, mkIs_len s (j + 1) m]
theorem mkFs_len (s : Int) : ∀ j m, (mkFs s j m).length = m
  | _, 0 => rfl
  | j, m + 1 => by rw [mkFs, List.length_cons, mkFs_len s (j + 1) m]
theorem mkIs_sz (s : Int) : ∀ j m, szV.szVs (mkIs s j m) = m
  | _, 0 => rfl
  | j, m + 1 => by rw [mkIs, szV.szVs, mkIs_sz s (j + 1) m]; simp [szV, szV.szVs, szV.szFs]; omega
theorem mkFs_sz (s : Int) : ∀ j m, szV.szFs (mkFs s j m) = m
  | _, 0 => rfl
  | j, m + 1 => by rw [mkFs, szV.szFs, mkFs_sz s (j + 1) m]; simp [szV, szV.szVs, szV.szFs]; omega
def mkdV (sI sF : Int) : V → V
  | .mk k b i f t ty its fs => .mk k b i f t ty (mkIs sI 0 its.length) (mkFs sF 0 fs.length)
theorem szVs_len : ∀ l : List V, l.length ≤ szV.szVs l
  | [] => Nat.zero_le _
  | v :: r => by have := szVs_len r; have := szV_pos v; simp only [List.length_cons, szV.szVs]; omega
theorem szFs_len : ∀ l : List (ByteArray × V), l.length ≤ szV.szFs l
  | [] => Nat.zero_le _
  | x :: r => by have := szFs_len r; have := szV_pos x.2; simp only [List.length_cons, szV.szFs]; omega
theorem mkdV_sz (sI sF : Int) (v : V) : szV (mkdV sI sF v) ≤ szV v := by
  obtain ⟨k, b, i, f, t, ty, its, fs⟩ := v
  simp only [mkdV, szV, mkIs_len, mkFs_len, mkIs_sz, mkFs_sz]
  have := szVs_len its
  have := szFs_len fs
  omega
theorem ownMk (w : World) (n : Int) : OwnV w (.mk 2 false n 0 ⟨#[]⟩ ⟨#[]⟩ [] []) (markV n) [] := ⟨none, 0, none, 0, [], [], rfl, rfl, by simp [lenMax], by simp [lenMax], .inl ⟨rfl, rfl, rfl, rfl⟩, .inl ⟨rfl, rfl, rfl, rfl⟩⟩
theorem ownMkIs {w : World} {g : Nat} {s : Int} : ∀ (m j : Nat), (∀ i, i < j + m → w.rangeAt g (i * 8) (markV (s + i + 1)).toList) → OwnVs w (mkIs s j m) g (j * 8) []
  | 0, j, _ => rfl
  | m + 1, j, h => by
    refine ⟨[], [], _, rfl, fun q x hx => ?_, ownMk w (s + j + 1), ?_⟩
    · exact h j (by omega) q x (by rw [Array.getElem?_toList]; exact hx)
    · have := ownMkIs m (j + 1) (fun i hi => h i (by omega))
      rwa [show (j + 1) * 8 = j * 8 + 8 by omega] at this
theorem ownMkFs {w : World} {g : Nat} {s : Int} : ∀ (m j : Nat), (∀ i, i < j + m → w.rangeAt g (i * 9) (markM (s + i + 1)).toList) → OwnFs w (mkFs s j m) g (j * 9) []
  | 0, j, _ => rfl
  | m + 1, j, h => by
    refine ⟨[], [], markV (s + j + 1), rfl, ?_, fun q x hx => ?_, ownMk w (s + j + 1), ?_⟩
    · exact h j (by omega) 0 _ rfl
    · have := h j (by omega) (1 + q) x (by
        rw [Array.getElem?_toList, show 1 + q = q + 1 by omega]
        simpa [markM] using hx)
      rwa [show j * 9 + 1 + q = j * 9 + (1 + q) by omega]
    · have := ownMkFs m (j + 1) (fun i hi => h i (by omega))
      rwa [show (j + 1) * 9 = j * 9 + 9 by omega] at this
/-- A value whose lists bear marks. -/
theorem own_marked {W W' : World} {k : Int} {b : Bool} {i : Int} {f : Nat} {t ty : ByteArray} {its : List V} {fs : List (ByteArray × V)} {hb ho hb' ho' : Nat} {p q : Option Addr} {c d : Nat} {sI sF : Int} (l1 : its.length ≤ lenMax) (l2 : fs.length ≤ lenMax)
    (r1 : RowB W' 34 8 ⟨hb, ho, p, its.length, c⟩) (r2 : RowB W' 58 9 ⟨hb', ho', q, fs.length, d⟩)
    (m1 : MkRow W' 8 markV ⟨hb, ho, p, its.length, c⟩ sI its.length) (m2 : MkRow W' 9 markM ⟨hb', ho', q, fs.length, d⟩ sF fs.length) :
    OwnV W' (mkdV sI sF (.mk k b i f t ty its fs)) (vcells k b i f t ty p its.length c q fs.length d) ((p.map (·.block)).toList ++ (q.map (·.block)).toList) := by
  have e1 : vcells k b i f t ty p its.length c q fs.length d = vcells k b i f t ty p (mkIs sI 0 its.length).length c q (mkFs sF 0 fs.length).length d := by rw [mkIs_len, mkFs_len]
  rw [e1, mkdV]
  refine OwnV.intro (by rw [mkIs_len]; exact l1) (by rw [mkFs_len]; exact l2) ?_ ?_
  · rcases r1 with ⟨h1, h2, h3⟩ | ⟨g, cur, h1, h2, h3, h4, h5⟩
    · dsimp only at h1 h2 h3
      subst h2 h3
      rw [h1]
      exact .inl ⟨rfl, rfl, rfl, rfl⟩
    · dsimp only at h1 h3 h4 h5
      subst h1
      refine .inr ⟨g, [], cur, rfl, rfl, h2, h3, by rw [mkIs_len]; exact h4, h5, ?_⟩
      have := ownMkIs (w := W') (g := g) (s := sI) its.length 0 (fun i hi => m1 g rfl i (by omega))
      simpa using this
  · rcases r2 with ⟨h1, h2, h3⟩ | ⟨g, cur, h1, h2, h3, h4, h5⟩
    · dsimp only at h1 h2 h3
      subst h2 h3
      rw [h1]
      exact .inl ⟨rfl, rfl, rfl, rfl⟩
    · dsimp only at h1 h3 h4 h5
      subst h1
      refine .inr ⟨g, [], cur, rfl, rfl, h2, h3, by rw [mkFs_len]; exact h4, h5, ?_⟩
      have := ownMkFs (w := W') (g := g) (s := sF) fs.length 0 (fun i hi => m2 g rfl i (by omega))
      simpa using this

/-! What grows keeps its first elements. -/
theorem Keep.cells {lim : Nat → Option Nat} {w W : World} (h : Keep lim w W) {g m o : Nat} (hl : lim g = some m) {cs : List Value} (hc : w.rangeAt g o cs) (hm : o + cs.length ≤ m) : W.rangeAt g o cs := fun j v hj => by
  have hlt : j < cs.length := (List.getElem?_eq_some_iff.1 hj).1
  exact h.cell (hc j v hj) (fun m' e => by rw [hl] at e; cases e; omega)
theorem MkRow.keep {lim : Nat → Option Nat} {w W : World} (h : Keep lim w W) {z : Nat} {mk : Int → Array Value} {e : Ent} {s : Int} (hz : ∀ n, (mk n).size = z) (hm : MkRow w z mk e s e.n) (hl : ∀ g, e.p = some ⟨g, 0, none⟩ → lim g = some (e.n * z)) : MkRow W z mk e s e.n := fun g hp j hj =>
  h.cells (hl g hp) (hm g hp j hj) (by
    simp only [Array.length_toList, hz]
    rw [← Nat.succ_mul]
    exact Nat.mul_le_mul_right z hj)
theorem RowB.grown {lim : Nat → Option Nat} {w W : World} (h : Keep lim w W) {T z : Nat} {e : Ent} (hr : RowB w T z e) (hl : ∀ g, e.p = some ⟨g, 0, none⟩ → lim g = some (e.n * z)) : RowB W T z e := by
  rcases hr with hr | ⟨g, cur, hp, hh, r⟩
  · exact .inl hr
  · obtain ⟨cur', r1, r2, _⟩ := h.part g _ cur T _ (hl g hp) hh
    exact .inr ⟨g, cur', hp, r1, by rw [r2]; exact r.1, r.2⟩
theorem RowB.loose {lim : Nat → Option Nat} {W : World} {S0 T z : Nat} {e : Ent} (h : RowB W T z e) (hl : ∀ g, e.p = some ⟨g, 0, none⟩ → lim g = some (e.n * z)) : Loose lim S0 W T z e.sl e.n := by
  obtain ⟨hb, ho, p, n, c⟩ := e
  rcases h with ⟨h1, h2, h3⟩ | ⟨g, cur, q1, q2, q3, q4, q5⟩
  · dsimp only at h1 h2 h3
    subst h1 h2 h3
    exact ⟨⟨[], World.ownsRow_nil _ _ _ _⟩, fun g hg => by cases hg⟩
  · dsimp only at q1 q3 q4 q5
    subst q1
    refine ⟨⟨_, ?_, .inr ⟨g, c, cur, rfl, Nat.zero_le _, q2, q4, q5, q3, rfl⟩⟩, fun g' hg => ?_⟩
    · have : n * z ≤ c * z := Nat.mul_le_mul_right _ q4
      simp only [List.length_take, Array.length_toList, q3]
      exact Nat.min_eq_left this
    · cases hg
      exact .inr ⟨_, hl g rfl, Nat.le_refl _⟩
/-- The limits: of each list's block its elements' cells. -/
def limOf (eI eF : List Ent) (b : Nat) : Option Nat :=
  match eI.find? (fun e => e.p == some ⟨b, 0, none⟩) with
  | some e => some (e.n * 8)
  | none => (eF.find? (fun e => e.p == some ⟨b, 0, none⟩)).map (fun e => e.n * 9)
theorem find_row : ∀ {es : List Ent} {e : Ent} {g : Nat}, (blks es).Nodup → e ∈ es → e.p = some ⟨g, 0, none⟩ → es.find? (fun e => e.p == some ⟨g, 0, none⟩) = some e
  | x :: r, e, g, hn, he, hp => by
    rw [List.find?_cons]
    rcases List.mem_cons.1 he with rfl | he
    · simp [hp]
    · by_cases hx : x.p = some ⟨g, 0, none⟩
      · exfalso
        rw [blks_cons_some hx] at hn
        exact (List.nodup_cons.1 hn).1 (mem_blks he hp)
      · have : (x.p == some (⟨g, 0, none⟩ : Addr)) = false := by simpa using hx
        rw [this]
        exact find_row (blks_cons_nodup hn) he hp
theorem find_none {es : List Ent} {g : Nat} (h : g ∉ blks es) : es.find? (fun e => e.p == some ⟨g, 0, none⟩) = none := by
  rw [List.find?_eq_none]
  intro e he hp
  exact h (mem_blks he (a := ⟨g, 0, none⟩) (by simpa using hp))
theorem limI {eI eF : List Ent} (hn : (blks eI).Nodup) {e : Ent} (he : e ∈ eI) {g : Nat} (hp : e.p = some ⟨g, 0, none⟩) : limOf eI eF g = some (e.n * 8) := by
  unfold limOf
  rw [find_row hn he hp]
theorem limF {eI eF : List Ent} (hn : (blks eF).Nodup) {e : Ent} (he : e ∈ eF) {g : Nat} (hp : e.p = some ⟨g, 0, none⟩) (hx : g ∉ blks eI) : limOf eI eF g = some (e.n * 9) := by
  unfold limOf
  rw [find_none hx, find_row hn he hp]
  rfl
theorem limN {eI eF : List Ent} {g : Nat} (h1 : g ∉ blks eI) (h2 : g ∉ blks eF) : limOf eI eF g = none := by
  unfold limOf
  rw [find_none h1, find_none h2]
  rfl
end Go.Proofs.YtldjbgklmeigmaaGreatDoor

namespace Go.Proofs.YtldjbgklmeigmaaGreatDoor
open Go Go.RowKit

/-- A header within an element of a list of values. -/
def In8 (eI : List Ent) (b ho : Nat) : Prop := ∃ e' ∈ eI, e'.p = some ⟨b, 0, none⟩ ∧ ∃ i, i < e'.n ∧ (ho = i * 8 + 6 ∨ ho = i * 8 + 7)
/-- A header within an element of a list of members. -/
def In9 (eF : List Ent) (b ho : Nat) : Prop := ∃ e' ∈ eF, e'.p = some ⟨b, 0, none⟩ ∧ ∃ i, i < e'.n ∧ (ho = i * 9 + 7 ∨ ho = i * 9 + 8)
theorem In8.mono {a b : List Ent} {x y : Nat} (h : In8 a x y) (hs : ∀ e ∈ a, e ∈ b) : In8 b x y := by
  obtain ⟨e, h1, h2⟩ := h
  exact ⟨e, hs e h1, h2⟩
theorem In9.mono {a b : List Ent} {x y : Nat} (h : In9 a x y) (hs : ∀ e ∈ a, e ∈ b) : In9 b x y := by
  obtain ⟨e, h1, h2⟩ := h
  exact ⟨e, hs e h1, h2⟩
mutual
theorem laid_ents {w : World} : ∀ {v : V} {g o : Nat} {eI eF : List Ent}, Laid w v g o eI eF → (∀ e ∈ eI, EntAt w 34 8 e) ∧ ∀ e ∈ eF, EntAt w 58 9 e
  | .mk k b i f t ty its fs, g, o, eI, eF, h => by
    obtain ⟨p, c, q, d, i1, f1, i2, f2, _, rfl, rfl, h1, h2, h3, h4⟩ := h
    have a1 : (∀ e ∈ i1, EntAt w 34 8 e) ∧ ∀ e ∈ f1, EntAt w 58 9 e := by
      rcases h3 with ⟨_, rfl, rfl⟩ | ⟨_, _, h3⟩
      · simp
      · exact laidIs_ents h3
    have a2 : (∀ e ∈ i2, EntAt w 34 8 e) ∧ ∀ e ∈ f2, EntAt w 58 9 e := by
      rcases h4 with ⟨_, rfl, rfl⟩ | ⟨_, _, h4⟩
      · simp
      · exact laidFs_ents h4
    constructor
    · intro e he
      rcases List.mem_cons.1 he with rfl | he
      · exact h1
      · rcases List.mem_append.1 he with he | he
        · exact a1.1 e he
        · exact a2.1 e he
    · intro e he
      rcases List.mem_cons.1 he with rfl | he
      · exact h2
      · rcases List.mem_append.1 he with he | he
        · exact a1.2 e he
        · exact a2.2 e he
theorem laidIs_ents {w : World} : ∀ {l : List V} {g o : Nat} {eI eF : List Ent}, LaidIs w l g o eI eF → (∀ e ∈ eI, EntAt w 34 8 e) ∧ ∀ e ∈ eF, EntAt w 58 9 e
  | [], _, _, _, _, h => by rw [h.1, h.2]; simp
  | v :: r, g, o, eI, eF, h => by
    obtain ⟨i1, f1, i2, f2, rfl, rfl, h1, h2⟩ := h
    have a1 := laid_ents h1
    have a2 := laidIs_ents h2
    constructor
    · intro e he
      rcases List.mem_append.1 he with he | he
      · exact a1.1 e he
      · exact a2.1 e he
    · intro e he
      rcases List.mem_append.1 he with he | he
      · exact a1.2 e he
      · exact a2.2 e he
theorem laidFs_ents {w : World} : ∀ {l : List (ByteArray × V)} {g o : Nat} {eI eF : List Ent}, LaidFs w l g o eI eF → (∀ e ∈ eI, EntAt w 34 8 e) ∧ ∀ e ∈ eF, EntAt w 58 9 e
  | [], _, _, _, _, h => by rw [h.1, h.2]; simp
  | v :: r, g, o, eI, eF, h => by
    obtain ⟨i1, f1, i2, f2, rfl, rfl, h1, h2⟩ := h
    have a1 := laid_ents h1
    have a2 := laidFs_ents h2
    constructor
    · intro e he
      rcases List.mem_append.1 he with he | he
      · exact a1.1 e he
      · exact a2.1 e he
    · intro e he
      rcases List.mem_append.1 he with he | he
      · exact a1.2 e he
      · exact a2.2 e he
end
mutual
theorem laid_heads {w : World} : ∀ {v : V} {g o : Nat} {eI eF : List Ent}, Laid w v g o eI eF → ∀ e, e ∈ eI ∨ e ∈ eF → (e.hb = g ∧ (e.ho = o + 6 ∨ e.ho = o + 7)) ∨ In8 eI e.hb e.ho ∨ In9 eF e.hb e.ho
  | .mk k b i f t ty its fs, g, o, eI, eF, h => by
    obtain ⟨p, c, q, d, i1, f1, i2, f2, _, rfl, rfl, h1, h2, h3, h4⟩ := h
    have a1 : ∀ e, e ∈ i1 ∨ e ∈ f1 → (∃ gi, p = some ⟨gi, 0, none⟩ ∧ e.hb = gi ∧ ∃ i, i < its.length ∧ (e.ho = i * 8 + 6 ∨ e.ho = i * 8 + 7)) ∨ In8 i1 e.hb e.ho ∨ In9 f1 e.hb e.ho := by
      rcases h3 with ⟨_, rfl, rfl⟩ | ⟨gi, hp, h3⟩
      · simp
      · intro e he
        rcases laidIs_heads h3 e he with ⟨q1, i, q2, q3⟩ | q
        · exact .inl ⟨gi, hp, q1, i, q2, by omega⟩
        · exact .inr q
    have a2 : ∀ e, e ∈ i2 ∨ e ∈ f2 → (∃ gf, q = some ⟨gf, 0, none⟩ ∧ e.hb = gf ∧ ∃ i, i < fs.length ∧ (e.ho = i * 9 + 7 ∨ e.ho = i * 9 + 8)) ∨ In8 i2 e.hb e.ho ∨ In9 f2 e.hb e.ho := by
      rcases h4 with ⟨_, rfl, rfl⟩ | ⟨gf, hp, h4⟩
      · simp
      · intro e he
        rcases laidFs_heads h4 e he with ⟨q1, i, q2, q3⟩ | q
        · exact .inl ⟨gf, hp, q1, i, q2, by omega⟩
        · exact .inr q
    clear h1 h2 h3 h4
    intro e he
    have hh : (e = ⟨g, o + 6, p, its.length, c⟩ ∨ e = ⟨g, o + 7, q, fs.length, d⟩) ∨ (e ∈ i1 ∨ e ∈ f1) ∨ (e ∈ i2 ∨ e ∈ f2) := by
      simp only [List.mem_cons, List.mem_append] at he
      rcases he with (h | h | h) | (h | h | h)
      · exact .inl (.inl h)
      · exact .inr (.inl (.inl h))
      · exact .inr (.inr (.inl h))
      · exact .inl (.inr h)
      · exact .inr (.inl (.inr h))
      · exact .inr (.inr (.inr h))
    rcases hh with (rfl | rfl) | hh | hh
    · exact .inl ⟨rfl, .inl rfl⟩
    · exact .inl ⟨rfl, .inr rfl⟩
    · rcases a1 e hh with ⟨gi, q1, q2, i, q3, q4⟩ | q | q
      · exact .inr (.inl ⟨_, List.mem_cons_self, by rw [q2]; exact q1, i, q3, q4⟩)
      · exact .inr (.inl (q.mono (fun x hx => by simp [hx])))
      · exact .inr (.inr (q.mono (fun x hx => by simp [hx])))
    · rcases a2 e hh with ⟨gi, q1, q2, i, q3, q4⟩ | q | q
      · exact .inr (.inr ⟨_, List.mem_cons_self, by rw [q2]; exact q1, i, q3, q4⟩)
      · exact .inr (.inl (q.mono (fun x hx => by simp [hx])))
      · exact .inr (.inr (q.mono (fun x hx => by simp [hx])))
theorem laidIs_heads {w : World} : ∀ {l : List V} {g o : Nat} {eI eF : List Ent}, LaidIs w l g o eI eF → ∀ e, e ∈ eI ∨ e ∈ eF → (e.hb = g ∧ ∃ i, i < l.length ∧ (e.ho = o + i * 8 + 6 ∨ e.ho = o + i * 8 + 7)) ∨ In8 eI e.hb e.ho ∨ In9 eF e.hb e.ho
  | [], _, _, _, _, h => by rw [h.1, h.2]; simp
  | v :: r, g, o, eI, eF, h => by
    obtain ⟨i1, f1, i2, f2, rfl, rfl, h1, h2⟩ := h
    have a1 := laid_heads h1
    have a2 := laidIs_heads h2
    clear h1 h2
    intro e he
    have hh : (e ∈ i1 ∨ e ∈ f1) ∨ (e ∈ i2 ∨ e ∈ f2) := by
      simp only [List.mem_append] at he
      rcases he with (h | h) | (h | h)
      · exact .inl (.inl h)
      · exact .inr (.inl h)
      · exact .inl (.inr h)
      · exact .inr (.inr h)
    rcases hh with hh | hh
    · rcases a1 e hh with ⟨q1, q2⟩ | q | q
      · exact .inl ⟨q1, 0, by simp, by omega⟩
      · exact .inr (.inl (q.mono (fun x hx => by simp [hx])))
      · exact .inr (.inr (q.mono (fun x hx => by simp [hx])))
    · rcases a2 e hh with ⟨q1, i, q2, q3⟩ | q | q
      · exact .inl ⟨q1, i + 1, by simp; omega, by omega⟩
      · exact .inr (.inl (q.mono (fun x hx => by simp [hx])))
      · exact .inr (.inr (q.mono (fun x hx => by simp [hx])))
theorem laidFs_heads {w : World} : ∀ {l : List (ByteArray × V)} {g o : Nat} {eI eF : List Ent}, LaidFs w l g o eI eF → ∀ e, e ∈ eI ∨ e ∈ eF → (e.hb = g ∧ ∃ i, i < l.length ∧ (e.ho = o + i * 9 + 7 ∨ e.ho = o + i * 9 + 8)) ∨ In8 eI e.hb e.ho ∨ In9 eF e.hb e.ho
  | [], _, _, _, _, h => by rw [h.1, h.2]; simp
  | v :: r, g, o, eI, eF, h => by
    obtain ⟨i1, f1, i2, f2, rfl, rfl, h1, h2⟩ := h
    have a1 := laid_heads h1
    have a2 := laidFs_heads h2
    clear h1 h2
    intro e he
    have hh : (e ∈ i1 ∨ e ∈ f1) ∨ (e ∈ i2 ∨ e ∈ f2) := by
      simp only [List.mem_append] at he
      rcases he with (h | h) | (h | h)
      · exact .inl (.inl h)
      · exact .inr (.inl h)
      · exact .inl (.inr h)
      · exact .inr (.inr h)
    rcases hh with hh | hh
    · rcases a1 e hh with ⟨q1, q2⟩ | q | q
      · exact .inl ⟨q1, 0, by simp, by omega⟩
      · exact .inr (.inl (q.mono (fun x hx => by simp [hx])))
      · exact .inr (.inr (q.mono (fun x hx => by simp [hx])))
    · rcases a2 e hh with ⟨q1, i, q2, q3⟩ | q | q
      · exact .inl ⟨q1, i + 1, by simp; omega, by omega⟩
      · exact .inr (.inl (q.mono (fun x hx => by simp [hx])))
      · exact .inr (.inr (q.mono (fun x hx => by simp [hx])))
end

/-- The lists gathered of some values, whose boxes are bx. -/
structure Pile (w : World) (bx : List Nat) (eI eF : List Ent) : Prop where
  aI : ∀ e ∈ eI, EntAt w 34 8 e
  aF : ∀ e ∈ eF, EntAt w 58 9 e
  nd : (blks eI ++ blks eF).Nodup
  hd : ∀ e, e ∈ eI ∨ e ∈ eF → e.hb ∈ bx ∨ In8 eI e.hb e.ho ∨ In9 eF e.hb e.ho
theorem Pile.nil (w : World) : Pile w [] [] [] := ⟨by simp, by simp, by simp [blks], by simp⟩
theorem Pile.add {w : World} {bx : List Nat} {eI eF i1 f1 : List Ent} {v : V} {g : Nat} (h : Pile w bx eI eF) (hl : Laid w v g 0 i1 f1) (hn : (blks i1 ++ blks f1).Nodup) (hd : ∀ b, b ∈ blks eI ++ blks eF → b ∉ blks i1 ++ blks f1) : Pile w (bx ++ [g]) (eI ++ i1) (eF ++ f1) := by
  have hE := laid_ents hl
  have hH := laid_heads hl
  refine ⟨fun e he => ?_, fun e he => ?_, ?_, fun e he => ?_⟩
  · rcases List.mem_append.1 he with he | he
    · exact h.aI e he
    · exact hE.1 e he
  · rcases List.mem_append.1 he with he | he
    · exact h.aF e he
    · exact hE.2 e he
  · rw [blks_append, blks_append]
    refine (perm_blocks (List.Perm.refl _) (List.Perm.refl _)).nodup_iff.2 ?_
    rw [List.nodup_append]
    exact ⟨h.nd, hn, fun a ha b hb e => hd a ha (by rw [e]; exact hb)⟩
  · have hh : (e ∈ eI ∨ e ∈ eF) ∨ (e ∈ i1 ∨ e ∈ f1) := by
      simp only [List.mem_append] at he
      rcases he with (h | h) | (h | h)
      · exact .inl (.inl h)
      · exact .inr (.inl h)
      · exact .inl (.inr h)
      · exact .inr (.inr h)
    rcases hh with hh | hh
    · rcases h.hd e hh with q | q | q
      · exact .inl (by simp [q])
      · exact .inr (.inl (q.mono (fun x hx => by simp [hx])))
      · exact .inr (.inr (q.mono (fun x hx => by simp [hx])))
    · rcases hH e hh with ⟨q, _⟩ | q | q
      · exact .inl (by simp [q])
      · exact .inr (.inl (q.mono (fun x hx => by simp [hx])))
      · exact .inr (.inr (q.mono (fun x hx => by simp [hx])))
theorem Pile.below {B : Nat} {w w' : World} {bx : List Nat} {eI eF : List Ent} (h : Pile w bx eI eF) (hb : Below B w w') (hx : ∀ b ∈ bx, b < B) (hs : ∀ b, b ∈ blks eI ++ blks eF → b < B) : Pile w' bx eI eF := by
  have hh : ∀ e, e ∈ eI ∨ e ∈ eF → e.hb < B := fun e he => by
    rcases h.hd e he with q | ⟨e', q1, q2, _⟩ | ⟨e', q1, q2, _⟩
    · exact hx _ q
    · exact hs _ (List.mem_append.2 (.inl (List.mem_filterMap.2 ⟨e', q1, by rw [q2]; rfl⟩)))
    · exact hs _ (List.mem_append.2 (.inr (List.mem_filterMap.2 ⟨e', q1, by rw [q2]; rfl⟩)))
  refine ⟨fun e he => (h.aI e he).below hb (hh e (.inl he)) (fun b hb' => hs b (List.mem_append.2 (.inl (List.mem_filterMap.2 ⟨e, he, hb'⟩)))), fun e he => (h.aF e he).below hb (hh e (.inr he)) (fun b hb' => hs b (List.mem_append.2 (.inr (List.mem_filterMap.2 ⟨e, he, hb'⟩)))), h.nd, h.hd⟩
end Go.Proofs.YtldjbgklmeigmaaGreatDoor

namespace Go.Proofs.YtldjbgklmeigmaaGreatDoor
open Go Go.RowKit

/-- A header within a kind's lists: in no mark's cell, and within an element. -/
def Clr (es : List Ent) (z mo : Nat) (e : Ent) : Prop := ∀ e' ∈ es, e'.p = some ⟨e.hb, 0, none⟩ → (∀ i, e.ho ≠ i * z + mo) ∧ e.ho < e'.n * z
theorem Clr.safe {w : World} {T : Nat} {es : List Ent} {z mo : Nat} {e : Ent} (h : Clr es z mo e) (ha : ∀ e ∈ es, EntAt w T z e) : Safe es z mo e := by
  by_cases hb : e.hb ∈ blks es
  · obtain ⟨e', h1, h2⟩ := List.mem_filterMap.1 hb
    rcases (ha e' h1).2 with ⟨_, h3, _⟩ | ⟨g, _, h3, _⟩
    · rw [h3] at h2; cases h2
    · rw [h3] at h2
      cases h2
      exact .inr (h e' h1 h3).1
  · exact .inl hb
structure Four (w : World) (e0 e1 e2 e3 : List Ent) : Prop where
  a0 : ∀ e ∈ e0, EntAt w 34 8 e
  a1 : ∀ e ∈ e1, EntAt w 58 9 e
  a2 : ∀ e ∈ e2, EntAt w 161 3 e
  a3 : ∀ e ∈ e3, EntAt w 69 2 e
  nd : (blks e0 ++ blks e1 ++ blks e2 ++ blks e3).Nodup
  hd : ∀ e ∈ e0 ++ e1 ++ e2 ++ e3, Clr e0 8 4 e ∧ Clr e1 9 0 e ∧ Clr e2 3 0 e ∧ Clr e3 2 0 e
/-- A row of pointers, of which only reads are made. -/
def RowOf (bad : Nat → Prop) (w : World) (s : Value) (xs : List Value) : Prop :=
  ∃ p c, s = .slice p xs.length c ∧ ∀ j x, xs[j]? = some x → ∃ g, p = some ⟨g, 0, none⟩ ∧ ¬ bad g ∧ g < w.heap.size ∧ w.cell? ⟨g, j, none⟩ = some x
theorem RowOf.moved {bad : Nat → Prop} {w W : World} {s : Value} {xs : List Value} (h : RowOf bad w s xs) (hm : ∀ b, b < w.heap.size → ¬ bad b → W.heap[b]? = w.heap[b]?) (hs : w.heap.size ≤ W.heap.size) : RowOf bad W s xs := by
  obtain ⟨p, c, h1, h2⟩ := h
  refine ⟨p, c, h1, fun j x hx => ?_⟩
  obtain ⟨g, q1, q2, q3, q4⟩ := h2 j x hx
  exact ⟨g, q1, q2, Nat.lt_of_lt_of_le q3 hs, (World.cell?_of_block (a := ⟨g, j, none⟩) (hm g q3 q2)).trans q4⟩
theorem EntAt.hb_lt {w : World} {T z : Nat} {e : Ent} (h : EntAt w T z e) : e.hb < w.heap.size := World.block_lt_of_cell? w _ h.1
theorem EntAt.p_lt {w : World} {T z : Nat} {e : Ent} (h : EntAt w T z e) (b : Nat) (hb : e.p.map (·.block) = some b) : b < w.heap.size := by
  rcases h.2 with ⟨_, h3, _⟩ | ⟨g, _, h3, h4, _⟩
  · rw [h3] at hb; cases hb
  · rw [h3] at hb
    cases hb
    exact (Array.getElem?_eq_some_iff.1 h4).1
theorem blks_lt {w : World} {T z : Nat} {es : List Ent} (h : ∀ e ∈ es, EntAt w T z e) : ∀ b ∈ blks es, b < w.heap.size := fun b hb => by
  obtain ⟨e, h1, h2⟩ := List.mem_filterMap.1 hb
  exact (h e h1).p_lt b h2
theorem Four.below {w W : World} {e0 e1 e2 e3 : List Ent} (h : Four w e0 e1 e2 e3) (hb : Below w.heap.size w W) : Four W e0 e1 e2 e3 :=
  ⟨fun e he => (h.a0 e he).below hb (h.a0 e he).hb_lt (h.a0 e he).p_lt, fun e he => (h.a1 e he).below hb (h.a1 e he).hb_lt (h.a1 e he).p_lt, fun e he => (h.a2 e he).below hb (h.a2 e he).hb_lt (h.a2 e he).p_lt, fun e he => (h.a3 e he).below hb (h.a3 e he).hb_lt (h.a3 e he).p_lt, h.nd, h.hd⟩
/-- Another kind's lists stand while one kind's marks are written. -/
theorem EntAt.wrote {w0 W : World} {es : List Ent} {T z mo K I T' z' : Nat} {mk : Nat → Nat → Value} {e : Ent} (h : Wrote w0 W es T z mo mk K I) (ha : EntAt w0 T' z' e) (hc : Clr es z mo e) (hs : ∀ e ∈ es, EntAt w0 T z e) (hn : ∀ b, e.p.map (·.block) = some b → b ∉ blks es) : EntAt W T' z' e := by
  refine ⟨?_, ?_⟩
  · rcases hc.safe hs with q | q
    · exact (World.cell?_of_block (a := ⟨e.hb, e.ho, none⟩) (h.moved.block e.hb ha.hb_lt q)).trans ha.1
    · exact (h.rest e.hb e.ho ha.hb_lt q).trans ha.1
  · rcases ha.2 with h0 | ⟨g, cur, q1, q2, q3⟩
    · exact .inl h0
    · exact .inr ⟨g, cur, q1, (h.moved.block g (Array.getElem?_eq_some_iff.1 q2).1 (hn g (by rw [q1]; rfl))).trans q2, q3⟩
theorem blk_mem {es : List Ent} {e : Ent} {b : Nat} (he : e ∈ es) (hb : e.p.map (·.block) = some b) : b ∈ blks es := List.mem_filterMap.2 ⟨e, he, hb⟩
theorem Four.w0 {w W : World} {e0 e1 e2 e3 : List Ent} {mk : Nat → Nat → Value} {K I : Nat} (h : Four w e0 e1 e2 e3) (hw : Wrote w W e0 34 8 4 mk K I) : Four W e0 e1 e2 e3 := by
  have nd := h.nd
  simp only [List.nodup_append, List.mem_append] at nd
  refine ⟨hw.rows, fun e he => (h.a1 e he).wrote hw (h.hd e (by simp [he])).1 h.a0 (fun b hb hc => ?_), fun e he => (h.a2 e he).wrote hw (h.hd e (by simp [he])).1 h.a0 (fun b hb hc => ?_), fun e he => (h.a3 e he).wrote hw (h.hd e (by simp [he])).1 h.a0 (fun b hb hc => ?_), h.nd, h.hd⟩
  · exact nd.1.1.2.2 b hc b (blk_mem he hb) rfl
  · exact nd.1.2.2 b (.inl hc) b (blk_mem he hb) rfl
  · exact nd.2.2 b (.inl (.inl hc)) b (blk_mem he hb) rfl
theorem Four.w1 {w W : World} {e0 e1 e2 e3 : List Ent} {mk : Nat → Nat → Value} {K I : Nat} (h : Four w e0 e1 e2 e3) (hw : Wrote w W e1 58 9 0 mk K I) : Four W e0 e1 e2 e3 := by
  have nd := h.nd
  simp only [List.nodup_append, List.mem_append] at nd
  refine ⟨fun e he => (h.a0 e he).wrote hw (h.hd e (by simp [he])).2.1 h.a1 (fun b hb hc => ?_), hw.rows, fun e he => (h.a2 e he).wrote hw (h.hd e (by simp [he])).2.1 h.a1 (fun b hb hc => ?_), fun e he => (h.a3 e he).wrote hw (h.hd e (by simp [he])).2.1 h.a1 (fun b hb hc => ?_), h.nd, h.hd⟩
  · exact nd.1.1.2.2 b (blk_mem he hb) b hc rfl
  · exact nd.1.2.2 b (.inr hc) b (blk_mem he hb) rfl
  · exact nd.2.2 b (.inl (.inr hc)) b (blk_mem he hb) rfl
theorem Four.w2 {w W : World} {e0 e1 e2 e3 : List Ent} {mk : Nat → Nat → Value} {K I : Nat} (h : Four w e0 e1 e2 e3) (hw : Wrote w W e2 161 3 0 mk K I) : Four W e0 e1 e2 e3 := by
  have nd := h.nd
  simp only [List.nodup_append, List.mem_append] at nd
  refine ⟨fun e he => (h.a0 e he).wrote hw (h.hd e (by simp [he])).2.2.1 h.a2 (fun b hb hc => ?_), fun e he => (h.a1 e he).wrote hw (h.hd e (by simp [he])).2.2.1 h.a2 (fun b hb hc => ?_), hw.rows, fun e he => (h.a3 e he).wrote hw (h.hd e (by simp [he])).2.2.1 h.a2 (fun b hb hc => ?_), h.nd, h.hd⟩
  · exact nd.1.2.2 b (.inl (blk_mem he hb)) b hc rfl
  · exact nd.1.2.2 b (.inr (blk_mem he hb)) b hc rfl
  · exact nd.2.2 b (.inr hc) b (blk_mem he hb) rfl
theorem Four.w3 {w W : World} {e0 e1 e2 e3 : List Ent} {mk : Nat → Nat → Value} {K I : Nat} (h : Four w e0 e1 e2 e3) (hw : Wrote w W e3 69 2 0 mk K I) : Four W e0 e1 e2 e3 := by
  have nd := h.nd
  simp only [List.nodup_append, List.mem_append] at nd
  refine ⟨fun e he => (h.a0 e he).wrote hw (h.hd e (by simp [he])).2.2.2 h.a3 (fun b hb hc => ?_), fun e he => (h.a1 e he).wrote hw (h.hd e (by simp [he])).2.2.2 h.a3 (fun b hb hc => ?_), fun e he => (h.a2 e he).wrote hw (h.hd e (by simp [he])).2.2.2 h.a3 (fun b hb hc => ?_), hw.rows, h.nd, h.hd⟩
  · exact nd.2.2 b (.inl (.inl (blk_mem he hb))) b hc rfl
  · exact nd.2.2 b (.inl (.inr (blk_mem he hb))) b hc rfl
  · exact nd.2.2 b (.inr (blk_mem he hb)) b hc rfl
/-- A kind's marks stand. -/
def Marks (w : World) (es : List Ent) (z mo : Nat) (mk : Nat → Nat → Value) : Prop := ∀ k i e g, es[k]? = some e → e.p = some ⟨g, 0, none⟩ → i < e.n → w.cell? ⟨g, i * z + mo, none⟩ = some (mk k i)
theorem Wrote.marks {w0 W : World} {es : List Ent} {T z mo I : Nat} {mk : Nat → Nat → Value} (h : Wrote w0 W es T z mo mk es.length I) : Marks W es z mo mk := fun k i e g he hp hi => h.done k i e g he hp hi (.inl (List.getElem?_eq_some_iff.1 he).1)
theorem Marks.moved {w W : World} {es : List Ent} {z mo : Nat} {mk : Nat → Nat → Value} (h : Marks w es z mo mk) (hm : ∀ b ∈ blks es, W.heap[b]? = w.heap[b]?) : Marks W es z mo mk := fun k i e g he hp hi =>
  (World.cell?_of_block (a := ⟨g, i * z + mo, none⟩) (hm g (blk_mem (List.mem_of_getElem? he) (by rw [hp]; rfl)))).trans (h k i e g he hp hi)
theorem Marks.wrote {w W : World} {es es' : List Ent} {T T' z mo z' mo' K I : Nat} {mk mk' : Nat → Nat → Value} (h : Marks w es z mo mk) (ha : ∀ e ∈ es, EntAt w T z e) (hw : Wrote w W es' T' z' mo' mk' K I) (hd : ∀ b ∈ blks es, b ∉ blks es') : Marks W es z mo mk :=
  h.moved (fun b hb => hw.moved.block b (blks_lt ha b hb) (hd b hb))
theorem Marks.keep {w W : World} {es : List Ent} {z mo : Nat} {mk : Nat → Nat → Value} {lim : Nat → Option Nat} (h : Marks w es z mo mk) (hk : Keep lim w W) (hl : ∀ e ∈ es, Lim lim z e) (hz : mo < z) : Marks W es z mo mk := fun k i e g he hp hi =>
  hk.cell (h k i e g he hp hi) (fun m hm => by
    have := (hl e (List.mem_of_getElem? he)).2 g hp
    rw [this] at hm
    cases hm
    have := Nat.mul_le_mul_right z (show i + 1 ≤ e.n by omega)
    rw [Nat.add_mul] at this
    omega)
/-- The limits of four kinds of lists. -/
def limE (z : Nat) (es : List Ent) (b : Nat) : Option Nat := (es.find? (fun e => e.p.map (·.block) == some b)).map (fun e => e.n * z)
def lim4 (e0 e1 e2 e3 : List Ent) (b : Nat) : Option Nat := ((limE 8 e0 b).or (limE 9 e1 b)).or ((limE 3 e2 b).or (limE 2 e3 b))
theorem limE_none {z : Nat} {es : List Ent} {b : Nat} (h : b ∉ blks es) : limE z es b = none := by
  unfold limE
  rw [Option.map_eq_none_iff, List.find?_eq_none]
  intro e he hc
  exact h (blk_mem he (by simpa using hc))
theorem limE_some {z : Nat} {es : List Ent} {b : Nat} {e : Ent} (hn : (blks es).Nodup) (he : e ∈ es) (hp : e.p.map (·.block) = some b) : limE z es b = some (e.n * z) := by
  induction es with
  | nil => cases he
  | cons a r ih =>
    have hc : blks (a :: r) = (a.p.map (·.block)).toList ++ blks r := by cases ha : a.p <;> simp [blks, ha]
    rw [hc, List.nodup_append] at hn
    unfold limE
    rw [List.find?_cons]
    rcases List.mem_cons.1 he with rfl | he
    · simp [hp]
    · have hb := blk_mem he hp
      have hne : (a.p.map (·.block) == some b) = false := by
        cases hx : a.p.map (·.block) with
        | none => rfl
        | some y =>
          have := hn.2.2 y (by simp [hx]) b hb
          simpa using this
      rw [hne]
      exact ih hn.2.1 he
theorem limE_inv {w : World} {T z : Nat} {es : List Ent} {b m : Nat} (ha : ∀ e ∈ es, EntAt w T z e) (h : limE z es b = some m) : ∃ e ∈ es, e.p = some ⟨b, 0, none⟩ ∧ m = e.n * z := by
  unfold limE at h
  obtain ⟨e, h1, h2⟩ := Option.map_eq_some_iff.1 h
  have hm := List.mem_of_find?_eq_some h1
  have hp := List.find?_some h1
  have hp' : e.p.map (·.block) = some b := by simpa using hp
  rcases (ha e hm).2 with ⟨_, h3, _⟩ | ⟨g, _, h3, _⟩
  · rw [h3] at hp'; cases hp'
  · rw [h3] at hp'
    cases hp'
    exact ⟨e, hm, h3, h2.symm⟩
theorem Four.head {w : World} {e0 e1 e2 e3 : List Ent} (h : Four w e0 e1 e2 e3) {e : Ent} (he : e ∈ e0 ++ e1 ++ e2 ++ e3) : ∀ m, lim4 e0 e1 e2 e3 e.hb = some m → e.ho < m := by
  intro m hm
  obtain ⟨c0, c1, c2, c3⟩ := h.hd e he
  unfold lim4 at hm
  cases q0 : limE 8 e0 e.hb with
  | some x =>
    obtain ⟨e', r1, r2, r3⟩ := limE_inv h.a0 q0
    rw [q0] at hm
    cases hm
    rw [r3]
    exact (c0 e' r1 r2).2
  | none =>
    cases q1 : limE 9 e1 e.hb with
    | some x =>
      obtain ⟨e', r1, r2, r3⟩ := limE_inv h.a1 q1
      rw [q0, q1] at hm
      cases hm
      rw [r3]
      exact (c1 e' r1 r2).2
    | none =>
      cases q2 : limE 3 e2 e.hb with
      | some x =>
        obtain ⟨e', r1, r2, r3⟩ := limE_inv h.a2 q2
        rw [q0, q1, q2] at hm
        cases hm
        rw [r3]
        exact (c2 e' r1 r2).2
      | none =>
        rw [q0, q1, q2] at hm
        obtain ⟨e', r1, r2, r3⟩ := limE_inv h.a3 (show limE 2 e3 e.hb = some m from hm)
        rw [r3]
        exact (c3 e' r1 r2).2
theorem Four.lim {w : World} {e0 e1 e2 e3 : List Ent} (h : Four w e0 e1 e2 e3) :
    (∀ e ∈ e0, Lim (lim4 e0 e1 e2 e3) 8 e) ∧ (∀ e ∈ e1, Lim (lim4 e0 e1 e2 e3) 9 e) ∧ (∀ e ∈ e2, Lim (lim4 e0 e1 e2 e3) 3 e) ∧ ∀ e ∈ e3, Lim (lim4 e0 e1 e2 e3) 2 e := by
  have nd := h.nd
  simp only [List.nodup_append, List.mem_append] at nd
  refine ⟨fun e he => ⟨h.head (by simp [he]), fun g hp => ?_⟩, fun e he => ⟨h.head (by simp [he]), fun g hp => ?_⟩, fun e he => ⟨h.head (by simp [he]), fun g hp => ?_⟩, fun e he => ⟨h.head (by simp [he]), fun g hp => ?_⟩⟩
  all_goals
    have hp' : e.p.map (·.block) = some g := by rw [hp]; rfl
    have hb := blk_mem he hp'
    unfold lim4
  · rw [limE_some nd.1.1.1 he hp']; rfl
  · rw [limE_none (es := e0) (fun hc => nd.1.1.2.2 g hc g hb rfl), limE_some nd.1.1.2.1 he hp']; rfl
  · rw [limE_none (es := e0) (fun hc => nd.1.2.2 g (.inl hc) g hb rfl), limE_none (es := e1) (fun hc => nd.1.2.2 g (.inr hc) g hb rfl), limE_some nd.1.2.1 he hp']; rfl
  · rw [limE_none (es := e0) (fun hc => nd.2.2 g (.inl (.inl hc)) g hb rfl), limE_none (es := e1) (fun hc => nd.2.2 g (.inl (.inr hc)) g hb rfl), limE_none (es := e2) (fun hc => nd.2.2 g (.inr hc) g hb rfl), limE_some nd.2.1 he hp']; rfl
theorem Four.keep {w W : World} {e0 e1 e2 e3 : List Ent} (h : Four w e0 e1 e2 e3) (hk : Keep (lim4 e0 e1 e2 e3) w W) : Four W e0 e1 e2 e3 := by
  obtain ⟨l0, l1, l2, l3⟩ := h.lim
  exact ⟨fun e he => (h.a0 e he).keep hk (l0 e he), fun e he => (h.a1 e he).keep hk (l1 e he), fun e he => (h.a2 e he).keep hk (l2 e he), fun e he => (h.a3 e he).keep hk (l3 e he), h.nd, h.hd⟩
end Go.Proofs.YtldjbgklmeigmaaGreatDoor

namespace Go.Proofs.YtldjbgklmeigmaaGreatDoor
open Go Go.RowKit

structure Pen where
  g : Nat
  v : V
  cs : Array Value
  bs : List Nat
def pensBlocks (L : List Pen) : List Nat := L.flatMap (fun x => x.g :: x.bs)
structure PenAt (W : World) (x : Pen) : Prop where
  blk : W.heap[x.g]? = some (.cells x.cs 34 (0, 0))
  own : OwnV W x.v x.cs x.bs
structure Pens (B : Nat) (W : World) (L : List Pen) : Prop where
  at' : ∀ x ∈ L, PenAt W x
  rng : ∀ b ∈ pensBlocks L, B ≤ b ∧ b < W.heap.size
  nd : (pensBlocks L).Nodup
theorem pens_mem {L : List Pen} {x : Pen} (hx : x ∈ L) : x.g ∈ pensBlocks L ∧ ∀ b ∈ x.bs, b ∈ pensBlocks L :=
  ⟨List.mem_flatMap.2 ⟨x, hx, by simp⟩, fun b hb => List.mem_flatMap.2 ⟨x, hx, by simp [hb]⟩⟩
theorem Pens.nil (B : Nat) (W : World) : Pens B W [] := ⟨by simp, by simp [pensBlocks], by simp [pensBlocks]⟩
theorem Pens.on {B : Nat} {W W' : World} {L : List Pen} (h : Pens B W L) (hb : Below W.heap.size W W') : Pens B W' L :=
  ⟨fun x hx => ⟨(hb.block _ (h.rng _ (pens_mem hx).1).2).trans (h.at' x hx).blk, (h.at' x hx).own.kept (Kept.below hb (fun b hb' => (h.rng b ((pens_mem hx).2 b hb')).2))⟩,
    fun b hb' => ⟨(h.rng b hb').1, Nat.lt_of_lt_of_le (h.rng b hb').2 hb.size⟩, h.nd⟩
theorem pensBlocks_sub {L L' : List Pen} (hs : L'.Sublist L) : (pensBlocks L').Sublist (pensBlocks L) := by
  have e : ∀ (a : Pen) (l : List Pen), pensBlocks (a :: l) = (a.g :: a.bs) ++ pensBlocks l := fun a l => List.flatMap_cons
  induction hs with
  | slnil => exact List.Sublist.slnil
  | cons a hs ih =>
    rw [e]
    exact ih.trans (List.sublist_append_right _ _)
  | cons_cons a hs ih =>
    rw [e, e]
    exact List.Sublist.append_left ih _
/-- Some of the boxes. -/
theorem Pens.sub {B : Nat} {W : World} {L L' : List Pen} (h : Pens B W L) (hs : L'.Sublist L) : Pens B W L' :=
  ⟨fun x hx => h.at' x (hs.subset hx), fun b hb' => h.rng b ((pensBlocks_sub hs).subset hb'), (pensBlocks_sub hs).nodup h.nd⟩
/-- One box more, filled just now. -/
theorem Pens.snoc {B : Nat} {W W' : World} {L : List Pen} (h : Pens B W L) (hB : B ≤ W.heap.size) {v : V} {cs : Array Value} {bs : List Nat} {G : Nat} (hG : G = W'.heap.size) (ho : OwnV W' v cs bs) (hn : bs.Nodup) (hr : ∀ b ∈ bs, W.heap.size ≤ b ∧ b < W'.heap.size) (hb : Below W.heap.size W W') :
    Pens B ((W'.alloc (.cells cells0 34)).setRow G cs) (L ++ [⟨G, v, cs, bs⟩]) ∧ Below W.heap.size W ((W'.alloc (.cells cells0 34)).setRow G cs) := by
  subst hG
  have hb2 : Below W'.heap.size W' ((W'.alloc (.cells cells0 34)).setRow W'.heap.size cs) := below_setRow ((Below.refl _ _).alloc (Nat.le_refl _) _) (Nat.le_refl _) _
  have hbw := hb.trans (hb2.mono hb.size)
  have hsz : ((W'.alloc (.cells cells0 34)).setRow W'.heap.size cs).heap.size = W'.heap.size + 1 := by rw [setRow_size]; simp
  have hL := h.on hbw
  have e : pensBlocks (L ++ [⟨W'.heap.size, v, cs, bs⟩]) = pensBlocks L ++ (W'.heap.size :: bs) := by simp [pensBlocks]
  refine ⟨⟨fun x hx => ?_, fun b hb' => ?_, ?_⟩, hbw⟩
  · rcases List.mem_append.1 hx with hx | hx
    · exact hL.at' x hx
    · rw [List.mem_singleton] at hx
      subst hx
      exact ⟨setRow_heap _ _ _ _ _ _ (heap_new W' (.cells cells0 34)), ho.kept (Kept.below hb2 (fun b hb' => (hr b hb').2))⟩
  · rw [e] at hb'
    rcases List.mem_append.1 hb' with hb' | hb'
    · exact hL.rng b hb'
    · rw [hsz]
      rcases List.mem_cons.1 hb' with rfl | hb'
      · exact ⟨Nat.le_trans hB hb.size, by omega⟩
      · have := hr b hb'; omega
  · rw [e, List.nodup_append]
    refine ⟨h.nd, List.nodup_cons.2 ⟨fun hc => by have := (hr _ hc).2; omega, hn⟩, fun a ha b hb' e0 => ?_⟩
    subst e0
    have h1 := (h.rng a ha).2
    rcases List.mem_cons.1 hb' with rfl | hb'
    · have := hb.size; omega
    · have := (hr _ hb').1; omega
/-- What a read of a box meets. -/
theorem Pens.read {B : Nat} {W : World} {L : List Pen} (h : Pens B W L) {x : Pen} (hx : x ∈ L) : CellsAt W x.g 0 x.cs ∧ IsV W.heap.size W x.v x.cs ∧ x.g < W.heap.size :=
  ⟨block_of_cells (h.at' x hx).blk, (h.at' x hx).own.isV (fun b hb => (h.rng b ((pens_mem hx).2 b hb)).2), (h.rng _ (pens_mem hx).1).2⟩

end Go.Proofs.YtldjbgklmeigmaaGreatDoor

namespace Go.Proofs.YtldjbgklmeigmaaGreatDoor
open Go Go.RowKit

theorem TwoF.pens {W0 W : World} {x y : V} {csx csy : Array Value} {v25 v26 v27 v28 : Value} {c9 c10 : Array Value} {g9 g10 : Nat} {bx bz : List Nat} {B : Nat} {L : List Pen} (h : Pens B W0 L) (hB : B ≤ W0.heap.size)
    (hF : TwoF W0 W x y csx csy true true true true true true true true v25 v26 v27 v28 c9 c10 g9 g10 bx bz) : Pens B W (L ++ [⟨g9, x, c9, bx⟩, ⟨g10, y, c10, bz⟩]) := by
  have hL := h.on hF.below
  obtain ⟨cx, hv26, hox⟩ := hF.h26 rfl
  obtain ⟨cy, hv28, hoy⟩ := hF.h28 rfl
  obtain rfl : cx = c9 := by have := hF.e6 rfl; rw [hv26] at this; cases this; rfl
  obtain rfl : cy = c10 := by have := hF.e7 rfl; rw [hv28] at this; cases this; rfl
  obtain ⟨ge9, gl9, hb9, hn9x, hn9y, _⟩ := hF.h9 rfl
  obtain ⟨ge10, gl10, hb10, hn10x, hn10y, _⟩ := hF.h10 rfl
  have hne := hF.ne rfl rfl
  have e : pensBlocks (L ++ [⟨g9, x, cx, bx⟩, ⟨g10, y, cy, bz⟩]) = pensBlocks L ++ (g9 :: (bx ++ (g10 :: bz))) := by simp [pensBlocks]
  have hnew : ∀ b ∈ g9 :: (bx ++ (g10 :: bz)), W0.heap.size ≤ b ∧ b < W.heap.size := fun b hb => by
    simp only [List.mem_cons, List.mem_append] at hb
    rcases hb with rfl | hb | rfl | hb
    · exact ⟨ge9, gl9⟩
    · exact hF.rx b hb
    · exact ⟨ge10, gl10⟩
    · exact hF.ry b hb
  refine ⟨fun z hz => ?_, fun b hb => ?_, ?_⟩
  · simp only [List.mem_append, List.mem_cons, List.not_mem_nil, or_false] at hz
    rcases hz with hz | rfl | rfl
    · exact hL.at' z hz
    · exact ⟨hb9, hox⟩
    · exact ⟨hb10, hoy⟩
  · rw [e] at hb
    rcases List.mem_append.1 hb with hb | hb
    · exact hL.rng b hb
    · have := hnew b hb; omega
  · rw [e, List.nodup_append]
    refine ⟨h.nd, ?_, fun a ha b hb e0 => by have := (h.rng a ha).2; have := (hnew b hb).1; omega⟩
    rw [List.nodup_cons, List.nodup_append, List.nodup_cons]
    refine ⟨fun hc => ?_, hF.nx, ⟨hn10y, hF.ny⟩, fun a ha b hb e0 => ?_⟩
    · simp only [List.mem_append, List.mem_cons] at hc
      rcases hc with hc | hc | hc
      · exact hn9x hc
      · exact hne hc
      · exact hn9y hc
    · subst e0
      rcases List.mem_cons.1 hb with rfl | hb
      · exact hn10x ha
      · exact hF.dxy _ ha hb
end Go.Proofs.YtldjbgklmeigmaaGreatDoor
