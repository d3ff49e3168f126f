/- Helper text: what stands of a list of entries and of a table while entries come and go during a range. Conditions: none. -/
import Derived.Test.YtnmnmkdmnohbmaaDoorTabAll
import Derived.RangeFuncOwn
import Derived.RangeFuncNested
namespace Go.Proofs.YtnmnmkdmnohbmaaDoor
open Go Go.RowKit Go.Maps

def hasR (l : List (Int × Int)) (k : Int) : Bool := l.any (fun r => r.1 == k)
theorem hasR_put {l : List (Int × Int)} {k v k' : Int} (h : hasR l k' = true) : hasR (putR l k v) k' = true := by
  unfold hasR putR at *
  rw [List.any_append, List.any_map]
  have : l.any ((fun r => r.1 == k') ∘ updR k v) = true := by
    rw [List.any_eq_true] at h ⊢
    obtain ⟨r, hr, e⟩ := h
    refine ⟨r, hr, ?_⟩
    simp only [Function.comp_apply]
    unfold updR
    split <;> exact e
  rw [this]
  rfl
theorem hasR_drop {l : List (Int × Int)} {k k' : Int} (h : hasR l k' = true) (hne : k' ≠ k) : hasR (dropR l k) k' = true := by
  unfold hasR dropR at *
  rw [List.any_eq_true] at h ⊢
  obtain ⟨r, hr, e⟩ := h
  refine ⟨r, List.mem_filter.2 ⟨hr, ?_⟩, e⟩
  have e' : r.1 = k' := by simpa using e
  simp [e', hne]
theorem putR_len (l : List (Int × Int)) (k v : Int) : (putR l k v).length ≤ l.length + 1 := by
  unfold putR
  rw [List.length_append, List.length_map]
  split <;> simp
theorem dropR_len {l : List (Int × Int)} {k : Int} (h : hasR l k = true) : (dropR l k).length < l.length := by
  have := dropR_lt l k
  unfold hasR at h
  rw [h] at this
  simpa using this
/-- The entries from n on are still there. -/
structure Rem (l after : List (Int × Int)) (n : Nat) : Prop where
  has : ∀ m r, n ≤ m → l[m]? = some r → hasR after r.1 = true
  len : after.length ≤ l.length
theorem Rem.start (l : List (Int × Int)) : Rem l l 0 := ⟨fun m r _ hr => List.any_eq_true.2 ⟨r, List.mem_of_getElem? hr, by simp⟩, Nat.le_refl _⟩
theorem Rem.step {l after : List (Int × Int)} {n : Nat} (h : Rem l after n) (nd : (l.map (·.1)).Nodup) {rk rv : Int} (hr : l[n]? = some (rk, rv)) (k v : Int) : Rem l (dropR (putR after k v) rk) (n + 1) := by
  refine ⟨fun m r hm hr' => ?_, ?_⟩
  · obtain ⟨a, b⟩ := r
    exact hasR_drop (hasR_put (h.has m _ (by omega) hr')) (fun e => by
      have e' : a = rk := e
      subst e'
      have := nd_at nd hr hr'
      omega)
  · have h1 := dropR_len (hasR_put (k := k) (v := v) (h.has n _ (Nat.le_refl _) hr))
    have h2 := putR_len after k v
    have h3 := h.len
    have h4 : (rk, rv).1 = rk := rfl
    rw [h4] at h1
    omega
/-- Of the world W0 all stands but the table's own and two boxes. -/
structure Chg (W0 W : World) (T b8 b9 : Nat) : Prop where
  moved : Moved (fun g => footW T W0 g ∨ g = b8 ∨ g = b9) W0 W
  foot : ∀ g, footW T W g → footW T W0 g ∨ W0.heap.size ≤ g
theorem Chg.refl (W : World) (T b8 b9 : Nat) : Chg W W T b8 b9 := ⟨⟨rfl, rfl, rfl, Nat.le_refl _, fun _ _ _ => rfl⟩, fun _ h => .inl h⟩
theorem Chg.step {W0 W W' : World} {T b8 b9 : Nat} (h : Chg W0 W T b8 b9) (hs : TStep T W W') : Chg W0 W' T b8 b9 := by
  refine ⟨⟨hs.1.os.trans h.moved.os, hs.1.tape.trans h.moved.tape, hs.1.output.trans h.moved.output, Nat.le_trans h.moved.size hs.1.size, fun k hk hn => (hs.1.block k (Nat.lt_of_lt_of_le hk h.moved.size) (fun hf => by rcases h.foot k hf with q | q; exact hn (.inl q); omega)).trans (h.moved.block k hk hn)⟩, fun g hg => ?_⟩
  rcases hs.2 g hg with q | q
  · exact h.foot g q
  · exact .inr (Nat.le_trans h.moved.size q)
theorem foot_set {W : World} {T g j : Nat} {v : Value} (hT : T ≠ g) (k : Nat) : footW T (W.setCell ⟨g, j, none⟩ v) k ↔ footW T W k := by
  have e := Below.heap_setCell W ⟨g, j, none⟩ v T hT
  constructor
  · rintro ⟨bm, kv, vv, h1, h2⟩; exact ⟨bm, kv, vv, e.symm.trans h1, h2⟩
  · rintro ⟨bm, kv, vv, h1, h2⟩; exact ⟨bm, kv, vv, e.trans h1, h2⟩
theorem Chg.set {W0 W : World} {T b8 b9 g : Nat} (h : Chg W0 W T b8 b9) (hg : g = b8 ∨ g = b9) (hT : T ≠ g) (v : Value) : Chg W0 (W.setCell ⟨g, 0, none⟩ v) T b8 b9 := by
  refine ⟨⟨h.moved.os, h.moved.tape, h.moved.output, by simpa [World.setCell] using h.moved.size, fun k hk hn => (Below.heap_setCell _ _ _ _ (fun e0 => hn (by have e1 : k = g := e0; subst e1; exact .inr hg))).trans (h.moved.block k hk hn)⟩, fun k hk => h.foot k ((foot_set hT k).1 hk)⟩
theorem grown_foot {A B : World} {row : Option Nat} {T n : Nat} (hg : A.grownBy B row) (hr : ∀ r, row = some r → n ≤ r ∧ ∃ o : Obj, A.heap[r]? = some o ∧ o.isCells = false) (hT : T < n) (hTA : T < A.heap.size) (g : Nat) : footW T B g ↔ footW T A g := by
  have e := hg.block T hTA (fun e => by have := (hr T e.symm).1; omega)
  constructor
  · rintro ⟨bm, kv, vv, h1, h2⟩; exact ⟨bm, kv, vv, e.symm.trans h1, h2⟩
  · rintro ⟨bm, kv, vv, h1, h2⟩; exact ⟨bm, kv, vv, e.trans h1, h2⟩
theorem Chg.own {β : Type} {W0 : World} {T b8 b9 n : Nat} (hn : W0.heap.size ≤ n) (hT : T < W0.heap.size) : OwnFrom n (fun (_ : β) W => Chg W0 W T b8 b9) := by
  intro _ A B row h hg hr
  refine ⟨⟨hg.os.trans h.moved.os, hg.tape.trans h.moved.tape, hg.output.trans h.moved.output, Nat.le_trans h.moved.size hg.size, fun k hk hn' => (hg.block k (Nat.lt_of_lt_of_le hk h.moved.size) (fun e => by have := (hr k e.symm).1; omega)).trans (h.moved.block k hk hn')⟩, fun g hgf => h.foot g ((grown_foot hg hr (by omega) (Nat.lt_of_lt_of_le hT h.moved.size) g).1 hgf)⟩
theorem rowsT_own {A B : World} {row : Option Nat} {n b sz k : Nat} {e : TypeId} {v : Value} {xs : List Value} (h : A.ownsRow b e sz v k xs) (hg : A.grownBy B row) (hr : ∀ r, row = some r → n ≤ r ∧ ∃ o : Obj, A.heap[r]? = some o ∧ o.isCells = false) : B.ownsRow b e sz v k xs := by
  refine h.kept hg ?_
  rcases h.2 with ⟨rfl, _⟩ | ⟨g, cap, cur, rfl, _, hgb, _⟩
  · exact .inl rfl
  · refine .inr (fun hc => ?_)
    obtain ⟨_, o, ho, hcl⟩ := hr g hc.symm
    rw [hgb] at ho
    cases ho
    cases hcl
theorem TS.grown {A B : World} {row : Option Nat} {b T bm n : Nat} {l : List (Int × Int)} (h : TS A b T bm l) (hg : A.grownBy B row) (hr : ∀ r, row = some r → n ≤ r ∧ ∃ o : Obj, A.heap[r]? = some o ∧ o.isCells = false) (hT : T < n) (hbm : bm < n) : TS B b T bm l := by
  obtain ⟨kv, vv, D, ht⟩ := h.ex
  refine ⟨⟨kv, vv, D, (hg.block T h.lt (fun e => by have := (hr T e.symm).1; omega)).trans ht.block, ht.map.kept hg (fun e => by have := (hr bm e.symm).1; omega), rowsT_own ht.keys hg hr, ⟨rowsT_own ht.vals.1 hg hr, ht.vals.2⟩, ht.len, ht.has, ht.ix, ht.geT, ht.gem, ht.d1, ht.d2, ht.d3, ht.d4, ht.few⟩, h.nd, h.ok⟩
theorem TS.set {W : World} {b T bm g : Nat} {l : List (Int × Int)} (h : TS W b T bm l) (hg : ¬ footW T W g) (v : Value) : TS (W.setCell ⟨g, 0, none⟩ v) b T bm l := by
  obtain ⟨kv, vv, D, ht⟩ := h.ex
  have hf := fun k => ht.foot k
  have hg3 := grown_setCell W ⟨g, 0, none⟩ v
  have hT : T ≠ g := fun e => hg ((hf g).2 (.inl e.symm))
  refine ⟨⟨kv, vv, D, (Below.heap_setCell W ⟨g, 0, none⟩ v T hT).trans ht.block, ht.map.kept hg3 (fun e => hg ((hf g).2 (.inr (.inl (by cases e; rfl))))), ht.keys.kept hg3 (.inr (fun e => hg ((hf g).2 (.inr (.inr (.inl e)))))), ht.vals.kept hg3 (.inr (fun e => hg ((hf g).2 (.inr (.inr (.inr e)))))), ht.len, ht.has, ht.ix, ht.geT, ht.gem, ht.d1, ht.d2, ht.d3, ht.d4, ht.few⟩, h.nd, h.ok⟩
theorem TS.bm_lt {W : World} {b T bm : Nat} {l : List (Int × Int)} (h : TS W b T bm l) : bm < W.heap.size ∧ T < W.heap.size := by
  obtain ⟨kv, vv, D, ht⟩ := h.ex
  exact ⟨ht.map.lt, h.lt⟩
theorem eight (w : World) (o0 o1 o2 o3 o4 o5 o6 o7 : Obj) : ∃ W0, (((((((w.alloc o0).alloc o1).alloc o2).alloc o3).alloc o4).alloc o5).alloc o6).alloc o7 = W0 ∧ Below w.heap.size w W0 ∧ W0.heap.size = w.heap.size + 1 + 1 + 1 + 1 + 1 + 1 + 1 + 1 ∧
    W0.heap[w.heap.size]? = some o0 ∧ W0.heap[w.heap.size + 1]? = some o1 ∧ W0.heap[w.heap.size + 1 + 1]? = some o2 ∧ W0.heap[w.heap.size + 1 + 1 + 1]? = some o3 ∧ W0.heap[w.heap.size + 1 + 1 + 1 + 1]? = some o4 ∧ W0.heap[w.heap.size + 1 + 1 + 1 + 1 + 1]? = some o5 ∧ W0.heap[w.heap.size + 1 + 1 + 1 + 1 + 1 + 1]? = some o6 ∧ W0.heap[w.heap.size + 1 + 1 + 1 + 1 + 1 + 1 + 1]? = some o7 := by
  have h : ∀ (W : World) (o : Obj), Below W.heap.size W (W.alloc o) ∧ (W.alloc o).heap.size = W.heap.size + 1 ∧ (W.alloc o).heap[W.heap.size]? = some o := fun W o => ⟨(Below.refl _ _).alloc (Nat.le_refl _) _, by simp, heap_new W o⟩
  obtain ⟨b0, s0, n0⟩ := h w o0
  generalize w.alloc o0 = w1 at *
  obtain ⟨b1, s1, n1⟩ := h w1 o1
  generalize w1.alloc o1 = w2 at *
  obtain ⟨b2, s2, n2⟩ := h w2 o2
  generalize w2.alloc o2 = w3 at *
  obtain ⟨b3, s3, n3⟩ := h w3 o3
  generalize w3.alloc o3 = w4 at *
  obtain ⟨b4, s4, n4⟩ := h w4 o4
  generalize w4.alloc o4 = w5 at *
  obtain ⟨b5, s5, n5⟩ := h w5 o5
  generalize w5.alloc o5 = w6 at *
  obtain ⟨b6, s6, n6⟩ := h w6 o6
  generalize w6.alloc o6 = w7 at *
  obtain ⟨b7, s7, n7⟩ := h w7 o7
  generalize w7.alloc o7 = w8 at *
  rw [s0] at s1 n1
  rw [s1] at s2 n2
  rw [s2] at s3 n3
  rw [s3] at s4 n4
  rw [s4] at s5 n5
  rw [s5] at s6 n6
  rw [s6] at s7 n7
  have c6 := b6.trans (b7.mono (by omega))
  have c5 := b5.trans (c6.mono (by omega))
  have c4 := b4.trans (c5.mono (by omega))
  have c3 := b3.trans (c4.mono (by omega))
  have c2 := b2.trans (c3.mono (by omega))
  have c1 := b1.trans (c2.mono (by omega))
  have c0 := b0.trans (c1.mono (by omega))
  exact ⟨w8, rfl, c0, s7, (c1.block _ (by omega)).trans n0, (c2.block _ (by omega)).trans n1, (c3.block _ (by omega)).trans n2, (c4.block _ (by omega)).trans n3, (c5.block _ (by omega)).trans n4, (c6.block _ (by omega)).trans n5, (b7.block _ (by omega)).trans n6, n7⟩
theorem ent_at {l : List (Int × Int)} {pre : List (ByteArray × Int)} {x : ByteArray × Int} {rk rv : Int} (hr : l[pre.length]? = some (rk, rv)) (hx : ¬ (x.1.toList = (nmB rk).toList ∧ x.2 = rv)) : ¬ (pre ++ [x] <+: entT l) := by
  rintro ⟨t, ht⟩
  apply hx
  have hz : (entT l)[pre.length]? = some x := by
    rw [← ht, List.append_assoc, List.getElem?_append_right (Nat.le_refl _)]
    simp
  unfold entT at hz
  rw [List.getElem?_map, hr] at hz
  cases hz
  exact ⟨rfl, rfl⟩
/-- A row apart from the table stands while the table moves. -/
theorem row_step {W W' : World} {T b sz k : Nat} {e : TypeId} {v : Value} {xs : List Value} (h : W.ownsRow b e sz v k xs) (hd : ∀ g, v.ownBlock = some g → ¬ footW T W g) (hs : TStep T W W') : W'.ownsRow b e sz v k xs ∧ ∀ g, v.ownBlock = some g → ¬ footW T W' g :=
  ⟨tabrow_at h (fun g hg => hs.1.block g (h.lt g hg).2 (hd g hg)), fun g hg hf => by
    rcases hs.2 g hf with q | q
    · exact hd g hg q
    · have := (h.lt g hg).2; omega⟩
theorem keepsFrom_step {W W' : World} {b T bm n : Nat} {l : List (Int × Int)} (h : TS W b T bm l) (hT : T < n) (hbm : bm < n) (hs : TStep T W W') : KeepsFrom n W W' := by
  obtain ⟨kv, vv, D, ht⟩ := h.ex
  refine ⟨hs.1.size, fun k o hk ho hc => (hs.1.block k (Array.getElem?_eq_some_iff.1 ho).1 (fun hf => ?_)).trans ho⟩
  have row : ∀ {b sz m : Nat} {e : TypeId} {v : Value} {xs : List Value}, W.ownsRow b e sz v m xs → v.ownBlock = some k → False := fun {b sz m e v xs} hr hg => by
    rcases hr.2 with ⟨rfl, _⟩ | ⟨g, cap, cur, rfl, _, hgb, _⟩
    · cases hg
    · cases hg
      rw [hgb] at ho
      cases ho
      cases hc
  rcases (ht.foot k).1 hf with e | e | e | e
  · omega
  · omega
  · exact row ht.keys e
  · exact row ht.vals.1 e
theorem foot_below {W W' : World} {T : Nat} (hb : Below W.heap.size W W') (hT : T < W.heap.size) {g : Nat} (hf : footW T W' g) : footW T W g := by
  obtain ⟨bm, kv, vv, h1, h2⟩ := hf
  exact ⟨bm, kv, vv, (hb.block T hT).symm.trans h1, h2⟩
theorem row_base {W : World} {b b' sz k : Nat} {e : TypeId} {v : Value} {xs : List Value} (h : W.ownsRow b e sz v k xs) (hb : b' ≤ b) : W.ownsRow b' e sz v k xs := by
  refine ⟨h.1, ?_⟩
  rcases h.2 with h0 | ⟨g, cap, cur, h1, h2, h3⟩
  · exact .inl h0
  · exact .inr ⟨g, cap, cur, h1, Nat.le_trans hb h2, h3⟩
/-- Worlds where three boxes hold what they hold. -/
structure RdW (a b c : Nat) (va vb vc : Value) where
  w : World
  ha : w.cell? ⟨a, 0, none⟩ = some va
  hb : w.cell? ⟨b, 0, none⟩ = some vb
  hc : w.cell? ⟨c, 0, none⟩ = some vc
abbrev RdCls (a b c : Nat) (va vb vc : Value) : World → Prop := fun w' => ∃ z : RdW a b c va vb vc, w' = z.w
theorem rd_of {a b c : Nat} {va vb vc : Value} {w : World} (ha : w.cell? ⟨a, 0, none⟩ = some va) (hb : w.cell? ⟨b, 0, none⟩ = some vb) (hc : w.cell? ⟨c, 0, none⟩ = some vc) : RdCls a b c va vb vc w := ⟨⟨w, ha, hb, hc⟩, rfl⟩
theorem txt_ext {a b : ByteArray} (h : a.toList = b.toList) : a = b := by
  have h1 := nkey_eq.2 h
  unfold nkey at h1
  simp only [Lit.string.injEq] at h1
  exact ByteArray.ext (Array.toList_inj.1 h1)
theorem inI_wrap (x : Int) : inI (wrap64 x) := by
  unfold wrap64 inI
  omega
end Go.Proofs.YtnmnmkdmnohbmaaDoor
