/- Several texts in one: Helper text: small facts for the walk over TreeListsFresh. Helper text: the lists gathered by TreeListsFresh lie apart. Helper text: lists of faults whose kinds are written, then grown: what stands. Conditions: none. -/
import Derived.Test.YtnmnmkdmnohbmaaGreatDoorEnts
import Derived.Test.YtnmnmkdmnohbmaaGreatDoorPackL
import Derived.Test.YtnmnmkdmnohbmaaGreatDoorPackR
import Derived.Test.YtnmnmkdmnohbmaaGreatDoorPackS
import Derived.Test.YtnmnmkdmnohbmaaGreatDoorPackC
import Derived.Test.YtnmnmkdmnohbmaaGreatDoorTabGet
namespace Go.Proofs.YtnmnmkdmnohbmaaGreatDoor
open Go Go.RowKit

theorem box_new (w : World) (o : Obj) : ∃ W', w.alloc o = W' ∧ Below w.heap.size w W' ∧ W'.heap.size = w.heap.size + 1 ∧ W'.heap[w.heap.size]? = some o :=
  ⟨_, rfl, (Below.refl _ _).alloc (Nat.le_refl _) _, by simp, heap_new w o⟩
/-- A path whose memory was laid between two sizes of the heap. -/
structure StIn (lo hi : Nat) (w : World) (v : Value) (l : List St) : Prop where
  row : w.ownsRow lo 69 3 v l.length (flatS l)
  top : ∀ g, v.ownBlock = some g → g < hi
theorem StIn.moved {lo hi : Nat} {w w' : World} {v : Value} {l : List St} (h : StIn lo hi w v l) (hm : ∀ b, lo ≤ b → b < hi → w'.heap[b]? = w.heap[b]?) : StIn lo hi w' v l :=
  ⟨rowF_at h.row (fun g hg => hm g (h.row.lt g hg).1 (h.top g hg)), h.top⟩
theorem StIn.on {lo hi : Nat} {w w' : World} {v : Value} {l : List St} (h : StIn lo hi w v l) (hb : Below w.heap.size w w') : StIn lo hi w' v l :=
  ⟨rowF_at h.row (fun g hg => hb.block g (h.row.lt g hg).2), h.top⟩
theorem stIn_of {lo : Nat} {w : World} {v : Value} {l : List St} (h : w.ownsRow lo 69 3 v l.length (flatS l)) : StIn lo w.heap.size w v l := ⟨h, fun g hg => (h.lt g hg).2⟩
theorem StIn.at' {lo hi : Nat} {w : World} {p : Option Addr} {n c : Nat} {l : List St} (h : StIn lo hi w (.slice p n c) l) : StepsAt w.heap.size w p l ∧ n = l.length := by
  obtain ⟨q, d, e, _, _, hs⟩ := row_steps h.row
  cases e
  exact ⟨hs, rfl⟩
theorem read_getD {s : List UInt8} {l : List St} {b : Bool} (h1 : b = true → readL s = some l) (h2 : b = false → readL s = none ∧ l = []) : l = (readL s).getD [] := by
  cases b
  · obtain ⟨e, rfl⟩ := h2 rfl; rw [e]; rfl
  · rw [h1 rfl]; rfl
theorem read_len {s : List UInt8} : ((readL s).getD []).length ≤ s.length := by
  cases h : readL s with
  | none => simp
  | some l =>
    have e := (readL_iff.1 h).1
    have : ∀ l : List St, l.length ≤ (pathT l).length := fun l => by
      induction l with
      | nil => simp
      | cons a l ih =>
        have : pathT (a :: l) = (47 :: stepT a) ++ pathT l := rfl
        rw [this, List.length_append]
        simp only [List.length_cons]
        omega
    rw [← e]
    exact this l
theorem sameSt (l : List St) (p q : Option Addr) (c d : Nat) (w : World) (ha : StepsAt w.heap.size w p l) (hb : StepsAt w.heap.size w q l) (hl : l.length ≤ 4194304) :
    Calls Tryz.prog 12 #[.slice p l.length c, .slice q l.length d] w (RetB (.bool true) w) := by
  refine (SameSteps_d l l p q c d w ha hb hl hl).mono ?_
  rintro e w' ⟨r, rfl, hr, hb⟩
  obtain rfl : r = true := hr.2 rfl
  exact ⟨rfl, hb⟩
theorem box_at {w w' : World} {b : Nat} {T : TypeId} {v : Value} (h : w.heap[b]? = some (.cells #[v] T (0, 0))) (hb : w'.heap[b]? = w.heap[b]?) : w'.cell? ⟨b, 0, none⟩ = some v := by
  simp [World.cell?, hb.trans h]
theorem union_clean {A : List Fl} {l l' : List LF} (h : IsUnion A l) (he : l'.map LF.f = l.map (fun x => cleanF x.f)) : IsUnion A l' := by
  obtain ⟨h1, h2, h3⟩ := h
  have tow : ∀ z ∈ l, ∃ z' ∈ l', z'.f = cleanF z.f := fun z hz => by
    have : cleanF z.f ∈ l'.map LF.f := by rw [he]; exact List.mem_map.2 ⟨z, hz, rfl⟩
    obtain ⟨z', h, e⟩ := List.mem_map.1 this
    exact ⟨z', h, e⟩
  have fro : ∀ z' ∈ l', ∃ z ∈ l, z'.f = cleanF z.f := fun z' hz => by
    have : z'.f ∈ l.map (fun x => cleanF x.f) := by rw [← he]; exact List.mem_map.2 ⟨z', hz, rfl⟩
    obtain ⟨z, h, e⟩ := List.mem_map.1 this
    exact ⟨z, h, e.symm⟩
  refine ⟨h1, fun a ha => ?_, fun z' hz => ?_⟩
  · obtain ⟨z, hz, rfl⟩ := h2 a ha
    obtain ⟨z', hz', e⟩ := tow z hz
    exact ⟨z', hz', by rw [e, cleanF_twice]⟩
  · obtain ⟨z, hz, e⟩ := fro z' hz
    obtain ⟨a, ha, h0⟩ := h3 z hz
    exact ⟨a, ha, by rw [e, cleanF_twice]; exact h0⟩
/-- What an element of an owned list of faults reads as. -/
theorem fs_at {B : Nat} {w : World} {p : Option Addr} {n c : Nat} {l : List LF} (h : FsOwn B w (.slice p n c) l) {j : Nat} {x : LF} (hx : l[j]? = some x) :
    ∃ g, p = some ⟨g, 0, none⟩ ∧ w.cell? ⟨g, j * 3, none⟩ = some (.int .i64 x.f.k) ∧ w.cell? ⟨g, j * 3 + 1, none⟩ = some x.pv ∧ w.cell? ⟨g, j * 3 + 2, none⟩ = some x.qv ∧ g < w.heap.size ∧ w.frozen? ⟨g, j * 3, none⟩ = false := by
  obtain ⟨c', hv, h0, h1, h2, h3, h4⟩ := fs_cell h hx
  cases p with
  | none => cases hv
  | some a =>
    have ha : a = ⟨a.block, 0, none⟩ := Option.some.inj (Value.slice.inj hv).1
    refine ⟨a.block, by rw [← ha], h0, h1, h2, h3, h4 0 (by omega)⟩
theorem moved_refl (S : Nat → Prop) (w : World) : Moved S w w := ⟨rfl, rfl, rfl, Nat.le_refl _, fun _ _ _ => rfl⟩
theorem moved_set {S : Nat → Prop} {w0 w : World} {g j : Nat} (h : Moved S w0 w) (hg : S g) (v : Value) : Moved S w0 (w.setCell ⟨g, j, none⟩ v) :=
  ⟨h.os, h.tape, h.output, by simpa [World.setCell] using h.size, fun k hk hn => (Below.heap_setCell _ _ _ _ (fun e0 => hn (by have e1 : k = g := e0; subst e1; exact hg))).trans (h.block k hk hn)⟩
theorem moved_on {S : Nat → Prop} {w0 w w' : World} (h : Moved S w0 w) (hb : Below w.heap.size w w') : Moved S w0 w' :=
  ⟨hb.os.trans h.os, hb.tape.trans h.tape, hb.output.trans h.output, Nat.le_trans h.size hb.size, fun k hk hn => (hb.block k (Nat.lt_of_lt_of_le hk h.size)).trans (h.block k hk hn)⟩
end Go.Proofs.YtnmnmkdmnohbmaaGreatDoor

namespace Go.Proofs.YtnmnmkdmnohbmaaGreatDoor
open Go Go.RowKit

def eSof (Ls : List (Value × List LF)) : List Ent := Ls.flatMap (fun x => entS (gOf x.1) 0 x.2)
def ePof (Ls : List (Value × List LF)) : List Ent := Ls.flatMap (fun x => entP (gOf x.1) 0 x.2)
theorem eS_len {Ls : List (Value × List LF)} {N : Nat} (h : ∀ z ∈ Ls, z.2.length ≤ N) : (eSof Ls).length ≤ Ls.length * N := by
  induction Ls with
  | nil => simp [eSof]
  | cons a r ih =>
    have h1 := h a List.mem_cons_self
    have h2 := ih (fun z hz => h z (List.mem_cons_of_mem _ hz))
    simp only [eSof, List.flatMap_cons, List.length_append, entS_len, List.length_cons] at h2 ⊢
    rw [Nat.add_mul]
    omega
theorem eP_len {Ls : List (Value × List LF)} {N : Nat} (h : ∀ z ∈ Ls, z.2.length ≤ N) : (ePof Ls).length ≤ Ls.length * N := by
  induction Ls with
  | nil => simp [ePof]
  | cons a r ih =>
    have h1 := h a List.mem_cons_self
    have h2 := ih (fun z hz => h z (List.mem_cons_of_mem _ hz))
    simp only [ePof, List.flatMap_cons, List.length_append, entP_len, List.length_cons] at h2 ⊢
    rw [Nat.add_mul]
    omega
theorem eS_take {Ls : List (Value × List LF)} {k : Nat} {z : Value × List LF} (h : Ls[k]? = some z) : eSof (Ls.take (k + 1)) = eSof (Ls.take k) ++ entS (gOf z.1) 0 z.2 := by
  rw [List.take_add_one, h]; simp [eSof]
theorem eP_take {Ls : List (Value × List LF)} {k : Nat} {z : Value × List LF} (h : Ls[k]? = some z) : ePof (Ls.take (k + 1)) = ePof (Ls.take k) ++ entP (gOf z.1) 0 z.2 := by
  rw [List.take_add_one, h]; simp [ePof]
theorem blks_ls : ∀ (Ls : List (Value × List LF)), (blks (eSof Ls) ++ blks (ePof Ls)).Perm (Ls.flatMap (fun x => blkF x.2))
  | [] => by simp [eSof, ePof, blks]
  | a :: r => by
    have ih := blks_ls r
    have h1 := blks_fs (gOf a.1) a.2 0
    simp only [eSof, ePof, List.flatMap_cons, blks_append] at ih ⊢
    refine List.Perm.trans ?_ (List.Perm.append h1 ih)
    generalize blks (entS (gOf a.1) 0 a.2) = A
    generalize blks (entP (gOf a.1) 0 a.2) = B
    generalize blks (r.flatMap (fun x => entS (gOf x.1) 0 x.2)) = C
    generalize blks (r.flatMap (fun x => entP (gOf x.1) 0 x.2)) = D
    simp only [List.append_assoc]
    refine List.Perm.append_left _ ?_
    rw [← List.append_assoc, ← List.append_assoc]
    exact List.Perm.append_right _ List.perm_append_comm
theorem nodup_ranges : ∀ (R : List (Nat × Nat × List Nat)), (∀ r ∈ R, r.2.2.Nodup ∧ ∀ b ∈ r.2.2, r.1 ≤ b ∧ b < r.2.1) → R.Pairwise (fun r s => r.2.1 ≤ s.1 ∨ s.2.1 ≤ r.1) → (R.flatMap (·.2.2)).Nodup
  | [], _, _ => by simp
  | a :: r, h, hp => by
    rw [List.pairwise_cons] at hp
    rw [List.flatMap_cons, List.nodup_append]
    refine ⟨(h a List.mem_cons_self).1, nodup_ranges r (fun z hz => h z (List.mem_cons_of_mem _ hz)) hp.2, fun b hb c hc e => ?_⟩
    subst e
    obtain ⟨z, hz, hbz⟩ := List.mem_flatMap.1 hc
    have h1 := (h a List.mem_cons_self).2 b hb
    have h2 := (h z (List.mem_cons_of_mem _ hz)).2 b hbz
    rcases hp.1 z hz with q | q <;> omega
/-- All the lists gathered, apart. -/
theorem four_ls {w : World} {PB : List Ent} {Ls : List (Value × List LF)} (hP : ∀ e ∈ PB, EntAt w 69 3 e) (hL : ∀ z ∈ Ls, ∃ lo, FsOwn lo w z.1 z.2)
    (hH : ∀ e ∈ PB, ∃ cur, w.heap[e.hb]? = some (.cells cur 30 (0, 0))) (nd : (blks PB ++ Ls.flatMap (fun x => blkF x.2)).Nodup) : Four w [] [] (PB ++ eSof Ls) (ePof Ls) := by
  have hS : ∀ e ∈ PB ++ eSof Ls, EntAt w 69 3 e := fun e he => by
    rcases List.mem_append.1 he with he | he
    · exact hP e he
    · obtain ⟨z, hz, he⟩ := List.mem_flatMap.1 he
      obtain ⟨lo, h⟩ := hL z hz
      exact fs_entS h e he
  have hPo : ∀ e ∈ ePof Ls, EntAt w 44 2 e := fun e he => by
    obtain ⟨z, hz, he⟩ := List.mem_flatMap.1 he
    obtain ⟨lo, h⟩ := hL z hz
    exact fs_entP h e he
  refine four_of hS hPo ?_ (fun e he => ?_)
  · rw [blks_append, List.append_assoc]
    exact (List.Perm.append_left _ (blks_ls Ls)).nodup_iff.2 nd
  · rcases he with he | he
    · rcases List.mem_append.1 he with he | he
      · obtain ⟨cur, h⟩ := hH e he
        exact ⟨cur, _, h, by decide, by decide⟩
      · obtain ⟨z, hz, he⟩ := List.mem_flatMap.1 he
        obtain ⟨lo, h⟩ := hL z hz
        obtain ⟨cur, h⟩ := fs_head h (.inl he)
        exact ⟨cur, _, h, by decide, by decide⟩
    · obtain ⟨z, hz, he⟩ := List.mem_flatMap.1 he
      obtain ⟨lo, h⟩ := hL z hz
      obtain ⟨cur, h⟩ := fs_head h (.inr he)
      exact ⟨cur, _, h, by decide, by decide⟩
theorem four_new {w : World} (b2 b3 b4 b5 : Nat) : ∃ W', (w.alloc (.cells #[.pointer (some ⟨b2, 0, none⟩), .pointer (some ⟨b3, 0, none⟩), .pointer (some ⟨b4, 0, none⟩), .pointer (some ⟨b5, 0, none⟩)] 51)).alloc (.cells #[.slice none 0 0, .slice none 0 0, .slice (some ⟨w.heap.size, 0, none⟩) 4 4, .slice none 0 0] 57) = W' ∧
    Below w.heap.size w W' ∧ W'.heap.size = w.heap.size + 2 ∧ ∀ (p2 p3 p4 p5 : Option Addr) (n2 n3 n4 n5 c2 c3 c4 c5 : Nat), HeldS W' w.heap.size (w.heap.size + 1) (.slice (some ⟨w.heap.size, 0, none⟩) 4 4) (.slice none 0 0) (.slice none 0 0) (.slice none 0 0) (([⟨b2, 0, p2, n2, c2⟩, ⟨b3, 0, p3, n3, c3⟩, ⟨b4, 0, p4, n4, c4⟩, ⟨b5, 0, p5, n5, c5⟩] : List Ent).map Ent.ptr) (([] : List Ent).map Ent.ptr) := by
  refine ⟨_, rfl, ((Below.refl _ _).alloc (Nat.le_refl _) _).alloc (by simp) _, by simp, fun p2 p3 p4 p5 n2 n3 n4 n5 c2 c3 c4 c5 => ⟨?_, ?_, World.ownsRow_nil _ _ _ _, by omega, ?_, by simp [Value.ownBlock], .inr (by simp [Value.ownBlock]), .inl rfl⟩⟩
  · have := heap_new (w.alloc (.cells #[.pointer (some ⟨b2, 0, none⟩), .pointer (some ⟨b3, 0, none⟩), .pointer (some ⟨b4, 0, none⟩), .pointer (some ⟨b5, 0, none⟩)] 51)) (.cells #[.slice none 0 0, .slice none 0 0, .slice (some ⟨w.heap.size, 0, none⟩) 4 4, .slice none 0 0] 57)
    rwa [World.size_alloc] at this
  · refine World.ownsRow.alloc ?_ _
    exact ⟨rfl, .inr ⟨w.heap.size, 4, _, rfl, Nat.le_refl _, heap_new w _, Nat.le_refl _, by decide, rfl, rfl⟩⟩
  · intro e
    have := Option.some.inj e
    simp only at this
    omega
/-- A block of lists of faults is none of the gatherer's. -/
theorem HeldS.arr {w : World} {B H A : Nat} {s0 s1 s2 s3 : Value} {xI xF : List Value} {cur : Array Value} (h : HeldS w B H s0 s1 s2 s3 xI xF) (hA : w.heap[A]? = some (.cells cur 28 (0, 0))) : s0.ownBlock ≠ some A ∧ s1.ownBlock ≠ some A ∧ A ≠ H := by
  refine ⟨fun e => ?_, fun e => ?_, fun e => ?_⟩
  · rcases h.r0.2 with ⟨h1, _⟩ | ⟨g, cap, cu, rfl, _, hh, _⟩
    · rw [h1] at e; cases e
    · cases e
      rw [hA] at hh
      have := (Obj.cells.inj (Option.some.inj hh)).2.1
      exact absurd this (by decide)
  · rcases h.r1.2 with ⟨h1, _⟩ | ⟨g, cap, cu, rfl, _, hh, _⟩
    · rw [h1] at e; cases e
    · cases e
      rw [hA] at hh
      have := (Obj.cells.inj (Option.some.inj hh)).2.1
      exact absurd this (by decide)
  · subst e
    have := h.block
    rw [hA] at this
    have := (Obj.cells.inj (Option.some.inj this)).2.1
    exact absurd this (by decide)
theorem meas_up {n j : Nat} (h : j < n) : n - (intOf (.int .i64 ((j : Int) + 1))).toNat < n - (intOf (.int .i64 (j : Int))).toNat := by
  simp [intOf]
  omega
theorem num_up (j : Nat) : Value.int .i64 ((j : Int) + 1) = .int .i64 ((j + 1 : Nat) : Int) := by simp
theorem pb_ent {lo hi b c : Nat} {w0 w : World} {p : Option Addr} {l : List St} (hp : StIn lo hi w0 (.slice p l.length c) l) (hk : w0.heap[b]? = some (.cells #[.slice p l.length c] 30 (0, 0))) (hch : ∀ x, x < w0.heap.size → w.heap[x]? = w0.heap[x]?) :
    EntAt w 69 3 ⟨b, 0, p, l.length, c⟩ ∧ (∃ cur, w.heap[b]? = some (.cells cur 30 (0, 0))) ∧ (p.map (·.block)).toList.Nodup ∧ ∀ x ∈ (p.map (·.block)).toList, lo ≤ x ∧ x < hi := by
  have hb := (hch b (Array.getElem?_eq_some_iff.1 hk).1).trans hk
  have hr := rowF_at hp.row (w' := w) (fun g hg => hch g (hp.row.lt g hg).2)
  refine ⟨row_ent hr (by simp [World.cell?, hb]), ⟨_, hb⟩, ?_, fun x hx => ?_⟩
  · cases p <;> simp
  · have e : (Value.slice p l.length c).ownBlock = some x := by
      rw [← pOf_block]
      cases p with
      | none => simp at hx
      | some a => simp only [Option.map_some, Option.toList_some, List.mem_singleton] at hx; rw [hx]; rfl
    exact ⟨(hp.row.lt x e).1, hp.top x e⟩
theorem ls_bad {PB : List Ent} {Ls : List (Value × List LF)} {R : List (Nat × Nat × List Nat)} (hR : ∀ r ∈ R, r.2.2.Nodup ∧ ∀ b ∈ r.2.2, r.1 ≤ b ∧ b < r.2.1) (he : R.flatMap (·.2.2) = blks PB ++ Ls.flatMap (fun x => blkF x.2)) {b : Nat} (hb : Bad [] [] (PB ++ eSof Ls) (ePof Ls) b) :
    ∃ r ∈ R, r.1 ≤ b ∧ b < r.2.1 := by
  have h1 : b ∈ blks (PB ++ eSof Ls) ++ blks (ePof Ls) := by simpa [Bad, blks] using hb
  rw [blks_append, List.append_assoc] at h1
  have h2 : b ∈ blks PB ++ Ls.flatMap (fun x => blkF x.2) := by
    rcases List.mem_append.1 h1 with h | h
    · exact List.mem_append_left _ h
    · exact List.mem_append_right _ ((blks_ls Ls).mem_iff.1 h)
  rw [← he] at h2
  obtain ⟨r, hr, h⟩ := List.mem_flatMap.1 h2
  exact ⟨r, hr, (hR r hr).2 b h⟩
theorem fs_range {lo hi : Nat} {w : World} {v : Value} {l : List LF} (h : FsIn lo hi w v l) : (blkF l).Nodup ∧ ∀ b ∈ blkF l, lo ≤ b ∧ b < hi :=
  ⟨h.own.own.nd, fun b hb => ⟨(h.own.own.lt b hb).1, h.top b (mem_bF.2 (.inr hb))⟩⟩
end Go.Proofs.YtnmnmkdmnohbmaaGreatDoor

namespace Go.Proofs.YtnmnmkdmnohbmaaGreatDoor
open Go Go.RowKit

/-- The kinds written up to (k, m). -/
structure KSt (w : World) (Lt : List (Value × List LF)) (k m : Nat) : Prop where
  row : ∀ z ∈ Lt, ∃ xs, w.ownsRow 0 42 3 z.1 z.2.length xs
  kind : ∀ (i : Nat) (z : Value × List LF) (j : Nat), Lt[i]? = some z → j < z.2.length → (i < k ∨ (i = k ∧ j < m)) → w.cell? ⟨gOf z.1, j * 3, none⟩ = some (.int .i64 (1000 * (i : Int) + 7))
/-- The lists lie in blocks apart. -/
def Apt (Lt : List (Value × List LF)) : Prop := ∀ (i j : Nat) (zi zj : Value × List LF), i ≠ j → Lt[i]? = some zi → Lt[j]? = some zj → ∀ g, zi.1.ownBlock = some g → zj.1.ownBlock ≠ some g
theorem row_head {w : World} {v : Value} {n : Nat} {xs : List Value} (h : w.ownsRow 0 42 3 v n xs) (hn : 0 < n) : ∃ g c cur, v = .slice (some ⟨g, 0, none⟩) n c ∧ gOf v = g ∧ v.ownBlock = some g ∧ w.heap[g]? = some (.cells cur 42 (0, 0)) ∧ n * 3 ≤ cur.size := by
  rcases h.2 with ⟨_, h0⟩ | ⟨g, cap, cur, rfl, _, hg, hc, _, hs, _⟩
  · omega
  · exact ⟨g, cap, cur, rfl, rfl, rfl, hg, by omega⟩
theorem KSt.next {w : World} {Lt : List (Value × List LF)} {k m : Nat} (h : KSt w Lt k m) {z : Value × List LF} (hz : Lt[k]? = some z) (hm : m = z.2.length) : KSt w Lt (k + 1) 0 :=
  ⟨h.row, fun i z' j hi hj hc => h.kind i z' j hi hj (by
    rcases hc with hc | ⟨_, hc⟩
    · by_cases e : i = k
      · subst e
        rw [hz] at hi
        cases hi
        exact .inr ⟨rfl, by omega⟩
      · exact .inl (by omega)
    · omega)⟩
theorem KSt.store {w : World} {Lt : List (Value × List LF)} {k m : Nat} (h : KSt w Lt k m) (ha : Apt Lt) {z : Value × List LF} (hz : Lt[k]? = some z) (hm : m < z.2.length) :
    ∃ g c u, z.1 = .slice (some ⟨g, 0, none⟩) z.2.length c ∧ z.1.ownBlock = some g ∧ g < w.heap.size ∧ w.cell? ⟨g, m * 3, none⟩ = some u ∧ w.frozen? ⟨g, m * 3, none⟩ = false ∧ KSt (w.setCell ⟨g, m * 3, none⟩ (.int .i64 (1000 * (k : Int) + 7))) Lt k (m + 1) := by
  obtain ⟨xs, hr⟩ := h.row z (List.mem_of_getElem? hz)
  obtain ⟨g, c, cur, hv, hg, ho, hh, hs⟩ := row_head hr (by omega)
  obtain ⟨u, hu⟩ : ∃ u, cur[m * 3]? = some u := ⟨_, Array.getElem?_eq_getElem (by omega)⟩
  refine ⟨g, c, u, hv, ho, (Array.getElem?_eq_some_iff.1 hh).1, by simp [World.cell?, hh, hu], by simp [World.frozen?, hh], ⟨fun y hy => ?_, fun i y j hi hj hc => ?_⟩⟩
  · obtain ⟨ys, hy'⟩ := h.row y hy
    by_cases e : y.1.ownBlock = some g
    · rcases hy'.2 with ⟨h1, _⟩ | ⟨g', c', _, h1, _⟩
      · rw [h1] at e; cases e
      · rw [h1] at e hy' ⊢
        cases e
        exact ⟨_, rowF_set hy' _⟩
    · exact ⟨ys, rowF_at hy' (fun b hb => Below.heap_setCell _ _ _ _ (fun e2 => e (by rw [hb]; exact congrArg some e2)))⟩
  · by_cases e : i = k
    · subst e
      rw [hz] at hi
      cases hi
      rw [hg]
      by_cases e2 : j = m
      · subst e2
        have := heap_setCell_same (j := j * 3) hh (.int .i64 (1000 * (i : Int) + 7))
        simp only [World.cell?, this]
        simp [show j * 3 < cur.size by omega]
      · have h1 := h.kind i z j hz hj (.inr ⟨rfl, by omega⟩)
        rw [hg] at h1
        have h2 := heap_setCell_same (j := m * 3) hh (.int .i64 (1000 * (i : Int) + 7))
        simp only [World.cell?, hh] at h1
        simp only [World.cell?, h2]
        simp only [Option.isSome_none, Bool.false_eq_true, if_false] at h1 ⊢
        rw [Array.getElem?_setIfInBounds_ne (by omega)]
        exact h1
    · have h1 := h.kind i y j hi hj (.inl (by omega))
      obtain ⟨ys, hy'⟩ := h.row y (List.mem_of_getElem? hi)
      obtain ⟨g', _, _, _, hg', ho', _⟩ := row_head hy' (by omega)
      rw [hg'] at h1 ⊢
      have hne : g' ≠ g := fun e2 => ha k i z y (Ne.symm e) hz hi g ho (by rw [ho', e2])
      exact (World.cell?_of_block (a := ⟨g', j * 3, none⟩) (Below.heap_setCell _ _ _ _ hne)).trans h1
theorem KSt.on {w w' : World} {Lt : List (Value × List LF)} {k m : Nat} (h : KSt w Lt k m) (hb : Below w.heap.size w w') : KSt w' Lt k m :=
  ⟨fun z hz => by obtain ⟨xs, hr⟩ := h.row z hz; exact ⟨xs, rowF_at hr (fun g hg => hb.block g (hr.lt g hg).2)⟩, fun i z j hi hj hc => by
    have h1 := h.kind i z j hi hj hc
    exact (hb.cell (p := ⟨gOf z.1, j * 3, none⟩) (World.block_lt_of_cell? w _ h1)).trans h1⟩
/-- How much of each block stands while the lists grow. -/
def limK (Lt : List (Value × List LF)) (b : Nat) : Option Nat := (Lt.find? (fun z => z.1.ownBlock == some b)).map (fun z => z.2.length * 3)
theorem limK_at {Lt : List (Value × List LF)} (ha : Apt Lt) {i : Nat} {z : Value × List LF} (hz : Lt[i]? = some z) {g : Nat} (hg : z.1.ownBlock = some g) : limK Lt g = some (z.2.length * 3) := by
  unfold limK
  cases hf : Lt.find? (fun z => z.1.ownBlock == some g) with
  | none =>
    have := List.find?_eq_none.1 hf z (List.mem_of_getElem? hz)
    simp [hg] at this
  | some y =>
    have h1 := List.find?_some hf
    obtain ⟨j, hj⟩ := List.getElem?_of_mem (List.mem_of_find?_eq_some hf)
    have h2 : y.1.ownBlock = some g := by simpa using h1
    by_cases e : i = j
    · subst e
      rw [hz] at hj
      cases hj
      rfl
    · exact absurd h2 (ha i j z y e hz hj g hg)
theorem limK_none {Lt : List (Value × List LF)} {b : Nat} (h : ∀ z ∈ Lt, z.1.ownBlock ≠ some b) : limK Lt b = none := by
  unfold limK
  rw [List.find?_eq_none.2 (fun z hz => by simpa using h z hz)]
  rfl
theorem loose_keep {w W : World} {Lt : List (Value × List LF)} {k m : Nat} (h : KSt w Lt k m) (ha : Apt Lt) {i : Nat} {z : Value × List LF} (hz : Lt[i]? = some z) (hk : Keep (limK Lt) w W) : Loose (limK Lt) w.heap.size W 42 3 z.1 z.2.length := by
  obtain ⟨xs, hr⟩ := h.row z (List.mem_of_getElem? hz)
  rcases hr.2 with ⟨h1, h2⟩ | ⟨g, cap, cur, hv, hB, hh, hn, hc, hs, ht⟩
  · rw [h1, h2]
    exact ⟨⟨[], World.ownsRow_nil _ _ _ _⟩, fun g hg => by cases hg⟩
  · have hg : z.1.ownBlock = some g := by rw [hv]; rfl
    have hl := limK_at ha hz hg
    obtain ⟨cur', h1, h2, _⟩ := hk.part g _ cur _ _ hl hh
    refine ⟨⟨cur'.toList.take (z.2.length * 3), ?_, .inr ⟨g, cap, cur', hv, hB, h1, hn, hc, by rw [h2, hs], rfl⟩⟩, fun g' hg' => ?_⟩
    · have : z.2.length * 3 ≤ cur'.size := by rw [h2, hs]; omega
      rw [List.length_take, Array.length_toList]
      omega
    · rw [hg] at hg'
      cases hg'
      exact .inr ⟨_, hl, Nat.le_refl _⟩
theorem kind_keep {w W : World} {Lt : List (Value × List LF)} {k : Nat} (h : KSt w Lt k 0) (ha : Apt Lt) (hk : Keep (limK Lt) w W) {i : Nat} {z : Value × List LF} (hz : Lt[i]? = some z) {j : Nat} (hj : j < z.2.length) (hi : i < k) :
    ∃ g c, z.1 = .slice (some ⟨g, 0, none⟩) z.2.length c ∧ g < W.heap.size ∧ W.cell? ⟨g, j * 3, none⟩ = some (.int .i64 (1000 * (i : Int) + 7)) := by
  obtain ⟨xs, hr⟩ := h.row z (List.mem_of_getElem? hz)
  obtain ⟨g, c, cur, hv, hg, ho, hh, hs⟩ := row_head hr (by omega)
  have h1 := h.kind i z j hz hj (.inl hi)
  rw [hg] at h1
  have h2 := hk.cell h1 (fun m hm => by
    rw [limK_at ha hz ho] at hm
    cases hm
    omega)
  exact ⟨g, c, hv, World.block_lt_of_cell? W _ h2, h2⟩
theorem meas_3 {j : Nat} (h : j < 3) : 3 - (intOf (.int .i64 ((j : Int) + 1))).toNat < 3 - (intOf (.int .i64 (j : Int))).toNat := meas_up h
theorem wrap_k {kk : Nat} (h : kk < 3) : wrap64 (1000 * (kk : Int)) = 1000 * (kk : Int) ∧ wrap64 (1000 * (kk : Int) + 7) = 1000 * (kk : Int) + 7 := by
  unfold wrap64
  omega
theorem keep_below {w0 w W : World} {Lt : List (Value × List LF)} (hk : Keep (limK Lt) w W) (hb : Below w0.heap.size w0 w) (h : ∀ z ∈ Lt, ∀ g, z.1.ownBlock = some g → w0.heap.size ≤ g) : Below w0.heap.size w0 W :=
  ⟨hk.os.trans hb.os, hk.tape.trans hb.tape, hk.output.trans hb.output, Nat.le_trans hb.size hk.size, fun b hb' => (hk.block b (Nat.lt_of_lt_of_le hb' hb.size) (limK_none (fun z hz e => by have := h z hz b e; omega))).trans (hb.block b hb')⟩
end Go.Proofs.YtnmnmkdmnohbmaaGreatDoor
