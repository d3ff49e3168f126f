/- Helper text: the lists of steps and of places within lists of faults, as they are gathered. Conditions: none. -/
import Derived.Test.YtnmnmkdmnohbmaaGreatDoorPackE
import Derived.Test.YtnmnmkdmnohbmaaGreatDoorPackH
import Derived.Test.YtnmnmkdmnohbmaaGreatDoorWholeW
namespace Go.Proofs.YtnmnmkdmnohbmaaGreatDoor
open Go Go.RowKit

def pOf : Value → Option Addr
  | .slice p _ _ => p
  | _ => none
def cOf : Value → Nat
  | .slice _ _ c => c
  | _ => 0
theorem pOf_block (v : Value) : (pOf v).map (·.block) = v.ownBlock := by
  cases v <;> try rfl
  next p n c => cases p <;> rfl
def gOf (v : Value) : Nat := v.ownBlock.getD 0
/-- The lists of steps of the faults of a row that begins at block g. -/
def entS (g : Nat) : Nat → List LF → List Ent
  | _, [] => []
  | i, x :: r => ⟨g, i * 3 + 2, pOf x.qv, x.f.path.length, cOf x.qv⟩ :: entS g (i + 1) r
/-- The lists of places. -/
def entP (g : Nat) : Nat → List LF → List Ent
  | _, [] => []
  | i, x :: r => ⟨g, i * 3 + 1, pOf x.pv, x.f.pos.length, cOf x.pv⟩ :: entP g (i + 1) r
theorem entS_len (g : Nat) : ∀ (l : List LF) (i : Nat), (entS g i l).length = l.length
  | [], _ => rfl
  | _ :: r, i => by simp [entS, entS_len g r (i + 1)]
theorem entP_len (g : Nat) : ∀ (l : List LF) (i : Nat), (entP g i l).length = l.length
  | [], _ => rfl
  | _ :: r, i => by simp [entP, entP_len g r (i + 1)]
theorem entS_at (g : Nat) : ∀ (l : List LF) (i j : Nat) (x : LF), l[j]? = some x → (entS g i l)[j]? = some ⟨g, (i + j) * 3 + 2, pOf x.qv, x.f.path.length, cOf x.qv⟩
  | [], _, _, _, h => by simp at h
  | y :: r, i, 0, x, h => by cases h; rfl
  | y :: r, i, j + 1, x, h => by
    have := entS_at g r (i + 1) j x (by simpa using h)
    simp only [entS, List.getElem?_cons_succ]
    rw [this, show i + 1 + j = i + (j + 1) by omega]
theorem entP_at (g : Nat) : ∀ (l : List LF) (i j : Nat) (x : LF), l[j]? = some x → (entP g i l)[j]? = some ⟨g, (i + j) * 3 + 1, pOf x.pv, x.f.pos.length, cOf x.pv⟩
  | [], _, _, _, h => by simp at h
  | y :: r, i, 0, x, h => by cases h; rfl
  | y :: r, i, j + 1, x, h => by
    have := entP_at g r (i + 1) j x (by simpa using h)
    simp only [entP, List.getElem?_cons_succ]
    rw [this, show i + 1 + j = i + (j + 1) by omega]
theorem entS_mem (g : Nat) {l : List LF} {i : Nat} {e : Ent} (h : e ∈ entS g i l) : ∃ j x, l[j]? = some x ∧ e = ⟨g, (i + j) * 3 + 2, pOf x.qv, x.f.path.length, cOf x.qv⟩ := by
  obtain ⟨j, hj⟩ := List.getElem?_of_mem h
  have hl := (List.getElem?_eq_some_iff.1 hj).1
  rw [entS_len] at hl
  have := entS_at g l i j _ (List.getElem?_eq_getElem hl)
  rw [hj] at this
  exact ⟨j, _, List.getElem?_eq_getElem hl, by cases this; rfl⟩
theorem entP_mem (g : Nat) {l : List LF} {i : Nat} {e : Ent} (h : e ∈ entP g i l) : ∃ j x, l[j]? = some x ∧ e = ⟨g, (i + j) * 3 + 1, pOf x.pv, x.f.pos.length, cOf x.pv⟩ := by
  obtain ⟨j, hj⟩ := List.getElem?_of_mem h
  have hl := (List.getElem?_eq_some_iff.1 hj).1
  rw [entP_len] at hl
  have := entP_at g l i j _ (List.getElem?_eq_getElem hl)
  rw [hj] at this
  exact ⟨j, _, List.getElem?_eq_getElem hl, by cases this; rfl⟩
theorem blks_cons (e : Ent) (l : List Ent) : blks (e :: l) = (e.p.map (·.block)).toList ++ blks l := by
  unfold blks
  rw [List.filterMap_cons]
  cases e.p.map (·.block) <;> rfl
theorem blks_fs (g : Nat) : ∀ (l : List LF) (i : Nat), (blks (entS g i l) ++ blks (entP g i l)).Perm (blkF l)
  | [], _ => by simp [entS, entP, blks, blkF]
  | x :: r, i => by
    have ih := blks_fs g r (i + 1)
    have e : blkF (x :: r) = (x.pv.ownBlock.toList ++ x.qv.ownBlock.toList) ++ blkF r := by simp [blkF]
    simp only [entS, entP, blks_cons, pOf_block]
    rw [e]
    refine List.Perm.trans ?_ (List.Perm.append_left _ ih)
    have h1 : (x.qv.ownBlock.toList ++ blks (entS g (i + 1) r) ++ (x.pv.ownBlock.toList ++ blks (entP g (i + 1) r))).Perm (x.pv.ownBlock.toList ++ blks (entP g (i + 1) r) ++ (x.qv.ownBlock.toList ++ blks (entS g (i + 1) r))) := List.perm_append_comm
    have h2 : (x.pv.ownBlock.toList ++ blks (entP g (i + 1) r) ++ (x.qv.ownBlock.toList ++ blks (entS g (i + 1) r))).Perm (x.pv.ownBlock.toList ++ ((x.qv.ownBlock.toList ++ blks (entS g (i + 1) r)) ++ blks (entP g (i + 1) r))) := by
      rw [List.append_assoc]
      exact List.Perm.append_left _ List.perm_append_comm
    refine h1.trans (h2.trans ?_)
    simp only [List.append_assoc]
    exact List.Perm.refl _
theorem row_cell {w : World} {B g n c m sz j : Nat} {e : TypeId} {xs : List Value} {u : Value} (h : w.ownsRow B e sz (.slice (some ⟨g, 0, none⟩) n c) m xs) (hu : xs[j]? = some u) :
    w.cell? ⟨g, j, none⟩ = some u ∧ w.frozen? ⟨g, j, none⟩ = false ∧ g < w.heap.size := by
  rcases h.2 with ⟨h0, _⟩ | ⟨g', cap, cur, h0, hB, hh, hn, hc, hs, ht⟩
  · cases h0
  · cases h0
    have : cur.toList[j]? = some u := by
      rw [← ht, List.getElem?_take] at hu
      split at hu
      · exact hu
      · cases hu
    exact ⟨by simp only [World.cell?, hh]; simpa using this, by simp [World.frozen?, hh], (Array.getElem?_eq_some_iff.1 hh).1⟩
theorem row_ent {w : World} {B sz n : Nat} {e : TypeId} {v : Value} {xs : List Value} (h : w.ownsRow B e sz v n xs) {hb ho : Nat} (hc : w.cell? ⟨hb, ho, none⟩ = some v) : EntAt w e sz ⟨hb, ho, pOf v, n, cOf v⟩ := by
  rcases h.2 with ⟨rfl, rfl⟩ | ⟨g, cap, cur, rfl, hB, hh, hn, hcm, hs, ht⟩
  · exact ⟨hc, .inl ⟨rfl, rfl, rfl⟩⟩
  · exact ⟨hc, .inr ⟨g, cur, rfl, hh, hs, hn, hcm⟩⟩
theorem fs_cell {B : Nat} {w : World} {v : Value} {l : List LF} (h : FsOwn B w v l) {j : Nat} {x : LF} (hx : l[j]? = some x) :
    ∃ c, v = .slice (some ⟨gOf v, 0, none⟩) l.length c ∧ w.cell? ⟨gOf v, j * 3, none⟩ = some (.int .i64 x.f.k) ∧ w.cell? ⟨gOf v, j * 3 + 1, none⟩ = some x.pv ∧ w.cell? ⟨gOf v, j * 3 + 2, none⟩ = some x.qv ∧ gOf v < w.heap.size ∧ (∀ o, o < 3 → w.frozen? ⟨gOf v, j * 3 + o, none⟩ = false) := by
  have hr := h.row
  have hl := (List.getElem?_eq_some_iff.1 hx).1
  obtain ⟨a0, a1, a2⟩ := fC_at l j x hx
  rcases hr.2 with ⟨_, h0⟩ | ⟨g, cap, cur, rfl, hB, hh, hn, hcm, hs, ht⟩
  · omega
  · exact ⟨cap, rfl, (row_cell hr a0).1, (row_cell hr a1).1, (row_cell hr a2).1, (row_cell hr a0).2.2, fun o _ => by simp [World.frozen?, gOf, Value.ownBlock, hh]⟩
theorem fs_entS {B : Nat} {w : World} {v : Value} {l : List LF} (h : FsOwn B w v l) : ∀ e ∈ entS (gOf v) 0 l, EntAt w 69 3 e := fun e he => by
  obtain ⟨j, x, hx, rfl⟩ := entS_mem _ he
  obtain ⟨c, _, _, _, h2, _⟩ := fs_cell h hx
  rw [Nat.zero_add]
  exact row_ent (h.own.all x (List.mem_of_getElem? hx)).2.1 h2
theorem fs_entP {B : Nat} {w : World} {v : Value} {l : List LF} (h : FsOwn B w v l) : ∀ e ∈ entP (gOf v) 0 l, EntAt w 44 2 e := fun e he => by
  obtain ⟨j, x, hx, rfl⟩ := entP_mem _ he
  obtain ⟨c, _, _, h1, _⟩ := fs_cell h hx
  rw [Nat.zero_add]
  exact row_ent (h.own.all x (List.mem_of_getElem? hx)).1 h1
theorem fs_head {B : Nat} {w : World} {v : Value} {l : List LF} (h : FsOwn B w v l) {e : Ent} (he : e ∈ entS (gOf v) 0 l ∨ e ∈ entP (gOf v) 0 l) : ∃ cur, w.heap[e.hb]? = some (.cells cur 42 (0, 0)) := by
  have hh : ∀ (j : Nat) (x : LF), l[j]? = some x → ∃ cur, w.heap[gOf v]? = some (.cells cur 42 (0, 0)) := fun j x hx => by
    have hl := (List.getElem?_eq_some_iff.1 hx).1
    rcases h.row.2 with ⟨_, h0⟩ | ⟨g, cap, cur, rfl, hB, hg, _⟩
    · omega
    · exact ⟨cur, hg⟩
  rcases he with he | he
  · obtain ⟨j, x, hx, rfl⟩ := entS_mem _ he
    exact hh j x hx
  · obtain ⟨j, x, hx, rfl⟩ := entP_mem _ he
    exact hh j x hx

/-- Steps and places alone. -/
theorem four_of {w : World} {e2 e3 : List Ent} (a2 : ∀ e ∈ e2, EntAt w 69 3 e) (a3 : ∀ e ∈ e3, EntAt w 44 2 e) (nd : (blks e2 ++ blks e3).Nodup)
    (hh : ∀ e, e ∈ e2 ∨ e ∈ e3 → ∃ cur T, w.heap[e.hb]? = some (.cells cur T (0, 0)) ∧ T ≠ 69 ∧ T ≠ 44) : Four w [] [] e2 e3 := by
  have clr : ∀ {es : List Ent} {T z : Nat}, (∀ e ∈ es, EntAt w T z e) → (∀ e, e ∈ e2 ∨ e ∈ e3 → ∃ cur T', w.heap[e.hb]? = some (.cells cur T' (0, 0)) ∧ T' ≠ T) → ∀ mo e, e ∈ e2 ∨ e ∈ e3 → Clr es z mo e := fun {es T z} ha ht mo e he e' he' hp => by
    obtain ⟨cur, T', hc, hne⟩ := ht e he
    rcases (ha e' he').2 with ⟨_, h1, _⟩ | ⟨g, cur', h1, h2, _⟩
    · rw [hp] at h1; cases h1
    · rw [hp] at h1
      cases h1
      rw [hc] at h2
      cases h2
      exact absurd rfl hne
  refine ⟨by simp, by simp, a2, a3, by simpa [blks] using nd, fun e he => ?_⟩
  have he' : e ∈ e2 ∨ e ∈ e3 := by simpa using he
  refine ⟨fun _ h => (by cases h), fun _ h => (by cases h), clr a2 (fun e he => ?_) 0 e he', clr a3 (fun e he => ?_) 0 e he'⟩
  · obtain ⟨cur, T, h1, h2, _⟩ := hh e he; exact ⟨cur, T, h1, h2⟩
  · obtain ⟨cur, T, h1, _, h2⟩ := hh e he; exact ⟨cur, T, h1, h2⟩
theorem bad_type {w : World} {e2 e3 : List Ent} (a2 : ∀ e ∈ e2, EntAt w 69 3 e) (a3 : ∀ e ∈ e3, EntAt w 44 2 e) {b : Nat} (hb : Bad [] [] e2 e3 b) :
    ∃ cur T, w.heap[b]? = some (.cells cur T (0, 0)) ∧ (T = 69 ∨ T = 44) := by
  have hb' : b ∈ blks e2 ∨ b ∈ blks e3 := by simpa [Bad, blks] using hb
  rcases hb' with hb | hb
  · obtain ⟨e, he, hp⟩ := List.mem_filterMap.1 hb
    rcases (a2 e he).2 with ⟨_, h1, _⟩ | ⟨g, cur, h1, h2, _⟩
    · rw [h1] at hp; cases hp
    · rw [h1] at hp; cases hp
      exact ⟨cur, _, h2, .inl rfl⟩
  · obtain ⟨e, he, hp⟩ := List.mem_filterMap.1 hb
    rcases (a3 e he).2 with ⟨_, h1, _⟩ | ⟨g, cur, h1, h2, _⟩
    · rw [h1] at hp; cases hp
    · rw [h1] at hp; cases hp
      exact ⟨cur, _, h2, .inr rfl⟩
/-- The rows gathered, as a reader sees them. -/
theorem HeldS.four {w : World} {B H : Nat} {s0 s1 : Value} {eS eP : List Ent} (h : HeldS w B H s0 s1 (.slice none 0 0) (.slice none 0 0) (eS.map Ent.ptr) (eP.map Ent.ptr)) {bad : Nat → Prop} (hb : ∀ b, bad b → b < B) : Held4 bad w H (.slice none 0 0) (.slice none 0 0) s0 s1 [] [] eS eP := by
  have row : ∀ {T : Nat} {s : Value} {xs : List Value}, w.ownsRow B T 1 s xs.length xs → RowOf bad w s xs := fun {T s xs} hr => by
    rcases hr.2 with ⟨h1, h2⟩ | ⟨g, cap, cur, rfl, hB, hg, hn, _, hs, ht⟩
    · have : xs = [] := List.length_eq_zero_iff.1 h2
      subst this
      exact ⟨none, 0, h1, by simp⟩
    · refine ⟨some ⟨g, 0, none⟩, cap, rfl, fun j x hx => ⟨g, rfl, fun hc => by have := hb g hc; omega, (Array.getElem?_eq_some_iff.1 hg).1, ?_⟩⟩
      have hj := (List.getElem?_eq_some_iff.1 hx).1
      simp only [World.cell?, hg, Option.isSome_none, Bool.false_eq_true, if_false]
      rw [← Array.getElem?_toList, ← hx]
      conv => rhs; rw [← ht]
      rw [List.getElem?_take_of_lt (by omega)]
  exact ⟨h.block, fun hc => by have := hb H hc; have := h.geH; omega, ⟨none, 0, rfl, by simp⟩, ⟨none, 0, rfl, by simp⟩, row h.r0, row h.r1⟩
end Go.Proofs.YtnmnmkdmnohbmaaGreatDoor
