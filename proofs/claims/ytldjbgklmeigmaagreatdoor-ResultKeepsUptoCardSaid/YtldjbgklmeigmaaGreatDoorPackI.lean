/- Several texts in one: append of a whole list, nil or empty too, to a row of the call's own. Helper text: the lists of a value that lies in memory of its own, one by one, in the order in which they are gathered. Conditions: none. -/
import Derived.Test.YtldjbgklmeigmaaGreatDoorPackC
import Derived.Deep.AppendSrc
namespace Go.Proofs.YtldjbgklmeigmaaGreatDoor
open Go Go.RowKit

section
variable {P : Program} (w : World)

theorem run_append_y (base : Nat) (t ty e : TypeId) (i : TypeInfo) (z : Value) (size bytes : Nat) (ht : P.underlying t = some (.slice e)) (hi : P.info? e = some i) (hz : i.zero = some z)
    (hsize : i.size = size) (hby : i.bytes = bytes) (hzs : z.cells.size = size) (hsz : 0 < size)
    (v : Value) (n : Nat) (xs : List Value) (hown : w.ownsRow base e size v n xs)
    (p : Option Addr) (m c : Nat) (news : List Value) (hl : news.length = m * size) (h0 : p = none → m = 0) (hnews : ∀ a, p = some a → ∀ j u, news[j]? = some u → w.cell? (a.add j) = some u) (h1 : ∀ u ∈ news, u.oneCell' = true)
    (h63 : n + m ≤ maxLen) (hbytes : (n + m) * bytes ≤ 140737488355328) (hbase : base ≤ w.heap.size) :
    ∃ v' w', (Builtin.append_ #[t, t] ty #[v, .slice p m c]).run P w = .ok v' w' ∧ w'.ownsRow base e size v' (n + m) (xs ++ news) ∧ w.grownBy w' v.ownBlock := by
  cases p with
  | some a =>
    obtain ⟨v', w', h1, h2, h3, _⟩ := run_append_own (P := P) w base t ty e i z size bytes ht hi hz hsize hby hzs hsz v n xs hown a m c news hl (hnews a rfl) h1 h63 hbytes hbase
    exact ⟨v', w', h1, h2, h3⟩
  | none =>
    obtain rfl := h0 rfl
    obtain rfl : news = [] := List.eq_nil_of_length_eq_zero (by simpa using hl)
    rcases hown.2 with ⟨rfl, rfl⟩ | ⟨g, cap, cur, rfl, hbg, hg, hnc, hcm, hcs, htake⟩
    · refine ⟨.slice none 0 0, w, ?_, by simpa using hown, ⟨rfl, rfl, rfl, Nat.le_refl _, fun _ _ _ => rfl⟩⟩
      simp [Builtin.append_, run_underlying ht, sizeOf, typeInfo, hi, Builtin.lenOf, Builtin.firstCells]
    · have hr := run_append_room_src (P := P) w t t ty e i ht hi g 0 n cap (.slice none 0 c) 0 [] (Src.ofNil w ht c) (by omega) (by simp) (by simp)
      refine ⟨_, _, hr, ?_, ?_⟩
      · have : w.setCells g (0 + n * i.size) [] = w := by simp [World.setCells]
        rw [this]
        simpa using hown
      · have : w.setCells g (0 + n * i.size) [] = w := by simp [World.setCells]
        rw [this]
        exact ⟨rfl, rfl, rfl, Nat.le_refl _, fun _ _ _ => rfl⟩

variable {w}
end
end Go.Proofs.YtldjbgklmeigmaaGreatDoor

namespace Go.Proofs.YtldjbgklmeigmaaGreatDoor
open Go Go.RowKit

/-- A list: where its header stands, what the header holds. -/
structure Ent where
  hb : Nat
  ho : Nat
  p : Option Addr
  n : Nat
  c : Nat
def Ent.ptr (e : Ent) : Value := .pointer (some ⟨e.hb, e.ho, none⟩)
def Ent.sl (e : Ent) : Value := .slice e.p e.n e.c
/-- The blocks of lists that are not nil. -/
def blks (l : List Ent) : List Nat := l.filterMap (fun e => e.p.map (·.block))
theorem blks_append (a b : List Ent) : blks (a ++ b) = blks a ++ blks b := by simp [blks]
/-- A list's header and its block, elements of z cells of type T. -/
def EntAt (w : World) (T z : Nat) (e : Ent) : Prop :=
  w.cell? ⟨e.hb, e.ho, none⟩ = some e.sl ∧ ((e.n = 0 ∧ e.p = none ∧ e.c = 0) ∨ ∃ g cur, e.p = some ⟨g, 0, none⟩ ∧ w.heap[g]? = some (.cells cur T (0, 0)) ∧ cur.size = e.c * z ∧ e.n ≤ e.c ∧ e.c ≤ maxLen)

mutual
/-- v stands at (g, o); its lists of items and of members, in the order in which they are gathered. -/
def Laid (w : World) : V → Nat → Nat → List Ent → List Ent → Prop
  | .mk k b i f t ty its fs, g, o, eI, eF => ∃ p c q d i1 f1 i2 f2, CellsAt w g o (vcells k b i f t ty p its.length c q fs.length d) ∧ eI = ⟨g, o + 6, p, its.length, c⟩ :: (i1 ++ i2) ∧ eF = ⟨g, o + 7, q, fs.length, d⟩ :: (f1 ++ f2) ∧
      EntAt w 34 8 ⟨g, o + 6, p, its.length, c⟩ ∧ EntAt w 58 9 ⟨g, o + 7, q, fs.length, d⟩ ∧
      ((its = [] ∧ i1 = [] ∧ f1 = []) ∨ ∃ gi, p = some ⟨gi, 0, none⟩ ∧ LaidIs w its gi 0 i1 f1) ∧ ((fs = [] ∧ i2 = [] ∧ f2 = []) ∨ ∃ gf, q = some ⟨gf, 0, none⟩ ∧ LaidFs w fs gf 0 i2 f2)
def LaidIs (w : World) : List V → Nat → Nat → List Ent → List Ent → Prop
  | [], _, _, eI, eF => eI = [] ∧ eF = []
  | v :: r, g, o, eI, eF => ∃ i1 f1 i2 f2, eI = i1 ++ i2 ∧ eF = f1 ++ f2 ∧ Laid w v g o i1 f1 ∧ LaidIs w r g (o + 8) i2 f2
def LaidFs (w : World) : List (ByteArray × V) → Nat → Nat → List Ent → List Ent → Prop
  | [], _, _, eI, eF => eI = [] ∧ eF = []
  | x :: r, g, o, eI, eF => ∃ i1 f1 i2 f2, eI = i1 ++ i2 ∧ eF = f1 ++ f2 ∧ Laid w x.2 g (o + 1) i1 f1 ∧ LaidFs w r g (o + 9) i2 f2
end

theorem perm_blocks {a1 a2 f1 f2 b1 b2 : List Nat} (h1 : (a1 ++ f1).Perm b1) (h2 : (a2 ++ f2).Perm b2) : ((a1 ++ a2) ++ (f1 ++ f2)).Perm (b1 ++ b2) := by
  have : ((a1 ++ a2) ++ (f1 ++ f2)).Perm ((a1 ++ f1) ++ (a2 ++ f2)) := by
    rw [List.append_assoc, List.append_assoc]
    refine List.Perm.append_left a1 ?_
    rw [← List.append_assoc, ← List.append_assoc]
    exact List.Perm.append_right f2 List.perm_append_comm
  exact this.trans (h1.append h2)

mutual
theorem laid_of {w : World} : ∀ {v : V} {cs : Array Value} {bs : List Nat} {g o : Nat}, OwnV w v cs bs → CellsAt w g o cs → ∃ eI eF, Laid w v g o eI eF ∧ (blks eI ++ blks eF).Perm bs
  | .mk k b i f t ty its fs, cs, bs, g, o, h, hc => by
    obtain ⟨p, c, q, d, b1, b2, rfl, rfl, l1, l2, hi, hf⟩ := h
    have c6 : w.cell? ⟨g, o + 6, none⟩ = some (.slice p its.length c) := hc 6 _ rfl
    have c7 : w.cell? ⟨g, o + 7, none⟩ = some (.slice q fs.length d) := hc 7 _ rfl
    have HI : ∃ i1 f1, EntAt w 34 8 ⟨g, o + 6, p, its.length, c⟩ ∧ ((its = [] ∧ i1 = [] ∧ f1 = []) ∨ ∃ gi, p = some ⟨gi, 0, none⟩ ∧ LaidIs w its gi 0 i1 f1) ∧ ((p.map (·.block)).toList ++ (blks i1 ++ blks f1)).Perm b1 := by
      rcases hi with ⟨rfl, rfl, rfl, rfl⟩ | ⟨gi, br, cur, rfl, rfl, hb, hs, hn, hm, ho⟩
      · exact ⟨[], [], ⟨c6, .inl ⟨rfl, rfl, rfl⟩⟩, .inl ⟨rfl, rfl, rfl⟩, by simp [blks]⟩
      · obtain ⟨i1, f1, h1, h2⟩ := laidIs_of ho
        exact ⟨i1, f1, ⟨c6, .inr ⟨gi, cur, rfl, hb, hs, hn, hm⟩⟩, .inr ⟨gi, rfl, h1⟩, List.Perm.cons _ h2⟩
    have HF : ∃ i2 f2, EntAt w 58 9 ⟨g, o + 7, q, fs.length, d⟩ ∧ ((fs = [] ∧ i2 = [] ∧ f2 = []) ∨ ∃ gf, q = some ⟨gf, 0, none⟩ ∧ LaidFs w fs gf 0 i2 f2) ∧ ((q.map (·.block)).toList ++ (blks i2 ++ blks f2)).Perm b2 := by
      rcases hf with ⟨rfl, rfl, rfl, rfl⟩ | ⟨gf, br, cur, rfl, rfl, hb, hs, hn, hm, ho⟩
      · exact ⟨[], [], ⟨c7, .inl ⟨rfl, rfl, rfl⟩⟩, .inl ⟨rfl, rfl, rfl⟩, by simp [blks]⟩
      · obtain ⟨i2, f2, h1, h2⟩ := laidFs_of ho
        exact ⟨i2, f2, ⟨c7, .inr ⟨gf, cur, rfl, hb, hs, hn, hm⟩⟩, .inr ⟨gf, rfl, h1⟩, List.Perm.cons _ h2⟩
    obtain ⟨i1, f1, h1, h2, h3⟩ := HI
    obtain ⟨i2, f2, q1, q2, q3⟩ := HF
    refine ⟨_, _, ⟨p, c, q, d, i1, f1, i2, f2, hc, rfl, rfl, h1, q1, h2, q2⟩, ?_⟩
    have e1 : blks (⟨g, o + 6, p, its.length, c⟩ :: (i1 ++ i2)) = (p.map (·.block)).toList ++ (blks i1 ++ blks i2) := by
      cases p <;> simp [blks]
    have e2 : blks (⟨g, o + 7, q, fs.length, d⟩ :: (f1 ++ f2)) = (q.map (·.block)).toList ++ (blks f1 ++ blks f2) := by
      cases q <;> simp [blks]
    rw [e1, e2]
    have h3' : (((p.map (·.block)).toList ++ blks i1) ++ blks f1).Perm b1 := by rw [List.append_assoc]; exact h3
    have q3' : (blks i2 ++ ((q.map (·.block)).toList ++ blks f2)).Perm b2 := by
      refine List.Perm.trans ?_ q3
      rw [← List.append_assoc, ← List.append_assoc]
      exact List.Perm.append_right _ List.perm_append_comm
    have := perm_blocks h3' q3'
    simp only [List.append_assoc] at this ⊢
    refine List.Perm.trans (List.Perm.append_left _ (List.Perm.append_left _ (List.Perm.append_left _ ?_))) this
    rw [← List.append_assoc, ← List.append_assoc]
    exact List.Perm.append_right _ List.perm_append_comm
theorem laidIs_of {w : World} : ∀ {l : List V} {g o : Nat} {bs : List Nat}, OwnVs w l g o bs → ∃ eI eF, LaidIs w l g o eI eF ∧ (blks eI ++ blks eF).Perm bs
  | [], _, _, bs, h => ⟨[], [], ⟨rfl, rfl⟩, by rw [h]; simp [blks]⟩
  | v :: r, g, o, bs, h => by
    obtain ⟨b1, b2, cs, rfl, h1, h2, h3⟩ := h
    obtain ⟨i1, f1, q1, q2⟩ := laid_of h2 h1
    obtain ⟨i2, f2, q3, q4⟩ := laidIs_of h3
    exact ⟨_, _, ⟨i1, f1, i2, f2, rfl, rfl, q1, q3⟩, by rw [blks_append, blks_append]; exact perm_blocks q2 q4⟩
theorem laidFs_of {w : World} : ∀ {l : List (ByteArray × V)} {g o : Nat} {bs : List Nat}, OwnFs w l g o bs → ∃ eI eF, LaidFs w l g o eI eF ∧ (blks eI ++ blks eF).Perm bs
  | [], _, _, bs, h => ⟨[], [], ⟨rfl, rfl⟩, by rw [h]; simp [blks]⟩
  | x :: r, g, o, bs, h => by
    obtain ⟨b1, b2, cs, rfl, h1, h2, h3, h4⟩ := h
    obtain ⟨i1, f1, q1, q2⟩ := laid_of h3 h2
    obtain ⟨i2, f2, q3, q4⟩ := laidFs_of h4
    exact ⟨_, _, ⟨i1, f1, i2, f2, rfl, rfl, q1, q3⟩, by rw [blks_append, blks_append]; exact perm_blocks q2 q4⟩
end
theorem EntAt.below {B : Nat} {w w' : World} {T z : Nat} {e : Ent} (h : EntAt w T z e) (hb : Below B w w') (h1 : e.hb < B) (h2 : ∀ b, e.p.map (·.block) = some b → b < B) : EntAt w' T z e := by
  refine ⟨(hb.cell (p := ⟨e.hb, e.ho, none⟩) h1).trans h.1, ?_⟩
  rcases h.2 with h0 | ⟨g, cur, q1, q2, q3⟩
  · exact .inl h0
  · exact .inr ⟨g, cur, q1, (hb.block g (h2 g (by rw [q1]; rfl))).trans q2, q3⟩
mutual
theorem Laid.below {B : Nat} {w w' : World} (hb : Below B w w') : ∀ {v : V} {g o : Nat} {eI eF : List Ent}, Laid w v g o eI eF → g < B → (∀ b, b ∈ blks eI ∨ b ∈ blks eF → b < B) → Laid w' v g o eI eF
  | .mk k b i f t ty its fs, g, o, eI, eF, h, hg, hs => by
    obtain ⟨p, c, q, d, i1, f1, i2, f2, hc, rfl, rfl, h1, h2, h3, h4⟩ := h
    have e1 : blks (⟨g, o + 6, p, its.length, c⟩ :: (i1 ++ i2)) = (p.map (·.block)).toList ++ (blks i1 ++ blks i2) := by cases p <;> simp [blks]
    have e2 : blks (⟨g, o + 7, q, fs.length, d⟩ :: (f1 ++ f2)) = (q.map (·.block)).toList ++ (blks f1 ++ blks f2) := by cases q <;> simp [blks]
    rw [e1, e2] at hs
    have hp : ∀ b, p.map (·.block) = some b → b < B := fun b e => hs b (.inl (by simp [e]))
    have hq : ∀ b, q.map (·.block) = some b → b < B := fun b e => hs b (.inr (by simp [e]))
    refine ⟨p, c, q, d, i1, f1, i2, f2, hc.below hb hg, rfl, rfl, h1.below hb hg hp, h2.below hb hg hq, ?_, ?_⟩
    · rcases h3 with h3 | ⟨gi, rfl, h3⟩
      · exact .inl h3
      · exact .inr ⟨gi, rfl, h3.below hb (hp gi rfl) (fun b hb' => hs b (by rcases hb' with e | e; exact .inl (by simp [e]); exact .inr (by simp [e])))⟩
    · rcases h4 with h4 | ⟨gf, rfl, h4⟩
      · exact .inl h4
      · exact .inr ⟨gf, rfl, h4.below hb (hq gf rfl) (fun b hb' => hs b (by rcases hb' with e | e; exact .inl (by simp [e]); exact .inr (by simp [e])))⟩
theorem LaidIs.below {B : Nat} {w w' : World} (hb : Below B w w') : ∀ {l : List V} {g o : Nat} {eI eF : List Ent}, LaidIs w l g o eI eF → g < B → (∀ b, b ∈ blks eI ∨ b ∈ blks eF → b < B) → LaidIs w' l g o eI eF
  | [], _, _, _, _, h, _, _ => h
  | v :: r, g, o, eI, eF, h, hg, hs => by
    obtain ⟨i1, f1, i2, f2, rfl, rfl, h1, h2⟩ := h
    simp only [blks_append, List.mem_append] at hs
    exact ⟨i1, f1, i2, f2, rfl, rfl, h1.below hb hg (fun b hb' => hs b (by rcases hb' with e | e; exact .inl (.inl e); exact .inr (.inl e))), h2.below hb hg (fun b hb' => hs b (by rcases hb' with e | e; exact .inl (.inr e); exact .inr (.inr e)))⟩
theorem LaidFs.below {B : Nat} {w w' : World} (hb : Below B w w') : ∀ {l : List (ByteArray × V)} {g o : Nat} {eI eF : List Ent}, LaidFs w l g o eI eF → g < B → (∀ b, b ∈ blks eI ∨ b ∈ blks eF → b < B) → LaidFs w' l g o eI eF
  | [], _, _, _, _, h, _, _ => h
  | x :: r, g, o, eI, eF, h, hg, hs => by
    obtain ⟨i1, f1, i2, f2, rfl, rfl, h1, h2⟩ := h
    simp only [blks_append, List.mem_append] at hs
    exact ⟨i1, f1, i2, f2, rfl, rfl, h1.below hb hg (fun b hb' => hs b (by rcases hb' with e | e; exact .inl (.inl e); exact .inr (.inl e))), h2.below hb hg (fun b hb' => hs b (by rcases hb' with e | e; exact .inl (.inr e); exact .inr (.inr e)))⟩
end
theorem LaidIs.step {w : World} {l : List V} {g o : Nat} {eI eF : List Ent} {j : Nat} {v : V} (h : LaidIs w (l.drop j) g o eI eF) (hv : l[j]? = some v) :
    ∃ i1 f1 i2 f2, eI = i1 ++ i2 ∧ eF = f1 ++ f2 ∧ Laid w v g o i1 f1 ∧ LaidIs w (l.drop (j + 1)) g (o + 8) i2 f2 := by
  rw [drop_some hv] at h
  exact h
theorem LaidFs.step {w : World} {l : List (ByteArray × V)} {g o : Nat} {eI eF : List Ent} {j : Nat} {x : ByteArray × V} (h : LaidFs w (l.drop j) g o eI eF) (hv : l[j]? = some x) :
    ∃ i1 f1 i2 f2, eI = i1 ++ i2 ∧ eF = f1 ++ f2 ∧ Laid w x.2 g (o + 1) i1 f1 ∧ LaidFs w (l.drop (j + 1)) g (o + 9) i2 f2 := by
  rw [drop_some hv] at h
  exact h
mutual
theorem laid_len {w : World} : ∀ {v : V} {g o : Nat} {eI eF : List Ent}, Laid w v g o eI eF → eI.length ≤ szV v ∧ eF.length ≤ szV v
  | .mk k b i f t ty its fs, g, o, eI, eF, h => by
    obtain ⟨p, c, q, d, i1, f1, i2, f2, _, rfl, rfl, _, _, h3, h4⟩ := h
    have a1 : i1.length ≤ szV.szVs its ∧ f1.length ≤ szV.szVs its := by
      rcases h3 with ⟨_, rfl, rfl⟩ | ⟨_, _, h3⟩
      · simp
      · exact laidIs_len h3
    have a2 : i2.length ≤ szV.szFs fs ∧ f2.length ≤ szV.szFs fs := by
      rcases h4 with ⟨_, rfl, rfl⟩ | ⟨_, _, h4⟩
      · simp
      · exact laidFs_len h4
    simp only [szV, List.length_cons, List.length_append]
    omega
theorem laidIs_len {w : World} : ∀ {l : List V} {g o : Nat} {eI eF : List Ent}, LaidIs w l g o eI eF → eI.length ≤ szV.szVs l ∧ eF.length ≤ szV.szVs l
  | [], _, _, _, _, h => by rw [h.1, h.2]; simp
  | v :: r, g, o, eI, eF, h => by
    obtain ⟨i1, f1, i2, f2, rfl, rfl, h1, h2⟩ := h
    have := laid_len h1
    have := laidIs_len h2
    simp only [szV.szVs, List.length_append]
    omega
theorem laidFs_len {w : World} : ∀ {l : List (ByteArray × V)} {g o : Nat} {eI eF : List Ent}, LaidFs w l g o eI eF → eI.length ≤ szV.szFs l ∧ eF.length ≤ szV.szFs l
  | [], _, _, _, _, h => by rw [h.1, h.2]; simp
  | x :: r, g, o, eI, eF, h => by
    obtain ⟨i1, f1, i2, f2, rfl, rfl, h1, h2⟩ := h
    have := laid_len h1
    have := laidFs_len h2
    simp only [szV.szFs, List.length_append]
    omega
end
end Go.Proofs.YtldjbgklmeigmaaGreatDoor
