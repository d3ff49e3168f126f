/- Faults in memory; the program's order of faults. Conditions: none. -/
import Derived.Test.YtnmnmkdmnohbmaaGrew
import Derived.Test.YtnmnmkdmnohbmaaCOrd
import Derived.Lib.Hide
namespace Go.Proofs.Ytnmnmkdmnohbmaa
open Go.RowKit

structure Fl where
  k : Int
  pos : List (Int × Int)
  path : List St

/-- A fault in memory: what it is, and the values of its two lists. -/
structure LF where
  f : Fl
  pv : Value
  qv : Value

@[reducible] def LF.cells (x : LF) : Array Value := #[.int .i64 x.f.k, x.pv, x.qv]

def cmpPos1 (p q : Int × Int) : Int := if cmpI p.1 q.1 = 0 then cmpI p.2 q.2 else cmpI p.1 q.1
def cmpF (x y : Fl) : Int := if cmpI x.k y.k = 0 then (if lexL cmpPos1 x.pos y.pos = 0 then cmpP x.path y.path else lexL cmpPos1 x.pos y.pos) else cmpI x.k y.k

theorem cmpPos1_ord : OrdC cmpPos1 := (cmpI_ord.comap (fun p : Int × Int => p.1)).lex (cmpI_ord.comap (fun p : Int × Int => p.2))
theorem cmpF_ord : OrdC cmpF := (cmpI_ord.comap (fun x : Fl => x.k)).lex (((lexL_ord cmpPos1_ord).comap (fun x : Fl => x.pos)).lex (cmpP_ord.comap (fun x : Fl => x.path)))

theorem cmpPos1_zero {p q : Int × Int} : cmpPos1 p q = 0 ↔ p = q := by
  obtain ⟨a, b⟩ := p
  obtain ⟨c, d⟩ := q
  unfold cmpPos1
  by_cases h : a = c
  · subst h
    simp [cmpI_zero]
  · have : ¬ cmpI a c = 0 := fun e => h (cmpI_zero.1 e)
    simp [this, h]

/-- Where places lie. -/
def PosAt (B : Nat) (w : World) (p : Option Addr) (l : List (Int × Int)) : Prop :=
  l = [] ∨ ∃ b o, p = some ⟨b, o, none⟩ ∧ b < B ∧ ∀ i s, l[i]? = some s → w.cell? ⟨b, o + i * 2, none⟩ = some (.int .i64 s.1) ∧ w.cell? ⟨b, o + i * 2 + 1, none⟩ = some (.int .i64 s.2)

theorem PosAt.below {B : Nat} {w w' : World} {p : Option Addr} {l : List (Int × Int)} (h : PosAt B w p l) (hb : Below B w w') : PosAt B w' p l := by
  rcases h with h | ⟨b, o, rfl, hB, hc⟩
  · exact .inl h
  · refine .inr ⟨b, o, rfl, hB, fun i s hs => ?_⟩
    obtain ⟨h1, h2⟩ := hc i s hs
    exact ⟨(hb.cell (p := ⟨b, _, none⟩) hB).trans h1, (hb.cell (p := ⟨b, _, none⟩) hB).trans h2⟩
theorem PosAt.up {B B' : Nat} {w : World} {p : Option Addr} {l : List (Int × Int)} (h : PosAt B w p l) (hB : B ≤ B') : PosAt B' w p l := by
  rcases h with h | ⟨b, o, rfl, hb, hc⟩
  · exact .inl h
  · exact .inr ⟨b, o, rfl, Nat.lt_of_lt_of_le hb hB, hc⟩
theorem StepsAt.up {B B' : Nat} {w : World} {p : Option Addr} {l : List St} (h : StepsAt B w p l) (hB : B ≤ B') : StepsAt B' w p l := by
  rcases h with h | ⟨b, o, rfl, hb, hc⟩
  · exact .inl h
  · exact .inr ⟨b, o, rfl, Nat.lt_of_lt_of_le hb hB, hc⟩

def big : Nat := 4194304
/-- The two lists of a fault lie below block B. -/
def LOk (B : Nat) (w : World) (x : LF) : Prop :=
  (∃ p c, x.pv = .slice p x.f.pos.length c ∧ PosAt B w p x.f.pos ∧ x.f.pos.length ≤ big) ∧ ∃ q d, x.qv = .slice q x.f.path.length d ∧ StepsAt B w q x.f.path ∧ x.f.path.length ≤ big

theorem LOk.below {B : Nat} {w w' : World} {x : LF} (h : LOk B w x) (hb : Below B w w') : LOk B w' x := by
  obtain ⟨⟨p, c, h1, h2, h3⟩, q, d, h4, h5, h6⟩ := h
  exact ⟨⟨p, c, h1, h2.below hb, h3⟩, q, d, h4, h5.below hb, h6⟩
theorem LOk.mono {B B' : Nat} {w : World} {x : LF} (h : LOk B w x) (hB : B ≤ B') : LOk B' w x := by
  obtain ⟨⟨p, c, h1, h2, h3⟩, q, d, h4, h5, h6⟩ := h
  exact ⟨⟨p, c, h1, h2.up hB, h3⟩, q, d, h4, h5.up hB, h6⟩

theorem isNaN_e (a : Int) (w : World) : Calls Try.prog 104 #[.int .i64 a] w (RetS (.bool false) w) := by
  go_enter Try.func104, Try.ntmps104
  go_wp2
  go_ret
  exact ⟨by simp, rfl⟩

theorem compare_e (a b : Int) (w : World) : Calls Try.prog 88 #[.int .i64 a, .int .i64 b] w (RetS (.int .i64 (cmpI a b)) w) := by
  go_enter Try.func88, Try.ntmps88
  go_wp2_with (first | (go_at_call 104; refine (isNaN_e _ _).mono ?_; rintro e w' ⟨rfl, rfl⟩))
  · go_ret; exact ⟨ret_eq (by rw [cmpI_lt ‹_›]; rfl), rfl⟩
  · go_ret; exact ⟨ret_eq (by rw [cmpI_gt ‹_›]; rfl), rfl⟩
  · go_ret; exact ⟨ret_eq (by rw [cmpI_eq ‹_› ‹_›]; rfl), rfl⟩

theorem place1_g (p q : Int × Int) (w : World) : Calls Try.prog 106 #[.agg #[.int .i64 p.1, .int .i64 p.2], .agg #[.int .i64 q.1, .int .i64 q.2]] w (RetG (.int .i64 (cmpPos1 p q)) w) := by
  obtain ⟨a, b⟩ := p
  obtain ⟨c, d⟩ := q
  by_cases h : a = c
  · subst h
    have e : cmpPos1 (a, b) (a, d) = cmpI b d := by unfold cmpPos1; rw [if_pos (cmpI_zero.2 rfl)]
    rw [e]
    go_enter Try.func106, Try.ntmps106
    go_wp2_with (first | (go_at_call 58; refine (compare_int _ _ _).mono ?_; rintro e w' ⟨rfl, rfl⟩))
    go_ret
    exact ⟨rfl, (Grew.alloc _ _).trans (Grew.alloc _ _)⟩
  · have e : cmpPos1 (a, b) (c, d) = cmpI a c := by unfold cmpPos1; rw [if_neg (fun e => h (cmpI_zero.1 e))]
    rw [e]
    go_enter Try.func106, Try.ntmps106
    go_wp2_with (first | (go_at_call 58; refine (compare_int _ _ _).mono ?_; rintro e w' ⟨rfl, rfl⟩))
    go_ret
    exact ⟨rfl, (Grew.alloc _ _).trans (Grew.alloc _ _)⟩

theorem lexL_step {α : Type} {c : α → α → Int} {a b : List α} {k : Nat} {x y : α} (hx : a[k]? = some x) (hy : b[k]? = some y) (h0 : c x y = 0) (h : lexL c (a.drop k) (b.drop k) = lexL c a b) : lexL c (a.drop (k + 1)) (b.drop (k + 1)) = lexL c a b := by
  rw [← h, drop_some hx, drop_some hy, lexL, if_pos h0]
theorem lexL_stop {α : Type} {c : α → α → Int} {a b : List α} {k : Nat} {x y : α} (hx : a[k]? = some x) (hy : b[k]? = some y) (h0 : ¬ c x y = 0) (h : lexL c (a.drop k) (b.drop k) = lexL c a b) : c x y = lexL c a b := by
  rw [← h, drop_some hx, drop_some hy, lexL, if_neg h0]
theorem lexL_long {α : Type} {c : α → α → Int} {a b : List α} {k : Nat} (ha : k < a.length) (hb : ¬ k < b.length) (h : lexL c (a.drop k) (b.drop k) = lexL c a b) : lexL c a b = 1 := by
  rw [← h, List.drop_eq_nil_iff.2 (by omega : b.length ≤ k)]
  cases e : a.drop k with
  | nil => have := List.drop_eq_nil_iff.1 e; omega
  | cons => rfl
theorem lexL_short {α : Type} {c : α → α → Int} {a b : List α} {k : Nat} (ha : ¬ k < a.length) (hb : k < b.length) (h : lexL c (a.drop k) (b.drop k) = lexL c a b) : lexL c a b = -1 := by
  rw [← h, List.drop_eq_nil_iff.2 (by omega : a.length ≤ k)]
  cases e : b.drop k with
  | nil => have := List.drop_eq_nil_iff.1 e; omega
  | cons => rfl
theorem lexL_both {α : Type} {c : α → α → Int} {a b : List α} {k : Nat} (ha : ¬ k < a.length) (hb : ¬ k < b.length) (h : lexL c (a.drop k) (b.drop k) = lexL c a b) : lexL c a b = 0 := by
  rw [← h, List.drop_eq_nil_iff.2 (by omega : a.length ≤ k), List.drop_eq_nil_iff.2 (by omega : b.length ≤ k)]
  rfl

set_option maxRecDepth 100000 in
set_option maxHeartbeats 2000000 in
theorem CompareFunc_g (a b : List (Int × Int)) (p q : Option Addr) (c d : Nat) (w : World) (ha : PosAt w.heap.size w p a) (hb : PosAt w.heap.size w q b) (la : a.length ≤ big) (lb : b.length ≤ big) :
    Calls Try.prog 105 #[.slice p a.length c, .slice q b.length d, .func (.func 106) #[] #[]] w (RetG (.int .i64 (lexL cmpPos1 a b)) w) := by
  unfold big at la lb
  go_enter Try.func105, Try.ntmps105
  go_wp2
  go_loopw [13] (fun i wr => ∃ k : Nat, k ≤ a.length ∧ k ≤ b.length ∧ i = .int .i64 k ∧ Hid (lexL cmpPos1 (a.drop k) (b.drop k) = lexL cmpPos1 a b) ∧ Hid (Grew w wr)) (fun i _ => a.length - (intOf i).toNat)
  case atStart => exact ⟨0, Nat.zero_le _, Nat.zero_le _, rfl, rfl, Lib.hid (Grew.refl _)⟩
  case round =>
    obtain ⟨k, hka, hkb, rfl, hcmp, HG⟩ := hrel
    by_cases h1 : k < a.length
    · obtain ⟨x, hx⟩ : ∃ x, a[k]? = some x := ⟨a[k], by simp [h1]⟩
      rcases ha with ha | ⟨ba, oa, rfl, hBa, hca⟩
      · subst ha; simp at h1
      obtain ⟨a1, a2⟩ := hca k x hx
      have hbel := HG.out.below
      have a1' := (hbel.cell (p := ⟨ba, oa + k * 2, none⟩) hBa).trans a1
      have a2' := (hbel.cell (p := ⟨ba, oa + k * 2 + 1, none⟩) hBa).trans a2
      by_cases h2 : k < b.length
      · obtain ⟨y, hy⟩ : ∃ y, b[k]? = some y := ⟨b[k], by simp [h2]⟩
        rcases hb with hb | ⟨bb, ob, rfl, hBb, hcb⟩
        · subst hb; simp at h2
        obtain ⟨b1, b2⟩ := hcb k y hy
        have b1' := (hbel.cell (p := ⟨bb, ob + k * 2, none⟩) hBb).trans b1
        have b2' := (hbel.cell (p := ⟨bb, ob + k * 2 + 1, none⟩) hBb).trans b2
        have hbb : bb < wr.heap.size := Nat.lt_of_lt_of_le hBb hbel.size
        have HX := Lib.hid hx
        have HY := Lib.hid hy
        obtain ⟨x1, x2⟩ := x
        obtain ⟨y1, y2⟩ := y
        have C1 := Lib.hid (fun W => place1_g (x1, x2) (y1, y2) W)
        obtain ⟨r, hr⟩ : ∃ r, cmpPos1 (x1, x2) (y1, y2) = r := ⟨_, rfl⟩
        rw [hr] at C1
        have HR := Lib.hid hr
        clear hca hcb hx hy a1 a2 b1 b2 hbel hr
        by_cases h0 : r = 0
        · subst h0
          go_wp2_with (go_at_call 106; refine (C1.out _).mono ?_; rintro e w1 ⟨rfl, hg1⟩; have HG1 := Lib.hid hg1; clear hg1)
          go_roundw
          case rel => exact ⟨k + 1, by omega, by omega, by go_num, lexL_step HX.out HY.out HR.out hcmp.out, Lib.hid (((HG.out.trans (Grew.alloc _ _)).trans (Grew.alloc _ _)).trans HG1.out)⟩
          case measure => simp [intOf]; omega
        · go_wp2_with (go_at_call 106; refine (C1.out _).mono ?_; rintro e w1 ⟨rfl, hg1⟩; have HG1 := Lib.hid hg1; clear hg1)
          go_ret
          exact ⟨ret_eq (by rw [← lexL_stop HX.out HY.out (by rw [HR.out]; exact h0) hcmp.out, HR.out]; rfl), ((HG.out.trans (Grew.alloc _ _)).trans (Grew.alloc _ _)).trans HG1.out⟩
      · clear hca hx a1 a2 hbel
        go_wp2
        go_ret
        exact ⟨ret_eq (by rw [lexL_long h1 h2 hcmp.out]; rfl), HG.out.trans (Grew.alloc _ _)⟩
    · by_cases h2 : k < b.length
      · go_wp2
        go_ret
        exact ⟨ret_eq (by rw [lexL_short h1 h2 hcmp.out]; rfl), HG.out⟩
      · go_wp2
        go_ret
        exact ⟨ret_eq (by rw [lexL_both h1 h2 hcmp.out]; rfl), HG.out⟩

theorem placeOrder_g (a b : List (Int × Int)) (p q : Option Addr) (c d : Nat) (w : World) (ha : PosAt w.heap.size w p a) (hb : PosAt w.heap.size w q b) (la : a.length ≤ big) (lb : b.length ≤ big) :
    Calls Try.prog 89 #[.slice p a.length c, .slice q b.length d] w (RetG (.int .i64 (lexL cmpPos1 a b)) w) := by
  have C1 := Lib.hid (CompareFunc_g a b p q c d w ha hb la lb)
  clear ha hb
  go_enter Try.func89, Try.ntmps89
  go_wp2_with (go_at_call 105; refine C1.out.mono ?_; rintro e w1 ⟨rfl, hg1⟩)
  go_ret
  exact ⟨rfl, hg1⟩

set_option maxRecDepth 100000 in
set_option maxHeartbeats 1000000 in
theorem faultOrder_g (x y : LF) (B : Nat) (w : World) (hx : LOk B w x) (hy : LOk B w y) (hB : B ≤ w.heap.size) :
    Calls Try.prog 77 #[.agg x.cells, .agg y.cells] w (RetG (.int .i64 (cmpF x.f y.f)) w) := by
  obtain ⟨⟨k, pos, path⟩, pv, qv⟩ := x
  obtain ⟨⟨k', pos', path'⟩, pv', qv'⟩ := y
  obtain ⟨⟨p, c, h1, h2, h3⟩, q, d, h4, h5, h6⟩ := hx
  obtain ⟨⟨p', c', h1', h2', h3'⟩, q', d', h4', h5', h6'⟩ := hy
  dsimp only at *
  subst h1 h4 h1' h4'
  by_cases hk : k = k'
  · subst hk
    have e : cmpF ⟨k, pos, path⟩ ⟨k, pos', path'⟩ = if lexL cmpPos1 pos pos' = 0 then cmpP path path' else lexL cmpPos1 pos pos' := by unfold cmpF; rw [if_pos (cmpI_zero.2 rfl)]
    rw [e]
    have C1 : Hid (∀ W, Below w.heap.size w W → Calls Try.prog 89 #[.slice p pos.length c, .slice p' pos'.length c'] W (RetG (.int .i64 (lexL cmpPos1 pos pos')) W)) := Lib.hid (fun W h => placeOrder_g pos pos' p p' c c' W ((h2.up hB).below h |>.up h.size) ((h2'.up hB).below h |>.up h.size) h3 h3')
    have C2 : Hid (∀ W, Below w.heap.size w W → Calls Try.prog 21 #[.slice q path.length d, .slice q' path'.length d'] W (RetG (.int .i64 (cmpP path path')) W)) := Lib.hid (fun W h => Compare_g path path' q q' d d' W ((h5.up hB).below h |>.up h.size) ((h5'.up hB).below h |>.up h.size) (by unfold big at h6; unfold maxLen; omega) (by unfold big at h6'; unfold maxLen; omega))
    clear h2 h5 h2' h5' h3 h6 h3' h6' e
    generalize lexL cmpPos1 pos pos' = r at *
    generalize cmpP path path' = s at *
    have hbb : Below w.heap.size w ((w.alloc (.cells #[.int .i64 k, .slice p pos.length c, .slice q path.length d] 91)).alloc (.cells #[.int .i64 k, .slice p' pos'.length c', .slice q' path'.length d'] 91)) := ((Below.refl _ _).alloc (Nat.le_refl _) _).alloc (by simp) _
    have hcx : ((w.alloc (.cells #[.int .i64 k, .slice p pos.length c, .slice q path.length d] 91)).alloc (.cells #[.int .i64 k, .slice p' pos'.length c', .slice q' path'.length d'] 91)).heap[w.heap.size]? = some (.cells #[.int .i64 k, .slice p pos.length c, .slice q path.length d] 91 (0, 0)) := by
      rw [Below.heap_alloc _ _ _ (by simp)]
      exact heap_new w _
    have hcy : ((w.alloc (.cells #[.int .i64 k, .slice p pos.length c, .slice q path.length d] 91)).alloc (.cells #[.int .i64 k, .slice p' pos'.length c', .slice q' path'.length d'] 91)).heap[w.heap.size + 1]? = some (.cells #[.int .i64 k, .slice p' pos'.length c', .slice q' path'.length d'] 91 (0, 0)) := by
      have := heap_new (w.alloc (.cells #[.int .i64 k, .slice p pos.length c, .slice q path.length d] 91)) (.cells #[.int .i64 k, .slice p' pos'.length c', .slice q' path'.length d'] 91)
      rwa [World.size_alloc] at this
    have HBB := Lib.hid hbb
    have HCX : Hid (∀ w1, Grew ((w.alloc (.cells #[.int .i64 k, .slice p pos.length c, .slice q path.length d] 91)).alloc (.cells #[.int .i64 k, .slice p' pos'.length c', .slice q' path'.length d'] 91)) w1 → w1.cell? ⟨w.heap.size, 2, none⟩ = some (.slice q path.length d) ∧ w1.cell? ⟨w.heap.size + 1, 2, none⟩ = some (.slice q' path'.length d')) := Lib.hid (fun w1 hg => by
      have h1 := (hg.below.block _ (Array.getElem?_eq_some_iff.1 hcx).1).trans hcx
      have h2 := (hg.below.block _ (Array.getElem?_eq_some_iff.1 hcy).1).trans hcy
      exact ⟨by simp [World.cell?, h1], by simp [World.cell?, h2]⟩)
    clear hbb hcx hcy
    by_cases hr : r = 0
    · subst hr
      rw [if_pos rfl]
      go_enter Try.func77, Try.ntmps77
      go_wp2_with (first
        | (go_at_call 89; refine (C1.out _ HBB.out).mono ?_; rintro e w1 ⟨rfl, hg1⟩; have HG1 := Lib.hid hg1; obtain ⟨qx, qy⟩ := HCX.out _ hg1; clear hg1)
        | (go_at_call 21; refine (C2.out _ (HBB.out.trans (HG1.out.below.mono HBB.out.size))).mono ?_; rintro e w2 ⟨rfl, hg2⟩; have HG2 := Lib.hid hg2; clear hg2))
      go_ret
      exact ⟨rfl, (((Grew.alloc _ _).trans (Grew.alloc _ _)).trans HG1.out).trans HG2.out⟩
    · rw [if_neg hr]
      go_enter Try.func77, Try.ntmps77
      go_wp2_with (first
        | (go_at_call 89; refine (C1.out _ HBB.out).mono ?_; rintro e w1 ⟨rfl, hg1⟩; have HG1 := Lib.hid hg1; obtain ⟨qx, qy⟩ := HCX.out _ hg1; clear hg1)
        | (go_at_call 21; refine (C2.out _ (HBB.out.trans (HG1.out.below.mono HBB.out.size))).mono ?_; rintro e w2 ⟨rfl, hg2⟩; have HG2 := Lib.hid hg2; clear hg2))
      go_ret
      exact ⟨rfl, ((Grew.alloc _ _).trans (Grew.alloc _ _)).trans HG1.out⟩
  · have e : cmpF ⟨k, pos, path⟩ ⟨k', pos', path'⟩ = cmpI k k' := by unfold cmpF; rw [if_neg (fun e => hk (cmpI_zero.1 e))]
    rw [e]
    clear h2 h5 h2' h5' e
    go_enter Try.func77, Try.ntmps77
    go_wp2_with (go_at_call 88; refine (compare_e _ _ _).mono ?_; rintro e w1 ⟨rfl, rfl⟩)
    go_ret
    exact ⟨rfl, (Grew.alloc _ _).trans (Grew.alloc _ _)⟩
end Go.Proofs.Ytnmnmkdmnohbmaa
