/- Helper text: walks over the path functions of tree and of the reference: bare, stepOrder, Compare, Under. Conditions: none. -/
import Derived.Test.YtnmnmkdmnohbmaaDoorProg
import Derived.Test.YtnmnmkdmnohbmaaDoorDraw
import Derived.WalkKit
import Derived.WalkSpells
import Derived.WalkLawsBesides
import Derived.Lib.Hide
import Derived.BigQuiet
namespace Go.Proofs.YtnmnmkdmnohbmaaDoor
open Go.RowKit

/-- The post of most contracts: it returns v and nothing that lay there has turned. -/
def RetB (v : Value) (w : World) (e : Ending) (w' : World) : Prop := e = .returned v ∧ Below w.heap.size w w'
/-- It returns v and the world is the same. -/
def RetS (v : Value) (w : World) (e : Ending) (w' : World) : Prop := e = .returned v ∧ w = w'

structure St where
  nm : ByteArray
  ix : Int
  it : Bool

def St.cells (s : St) : Array Value := #[.string s.nm, .int .i64 s.ix, .bool s.it]

def cmpI (a b : Int) : Int := if a < b then -1 else if b < a then 1 else 0
def cmpS (a b : ByteArray) : Int := if Op.bytesLess a.toList b.toList = true then -1 else if a.toList == b.toList then 0 else 1

theorem cmpI_lt {a b : Int} (h : a < b) : cmpI a b = -1 := by unfold cmpI; rw [if_pos h]
theorem cmpI_gt {a b : Int} (h : b < a) : cmpI a b = 1 := by unfold cmpI; rw [if_neg (by omega), if_pos h]
theorem cmpI_eq {a b : Int} (h : a ≤ b) (h' : b ≤ a) : cmpI a b = 0 := by unfold cmpI; rw [if_neg (by omega), if_neg (by omega)]

theorem ret_eq {a b : Value} (h : a = b) : Ending.returned a = .returned b := by rw [h]

theorem isNaN_int (a : Int) (w : World) : Calls Tryd.prog 109 #[.int .i64 a] w (RetS (.bool false) w) := by
  go_enter Tryd.func109, Tryd.ntmps109
  go_wp2
  go_ret
  exact ⟨by simp, rfl⟩

theorem compare_int (a b : Int) (w : World) : Calls Tryd.prog 79 #[.int .i64 a, .int .i64 b] w (RetS (.int .i64 (cmpI a b)) w) := by
  go_enter Tryd.func79, Tryd.ntmps79
  go_wp2_with (first | (go_at_call 109; refine (isNaN_int _ _).mono ?_; rintro e w' ⟨rfl, rfl⟩))
  · go_ret; exact ⟨ret_eq (by rw [cmpI_lt ‹_›]; rfl), rfl⟩
  · go_ret; exact ⟨ret_eq (by rw [cmpI_gt ‹_›]; rfl), rfl⟩
  · go_ret; exact ⟨ret_eq (by rw [cmpI_eq ‹_› ‹_›]; rfl), rfl⟩

theorem isNaN_str (a : ByteArray) (w : World) : Calls Tryd.prog 123 #[.string a] w (RetS (.bool false) w) := by
  go_enter Tryd.func123, Tryd.ntmps123
  go_wp2
  go_ret
  exact ⟨by simp, rfl⟩

theorem compare_str (a b : ByteArray) (w : World) : Calls Tryd.prog 108 #[.string a, .string b] w (RetS (.int .i64 (cmpS a b)) w) := by
  go_enter Tryd.func108, Tryd.ntmps108
  go_wp2_with (first | (go_at_call 123; refine (isNaN_str _ _).mono ?_; rintro e w' ⟨rfl, rfl⟩))
  · go_ret; exact ⟨ret_eq (by simp [cmpS, *]), rfl⟩
  · go_ret; exact ⟨ret_eq (by simp_all [cmpS]), rfl⟩
  · go_ret; exact ⟨ret_eq (by simp_all [cmpS]), rfl⟩

def bareS (s : St) : St := if s.it then ⟨ByteArray.empty, s.ix, true⟩ else ⟨s.nm, 0, false⟩

attribute [local go_sem] St.cells

theorem close_cell {fn : Func} {a : Act} {w w' : World} {v u : Value} (hr : (results fn a.tmps).run Tryd.prog w' = .ok v w') (hd : a.defers = []) (hv : v = u) (hb : Below w.heap.size w w') :
    bodyPost Tryd.prog fn (RetB u w) .ret a w' := bodyPost_ret hr hd ⟨ret_eq hv, hb⟩

theorem bare_any (s : St) (w : World) : Calls Tryd.prog 77 #[.agg s.cells] w (RetB (.agg (bareS s).cells) w) := by
  obtain ⟨n, i, b⟩ := s
  cases b
  · go_enter Tryd.func77, Tryd.ntmps77
    go_wp2
    exact close_cell (v := .agg #[.string n, .int .i64 0, .bool false]) (by simp [results, Tryd.results77, go_sem]) rfl rfl (((Below.refl _ _).alloc (Nat.le_refl _) _).alloc (by simp) _)
  · go_enter Tryd.func77, Tryd.ntmps77
    go_wp2
    exact close_cell (v := .agg #[.string ByteArray.empty, .int .i64 i, .bool true]) (by simp [results, Tryd.results77, go_sem]; rfl) rfl rfl (((Below.refl _ _).alloc (Nat.le_refl _) _).alloc (by simp) _)

def stepOrd (a b : St) : Int := if a.it && !b.it then -1 else if b.it && !a.it then 1 else if a.it then cmpI a.ix b.ix else cmpS a.nm b.nm

theorem stepOrder_any (s t : St) (w : World) : Calls Tryd.prog 78 #[.agg s.cells, .agg t.cells] w (RetB (.int .i64 (stepOrd s t)) w) := by
  obtain ⟨n, i, b⟩ := s
  obtain ⟨n2, i2, b2⟩ := t
  cases b <;> cases b2
  all_goals
    go_enter Tryd.func78, Tryd.ntmps78
    go_wp2_with (first | (go_at_call 79; refine (compare_int _ _ _).mono ?_; rintro e w' ⟨rfl, rfl⟩) | (go_at_call 108; refine (compare_str _ _ _).mono ?_; rintro e w' ⟨rfl, rfl⟩))
    go_ret
    exact ⟨rfl, ((Below.refl _ _).alloc (Nat.le_refl _) _).alloc (by simp) _⟩

theorem bytesLess_irrefl : ∀ l : List UInt8, Op.bytesLess l l = false
  | [] => rfl
  | x :: l => by simp [Op.bytesLess, bytesLess_irrefl l]

theorem cmpS_zero {a b : ByteArray} : cmpS a b = 0 ↔ a.toList = b.toList := by
  unfold cmpS
  by_cases h : a.toList = b.toList
  · simp [h, bytesLess_irrefl]
  · simp [h]; split <;> simp

theorem cmpI_zero {a b : Int} : cmpI a b = 0 ↔ a = b := by unfold cmpI; split <;> (try split) <;> omega

theorem stepOrd_zero {x y : St} : stepOrd x y = 0 ↔ (bareS x).nm.toList = (bareS y).nm.toList ∧ (bareS x).ix = (bareS y).ix ∧ (bareS x).it = (bareS y).it := by
  obtain ⟨n, i, b⟩ := x
  obtain ⟨n2, i2, b2⟩ := y
  cases b <;> cases b2 <;> simp [stepOrd, bareS, cmpS_zero, cmpI_zero]

/-- Paths in memory. -/
def StepsAt (B : Nat) (w : World) (p : Option Addr) (l : List St) : Prop :=
  l = [] ∨ ∃ b o, p = some ⟨b, o, none⟩ ∧ b < B ∧ ∀ i s, l[i]? = some s →
    w.cell? ⟨b, o + i * 3, none⟩ = some (.string s.nm) ∧ w.cell? ⟨b, o + i * 3 + 1, none⟩ = some (.int .i64 s.ix) ∧ w.cell? ⟨b, o + i * 3 + 2, none⟩ = some (.bool s.it)

theorem StepsAt.below {B : Nat} {w w' : World} {p : Option Addr} {l : List St} (h : StepsAt B w p l) (hb : Below B w w') : StepsAt B w' p l := by
  rcases h with h | ⟨b, o, rfl, hB, hc⟩
  · exact .inl h
  · refine .inr ⟨b, o, rfl, hB, fun i s hs => ?_⟩
    obtain ⟨h1, h2, h3⟩ := hc i s hs
    exact ⟨(hb.cell (p := ⟨b, _, none⟩) hB).trans h1, (hb.cell (p := ⟨b, _, none⟩) hB).trans h2, (hb.cell (p := ⟨b, _, none⟩) hB).trans h3⟩

def cmpP : List St → List St → Int
  | [], [] => 0
  | [], _ :: _ => -1
  | _ :: _, [] => 1
  | x :: a, y :: b => if stepOrd x y = 0 then cmpP a b else stepOrd x y

theorem drop_some {α : Type} {l : List α} {k : Nat} {x : α} (h : l[k]? = some x) : l.drop k = x :: l.drop (k + 1) := by
  obtain ⟨hk, rfl⟩ := List.getElem?_eq_some_iff.1 h
  exact List.drop_eq_getElem_cons hk

theorem cmpP_step {a b : List St} {k : Nat} {x y : St} (hx : a[k]? = some x) (hy : b[k]? = some y) (h0 : stepOrd x y = 0) (h : cmpP (a.drop k) (b.drop k) = cmpP a b) : cmpP (a.drop (k + 1)) (b.drop (k + 1)) = cmpP a b := by
  rw [← h, drop_some hx, drop_some hy, cmpP, if_pos h0]

theorem cmpP_stop {a b : List St} {k : Nat} {x y : St} (hx : a[k]? = some x) (hy : b[k]? = some y) (h0 : ¬ stepOrd x y = 0) (h : cmpP (a.drop k) (b.drop k) = cmpP a b) : stepOrd x y = cmpP a b := by
  rw [← h, drop_some hx, drop_some hy, cmpP, if_neg h0]

theorem cmpP_end {a b : List St} {k : Nat} (hk : k = a.length ∨ k = b.length) (hka : k ≤ a.length) (hkb : k ≤ b.length) (h : cmpP (a.drop k) (b.drop k) = cmpP a b) : cmpI a.length b.length = cmpP a b := by
  rw [← h]
  cases ha : a.drop k with
  | nil =>
    have := List.drop_eq_nil_iff.1 ha
    cases hb : b.drop k with
    | nil =>
      have := List.drop_eq_nil_iff.1 hb
      rw [cmpP, cmpI_eq (by omega) (by omega)]
    | cons y b' =>
      have : ¬ b.length ≤ k := fun h => by rw [List.drop_eq_nil_iff.2 h] at hb; cases hb
      rw [cmpP, cmpI_lt (by omega)]
  | cons x a' =>
    have : ¬ a.length ≤ k := fun h => by rw [List.drop_eq_nil_iff.2 h] at ha; cases ha
    cases hb : b.drop k with
    | nil =>
      have := List.drop_eq_nil_iff.1 hb
      rw [cmpP, cmpI_gt (by omega)]
    | cons y b' =>
      have : ¬ b.length ≤ k := fun h => by rw [List.drop_eq_nil_iff.2 h] at hb; cases hb
      omega

theorem cell_rule {w w' : World} {B : Nat} (hb : Below B w w') : ∀ b o, b < B → w'.cell? ⟨b, o, none⟩ = w.cell? ⟨b, o, none⟩ := fun b o h => hb.cell (p := ⟨b, o, none⟩) h
theorem cell_cls (w : World) : ∀ d os b o, b < w.heap.size → (Go.Sort.grow (redrawn w d) os).cell? ⟨b, o, none⟩ = w.cell? ⟨b, o, none⟩ := fun d os b o h => (below_regrown w d os).cell (p := ⟨b, o, none⟩) h

set_option maxRecDepth 100000 in
set_option maxHeartbeats 400000 in
theorem Compare_any (a b : List St) (p q : Option Addr) (c d : Nat) (w : World) (ha : StepsAt w.heap.size w p a) (hb : StepsAt w.heap.size w q b) (la : a.length ≤ maxLen) (lb : b.length ≤ maxLen) :
    Calls Tryd.prog 36 #[.slice p a.length c, .slice q b.length d] w (RetB (.int .i64 (cmpP a b)) w) := by
  unfold maxLen at la lb
  go_enter Tryd.func36, Tryd.ntmps36
  go_wp2
  go_loopw [5] (fun i wr => ∃ k : Nat, k ≤ a.length ∧ k ≤ b.length ∧ i = .int .i64 k ∧ Hid (cmpP (a.drop k) (b.drop k) = cmpP a b) ∧ Below w.heap.size w wr) (fun i _ => a.length - (intOf i).toNat)
  case atStart => exact ⟨0, Nat.zero_le _, Nat.zero_le _, rfl, rfl, Below.refl _ _⟩
  case round =>
    obtain ⟨k, hka, hkb, rfl, hcmp, hbel⟩ := hrel
    by_cases h1 : k < a.length
    · by_cases h2 : k < b.length
      · obtain ⟨x, hx⟩ : ∃ x, a[k]? = some x := ⟨a[k], by simp [h1]⟩
        obtain ⟨y, hy⟩ : ∃ y, b[k]? = some y := ⟨b[k], by simp [h2]⟩
        rcases ha with ha | ⟨ba, oa, rfl, hBa, hca⟩
        · subst ha; simp at h1
        rcases hb with hb | ⟨bb, ob, rfl, hBb, hcb⟩
        · subst hb; simp at h2
        obtain ⟨a1, a2, a3⟩ := hca k x hx
        obtain ⟨b1, b2, b3⟩ := hcb k y hy
        have HX := Lib.hid hx
        have HY := Lib.hid hy
        clear hca hcb hx hy
        go_wp2
        refine wp_region_plan_below 10 [(0, [0, 1, 2, 3, 5, 6, 7, 8]), (1, [4, 9]), (2, [10])] (by kernel_rfl) (by kernel_rfl) (fun _ _ _ _ h => h) ?_
        simp only [wpSegs, pickOps, List.getElem?_toArray, List.getElem?_cons_zero, List.getElem?_cons_succ]
        have kc := cell_cls wr
        have hw1 : ba < wr.heap.size := Nat.lt_of_lt_of_le hBa hbel.size
        have hw2 : bb < wr.heap.size := Nat.lt_of_lt_of_le hBb hbel.size
        have kr := cell_rule hbel
        repeat (go_big_quiet_step (fail))
        refine wpQuiet_nil ?_
        refine wpListC_plain rfl (fun K hK => ?_)
        go_step
        refine (bare_any x _).mono ?_
        rintro e w1 ⟨rfl, hb1⟩
        have hb1' := (Below.drew (Below.refl wr.heap.size wr)).trans hb1
        refine hK _ _ (cls_of_below hb1') ?_
        clear hK K
        refine wpListC_plain rfl (fun K hK => ?_)
        go_step
        refine (bare_any y _).mono ?_
        rintro e w2 ⟨rfl, hb2⟩
        have hb2' := hb1'.trans (hb2.mono hb1'.size)
        refine hK _ _ (cls_of_below hb2') ?_
        clear hK K
        refine wpListC_nil ?_
        clear hb1 hb2 hb1'
        have hbel2 := hbel.trans (hb2'.mono hbel.size)
        clear hb2' kc kr
        by_cases hxy : stepOrd x y = 0
        · obtain ⟨e1, e2, e3⟩ := stepOrd_zero.1 hxy
          have HXY := Lib.hid hxy
          clear hxy
          go_wp2
          go_roundw
          case rel => exact ⟨k + 1, by omega, by omega, by go_num, cmpP_step HX.out HY.out HXY.out hcmp.out, hbel2⟩
          case measure => simp [intOf]; omega
        · have hne : ¬ ((bareS x).nm.toList = (bareS y).nm.toList ∧ (bareS x).ix = (bareS y).ix ∧ (bareS x).it = (bareS y).it) := fun h => hxy (stepOrd_zero.2 h)
          have HXY := Lib.hid hxy
          have HNE := Lib.hid hne
          clear hxy hne
          go_wp2
          case roundEnd => exact absurd ⟨‹_›, ‹_›, ‹_›⟩ HNE.out
          all_goals
            refine wp_region_plan_below 8 [(0, [0, 1, 2, 3, 4, 5, 6, 7]), (2, [8, 9])] (by kernel_rfl) (by kernel_rfl) (fun _ _ _ _ h => h) ?_
            simp only [wpSegs, pickOps, List.getElem?_toArray, List.getElem?_cons_zero, List.getElem?_cons_succ]
            have kc := cell_cls w2
            have hw1' : ba < w2.heap.size := Nat.lt_of_lt_of_le hBa hbel2.size
            have hw2' : bb < w2.heap.size := Nat.lt_of_lt_of_le hBb hbel2.size
            have kr := cell_rule hbel2
            repeat (go_big_quiet_step (fail))
            refine wpQuiet_nil ?_
            go_wp2_with (go_at_call 78; refine (stepOrder_any x y _).mono ?_; rintro e w3 ⟨rfl, hb3⟩)
            go_ret
            exact ⟨ret_eq (by rw [← cmpP_stop HX.out HY.out HXY.out hcmp.out]; rfl), hbel2.trans ((Below.drew (Below.refl w2.heap.size w2)).trans hb3 |>.mono hbel2.size)⟩
      · have HK := Lib.hid hkb
        go_wp2_with (go_at_call 79; refine (compare_int _ _ _).mono ?_; rintro e w1 ⟨rfl, rfl⟩)
        go_ret
        exact ⟨ret_eq (by rw [← cmpP_end (.inr (by omega)) hka hkb hcmp.out]; rfl), hbel⟩
    · go_wp2_with (go_at_call 79; refine (compare_int _ _ _).mono ?_; rintro e w1 ⟨rfl, rfl⟩)
      go_ret
      exact ⟨ret_eq (by rw [← cmpP_end (.inl (by omega)) hka hkb hcmp.out]; rfl), hbel⟩
end Go.Proofs.YtnmnmkdmnohbmaaDoor
