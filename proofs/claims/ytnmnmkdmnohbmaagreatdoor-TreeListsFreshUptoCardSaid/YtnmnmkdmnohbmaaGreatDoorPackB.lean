/- Several texts in one: Helper text: the path functions again, with a stronger word on the world behind: blocks are laid and orders drawn, nothing else. Orders told by a comparison; lexicographic ones; sorted lists without twins. Plain. Faults in memory; the program's order of faults. The reference's order of faults, and what it takes for alike. The reference's SameFault and SameFaults. Conditions: none. -/
import Derived.Test.YtnmnmkdmnohbmaaGreatDoorPackA
import Derived.Shelf.SlSortCmp.WholeK
import Derived.Lib.Hide
namespace Go.Proofs.YtnmnmkdmnohbmaaGreatDoor
open Go.RowKit Go.Sort

/-- Blocks are laid, orders are drawn; nothing else. -/
def Grew (w w' : World) : Prop := ∃ q os, w' = Go.Sort.grow (w.drewN q) os
def RetG (v : Value) (w : World) (e : Ending) (w' : World) : Prop := e = .returned v ∧ Grew w w'

theorem Grew.refl (w : World) : Grew w w := ⟨0, #[], by rw [grow_empty]; rfl⟩
theorem Grew.trans {a b c : World} (h : Grew a b) (k : Grew b c) : Grew a c := by
  obtain ⟨q, os, rfl⟩ := h
  obtain ⟨q', os', rfl⟩ := k
  refine ⟨q + q', os ++ os', ?_⟩
  show Go.Sort.grow (Go.Sort.grow ((a.drewN q).drewN q') os) os' = _
  rw [grow_grow]
  congr 1
  simp [World.drewN, Nat.add_assoc]
theorem Grew.drew (w : World) : Grew w w.drew := ⟨1, #[], by rw [grow_empty]; rfl⟩
theorem Grew.alloc (w : World) (o : Obj) : Grew w (w.alloc o) := ⟨0, #[o], by rw [alloc_eq_grow]; rfl⟩
theorem Grew.below {w w' : World} (h : Grew w w') : Below w.heap.size w w' := by
  obtain ⟨q, os, rfl⟩ := h
  exact ⟨rfl, rfl, rfl, by simp [Go.Sort.grow, World.drewN], fun k hk => by simp only [Go.Sort.grow, World.drewN]; exact Array.getElem?_append_left hk⟩

attribute [local go_sem] St.cells

theorem close_cellG {fn : Func} {a : Act} {w w' : World} {v u : Value} (hr : (results fn a.tmps).run Tryz.prog w' = .ok v w') (hd : a.defers = []) (hv : v = u) (hb : Grew w w') :
    bodyPost Tryz.prog fn (RetG u w) .ret a w' := bodyPost_ret hr hd ⟨ret_eq hv, hb⟩

theorem bare_g (s : St) (w : World) : Calls Tryz.prog 26 #[.agg s.cells] w (RetG (.agg (bareS s).cells) w) := by
  obtain ⟨n, i, b⟩ := s
  cases b
  · go_enter Tryz.func26, Tryz.ntmps26
    go_wp2
    exact close_cellG (v := .agg #[.string n, .int .i64 0, .bool false]) (by simp [results, Tryz.results26, go_sem]) rfl rfl ((Grew.alloc _ _).trans (Grew.alloc _ _))
  · go_enter Tryz.func26, Tryz.ntmps26
    go_wp2
    exact close_cellG (v := .agg #[.string ByteArray.empty, .int .i64 i, .bool true]) (by simp [results, Tryz.results26, go_sem]; rfl) rfl rfl ((Grew.alloc _ _).trans (Grew.alloc _ _))

theorem stepOrder_g (s t : St) (w : World) : Calls Tryz.prog 85 #[.agg s.cells, .agg t.cells] w (RetG (.int .i64 (stepOrd s t)) w) := by
  obtain ⟨n, i, b⟩ := s
  obtain ⟨n2, i2, b2⟩ := t
  cases b <;> cases b2
  all_goals
    go_enter Tryz.func85, Tryz.ntmps85
    go_wp2_with (first | (go_at_call 84; refine (compare_int _ _ _).mono ?_; rintro e w' ⟨rfl, rfl⟩) | (go_at_call 111; refine (compare_str _ _ _).mono ?_; rintro e w' ⟨rfl, rfl⟩))
    go_ret
    exact ⟨rfl, (Grew.alloc _ _).trans (Grew.alloc _ _)⟩

set_option maxRecDepth 100000 in
set_option maxHeartbeats 400000 in
theorem Compare_g (a b : List St) (p q : Option Addr) (c d : Nat) (w : World) (ha : StepsAt w.heap.size w p a) (hb : StepsAt w.heap.size w q b) (la : a.length ≤ maxLen) (lb : b.length ≤ maxLen) :
    Calls Tryz.prog 53 #[.slice p a.length c, .slice q b.length d] w (RetG (.int .i64 (cmpP a b)) w) := by
  unfold maxLen at la lb
  go_enter Tryz.func53, Tryz.ntmps53
  go_wp2
  go_loopw [5] (fun i wr => ∃ k : Nat, k ≤ a.length ∧ k ≤ b.length ∧ i = .int .i64 k ∧ Hid (cmpP (a.drop k) (b.drop k) = cmpP a b) ∧ Grew w wr) (fun i _ => a.length - (intOf i).toNat)
  case atStart => exact ⟨0, Nat.zero_le _, Nat.zero_le _, rfl, rfl, Grew.refl _⟩
  case round =>
    obtain ⟨k, hka, hkb, rfl, hcmp, hgr⟩ := hrel
    have hbel := hgr.below
    have HG := Lib.hid hgr
    clear hgr
    by_cases h1 : k < a.length
    · by_cases h2 : k < b.length
      · obtain ⟨x, hx⟩ : ∃ x, a[k]? = some x := ⟨a[k], by simp [h1]⟩
        obtain ⟨y, hy⟩ : ∃ y, b[k]? = some y := ⟨b[k], by simp [h2]⟩
        rcases ha with ha | ⟨ba, oa, rfl, hBa, hca⟩
        · subst ha; simp at h1
        rcases hb with hb | ⟨bb, ob, rfl, hBb, hcb⟩
        · subst hb; simp at h2
        obtain ⟨a1, a2, a3⟩ := hca k x hx
        obtain ⟨b1, b2, b3⟩ := hcb k y hy
        have HX := Lib.hid hx
        have HY := Lib.hid hy
        clear hca hcb hx hy
        go_wp2
        refine wp_region_plan_below 10 [(0, [0, 1, 2, 3, 5, 6, 7, 8]), (1, [4, 9]), (2, [10])] (by kernel_rfl) (by kernel_rfl) (fun _ _ _ _ h => h) ?_
        simp only [wpSegs, pickOps, List.getElem?_toArray, List.getElem?_cons_zero, List.getElem?_cons_succ]
        have kc := cell_cls wr
        have hw1 : ba < wr.heap.size := Nat.lt_of_lt_of_le hBa hbel.size
        have hw2 : bb < wr.heap.size := Nat.lt_of_lt_of_le hBb hbel.size
        have kr := cell_rule hbel
        repeat (go_big_quiet_step (fail))
        refine wpQuiet_nil ?_
        refine wpListC_plain rfl (fun K hK => ?_)
        go_step
        refine (bare_g x _).mono ?_
        rintro e w1 ⟨rfl, hg1⟩
        have hb1 := hg1.below
        have HG1 := Lib.hid hg1
        clear hg1
        have hb1' := (Below.drew (Below.refl wr.heap.size wr)).trans hb1
        refine hK _ _ (cls_of_below hb1') ?_
        clear hK K
        refine wpListC_plain rfl (fun K hK => ?_)
        go_step
        refine (bare_g y _).mono ?_
        rintro e w2 ⟨rfl, hg2⟩
        have hb2 := hg2.below
        have HG2 := Lib.hid hg2
        clear hg2
        have hb2' := hb1'.trans (hb2.mono hb1'.size)
        refine hK _ _ (cls_of_below hb2') ?_
        clear hK K
        refine wpListC_nil ?_
        clear hb1 hb2 hb1'
        have hbel2 := hbel.trans (hb2'.mono hbel.size)
        have HGG : Hid (Grew w w2) := Lib.hid (((HG.out.trans (Grew.drew _)).trans HG1.out).trans HG2.out)
        clear hb2' kc kr
        by_cases hxy : stepOrd x y = 0
        · obtain ⟨e1, e2, e3⟩ := stepOrd_zero.1 hxy
          have HXY := Lib.hid hxy
          clear hxy
          go_wp2
          go_roundw
          case rel => exact ⟨k + 1, by omega, by omega, by go_num, cmpP_step HX.out HY.out HXY.out hcmp.out, HGG.out⟩
          case measure => simp [intOf]; omega
        · have hne : ¬ ((bareS x).nm.toList = (bareS y).nm.toList ∧ (bareS x).ix = (bareS y).ix ∧ (bareS x).it = (bareS y).it) := fun h => hxy (stepOrd_zero.2 h)
          have HXY := Lib.hid hxy
          have HNE := Lib.hid hne
          clear hxy hne
          go_wp2
          case roundEnd => exact absurd ⟨‹_›, ‹_›, ‹_›⟩ HNE.out
          all_goals
            refine wp_region_plan_below 8 [(0, [0, 1, 2, 3, 4, 5, 6, 7]), (2, [8, 9])] (by kernel_rfl) (by kernel_rfl) (fun _ _ _ _ h => h) ?_
            simp only [wpSegs, pickOps, List.getElem?_toArray, List.getElem?_cons_zero, List.getElem?_cons_succ]
            have kc := cell_cls w2
            have hw1' : ba < w2.heap.size := Nat.lt_of_lt_of_le hBa hbel2.size
            have hw2' : bb < w2.heap.size := Nat.lt_of_lt_of_le hBb hbel2.size
            have kr := cell_rule hbel2
            repeat (go_big_quiet_step (fail))
            refine wpQuiet_nil ?_
            go_wp2_with (go_at_call 85; refine (stepOrder_g x y _).mono ?_; rintro e w3 ⟨rfl, hg3⟩; have HG3 := Lib.hid hg3; clear hg3)
            go_ret
            exact ⟨ret_eq (by rw [← cmpP_stop HX.out HY.out HXY.out hcmp.out]; rfl), (HGG.out.trans (Grew.drew _)).trans HG3.out⟩
      · have HK := Lib.hid hkb
        go_wp2_with (go_at_call 84; refine (compare_int _ _ _).mono ?_; rintro e w1 ⟨rfl, rfl⟩)
        go_ret
        exact ⟨ret_eq (by rw [← cmpP_end (.inr (by omega)) hka hkb hcmp.out]; rfl), HG.out⟩
    · go_wp2_with (go_at_call 84; refine (compare_int _ _ _).mono ?_; rintro e w1 ⟨rfl, rfl⟩)
      go_ret
      exact ⟨ret_eq (by rw [← cmpP_end (.inl (by omega)) hka hkb hcmp.out]; rfl), HG.out⟩
end Go.Proofs.YtnmnmkdmnohbmaaGreatDoor

namespace Go.Proofs.YtnmnmkdmnohbmaaGreatDoor

/-- A comparison that orders: total, each way round the opposite, transitive. -/
structure OrdC {α : Type} (c : α → α → Int) : Prop where
  rng : ∀ x y, c x y = -1 ∨ c x y = 0 ∨ c x y = 1
  swap : ∀ x y, c y x = - c x y
  trans : ∀ x y z, c x y ≤ 0 → c y z ≤ 0 → c x z ≤ 0

namespace OrdC
variable {α β : Type} {c d : α → α → Int}

theorem refl (h : OrdC c) (x : α) : c x x = 0 := by have := h.swap x x; omega
theorem lt_le (h : OrdC c) {x y z : α} (h1 : c x y < 0) (h2 : c y z ≤ 0) : c x z < 0 := by
  have h3 := h.trans x y z (by omega) h2
  by_cases h0 : c x z = 0
  · have e1 := h.swap x z
    have h4 := h.trans y z x h2 (by omega)
    have e2 := h.swap x y
    omega
  · omega
theorem le_lt (h : OrdC c) {x y z : α} (h1 : c x y ≤ 0) (h2 : c y z < 0) : c x z < 0 := by
  have h3 := h.trans x y z h1 (by omega)
  by_cases h0 : c x z = 0
  · have e1 := h.swap x z
    have h4 := h.trans z x y (by omega) h1
    have e2 := h.swap y z
    omega
  · omega
theorem eq_left (h : OrdC c) {x y : α} (h1 : c x y = 0) (z : α) : c x z = c y z := by
  have e1 := h.swap x y
  have a := fun (hh : c y z ≤ 0) => h.trans x y z (by omega) hh
  have b := fun (hh : c x z ≤ 0) => h.trans y x z (by omega) hh
  have a' := fun (hh : c y z < 0) => h.le_lt (x := x) (y := y) (z := z) (by omega) hh
  have b' := fun (hh : c x z < 0) => h.le_lt (x := y) (y := x) (z := z) (by omega) hh
  rcases h.rng x z with r | r | r <;> rcases h.rng y z with s | s | s <;> first | omega | (have := a (by omega); have := b (by omega); omega) | (have := a (by omega); omega) | (have := b (by omega); omega) | (have := a' (by omega); omega) | (have := b' (by omega); omega)
theorem eq_right (h : OrdC c) {x y : α} (h1 : c x y = 0) (z : α) : c z x = c z y := by
  have e1 := h.swap x z
  have e2 := h.swap y z
  have := h.eq_left h1 z
  omega
theorem eq_trans (h : OrdC c) {x y z : α} (h1 : c x y = 0) (h2 : c y z = 0) : c x z = 0 := by rw [h.eq_left h1]; exact h2

theorem comap (h : OrdC c) (f : β → α) : OrdC (fun x y => c (f x) (f y)) := ⟨fun _ _ => h.rng _ _, fun _ _ => h.swap _ _, fun _ _ _ => h.trans _ _ _⟩

theorem lex (h : OrdC c) (k : OrdC d) : OrdC (fun x y => if c x y = 0 then d x y else c x y) := by
  refine ⟨fun x y => ?_, fun x y => ?_, fun x y z => ?_⟩
  · split
    · exact k.rng x y
    · exact h.rng x y
  · have e1 := h.swap x y
    have e2 := k.swap x y
    by_cases h0 : c x y = 0
    · rw [if_pos (by omega), if_pos h0]; exact e2
    · rw [if_neg (by omega), if_neg h0]; exact e1
  · intro h1 h2
    by_cases a : c x y = 0
    · rw [if_pos a] at h1
      have e := h.eq_left a z
      by_cases b : c y z = 0
      · rw [if_pos b] at h2
        rw [if_pos (by omega)]
        exact k.trans x y z h1 h2
      · rw [if_neg b] at h2
        rw [if_neg (by omega)]
        omega
    · rw [if_neg a] at h1
      by_cases b : c y z = 0
      · have e := h.eq_right b x
        rw [if_neg (by omega)]
        omega
      · rw [if_neg b] at h2
        have := h.lt_le (x := x) (y := y) (z := z) (by omega) (by omega)
        rw [if_neg (by omega)]
        omega
end OrdC

/-- Lists, element by element, the shorter first. -/
def lexL {α : Type} (c : α → α → Int) : List α → List α → Int
  | [], [] => 0
  | [], _ :: _ => -1
  | _ :: _, [] => 1
  | x :: a, y :: b => if c x y = 0 then lexL c a b else c x y

theorem lexL_ord {α : Type} {c : α → α → Int} (h : OrdC c) : OrdC (lexL c) := by
  have rng : ∀ a b, lexL c a b = -1 ∨ lexL c a b = 0 ∨ lexL c a b = 1 := by
    intro a
    induction a with
    | nil => intro b; cases b <;> simp [lexL]
    | cons x a ih =>
      intro b
      cases b with
      | nil => simp [lexL]
      | cons y b =>
        rw [lexL]
        split
        · exact ih b
        · exact h.rng x y
  have swap : ∀ a b, lexL c b a = - lexL c a b := by
    intro a
    induction a with
    | nil => intro b; cases b <;> simp [lexL]
    | cons x a ih =>
      intro b
      cases b with
      | nil => simp [lexL]
      | cons y b =>
        have e := h.swap x y
        rw [lexL, lexL]
        by_cases h0 : c x y = 0
        · rw [if_pos (by omega), if_pos h0]; exact ih b
        · rw [if_neg (by omega), if_neg h0]; exact e
  refine ⟨rng, swap, ?_⟩
  intro a
  induction a with
  | nil =>
    intro b z _ _
    cases z with
    | nil => show (0 : Int) ≤ 0; omega
    | cons _ _ => show (-1 : Int) ≤ 0; omega
  | cons x a ih =>
    intro b z h1 h2
    cases b with
    | nil => simp [lexL] at h1
    | cons y b =>
      cases z with
      | nil => simp [lexL] at h2
      | cons u z =>
        rw [lexL] at h1 h2 ⊢
        by_cases p : c x y = 0
        · rw [if_pos p] at h1
          have e := h.eq_left p u
          by_cases q : c y u = 0
          · rw [if_pos q] at h2
            rw [if_pos (by omega)]
            exact ih b z h1 h2
          · rw [if_neg q] at h2
            rw [if_neg (by omega)]
            omega
        · rw [if_neg p] at h1
          by_cases q : c y u = 0
          · have e := h.eq_right q x
            rw [if_neg (by omega)]
            omega
          · rw [if_neg q] at h2
            have := h.lt_le (x := x) (y := y) (z := u) (by omega) (by omega)
            rw [if_neg (by omega)]
            omega

theorem lexL_eq {α : Type} {c : α → α → Int} : ∀ {a b : List α}, (∀ x ∈ a, ∀ y ∈ b, c x y = 0 → x = y) → lexL c a b = 0 → a = b
  | [], [], _, _ => rfl
  | [], _ :: _, _, h => by cases h
  | _ :: _, [], _, h => by cases h
  | x :: a, y :: b, hc, h => by
    rw [lexL] at h
    by_cases h0 : c x y = 0
    · rw [if_pos h0] at h
      rw [hc x (by simp) y (by simp) h0, lexL_eq (fun u hu v hv => hc u (by simp [hu]) v (by simp [hv])) h]
    · rw [if_neg h0] at h
      exact absurd h h0

theorem cmpI_ord : OrdC cmpI := by
  refine ⟨fun x y => ?_, fun x y => ?_, fun x y z => ?_⟩ <;> unfold cmpI <;> (repeat' split) <;> omega

theorem bytes_lex : ∀ a b : List UInt8, (if Op.bytesLess a b = true then (-1 : Int) else if a == b then 0 else 1) = lexL (fun x y => cmpI x.toNat y.toNat) a b
  | [], [] => rfl
  | [], _ :: _ => rfl
  | _ :: _, [] => rfl
  | x :: a, y :: b => by
    have ih := bytes_lex a b
    rw [lexL, ← ih]
    have hl : x < y ↔ x.toNat < y.toNat := UInt8.lt_iff_toNat_lt
    have he : x = y ↔ x.toNat = y.toNat := ⟨fun e => by rw [e], fun e => UInt8.toNat_inj.1 e⟩
    simp only [Op.bytesLess]
    rcases Nat.lt_trichotomy x.toNat y.toNat with h | h | h
    · rw [cmpI_lt (by omega)]
      simp [hl.2 h]
    · obtain rfl := he.2 h
      rw [cmpI_eq (by omega) (by omega)]
      simp
    · rw [cmpI_gt (by omega)]
      have h1 : ¬ x < y := fun e => by have := hl.1 e; omega
      have h2 : ¬ x = y := fun e => by have := he.1 e; omega
      simp [h1, h2]

theorem cmpS_ord : OrdC cmpS := by
  have h := lexL_ord (cmpI_ord.comap (fun x : UInt8 => (x.toNat : Int)))
  have e : cmpS = fun a b => lexL (fun x y : UInt8 => cmpI x.toNat y.toNat) a.toList b.toList := by
    funext a b
    exact bytes_lex _ _
  rw [e]
  exact h.comap _

theorem stepOrd_ord : OrdC stepOrd := by
  have hI := cmpI_ord
  have hS := cmpS_ord
  refine ⟨fun x y => ?_, fun x y => ?_, fun x y z => ?_⟩
  · obtain ⟨n, i, b⟩ := x
    obtain ⟨n2, i2, b2⟩ := y
    cases b <;> cases b2 <;> simp only [stepOrd] <;> simp
    · exact hS.rng n n2
    · exact hI.rng i i2
  · obtain ⟨n, i, b⟩ := x
    obtain ⟨n2, i2, b2⟩ := y
    cases b <;> cases b2 <;> simp only [stepOrd] <;> simp
    · exact hS.swap n n2
    · exact hI.swap i i2
  · obtain ⟨n, i, b⟩ := x
    obtain ⟨n2, i2, b2⟩ := y
    obtain ⟨n3, i3, b3⟩ := z
    cases b <;> cases b2 <;> cases b3 <;> simp only [stepOrd] <;> simp
    · exact hS.trans n n2 n3
    · exact hI.trans i i2 i3

theorem cmpP_lex : ∀ a b : List St, cmpP a b = lexL stepOrd a b
  | [], [] => rfl
  | [], _ :: _ => rfl
  | _ :: _, [] => rfl
  | x :: a, y :: b => by rw [cmpP, lexL, cmpP_lex a b]

theorem cmpP_ord : OrdC cmpP := by
  have e : cmpP = lexL stepOrd := by funext a b; exact cmpP_lex a b
  rw [e]
  exact lexL_ord stepOrd_ord

/-- Two rising lists without twins whose members are alike are alike. -/
theorem rising_unique {α : Type} {c : α → α → Int} (h : OrdC c) : ∀ (a b : List α), a.Pairwise (fun x y => c x y < 0) → b.Pairwise (fun x y => c x y < 0) →
    (∀ x ∈ a, ∃ y ∈ b, c x y = 0) → (∀ y ∈ b, ∃ x ∈ a, c x y = 0) → lexL c a b = 0
  | [], [], _, _, _, _ => rfl
  | [], y :: b, _, _, _, hb => by obtain ⟨x, hx, _⟩ := hb y (by simp); cases hx
  | x :: a, [], _, _, ha, _ => by obtain ⟨y, hy, _⟩ := ha x (by simp); cases hy
  | x :: a, y :: b, pa, pb, ha, hb => by
    rw [List.pairwise_cons] at pa pb
    have hxy : c x y = 0 := by
      obtain ⟨y', hy', e1⟩ := ha x (by simp)
      obtain ⟨x', hx', e2⟩ := hb y (by simp)
      rcases List.mem_cons.1 hy' with rfl | hy'
      · exact e1
      · rcases List.mem_cons.1 hx' with rfl | hx'
        · exact e2
        · have l1 := pb.1 y' hy'
          have l2 := pa.1 x' hx'
          have s1 := h.eq_right e1 y
          have s2 := h.eq_left e2 x
          have w1 := h.swap x y
          have w2 := h.swap x x'
          omega
    rw [lexL, if_pos hxy]
    refine (rising_unique h a b pa.2 pb.2 (fun z hz => ?_) (fun z hz => ?_))
    · obtain ⟨y', hy', e⟩ := ha z (by simp [hz])
      rcases List.mem_cons.1 hy' with rfl | hy'
      · have l := pa.1 z hz
        have := h.eq_right e x
        omega
      · exact ⟨y', hy', e⟩
    · obtain ⟨x', hx', e⟩ := hb z (by simp [hz])
      rcases List.mem_cons.1 hx' with rfl | hx'
      · have l := pb.1 z hz
        have := h.eq_left hxy z
        have := h.swap x' z
        omega
      · exact ⟨x', hx', e⟩
end Go.Proofs.YtnmnmkdmnohbmaaGreatDoor

namespace Go.Proofs.YtnmnmkdmnohbmaaGreatDoor
open Go.RowKit

structure Fl where
  k : Int
  pos : List (Int × Int)
  path : List St

/-- A fault in memory: what it is, and the values of its two lists. -/
structure LF where
  f : Fl
  pv : Value
  qv : Value

@[reducible] def LF.cells (x : LF) : Array Value := #[.int .i64 x.f.k, x.pv, x.qv]

def cmpPos1 (p q : Int × Int) : Int := if cmpI p.1 q.1 = 0 then cmpI p.2 q.2 else cmpI p.1 q.1
def cmpF (x y : Fl) : Int := if cmpI x.k y.k = 0 then (if lexL cmpPos1 x.pos y.pos = 0 then cmpP x.path y.path else lexL cmpPos1 x.pos y.pos) else cmpI x.k y.k

theorem cmpPos1_ord : OrdC cmpPos1 := (cmpI_ord.comap (fun p : Int × Int => p.1)).lex (cmpI_ord.comap (fun p : Int × Int => p.2))
theorem cmpF_ord : OrdC cmpF := (cmpI_ord.comap (fun x : Fl => x.k)).lex (((lexL_ord cmpPos1_ord).comap (fun x : Fl => x.pos)).lex (cmpP_ord.comap (fun x : Fl => x.path)))

theorem cmpPos1_zero {p q : Int × Int} : cmpPos1 p q = 0 ↔ p = q := by
  obtain ⟨a, b⟩ := p
  obtain ⟨c, d⟩ := q
  unfold cmpPos1
  by_cases h : a = c
  · subst h
    simp [cmpI_zero]
  · have : ¬ cmpI a c = 0 := fun e => h (cmpI_zero.1 e)
    simp [this, h]

/-- Where places lie. -/
def PosAt (B : Nat) (w : World) (p : Option Addr) (l : List (Int × Int)) : Prop :=
  l = [] ∨ ∃ b o, p = some ⟨b, o, none⟩ ∧ b < B ∧ ∀ i s, l[i]? = some s → w.cell? ⟨b, o + i * 2, none⟩ = some (.int .i64 s.1) ∧ w.cell? ⟨b, o + i * 2 + 1, none⟩ = some (.int .i64 s.2)

theorem PosAt.below {B : Nat} {w w' : World} {p : Option Addr} {l : List (Int × Int)} (h : PosAt B w p l) (hb : Below B w w') : PosAt B w' p l := by
  rcases h with h | ⟨b, o, rfl, hB, hc⟩
  · exact .inl h
  · refine .inr ⟨b, o, rfl, hB, fun i s hs => ?_⟩
    obtain ⟨h1, h2⟩ := hc i s hs
    exact ⟨(hb.cell (p := ⟨b, _, none⟩) hB).trans h1, (hb.cell (p := ⟨b, _, none⟩) hB).trans h2⟩
theorem PosAt.up {B B' : Nat} {w : World} {p : Option Addr} {l : List (Int × Int)} (h : PosAt B w p l) (hB : B ≤ B') : PosAt B' w p l := by
  rcases h with h | ⟨b, o, rfl, hb, hc⟩
  · exact .inl h
  · exact .inr ⟨b, o, rfl, Nat.lt_of_lt_of_le hb hB, hc⟩
theorem StepsAt.up {B B' : Nat} {w : World} {p : Option Addr} {l : List St} (h : StepsAt B w p l) (hB : B ≤ B') : StepsAt B' w p l := by
  rcases h with h | ⟨b, o, rfl, hb, hc⟩
  · exact .inl h
  · exact .inr ⟨b, o, rfl, Nat.lt_of_lt_of_le hb hB, hc⟩

def big : Nat := 4194304
/-- The two lists of a fault lie below block B. -/
def LOk (B : Nat) (w : World) (x : LF) : Prop :=
  (∃ p c, x.pv = .slice p x.f.pos.length c ∧ PosAt B w p x.f.pos ∧ x.f.pos.length ≤ big) ∧ ∃ q d, x.qv = .slice q x.f.path.length d ∧ StepsAt B w q x.f.path ∧ x.f.path.length ≤ big

theorem LOk.below {B : Nat} {w w' : World} {x : LF} (h : LOk B w x) (hb : Below B w w') : LOk B w' x := by
  obtain ⟨⟨p, c, h1, h2, h3⟩, q, d, h4, h5, h6⟩ := h
  exact ⟨⟨p, c, h1, h2.below hb, h3⟩, q, d, h4, h5.below hb, h6⟩
theorem LOk.mono {B B' : Nat} {w : World} {x : LF} (h : LOk B w x) (hB : B ≤ B') : LOk B' w x := by
  obtain ⟨⟨p, c, h1, h2, h3⟩, q, d, h4, h5, h6⟩ := h
  exact ⟨⟨p, c, h1, h2.up hB, h3⟩, q, d, h4, h5.up hB, h6⟩

theorem isNaN_e (a : Int) (w : World) : Calls Tryz.prog 81 #[.int .i64 a] w (RetS (.bool false) w) := by
  go_enter Tryz.func81, Tryz.ntmps81
  go_wp2
  go_ret
  exact ⟨by simp, rfl⟩

theorem compare_e (a b : Int) (w : World) : Calls Tryz.prog 51 #[.int .i64 a, .int .i64 b] w (RetS (.int .i64 (cmpI a b)) w) := by
  go_enter Tryz.func51, Tryz.ntmps51
  go_wp2_with (first | (go_at_call 81; refine (isNaN_e _ _).mono ?_; rintro e w' ⟨rfl, rfl⟩))
  · go_ret; exact ⟨ret_eq (by rw [cmpI_lt ‹_›]; rfl), rfl⟩
  · go_ret; exact ⟨ret_eq (by rw [cmpI_gt ‹_›]; rfl), rfl⟩
  · go_ret; exact ⟨ret_eq (by rw [cmpI_eq ‹_› ‹_›]; rfl), rfl⟩

theorem place1_g (p q : Int × Int) (w : World) : Calls Tryz.prog 83 #[.agg #[.int .i64 p.1, .int .i64 p.2], .agg #[.int .i64 q.1, .int .i64 q.2]] w (RetG (.int .i64 (cmpPos1 p q)) w) := by
  obtain ⟨a, b⟩ := p
  obtain ⟨c, d⟩ := q
  by_cases h : a = c
  · subst h
    have e : cmpPos1 (a, b) (a, d) = cmpI b d := by unfold cmpPos1; rw [if_pos (cmpI_zero.2 rfl)]
    rw [e]
    go_enter Tryz.func83, Tryz.ntmps83
    go_wp2_with (first | (go_at_call 84; refine (compare_int _ _ _).mono ?_; rintro e w' ⟨rfl, rfl⟩))
    go_ret
    exact ⟨rfl, (Grew.alloc _ _).trans (Grew.alloc _ _)⟩
  · have e : cmpPos1 (a, b) (c, d) = cmpI a c := by unfold cmpPos1; rw [if_neg (fun e => h (cmpI_zero.1 e))]
    rw [e]
    go_enter Tryz.func83, Tryz.ntmps83
    go_wp2_with (first | (go_at_call 84; refine (compare_int _ _ _).mono ?_; rintro e w' ⟨rfl, rfl⟩))
    go_ret
    exact ⟨rfl, (Grew.alloc _ _).trans (Grew.alloc _ _)⟩

theorem lexL_step {α : Type} {c : α → α → Int} {a b : List α} {k : Nat} {x y : α} (hx : a[k]? = some x) (hy : b[k]? = some y) (h0 : c x y = 0) (h : lexL c (a.drop k) (b.drop k) = lexL c a b) : lexL c (a.drop (k + 1)) (b.drop (k + 1)) = lexL c a b := by
  rw [← h, drop_some hx, drop_some hy, lexL, if_pos h0]
theorem lexL_stop {α : Type} {c : α → α → Int} {a b : List α} {k : Nat} {x y : α} (hx : a[k]? = some x) (hy : b[k]? = some y) (h0 : ¬ c x y = 0) (h : lexL c (a.drop k) (b.drop k) = lexL c a b) : c x y = lexL c a b := by
  rw [← h, drop_some hx, drop_some hy, lexL, if_neg h0]
theorem lexL_long {α : Type} {c : α → α → Int} {a b : List α} {k : Nat} (ha : k < a.length) (hb : ¬ k < b.length) (h : lexL c (a.drop k) (b.drop k) = lexL c a b) : lexL c a b = 1 := by
  rw [← h, List.drop_eq_nil_iff.2 (by omega : b.length ≤ k)]
  cases e : a.drop k with
  | nil => have := List.drop_eq_nil_iff.1 e; omega
  | cons => rfl
theorem lexL_short {α : Type} {c : α → α → Int} {a b : List α} {k : Nat} (ha : ¬ k < a.length) (hb : k < b.length) (h : lexL c (a.drop k) (b.drop k) = lexL c a b) : lexL c a b = -1 := by
  rw [← h, List.drop_eq_nil_iff.2 (by omega : a.length ≤ k)]
  cases e : b.drop k with
  | nil => have := List.drop_eq_nil_iff.1 e; omega
  | cons => rfl
theorem lexL_both {α : Type} {c : α → α → Int} {a b : List α} {k : Nat} (ha : ¬ k < a.length) (hb : ¬ k < b.length) (h : lexL c (a.drop k) (b.drop k) = lexL c a b) : lexL c a b = 0 := by
  rw [← h, List.drop_eq_nil_iff.2 (by omega : a.length ≤ k), List.drop_eq_nil_iff.2 (by omega : b.length ≤ k)]
  rfl

set_option maxRecDepth 100000 in
set_option maxHeartbeats 2000000 in
theorem CompareFunc_g (a b : List (Int × Int)) (p q : Option Addr) (c d : Nat) (w : World) (ha : PosAt w.heap.size w p a) (hb : PosAt w.heap.size w q b) (la : a.length ≤ big) (lb : b.length ≤ big) :
    Calls Tryz.prog 82 #[.slice p a.length c, .slice q b.length d, .func (.func 83) #[] #[]] w (RetG (.int .i64 (lexL cmpPos1 a b)) w) := by
  unfold big at la lb
  go_enter Tryz.func82, Tryz.ntmps82
  go_wp2
  go_loopw [13] (fun i wr => ∃ k : Nat, k ≤ a.length ∧ k ≤ b.length ∧ i = .int .i64 k ∧ Hid (lexL cmpPos1 (a.drop k) (b.drop k) = lexL cmpPos1 a b) ∧ Hid (Grew w wr)) (fun i _ => a.length - (intOf i).toNat)
  case atStart => exact ⟨0, Nat.zero_le _, Nat.zero_le _, rfl, rfl, Lib.hid (Grew.refl _)⟩
  case round =>
    obtain ⟨k, hka, hkb, rfl, hcmp, HG⟩ := hrel
    by_cases h1 : k < a.length
    · obtain ⟨x, hx⟩ : ∃ x, a[k]? = some x := ⟨a[k], by simp [h1]⟩
      rcases ha with ha | ⟨ba, oa, rfl, hBa, hca⟩
      · subst ha; simp at h1
      obtain ⟨a1, a2⟩ := hca k x hx
      have hbel := HG.out.below
      have a1' := (hbel.cell (p := ⟨ba, oa + k * 2, none⟩) hBa).trans a1
      have a2' := (hbel.cell (p := ⟨ba, oa + k * 2 + 1, none⟩) hBa).trans a2
      by_cases h2 : k < b.length
      · obtain ⟨y, hy⟩ : ∃ y, b[k]? = some y := ⟨b[k], by simp [h2]⟩
        rcases hb with hb | ⟨bb, ob, rfl, hBb, hcb⟩
        · subst hb; simp at h2
        obtain ⟨b1, b2⟩ := hcb k y hy
        have b1' := (hbel.cell (p := ⟨bb, ob + k * 2, none⟩) hBb).trans b1
        have b2' := (hbel.cell (p := ⟨bb, ob + k * 2 + 1, none⟩) hBb).trans b2
        have hbb : bb < wr.heap.size := Nat.lt_of_lt_of_le hBb hbel.size
        have HX := Lib.hid hx
        have HY := Lib.hid hy
        obtain ⟨x1, x2⟩ := x
        obtain ⟨y1, y2⟩ := y
        have C1 := Lib.hid (fun W => place1_g (x1, x2) (y1, y2) W)
        obtain ⟨r, hr⟩ : ∃ r, cmpPos1 (x1, x2) (y1, y2) = r := ⟨_, rfl⟩
        rw [hr] at C1
        have HR := Lib.hid hr
        clear hca hcb hx hy a1 a2 b1 b2 hbel hr
        by_cases h0 : r = 0
        · subst h0
          go_wp2_with (go_at_call 83; refine (C1.out _).mono ?_; rintro e w1 ⟨rfl, hg1⟩; have HG1 := Lib.hid hg1; clear hg1)
          go_roundw
          case rel => exact ⟨k + 1, by omega, by omega, by go_num, lexL_step HX.out HY.out HR.out hcmp.out, Lib.hid (((HG.out.trans (Grew.alloc _ _)).trans (Grew.alloc _ _)).trans HG1.out)⟩
          case measure => simp [intOf]; omega
        · go_wp2_with (go_at_call 83; refine (C1.out _).mono ?_; rintro e w1 ⟨rfl, hg1⟩; have HG1 := Lib.hid hg1; clear hg1)
          go_ret
          exact ⟨ret_eq (by rw [← lexL_stop HX.out HY.out (by rw [HR.out]; exact h0) hcmp.out, HR.out]; rfl), ((HG.out.trans (Grew.alloc _ _)).trans (Grew.alloc _ _)).trans HG1.out⟩
      · clear hca hx a1 a2 hbel
        go_wp2
        go_ret
        exact ⟨ret_eq (by rw [lexL_long h1 h2 hcmp.out]; rfl), HG.out.trans (Grew.alloc _ _)⟩
    · by_cases h2 : k < b.length
      · go_wp2
        go_ret
        exact ⟨ret_eq (by rw [lexL_short h1 h2 hcmp.out]; rfl), HG.out⟩
      · go_wp2
        go_ret
        exact ⟨ret_eq (by rw [lexL_both h1 h2 hcmp.out]; rfl), HG.out⟩

theorem placeOrder_g (a b : List (Int × Int)) (p q : Option Addr) (c d : Nat) (w : World) (ha : PosAt w.heap.size w p a) (hb : PosAt w.heap.size w q b) (la : a.length ≤ big) (lb : b.length ≤ big) :
    Calls Tryz.prog 52 #[.slice p a.length c, .slice q b.length d] w (RetG (.int .i64 (lexL cmpPos1 a b)) w) := by
  have C1 := Lib.hid (CompareFunc_g a b p q c d w ha hb la lb)
  clear ha hb
  go_enter Tryz.func52, Tryz.ntmps52
  go_wp2_with (go_at_call 82; refine C1.out.mono ?_; rintro e w1 ⟨rfl, hg1⟩)
  go_ret
  exact ⟨rfl, hg1⟩

set_option maxRecDepth 100000 in
set_option maxHeartbeats 1000000 in
theorem faultOrder_g (x y : LF) (B : Nat) (w : World) (hx : LOk B w x) (hy : LOk B w y) (hB : B ≤ w.heap.size) :
    Calls Tryz.prog 25 #[.agg x.cells, .agg y.cells] w (RetG (.int .i64 (cmpF x.f y.f)) w) := by
  obtain ⟨⟨k, pos, path⟩, pv, qv⟩ := x
  obtain ⟨⟨k', pos', path'⟩, pv', qv'⟩ := y
  obtain ⟨⟨p, c, h1, h2, h3⟩, q, d, h4, h5, h6⟩ := hx
  obtain ⟨⟨p', c', h1', h2', h3'⟩, q', d', h4', h5', h6'⟩ := hy
  dsimp only at *
  subst h1 h4 h1' h4'
  by_cases hk : k = k'
  · subst hk
    have e : cmpF ⟨k, pos, path⟩ ⟨k, pos', path'⟩ = if lexL cmpPos1 pos pos' = 0 then cmpP path path' else lexL cmpPos1 pos pos' := by unfold cmpF; rw [if_pos (cmpI_zero.2 rfl)]
    rw [e]
    have C1 : Hid (∀ W, Below w.heap.size w W → Calls Tryz.prog 52 #[.slice p pos.length c, .slice p' pos'.length c'] W (RetG (.int .i64 (lexL cmpPos1 pos pos')) W)) := Lib.hid (fun W h => placeOrder_g pos pos' p p' c c' W ((h2.up hB).below h |>.up h.size) ((h2'.up hB).below h |>.up h.size) h3 h3')
    have C2 : Hid (∀ W, Below w.heap.size w W → Calls Tryz.prog 53 #[.slice q path.length d, .slice q' path'.length d'] W (RetG (.int .i64 (cmpP path path')) W)) := Lib.hid (fun W h => Compare_g path path' q q' d d' W ((h5.up hB).below h |>.up h.size) ((h5'.up hB).below h |>.up h.size) (by unfold big at h6; unfold maxLen; omega) (by unfold big at h6'; unfold maxLen; omega))
    clear h2 h5 h2' h5' h3 h6 h3' h6' e
    generalize lexL cmpPos1 pos pos' = r at *
    generalize cmpP path path' = s at *
    have hbb : Below w.heap.size w ((w.alloc (.cells #[.int .i64 k, .slice p pos.length c, .slice q path.length d] 42)).alloc (.cells #[.int .i64 k, .slice p' pos'.length c', .slice q' path'.length d'] 42)) := ((Below.refl _ _).alloc (Nat.le_refl _) _).alloc (by simp) _
    have hcx : ((w.alloc (.cells #[.int .i64 k, .slice p pos.length c, .slice q path.length d] 42)).alloc (.cells #[.int .i64 k, .slice p' pos'.length c', .slice q' path'.length d'] 42)).heap[w.heap.size]? = some (.cells #[.int .i64 k, .slice p pos.length c, .slice q path.length d] 42 (0, 0)) := by
      rw [Below.heap_alloc _ _ _ (by simp)]
      exact heap_new w _
    have hcy : ((w.alloc (.cells #[.int .i64 k, .slice p pos.length c, .slice q path.length d] 42)).alloc (.cells #[.int .i64 k, .slice p' pos'.length c', .slice q' path'.length d'] 42)).heap[w.heap.size + 1]? = some (.cells #[.int .i64 k, .slice p' pos'.length c', .slice q' path'.length d'] 42 (0, 0)) := by
      have := heap_new (w.alloc (.cells #[.int .i64 k, .slice p pos.length c, .slice q path.length d] 42)) (.cells #[.int .i64 k, .slice p' pos'.length c', .slice q' path'.length d'] 42)
      rwa [World.size_alloc] at this
    have HBB := Lib.hid hbb
    have HCX : Hid (∀ w1, Grew ((w.alloc (.cells #[.int .i64 k, .slice p pos.length c, .slice q path.length d] 42)).alloc (.cells #[.int .i64 k, .slice p' pos'.length c', .slice q' path'.length d'] 42)) w1 → w1.cell? ⟨w.heap.size, 2, none⟩ = some (.slice q path.length d) ∧ w1.cell? ⟨w.heap.size + 1, 2, none⟩ = some (.slice q' path'.length d')) := Lib.hid (fun w1 hg => by
      have h1 := (hg.below.block _ (Array.getElem?_eq_some_iff.1 hcx).1).trans hcx
      have h2 := (hg.below.block _ (Array.getElem?_eq_some_iff.1 hcy).1).trans hcy
      exact ⟨by simp [World.cell?, h1], by simp [World.cell?, h2]⟩)
    clear hbb hcx hcy
    by_cases hr : r = 0
    · subst hr
      rw [if_pos rfl]
      go_enter Tryz.func25, Tryz.ntmps25
      go_wp2_with (first
        | (go_at_call 52; refine (C1.out _ HBB.out).mono ?_; rintro e w1 ⟨rfl, hg1⟩; have HG1 := Lib.hid hg1; obtain ⟨qx, qy⟩ := HCX.out _ hg1; clear hg1)
        | (go_at_call 53; refine (C2.out _ (HBB.out.trans (HG1.out.below.mono HBB.out.size))).mono ?_; rintro e w2 ⟨rfl, hg2⟩; have HG2 := Lib.hid hg2; clear hg2))
      go_ret
      exact ⟨rfl, (((Grew.alloc _ _).trans (Grew.alloc _ _)).trans HG1.out).trans HG2.out⟩
    · rw [if_neg hr]
      go_enter Tryz.func25, Tryz.ntmps25
      go_wp2_with (first
        | (go_at_call 52; refine (C1.out _ HBB.out).mono ?_; rintro e w1 ⟨rfl, hg1⟩; have HG1 := Lib.hid hg1; obtain ⟨qx, qy⟩ := HCX.out _ hg1; clear hg1)
        | (go_at_call 53; refine (C2.out _ (HBB.out.trans (HG1.out.below.mono HBB.out.size))).mono ?_; rintro e w2 ⟨rfl, hg2⟩; have HG2 := Lib.hid hg2; clear hg2))
      go_ret
      exact ⟨rfl, ((Grew.alloc _ _).trans (Grew.alloc _ _)).trans HG1.out⟩
  · have e : cmpF ⟨k, pos, path⟩ ⟨k', pos', path'⟩ = cmpI k k' := by unfold cmpF; rw [if_neg (fun e => hk (cmpI_zero.1 e))]
    rw [e]
    clear h2 h5 h2' h5' e
    go_enter Tryz.func25, Tryz.ntmps25
    go_wp2_with (go_at_call 51; refine (compare_e _ _ _).mono ?_; rintro e w1 ⟨rfl, rfl⟩)
    go_ret
    exact ⟨rfl, (Grew.alloc _ _).trans (Grew.alloc _ _)⟩
end Go.Proofs.YtnmnmkdmnohbmaaGreatDoor

namespace Go.Proofs.YtnmnmkdmnohbmaaGreatDoor
open Go.RowKit

set_option maxRecDepth 100000 in
set_option maxHeartbeats 4000000 in
theorem comparePos_any (a b : List (Int × Int)) (p q : Option Addr) (c d : Nat) (w : World) (ha : PosAt w.heap.size w p a) (hb : PosAt w.heap.size w q b) (la : a.length ≤ big) (lb : b.length ≤ big) :
    Calls Tryz.prog 59 #[.slice p a.length c, .slice q b.length d] w (RetB (.int .i64 (lexL cmpPos1 a b)) w) := by
  unfold big at la lb
  go_enter Tryz.func59, Tryz.ntmps59
  go_wp2
  go_loopw [5] (fun i wr => ∃ k : Nat, k ≤ a.length ∧ k ≤ b.length ∧ i = .int .i64 k ∧ Hid (lexL cmpPos1 (a.drop k) (b.drop k) = lexL cmpPos1 a b) ∧ Hid (Below w.heap.size w wr)) (fun i _ => a.length - (intOf i).toNat)
  case atStart => exact ⟨0, Nat.zero_le _, Nat.zero_le _, rfl, rfl, Lib.hid (Below.refl _ _)⟩
  case round =>
    obtain ⟨k, hka, hkb, rfl, hcmp, HBwr⟩ := hrel
    by_cases h1 : k < a.length
    · by_cases h2 : k < b.length
      · obtain ⟨x, hx⟩ : ∃ x, a[k]? = some x := ⟨a[k], by simp [h1]⟩
        obtain ⟨y, hy⟩ : ∃ y, b[k]? = some y := ⟨b[k], by simp [h2]⟩
        rcases ha with ha | ⟨ba, oa, rfl, hBa, hca⟩
        · subst ha; simp at h1
        rcases hb with hb | ⟨bb, ob, rfl, hBb, hcb⟩
        · subst hb; simp at h2
        obtain ⟨a1, a2⟩ := hca k x hx
        obtain ⟨b1, b2⟩ := hcb k y hy
        have a1 := (HBwr.out.cell (p := ⟨ba, oa + k * 2, none⟩) hBa).trans a1
        have a2 := (HBwr.out.cell (p := ⟨ba, oa + k * 2 + 1, none⟩) hBa).trans a2
        have b1 := (HBwr.out.cell (p := ⟨bb, ob + k * 2, none⟩) hBb).trans b1
        have b2 := (HBwr.out.cell (p := ⟨bb, ob + k * 2 + 1, none⟩) hBb).trans b2
        have hw1 : ba < wr.heap.size := Nat.lt_of_lt_of_le hBa HBwr.out.size
        have hw2 : bb < wr.heap.size := Nat.lt_of_lt_of_le hBb HBwr.out.size
        have HX := Lib.hid hx
        have HY := Lib.hid hy
        clear hca hcb hx hy
        obtain ⟨x1, x2⟩ := x
        obtain ⟨y1, y2⟩ := y
        dsimp only at a1 a2 b1 b2
        by_cases g1 : x1 < y1
        · have g1' : decide (x1 < y1) = true := decide_eq_true g1
          have HE := Lib.hid (show cmpPos1 (x1, x2) (y1, y2) = -1 by unfold cmpPos1; rw [cmpI_lt g1]; rfl)
          go_wp2
          refine wp_region_plan_below 12 [(0, [0, 1, 2, 3, 4, 5, 6, 7, 8, 9, 10, 11])] (by kernel_rfl) (by kernel_rfl) (fun _ _ _ _ h => h) ?_
          simp only [wpSegs, pickOps, List.getElem?_toArray, List.getElem?_cons_zero, List.getElem?_cons_succ]
          have kc := cell_cls wr
          iterate 12 (go_big_quiet_step (fail))
          refine wpQuiet_nil ?_
          clear kc
          obtain ⟨v1, hV⟩ : ∃ v1 : World, { wr with drawn := wr.drawn + 1 } = v1 := ⟨_, rfl⟩
          rw [hV]
          have a1_1 : v1.cell? ⟨ba, oa + k * 2, none⟩ = some (.int .i64 x1) := by rw [← hV]; exact a1
          have a2_1 : v1.cell? ⟨ba, oa + k * 2 + 1, none⟩ = some (.int .i64 x2) := by rw [← hV]; exact a2
          have b1_1 : v1.cell? ⟨bb, ob + k * 2, none⟩ = some (.int .i64 y1) := by rw [← hV]; exact b1
          have b2_1 : v1.cell? ⟨bb, ob + k * 2 + 1, none⟩ = some (.int .i64 y2) := by rw [← hV]; exact b2
          have szv1 : v1.heap.size = wr.heap.size := by rw [← hV]
          have h1v1 : ba < v1.heap.size := by omega
          have h2v1 : bb < v1.heap.size := by omega
          have HBv1 : Hid (Below w.heap.size w v1) := Lib.hid (by rw [← hV]; exact HBwr.out.trans ((Below.drew (Below.refl wr.heap.size wr)).mono HBwr.out.size))
          clear hV szv1
          clear a1 a2 b1 b2
          go_wp2
          go_ret
          exact ⟨ret_eq (by rw [← lexL_stop HX.out HY.out (by rw [HE.out]; decide) hcmp.out, HE.out]; rfl), HBv1.out⟩
        by_cases g2 : y1 < x1
        · have g1' : decide (x1 < y1) = false := decide_eq_false g1
          have g2' : decide (y1 < x1) = true := decide_eq_true g2
          have HE := Lib.hid (show cmpPos1 (x1, x2) (y1, y2) = 1 by unfold cmpPos1; rw [cmpI_gt g2]; rfl)
          go_wp2
          refine wp_region_plan_below 12 [(0, [0, 1, 2, 3, 4, 5, 6, 7, 8, 9, 10, 11])] (by kernel_rfl) (by kernel_rfl) (fun _ _ _ _ h => h) ?_
          simp only [wpSegs, pickOps, List.getElem?_toArray, List.getElem?_cons_zero, List.getElem?_cons_succ]
          have kc := cell_cls wr
          iterate 12 (go_big_quiet_step (fail))
          refine wpQuiet_nil ?_
          clear kc
          obtain ⟨v1, hV⟩ : ∃ v1 : World, { wr with drawn := wr.drawn + 1 } = v1 := ⟨_, rfl⟩
          rw [hV]
          have a1_1 : v1.cell? ⟨ba, oa + k * 2, none⟩ = some (.int .i64 x1) := by rw [← hV]; exact a1
          have a2_1 : v1.cell? ⟨ba, oa + k * 2 + 1, none⟩ = some (.int .i64 x2) := by rw [← hV]; exact a2
          have b1_1 : v1.cell? ⟨bb, ob + k * 2, none⟩ = some (.int .i64 y1) := by rw [← hV]; exact b1
          have b2_1 : v1.cell? ⟨bb, ob + k * 2 + 1, none⟩ = some (.int .i64 y2) := by rw [← hV]; exact b2
          have szv1 : v1.heap.size = wr.heap.size := by rw [← hV]
          have h1v1 : ba < v1.heap.size := by omega
          have h2v1 : bb < v1.heap.size := by omega
          have HBv1 : Hid (Below w.heap.size w v1) := Lib.hid (by rw [← hV]; exact HBwr.out.trans ((Below.drew (Below.refl wr.heap.size wr)).mono HBwr.out.size))
          clear hV szv1
          clear a1 a2 b1 b2
          go_wp2
          refine wp_region_plan_below 12 [(0, [0, 1, 2, 3, 4, 5, 6, 7, 8, 9, 10, 11])] (by kernel_rfl) (by kernel_rfl) (fun _ _ _ _ h => h) ?_
          simp only [wpSegs, pickOps, List.getElem?_toArray, List.getElem?_cons_zero, List.getElem?_cons_succ]
          have kc := cell_cls v1
          iterate 12 (go_big_quiet_step (fail))
          refine wpQuiet_nil ?_
          clear kc
          obtain ⟨v2, hV⟩ : ∃ v2 : World, { v1 with drawn := v1.drawn + 1 } = v2 := ⟨_, rfl⟩
          rw [hV]
          have a1_2 : v2.cell? ⟨ba, oa + k * 2, none⟩ = some (.int .i64 x1) := by rw [← hV]; exact a1_1
          have a2_2 : v2.cell? ⟨ba, oa + k * 2 + 1, none⟩ = some (.int .i64 x2) := by rw [← hV]; exact a2_1
          have b1_2 : v2.cell? ⟨bb, ob + k * 2, none⟩ = some (.int .i64 y1) := by rw [← hV]; exact b1_1
          have b2_2 : v2.cell? ⟨bb, ob + k * 2 + 1, none⟩ = some (.int .i64 y2) := by rw [← hV]; exact b2_1
          have szv2 : v2.heap.size = v1.heap.size := by rw [← hV]
          have h1v2 : ba < v2.heap.size := by omega
          have h2v2 : bb < v2.heap.size := by omega
          have HBv2 : Hid (Below w.heap.size w v2) := Lib.hid (by rw [← hV]; exact HBv1.out.trans ((Below.drew (Below.refl v1.heap.size v1)).mono HBv1.out.size))
          clear hV szv2
          clear a1_1 a2_1 b1_1 b2_1
          go_wp2
          go_ret
          exact ⟨ret_eq (by rw [← lexL_stop HX.out HY.out (by rw [HE.out]; decide) hcmp.out, HE.out]; rfl), HBv2.out⟩
        by_cases g3 : x2 < y2
        · have g1' : decide (x1 < y1) = false := decide_eq_false g1
          have g2' : decide (y1 < x1) = false := decide_eq_false g2
          have g3' : decide (x2 < y2) = true := decide_eq_true g3
          have HE := Lib.hid (show cmpPos1 (x1, x2) (y1, y2) = -1 by unfold cmpPos1; rw [cmpI_eq (by omega) (by omega), if_pos rfl, cmpI_lt g3])
          go_wp2
          refine wp_region_plan_below 12 [(0, [0, 1, 2, 3, 4, 5, 6, 7, 8, 9, 10, 11])] (by kernel_rfl) (by kernel_rfl) (fun _ _ _ _ h => h) ?_
          simp only [wpSegs, pickOps, List.getElem?_toArray, List.getElem?_cons_zero, List.getElem?_cons_succ]
          have kc := cell_cls wr
          iterate 12 (go_big_quiet_step (fail))
          refine wpQuiet_nil ?_
          clear kc
          obtain ⟨v1, hV⟩ : ∃ v1 : World, { wr with drawn := wr.drawn + 1 } = v1 := ⟨_, rfl⟩
          rw [hV]
          have a1_1 : v1.cell? ⟨ba, oa + k * 2, none⟩ = some (.int .i64 x1) := by rw [← hV]; exact a1
          have a2_1 : v1.cell? ⟨ba, oa + k * 2 + 1, none⟩ = some (.int .i64 x2) := by rw [← hV]; exact a2
          have b1_1 : v1.cell? ⟨bb, ob + k * 2, none⟩ = some (.int .i64 y1) := by rw [← hV]; exact b1
          have b2_1 : v1.cell? ⟨bb, ob + k * 2 + 1, none⟩ = some (.int .i64 y2) := by rw [← hV]; exact b2
          have szv1 : v1.heap.size = wr.heap.size := by rw [← hV]
          have h1v1 : ba < v1.heap.size := by omega
          have h2v1 : bb < v1.heap.size := by omega
          have HBv1 : Hid (Below w.heap.size w v1) := Lib.hid (by rw [← hV]; exact HBwr.out.trans ((Below.drew (Below.refl wr.heap.size wr)).mono HBwr.out.size))
          clear hV szv1
          clear a1 a2 b1 b2
          go_wp2
          refine wp_region_plan_below 12 [(0, [0, 1, 2, 3, 4, 5, 6, 7, 8, 9, 10, 11])] (by kernel_rfl) (by kernel_rfl) (fun _ _ _ _ h => h) ?_
          simp only [wpSegs, pickOps, List.getElem?_toArray, List.getElem?_cons_zero, List.getElem?_cons_succ]
          have kc := cell_cls v1
          iterate 12 (go_big_quiet_step (fail))
          refine wpQuiet_nil ?_
          clear kc
          obtain ⟨v2, hV⟩ : ∃ v2 : World, { v1 with drawn := v1.drawn + 1 } = v2 := ⟨_, rfl⟩
          rw [hV]
          have a1_2 : v2.cell? ⟨ba, oa + k * 2, none⟩ = some (.int .i64 x1) := by rw [← hV]; exact a1_1
          have a2_2 : v2.cell? ⟨ba, oa + k * 2 + 1, none⟩ = some (.int .i64 x2) := by rw [← hV]; exact a2_1
          have b1_2 : v2.cell? ⟨bb, ob + k * 2, none⟩ = some (.int .i64 y1) := by rw [← hV]; exact b1_1
          have b2_2 : v2.cell? ⟨bb, ob + k * 2 + 1, none⟩ = some (.int .i64 y2) := by rw [← hV]; exact b2_1
          have szv2 : v2.heap.size = v1.heap.size := by rw [← hV]
          have h1v2 : ba < v2.heap.size := by omega
          have h2v2 : bb < v2.heap.size := by omega
          have HBv2 : Hid (Below w.heap.size w v2) := Lib.hid (by rw [← hV]; exact HBv1.out.trans ((Below.drew (Below.refl v1.heap.size v1)).mono HBv1.out.size))
          clear hV szv2
          clear a1_1 a2_1 b1_1 b2_1
          go_wp2
          refine wp_region_plan_below 12 [(0, [0, 1, 2, 3, 4, 5, 6, 7, 8, 9, 10, 11])] (by kernel_rfl) (by kernel_rfl) (fun _ _ _ _ h => h) ?_
          simp only [wpSegs, pickOps, List.getElem?_toArray, List.getElem?_cons_zero, List.getElem?_cons_succ]
          have kc := cell_cls v2
          iterate 12 (go_big_quiet_step (fail))
          refine wpQuiet_nil ?_
          clear kc
          obtain ⟨v3, hV⟩ : ∃ v3 : World, { v2 with drawn := v2.drawn + 1 } = v3 := ⟨_, rfl⟩
          rw [hV]
          have a1_3 : v3.cell? ⟨ba, oa + k * 2, none⟩ = some (.int .i64 x1) := by rw [← hV]; exact a1_2
          have a2_3 : v3.cell? ⟨ba, oa + k * 2 + 1, none⟩ = some (.int .i64 x2) := by rw [← hV]; exact a2_2
          have b1_3 : v3.cell? ⟨bb, ob + k * 2, none⟩ = some (.int .i64 y1) := by rw [← hV]; exact b1_2
          have b2_3 : v3.cell? ⟨bb, ob + k * 2 + 1, none⟩ = some (.int .i64 y2) := by rw [← hV]; exact b2_2
          have szv3 : v3.heap.size = v2.heap.size := by rw [← hV]
          have h1v3 : ba < v3.heap.size := by omega
          have h2v3 : bb < v3.heap.size := by omega
          have HBv3 : Hid (Below w.heap.size w v3) := Lib.hid (by rw [← hV]; exact HBv2.out.trans ((Below.drew (Below.refl v2.heap.size v2)).mono HBv2.out.size))
          clear hV szv3
          clear a1_2 a2_2 b1_2 b2_2
          go_wp2
          go_ret
          exact ⟨ret_eq (by rw [← lexL_stop HX.out HY.out (by rw [HE.out]; decide) hcmp.out, HE.out]; rfl), HBv3.out⟩
        by_cases g4 : y2 < x2
        · have g1' : decide (x1 < y1) = false := decide_eq_false g1
          have g2' : decide (y1 < x1) = false := decide_eq_false g2
          have g3' : decide (x2 < y2) = false := decide_eq_false g3
          have g4' : decide (y2 < x2) = true := decide_eq_true g4
          have HE := Lib.hid (show cmpPos1 (x1, x2) (y1, y2) = 1 by unfold cmpPos1; rw [cmpI_eq (by omega) (by omega), if_pos rfl, cmpI_gt g4])
          go_wp2
          refine wp_region_plan_below 12 [(0, [0, 1, 2, 3, 4, 5, 6, 7, 8, 9, 10, 11])] (by kernel_rfl) (by kernel_rfl) (fun _ _ _ _ h => h) ?_
          simp only [wpSegs, pickOps, List.getElem?_toArray, List.getElem?_cons_zero, List.getElem?_cons_succ]
          have kc := cell_cls wr
          iterate 12 (go_big_quiet_step (fail))
          refine wpQuiet_nil ?_
          clear kc
          obtain ⟨v1, hV⟩ : ∃ v1 : World, { wr with drawn := wr.drawn + 1 } = v1 := ⟨_, rfl⟩
          rw [hV]
          have a1_1 : v1.cell? ⟨ba, oa + k * 2, none⟩ = some (.int .i64 x1) := by rw [← hV]; exact a1
          have a2_1 : v1.cell? ⟨ba, oa + k * 2 + 1, none⟩ = some (.int .i64 x2) := by rw [← hV]; exact a2
          have b1_1 : v1.cell? ⟨bb, ob + k * 2, none⟩ = some (.int .i64 y1) := by rw [← hV]; exact b1
          have b2_1 : v1.cell? ⟨bb, ob + k * 2 + 1, none⟩ = some (.int .i64 y2) := by rw [← hV]; exact b2
          have szv1 : v1.heap.size = wr.heap.size := by rw [← hV]
          have h1v1 : ba < v1.heap.size := by omega
          have h2v1 : bb < v1.heap.size := by omega
          have HBv1 : Hid (Below w.heap.size w v1) := Lib.hid (by rw [← hV]; exact HBwr.out.trans ((Below.drew (Below.refl wr.heap.size wr)).mono HBwr.out.size))
          clear hV szv1
          clear a1 a2 b1 b2
          go_wp2
          refine wp_region_plan_below 12 [(0, [0, 1, 2, 3, 4, 5, 6, 7, 8, 9, 10, 11])] (by kernel_rfl) (by kernel_rfl) (fun _ _ _ _ h => h) ?_
          simp only [wpSegs, pickOps, List.getElem?_toArray, List.getElem?_cons_zero, List.getElem?_cons_succ]
          have kc := cell_cls v1
          iterate 12 (go_big_quiet_step (fail))
          refine wpQuiet_nil ?_
          clear kc
          obtain ⟨v2, hV⟩ : ∃ v2 : World, { v1 with drawn := v1.drawn + 1 } = v2 := ⟨_, rfl⟩
          rw [hV]
          have a1_2 : v2.cell? ⟨ba, oa + k * 2, none⟩ = some (.int .i64 x1) := by rw [← hV]; exact a1_1
          have a2_2 : v2.cell? ⟨ba, oa + k * 2 + 1, none⟩ = some (.int .i64 x2) := by rw [← hV]; exact a2_1
          have b1_2 : v2.cell? ⟨bb, ob + k * 2, none⟩ = some (.int .i64 y1) := by rw [← hV]; exact b1_1
          have b2_2 : v2.cell? ⟨bb, ob + k * 2 + 1, none⟩ = some (.int .i64 y2) := by rw [← hV]; exact b2_1
          have szv2 : v2.heap.size = v1.heap.size := by rw [← hV]
          have h1v2 : ba < v2.heap.size := by omega
          have h2v2 : bb < v2.heap.size := by omega
          have HBv2 : Hid (Below w.heap.size w v2) := Lib.hid (by rw [← hV]; exact HBv1.out.trans ((Below.drew (Below.refl v1.heap.size v1)).mono HBv1.out.size))
          clear hV szv2
          clear a1_1 a2_1 b1_1 b2_1
          go_wp2
          refine wp_region_plan_below 12 [(0, [0, 1, 2, 3, 4, 5, 6, 7, 8, 9, 10, 11])] (by kernel_rfl) (by kernel_rfl) (fun _ _ _ _ h => h) ?_
          simp only [wpSegs, pickOps, List.getElem?_toArray, List.getElem?_cons_zero, List.getElem?_cons_succ]
          have kc := cell_cls v2
          iterate 12 (go_big_quiet_step (fail))
          refine wpQuiet_nil ?_
          clear kc
          obtain ⟨v3, hV⟩ : ∃ v3 : World, { v2 with drawn := v2.drawn + 1 } = v3 := ⟨_, rfl⟩
          rw [hV]
          have a1_3 : v3.cell? ⟨ba, oa + k * 2, none⟩ = some (.int .i64 x1) := by rw [← hV]; exact a1_2
          have a2_3 : v3.cell? ⟨ba, oa + k * 2 + 1, none⟩ = some (.int .i64 x2) := by rw [← hV]; exact a2_2
          have b1_3 : v3.cell? ⟨bb, ob + k * 2, none⟩ = some (.int .i64 y1) := by rw [← hV]; exact b1_2
          have b2_3 : v3.cell? ⟨bb, ob + k * 2 + 1, none⟩ = some (.int .i64 y2) := by rw [← hV]; exact b2_2
          have szv3 : v3.heap.size = v2.heap.size := by rw [← hV]
          have h1v3 : ba < v3.heap.size := by omega
          have h2v3 : bb < v3.heap.size := by omega
          have HBv3 : Hid (Below w.heap.size w v3) := Lib.hid (by rw [← hV]; exact HBv2.out.trans ((Below.drew (Below.refl v2.heap.size v2)).mono HBv2.out.size))
          clear hV szv3
          clear a1_2 a2_2 b1_2 b2_2
          go_wp2
          refine wp_region_plan_below 12 [(0, [0, 1, 2, 3, 4, 5, 6, 7, 8, 9, 10, 11])] (by kernel_rfl) (by kernel_rfl) (fun _ _ _ _ h => h) ?_
          simp only [wpSegs, pickOps, List.getElem?_toArray, List.getElem?_cons_zero, List.getElem?_cons_succ]
          have kc := cell_cls v3
          iterate 12 (go_big_quiet_step (fail))
          refine wpQuiet_nil ?_
          clear kc
          obtain ⟨v4, hV⟩ : ∃ v4 : World, { v3 with drawn := v3.drawn + 1 } = v4 := ⟨_, rfl⟩
          rw [hV]
          have a1_4 : v4.cell? ⟨ba, oa + k * 2, none⟩ = some (.int .i64 x1) := by rw [← hV]; exact a1_3
          have a2_4 : v4.cell? ⟨ba, oa + k * 2 + 1, none⟩ = some (.int .i64 x2) := by rw [← hV]; exact a2_3
          have b1_4 : v4.cell? ⟨bb, ob + k * 2, none⟩ = some (.int .i64 y1) := by rw [← hV]; exact b1_3
          have b2_4 : v4.cell? ⟨bb, ob + k * 2 + 1, none⟩ = some (.int .i64 y2) := by rw [← hV]; exact b2_3
          have szv4 : v4.heap.size = v3.heap.size := by rw [← hV]
          have h1v4 : ba < v4.heap.size := by omega
          have h2v4 : bb < v4.heap.size := by omega
          have HBv4 : Hid (Below w.heap.size w v4) := Lib.hid (by rw [← hV]; exact HBv3.out.trans ((Below.drew (Below.refl v3.heap.size v3)).mono HBv3.out.size))
          clear hV szv4
          clear a1_3 a2_3 b1_3 b2_3
          go_wp2
          go_ret
          exact ⟨ret_eq (by rw [← lexL_stop HX.out HY.out (by rw [HE.out]; decide) hcmp.out, HE.out]; rfl), HBv4.out⟩
        · have g1' : decide (x1 < y1) = false := decide_eq_false g1
          have g2' : decide (y1 < x1) = false := decide_eq_false g2
          have g3' : decide (x2 < y2) = false := decide_eq_false g3
          have g4' : decide (y2 < x2) = false := decide_eq_false g4
          have HE := Lib.hid (show cmpPos1 (x1, x2) (y1, y2) = 0 by unfold cmpPos1; rw [cmpI_eq (by omega) (by omega), if_pos rfl, cmpI_eq (by omega) (by omega)])
          go_wp2
          refine wp_region_plan_below 12 [(0, [0, 1, 2, 3, 4, 5, 6, 7, 8, 9, 10, 11])] (by kernel_rfl) (by kernel_rfl) (fun _ _ _ _ h => h) ?_
          simp only [wpSegs, pickOps, List.getElem?_toArray, List.getElem?_cons_zero, List.getElem?_cons_succ]
          have kc := cell_cls wr
          iterate 12 (go_big_quiet_step (fail))
          refine wpQuiet_nil ?_
          clear kc
          obtain ⟨v1, hV⟩ : ∃ v1 : World, { wr with drawn := wr.drawn + 1 } = v1 := ⟨_, rfl⟩
          rw [hV]
          have a1_1 : v1.cell? ⟨ba, oa + k * 2, none⟩ = some (.int .i64 x1) := by rw [← hV]; exact a1
          have a2_1 : v1.cell? ⟨ba, oa + k * 2 + 1, none⟩ = some (.int .i64 x2) := by rw [← hV]; exact a2
          have b1_1 : v1.cell? ⟨bb, ob + k * 2, none⟩ = some (.int .i64 y1) := by rw [← hV]; exact b1
          have b2_1 : v1.cell? ⟨bb, ob + k * 2 + 1, none⟩ = some (.int .i64 y2) := by rw [← hV]; exact b2
          have szv1 : v1.heap.size = wr.heap.size := by rw [← hV]
          have h1v1 : ba < v1.heap.size := by omega
          have h2v1 : bb < v1.heap.size := by omega
          have HBv1 : Hid (Below w.heap.size w v1) := Lib.hid (by rw [← hV]; exact HBwr.out.trans ((Below.drew (Below.refl wr.heap.size wr)).mono HBwr.out.size))
          clear hV szv1
          clear a1 a2 b1 b2
          go_wp2
          refine wp_region_plan_below 12 [(0, [0, 1, 2, 3, 4, 5, 6, 7, 8, 9, 10, 11])] (by kernel_rfl) (by kernel_rfl) (fun _ _ _ _ h => h) ?_
          simp only [wpSegs, pickOps, List.getElem?_toArray, List.getElem?_cons_zero, List.getElem?_cons_succ]
          have kc := cell_cls v1
          iterate 12 (go_big_quiet_step (fail))
          refine wpQuiet_nil ?_
          clear kc
          obtain ⟨v2, hV⟩ : ∃ v2 : World, { v1 with drawn := v1.drawn + 1 } = v2 := ⟨_, rfl⟩
          rw [hV]
          have a1_2 : v2.cell? ⟨ba, oa + k * 2, none⟩ = some (.int .i64 x1) := by rw [← hV]; exact a1_1
          have a2_2 : v2.cell? ⟨ba, oa + k * 2 + 1, none⟩ = some (.int .i64 x2) := by rw [← hV]; exact a2_1
          have b1_2 : v2.cell? ⟨bb, ob + k * 2, none⟩ = some (.int .i64 y1) := by rw [← hV]; exact b1_1
          have b2_2 : v2.cell? ⟨bb, ob + k * 2 + 1, none⟩ = some (.int .i64 y2) := by rw [← hV]; exact b2_1
          have szv2 : v2.heap.size = v1.heap.size := by rw [← hV]
          have h1v2 : ba < v2.heap.size := by omega
          have h2v2 : bb < v2.heap.size := by omega
          have HBv2 : Hid (Below w.heap.size w v2) := Lib.hid (by rw [← hV]; exact HBv1.out.trans ((Below.drew (Below.refl v1.heap.size v1)).mono HBv1.out.size))
          clear hV szv2
          clear a1_1 a2_1 b1_1 b2_1
          go_wp2
          refine wp_region_plan_below 12 [(0, [0, 1, 2, 3, 4, 5, 6, 7, 8, 9, 10, 11])] (by kernel_rfl) (by kernel_rfl) (fun _ _ _ _ h => h) ?_
          simp only [wpSegs, pickOps, List.getElem?_toArray, List.getElem?_cons_zero, List.getElem?_cons_succ]
          have kc := cell_cls v2
          iterate 12 (go_big_quiet_step (fail))
          refine wpQuiet_nil ?_
          clear kc
          obtain ⟨v3, hV⟩ : ∃ v3 : World, { v2 with drawn := v2.drawn + 1 } = v3 := ⟨_, rfl⟩
          rw [hV]
          have a1_3 : v3.cell? ⟨ba, oa + k * 2, none⟩ = some (.int .i64 x1) := by rw [← hV]; exact a1_2
          have a2_3 : v3.cell? ⟨ba, oa + k * 2 + 1, none⟩ = some (.int .i64 x2) := by rw [← hV]; exact a2_2
          have b1_3 : v3.cell? ⟨bb, ob + k * 2, none⟩ = some (.int .i64 y1) := by rw [← hV]; exact b1_2
          have b2_3 : v3.cell? ⟨bb, ob + k * 2 + 1, none⟩ = some (.int .i64 y2) := by rw [← hV]; exact b2_2
          have szv3 : v3.heap.size = v2.heap.size := by rw [← hV]
          have h1v3 : ba < v3.heap.size := by omega
          have h2v3 : bb < v3.heap.size := by omega
          have HBv3 : Hid (Below w.heap.size w v3) := Lib.hid (by rw [← hV]; exact HBv2.out.trans ((Below.drew (Below.refl v2.heap.size v2)).mono HBv2.out.size))
          clear hV szv3
          clear a1_2 a2_2 b1_2 b2_2
          go_wp2
          refine wp_region_plan_below 12 [(0, [0, 1, 2, 3, 4, 5, 6, 7, 8, 9, 10, 11])] (by kernel_rfl) (by kernel_rfl) (fun _ _ _ _ h => h) ?_
          simp only [wpSegs, pickOps, List.getElem?_toArray, List.getElem?_cons_zero, List.getElem?_cons_succ]
          have kc := cell_cls v3
          iterate 12 (go_big_quiet_step (fail))
          refine wpQuiet_nil ?_
          clear kc
          obtain ⟨v4, hV⟩ : ∃ v4 : World, { v3 with drawn := v3.drawn + 1 } = v4 := ⟨_, rfl⟩
          rw [hV]
          have a1_4 : v4.cell? ⟨ba, oa + k * 2, none⟩ = some (.int .i64 x1) := by rw [← hV]; exact a1_3
          have a2_4 : v4.cell? ⟨ba, oa + k * 2 + 1, none⟩ = some (.int .i64 x2) := by rw [← hV]; exact a2_3
          have b1_4 : v4.cell? ⟨bb, ob + k * 2, none⟩ = some (.int .i64 y1) := by rw [← hV]; exact b1_3
          have b2_4 : v4.cell? ⟨bb, ob + k * 2 + 1, none⟩ = some (.int .i64 y2) := by rw [← hV]; exact b2_3
          have szv4 : v4.heap.size = v3.heap.size := by rw [← hV]
          have h1v4 : ba < v4.heap.size := by omega
          have h2v4 : bb < v4.heap.size := by omega
          have HBv4 : Hid (Below w.heap.size w v4) := Lib.hid (by rw [← hV]; exact HBv3.out.trans ((Below.drew (Below.refl v3.heap.size v3)).mono HBv3.out.size))
          clear hV szv4
          clear a1_3 a2_3 b1_3 b2_3
          go_wp2
          go_roundw
          case rel => exact ⟨k + 1, by omega, by omega, by go_num, lexL_step HX.out HY.out HE.out hcmp.out, HBv4⟩
          case measure => simp [intOf]; omega
      · have hb0 : k = b.length := by omega
        go_wp2
        go_ret
        exact ⟨ret_eq (by rw [lexL_long h1 h2 hcmp.out]; rfl), HBwr.out⟩
    · by_cases h2 : k < b.length
      · go_wp2
        go_ret
        exact ⟨ret_eq (by rw [lexL_short h1 h2 hcmp.out]; rfl), HBwr.out⟩
      · go_wp2
        go_ret
        exact ⟨ret_eq (by rw [lexL_both h1 h2 hcmp.out]; rfl), HBwr.out⟩

set_option maxRecDepth 100000 in
set_option maxHeartbeats 1000000 in
theorem CompareFault_any (x y : LF) (B : Nat) (w : World) (hx : LOk B w x) (hy : LOk B w y) (hB : B ≤ w.heap.size) :
    Calls Tryz.prog 58 #[.agg x.cells, .agg y.cells] w (RetB (.int .i64 (cmpF x.f y.f)) w) := by
  obtain ⟨⟨k, pos, path⟩, pv, qv⟩ := x
  obtain ⟨⟨k', pos', path'⟩, pv', qv'⟩ := y
  obtain ⟨⟨p, c, h1, h2, h3⟩, q, d, h4, h5, h6⟩ := hx
  obtain ⟨⟨p', c', h1', h2', h3'⟩, q', d', h4', h5', h6'⟩ := hy
  dsimp only at *
  subst h1 h4 h1' h4'
  by_cases hk : k = k'
  · subst hk
    have e : cmpF ⟨k, pos, path⟩ ⟨k, pos', path'⟩ = if lexL cmpPos1 pos pos' = 0 then cmpP path path' else lexL cmpPos1 pos pos' := by unfold cmpF; rw [if_pos (cmpI_zero.2 rfl)]
    rw [e]
    have C1 : Hid (∀ W, Below w.heap.size w W → Calls Tryz.prog 59 #[.slice p pos.length c, .slice p' pos'.length c'] W (RetB (.int .i64 (lexL cmpPos1 pos pos')) W)) := Lib.hid (fun W h => comparePos_any pos pos' p p' c c' W ((h2.up hB).below h |>.up h.size) ((h2'.up hB).below h |>.up h.size) h3 h3')
    have C2 : Hid (∀ W, Below w.heap.size w W → Calls Tryz.prog 89 #[.slice q path.length d, .slice q' path'.length d'] W (RetB (.int .i64 (cmpP path path')) W)) := Lib.hid (fun W h => refCompare_any path path' q q' d d' W ((h5.up hB).below h |>.up h.size) ((h5'.up hB).below h |>.up h.size) (by unfold big at h6; unfold maxLen; omega) (by unfold big at h6'; unfold maxLen; omega))
    clear h2 h5 h2' h5' h3 h6 h3' h6' e
    generalize lexL cmpPos1 pos pos' = r at *
    generalize cmpP path path' = s at *
    have hbb : Below w.heap.size w ((w.alloc (.cells #[.int .i64 k, .slice p pos.length c, .slice q path.length d] 42)).alloc (.cells #[.int .i64 k, .slice p' pos'.length c', .slice q' path'.length d'] 42)) := ((Below.refl _ _).alloc (Nat.le_refl _) _).alloc (by simp) _
    have hcx : ((w.alloc (.cells #[.int .i64 k, .slice p pos.length c, .slice q path.length d] 42)).alloc (.cells #[.int .i64 k, .slice p' pos'.length c', .slice q' path'.length d'] 42)).heap[w.heap.size]? = some (.cells #[.int .i64 k, .slice p pos.length c, .slice q path.length d] 42 (0, 0)) := by
      rw [Below.heap_alloc _ _ _ (by simp)]
      exact heap_new w _
    have hcy : ((w.alloc (.cells #[.int .i64 k, .slice p pos.length c, .slice q path.length d] 42)).alloc (.cells #[.int .i64 k, .slice p' pos'.length c', .slice q' path'.length d'] 42)).heap[w.heap.size + 1]? = some (.cells #[.int .i64 k, .slice p' pos'.length c', .slice q' path'.length d'] 42 (0, 0)) := by
      have := heap_new (w.alloc (.cells #[.int .i64 k, .slice p pos.length c, .slice q path.length d] 42)) (.cells #[.int .i64 k, .slice p' pos'.length c', .slice q' path'.length d'] 42)
      rwa [World.size_alloc] at this
    have hsz : ((w.alloc (.cells #[.int .i64 k, .slice p pos.length c, .slice q path.length d] 42)).alloc (.cells #[.int .i64 k, .slice p' pos'.length c', .slice q' path'.length d'] 42)).heap.size = w.heap.size + 1 + 1 := by simp
    have HBB := Lib.hid hbb
    have HCX : Hid (∀ w1, Below (w.heap.size + 1 + 1) ((w.alloc (.cells #[.int .i64 k, .slice p pos.length c, .slice q path.length d] 42)).alloc (.cells #[.int .i64 k, .slice p' pos'.length c', .slice q' path'.length d'] 42)) w1 → w1.cell? ⟨w.heap.size, 2, none⟩ = some (.slice q path.length d) ∧ w1.cell? ⟨w.heap.size + 1, 2, none⟩ = some (.slice q' path'.length d') ∧ Below w.heap.size w w1) := Lib.hid (fun w1 hg => by
      have h1 := (hg.block _ (by omega)).trans hcx
      have h2 := (hg.block _ (by omega)).trans hcy
      exact ⟨by simp [World.cell?, h1], by simp [World.cell?, h2], hbb.trans (hg.mono (by omega))⟩)
    clear hbb hcx hcy hsz
    by_cases hr : r = 0
    · subst hr
      rw [if_pos rfl]
      go_enter Tryz.func58, Tryz.ntmps58
      go_wp2_with (first
        | (go_at_call 59; refine (C1.out _ HBB.out).mono ?_; rintro e w1 ⟨rfl, hg1⟩; rw [World.size_alloc, World.size_alloc] at hg1; obtain ⟨qx, qy, hbw⟩ := HCX.out _ hg1; have HBW := Lib.hid hbw; clear hg1 hbw)
        | (go_at_call 89; refine (C2.out _ HBW.out).mono ?_; rintro e w2 ⟨rfl, hg2⟩; have HG2 := Lib.hid hg2; clear hg2))
      go_ret
      exact ⟨rfl, HBW.out.trans (HG2.out.mono HBW.out.size)⟩
    · rw [if_neg hr]
      go_enter Tryz.func58, Tryz.ntmps58
      go_wp2_with (first
        | (go_at_call 59; refine (C1.out _ HBB.out).mono ?_; rintro e w1 ⟨rfl, hg1⟩; rw [World.size_alloc, World.size_alloc] at hg1; obtain ⟨qx, qy, hbw⟩ := HCX.out _ hg1; have HBW := Lib.hid hbw; clear hg1 hbw))
      go_ret
      exact ⟨rfl, HBW.out⟩
  · have e : cmpF ⟨k, pos, path⟩ ⟨k', pos', path'⟩ = cmpI k k' := by unfold cmpF; rw [if_neg (fun e => hk (cmpI_zero.1 e))]
    rw [e]
    clear h2 h5 h2' h5' e
    by_cases hl : k < k'
    · rw [cmpI_lt hl]
      go_enter Tryz.func58, Tryz.ntmps58
      go_wp2
      go_ret
      exact ⟨rfl, ((Below.refl _ _).alloc (Nat.le_refl _) _).alloc (by simp) _⟩
    · have hg : k' < k := by omega
      rw [cmpI_gt hg]
      go_enter Tryz.func58, Tryz.ntmps58
      go_wp2
      go_ret
      exact ⟨rfl, ((Below.refl _ _).alloc (Nat.le_refl _) _).alloc (by simp) _⟩

theorem lexL_refl_eq {α : Type} {c : α → α → Int} (h : ∀ x y, c x y = 0 ↔ x = y) : ∀ {a b : List α}, lexL c a b = 0 ↔ a = b := by
  intro a b
  refine ⟨lexL_eq (fun x _ y _ => (h x y).1), ?_⟩
  rintro rfl
  induction a with
  | nil => rfl
  | cons x a ih => rw [lexL, if_pos ((h x x).2 rfl), ih]

theorem st_eq {x y : St} : x = y ↔ x.it = y.it ∧ x.ix = y.ix ∧ (x.nm.toList == y.nm.toList) = true := by
  obtain ⟨n, i, b⟩ := x
  obtain ⟨n2, i2, b2⟩ := y
  constructor
  · rintro h
    cases h
    simp
  · rintro ⟨h1, h2, h3⟩
    dsimp only at *
    subst h1 h2
    have h4 : n.toList = n2.toList := by simpa using h3
    have : n = n2 := by
      have h5 : n.data = n2.data := by
        rw [ByteArray.toList_eq, ByteArray.toList_eq] at h4
        exact Array.toList_inj.1 h4
      obtain ⟨d⟩ := n
      obtain ⟨d2⟩ := n2
      cases h5
      rfl
    rw [this]

set_option maxRecDepth 100000 in
set_option maxHeartbeats 4000000 in
theorem SameSteps_any (a b : List St) (p q : Option Addr) (c d : Nat) (w : World) (ha : StepsAt w.heap.size w p a) (hb : StepsAt w.heap.size w q b) (la : a.length ≤ big) (lb : b.length ≤ big) :
    Calls Tryz.prog 12 #[.slice p a.length c, .slice q b.length d] w (fun e w' => ∃ r : Bool, e = .returned (.bool r) ∧ (r = true ↔ a = b) ∧ Below w.heap.size w w') := by
  unfold big at la lb
  by_cases hlen : a.length = b.length
  · have HLEN := Lib.hid hlen
    have hd5 : ((a.length : Int) != (b.length : Int)) = false := by simp [hlen]
    clear hlen
    go_enter Tryz.func12, Tryz.ntmps12
    go_wp2
    clear hd5
    go_loopw [5] (fun i wr => ∃ k : Nat, k ≤ a.length ∧ i = .int .i64 k ∧ Hid (a.take k = b.take k) ∧ Hid (Below w.heap.size w wr)) (fun i _ => a.length - (intOf i).toNat)
    case atStart => exact ⟨0, Nat.zero_le _, rfl, rfl, Lib.hid (Below.refl _ _)⟩
    case round =>
      obtain ⟨k, hka, rfl, hcmp, HBwr⟩ := hrel
      by_cases h1 : k < a.length
      · have h2 : k < b.length := by have := HLEN.out; omega
        obtain ⟨x, hx⟩ : ∃ x, a[k]? = some x := ⟨a[k], by simp [h1]⟩
        obtain ⟨y, hy⟩ : ∃ y, b[k]? = some y := ⟨b[k], by simp [h2]⟩
        rcases ha with ha | ⟨ba, oa, rfl, hBa, hca⟩
        · subst ha; simp at h1
        rcases hb with hb | ⟨bb, ob, rfl, hBb, hcb⟩
        · subst hb; simp at h2
        obtain ⟨a1, a2, a3⟩ := hca k x hx
        obtain ⟨b1, b2, b3⟩ := hcb k y hy
        have a1 := (HBwr.out.cell (p := ⟨ba, oa + k * 3, none⟩) hBa).trans a1
        have a2 := (HBwr.out.cell (p := ⟨ba, oa + k * 3 + 1, none⟩) hBa).trans a2
        have a3 := (HBwr.out.cell (p := ⟨ba, oa + k * 3 + 2, none⟩) hBa).trans a3
        have b1 := (HBwr.out.cell (p := ⟨bb, ob + k * 3, none⟩) hBb).trans b1
        have b2 := (HBwr.out.cell (p := ⟨bb, ob + k * 3 + 1, none⟩) hBb).trans b2
        have b3 := (HBwr.out.cell (p := ⟨bb, ob + k * 3 + 2, none⟩) hBb).trans b3
        have hw1 : ba < wr.heap.size := Nat.lt_of_lt_of_le hBa HBwr.out.size
        have hw2 : bb < wr.heap.size := Nat.lt_of_lt_of_le hBb HBwr.out.size
        have HE : Hid ((x.it = y.it ∧ x.ix = y.ix ∧ (x.nm.toList == y.nm.toList) = true → a.take (k + 1) = b.take (k + 1)) ∧ (¬ (x.it = y.it ∧ x.ix = y.ix ∧ (x.nm.toList == y.nm.toList) = true) → ¬ a = b)) := Lib.hid ⟨fun h => by
            rw [List.take_add_one, List.take_add_one, hcmp.out, hx, hy, st_eq.2 h], fun h e => h (st_eq.1 (by subst e; rw [hx] at hy; exact Option.some.inj hy))⟩
        clear hca hcb hx hy
        obtain ⟨xn, xi, xt⟩ := x
        obtain ⟨yn, yi, yt⟩ := y
        dsimp only at a1 a2 a3 b1 b2 b3 HE
        have tail : ∀ W, W = wr → True := fun _ _ => trivial
        clear tail
        by_cases e1 : xt = yt
        · subst e1
          by_cases e2 : xi = yi
          · subst e2
            cases e3 : (xn.toList == yn.toList) with
            | true =>
              rw [e3] at HE
              cases xt <;> (
                go_wp2
                refine wp_region_plan_below 37 [(0, [0, 1, 2, 3, 4, 5, 6, 7, 8, 9, 10, 11, 12, 13, 14, 15, 16, 17, 18, 19, 20, 21, 22, 23, 24, 25, 26, 27, 28, 29, 30, 31, 32, 33, 34, 35, 36])] (by kernel_rfl) (by kernel_rfl) (fun _ _ _ _ h => h) ?_
                simp only [wpSegs, pickOps, List.getElem?_toArray, List.getElem?_cons_zero, List.getElem?_cons_succ]
                have kc := cell_cls wr
                iterate 37 (go_big_quiet_step (fail))
                refine wpQuiet_nil ?_
                clear kc
                go_wp2
                go_roundw
                case rel => exact ⟨k + 1, by omega, by go_num, HE.out.1 (by simp), Lib.hid (HBwr.out.trans ((Below.drew (Below.refl wr.heap.size wr)).mono HBwr.out.size))⟩
                case measure => simp [intOf]; omega)
            | false =>
              rw [e3] at HE
              have HN := HE.out.2 (by simp)
              clear HE
              cases xt <;> (
                go_wp2
                refine wp_region_plan_below 37 [(0, [0, 1, 2, 3, 4, 5, 6, 7, 8, 9, 10, 11, 12, 13, 14, 15, 16, 17, 18, 19, 20, 21, 22, 23, 24, 25, 26, 27, 28, 29, 30, 31, 32, 33, 34, 35, 36])] (by kernel_rfl) (by kernel_rfl) (fun _ _ _ _ h => h) ?_
                simp only [wpSegs, pickOps, List.getElem?_toArray, List.getElem?_cons_zero, List.getElem?_cons_succ]
                have kc := cell_cls wr
                iterate 37 (go_big_quiet_step (fail))
                refine wpQuiet_nil ?_
                clear kc
                go_wp2
                go_ret
                exact ⟨false, rfl, by simp [HN], HBwr.out.trans ((Below.drew (Below.refl wr.heap.size wr)).mono HBwr.out.size)⟩)
          · have HN := HE.out.2 (by simp [e2])
            have e2' : decide (xi = yi) = false := decide_eq_false e2
            have e3' : decide (¬ xi = yi) = true := decide_eq_true e2
            have e4' : (xi != yi) = true := by simp [e2]
            have e5' : (xi == yi) = false := by simp [e2]
            clear HE
            cases xt <;> (
                go_wp2
                refine wp_region_plan_below 37 [(0, [0, 1, 2, 3, 4, 5, 6, 7, 8, 9, 10, 11, 12, 13, 14, 15, 16, 17, 18, 19, 20, 21, 22, 23, 24, 25, 26, 27, 28, 29, 30, 31, 32, 33, 34, 35, 36])] (by kernel_rfl) (by kernel_rfl) (fun _ _ _ _ h => h) ?_
                simp only [wpSegs, pickOps, List.getElem?_toArray, List.getElem?_cons_zero, List.getElem?_cons_succ]
                have kc := cell_cls wr
                iterate 37 (go_big_quiet_step (fail))
                refine wpQuiet_nil ?_
                clear kc
                go_wp2
                go_ret
                exact ⟨false, rfl, by simp [HN], HBwr.out.trans ((Below.drew (Below.refl wr.heap.size wr)).mono HBwr.out.size)⟩)
        · have HN := HE.out.2 (by simp [e1])
          clear HE
          cases xt <;> cases yt <;> first | exact absurd rfl e1 | (
                clear e1
                go_wp2
                refine wp_region_plan_below 37 [(0, [0, 1, 2, 3, 4, 5, 6, 7, 8, 9, 10, 11, 12, 13, 14, 15, 16, 17, 18, 19, 20, 21, 22, 23, 24, 25, 26, 27, 28, 29, 30, 31, 32, 33, 34, 35, 36])] (by kernel_rfl) (by kernel_rfl) (fun _ _ _ _ h => h) ?_
                simp only [wpSegs, pickOps, List.getElem?_toArray, List.getElem?_cons_zero, List.getElem?_cons_succ]
                have kc := cell_cls wr
                iterate 37 (go_big_quiet_step (fail))
                refine wpQuiet_nil ?_
                clear kc
                go_wp2
                go_ret
                exact ⟨false, rfl, by simp [HN], HBwr.out.trans ((Below.drew (Below.refl wr.heap.size wr)).mono HBwr.out.size)⟩)
      · have hall := hcmp.out
        rw [List.take_of_length_le (by omega), List.take_of_length_le (by have := HLEN.out; omega)] at hall
        have HA := Lib.hid hall
        clear hall
        go_wp2
        go_ret
        exact ⟨true, rfl, by simp [HA.out], HBwr.out⟩
  · have hne : ¬ a = b := fun e => hlen (by rw [e])
    have HN := Lib.hid hne
    have hd : decide (a.length = b.length) = false := decide_eq_false hlen
    clear hne
    go_enter Tryz.func12, Tryz.ntmps12
    go_wp2
    go_ret
    exact ⟨false, rfl, by simp [HN.out], Below.refl _ _⟩

end Go.Proofs.YtnmnmkdmnohbmaaGreatDoor

namespace Go.Proofs.YtnmnmkdmnohbmaaGreatDoor
open Go.RowKit

/-- A list of faults in memory. -/
def FsAt (B : Nat) (w : World) (p : Option Addr) (l : List LF) : Prop :=
  (l = [] ∨ ∃ b o, p = some ⟨b, o, none⟩ ∧ b < B ∧ ∀ i x, l[i]? = some x → w.cell? ⟨b, o + i * 3, none⟩ = some (.int .i64 x.f.k) ∧ w.cell? ⟨b, o + i * 3 + 1, none⟩ = some x.pv ∧ w.cell? ⟨b, o + i * 3 + 2, none⟩ = some x.qv) ∧ ∀ x ∈ l, LOk B w x

theorem FsAt.below {B : Nat} {w w' : World} {p : Option Addr} {l : List LF} (h : FsAt B w p l) (hb : Below B w w') : FsAt B w' p l := by
  refine ⟨?_, fun x hx => (h.2 x hx).below hb⟩
  rcases h.1 with h | ⟨b, o, rfl, hB, hc⟩
  · exact .inl h
  · refine .inr ⟨b, o, rfl, hB, fun i s hs => ?_⟩
    obtain ⟨h1, h2, h3⟩ := hc i s hs
    exact ⟨(hb.cell (p := ⟨b, _, none⟩) hB).trans h1, (hb.cell (p := ⟨b, _, none⟩) hB).trans h2, (hb.cell (p := ⟨b, _, none⟩) hB).trans h3⟩
theorem FsAt.up {B B' : Nat} {w : World} {p : Option Addr} {l : List LF} (h : FsAt B w p l) (hB : B ≤ B') : FsAt B' w p l := by
  refine ⟨?_, fun x hx => (h.2 x hx).mono hB⟩
  rcases h.1 with h | ⟨b, o, rfl, hb, hc⟩
  · exact .inl h
  · exact .inr ⟨b, o, rfl, Nat.lt_of_lt_of_le hb hB, hc⟩

theorem fl_eq {x y : Fl} : x = y ↔ x.k = y.k ∧ lexL cmpPos1 x.pos y.pos = 0 ∧ x.path = y.path := by
  obtain ⟨k, p, q⟩ := x
  obtain ⟨k2, p2, q2⟩ := y
  simp [lexL_refl_eq (fun _ _ => cmpPos1_zero)]

set_option maxRecDepth 100000 in
set_option maxHeartbeats 2000000 in
theorem SameFault_any (x y : LF) (B : Nat) (w : World) (hx : LOk B w x) (hy : LOk B w y) (hB : B ≤ w.heap.size) :
    Calls Tryz.prog 32 #[.agg x.cells, .agg y.cells] w (fun e w' => ∃ r : Bool, e = .returned (.bool r) ∧ (r = true ↔ x.f = y.f) ∧ Below w.heap.size w w') := by
  obtain ⟨⟨k, pos, path⟩, pv, qv⟩ := x
  obtain ⟨⟨k', pos', path'⟩, pv', qv'⟩ := y
  obtain ⟨⟨p, c, h1, h2, h3⟩, q, d, h4, h5, h6⟩ := hx
  obtain ⟨⟨p', c', h1', h2', h3'⟩, q', d', h4', h5', h6'⟩ := hy
  dsimp only at *
  subst h1 h4 h1' h4'
  have hfe : (Fl.mk k pos path = Fl.mk k' pos' path') ↔ k = k' ∧ lexL cmpPos1 pos pos' = 0 ∧ path = path' := fl_eq
  by_cases hk : k = k'
  · subst hk
    have C1 : Hid (∀ W, Below w.heap.size w W → Calls Tryz.prog 59 #[.slice p pos.length c, .slice p' pos'.length c'] W (RetB (.int .i64 (lexL cmpPos1 pos pos')) W)) := Lib.hid (fun W h => comparePos_any pos pos' p p' c c' W ((h2.up hB).below h |>.up h.size) ((h2'.up hB).below h |>.up h.size) h3 h3')
    have C2 : Hid (∀ W, Below w.heap.size w W → Calls Tryz.prog 12 #[.slice q path.length d, .slice q' path'.length d'] W (fun e w' => ∃ r : Bool, e = .returned (.bool r) ∧ (r = true ↔ path = path') ∧ Below W.heap.size W w')) := Lib.hid (fun W h => SameSteps_any path path' q q' d d' W ((h5.up hB).below h |>.up h.size) ((h5'.up hB).below h |>.up h.size) h6 h6')
    have HFE := Lib.hid hfe
    clear h2 h5 h2' h5' h3 h6 h3' h6' hfe
    generalize lexL cmpPos1 pos pos' = r at *
    have hbb : Below w.heap.size w ((w.alloc (.cells #[.int .i64 k, .slice p pos.length c, .slice q path.length d] 42)).alloc (.cells #[.int .i64 k, .slice p' pos'.length c', .slice q' path'.length d'] 42)) := ((Below.refl _ _).alloc (Nat.le_refl _) _).alloc (by simp) _
    have hcx : ((w.alloc (.cells #[.int .i64 k, .slice p pos.length c, .slice q path.length d] 42)).alloc (.cells #[.int .i64 k, .slice p' pos'.length c', .slice q' path'.length d'] 42)).heap[w.heap.size]? = some (.cells #[.int .i64 k, .slice p pos.length c, .slice q path.length d] 42 (0, 0)) := by
      rw [Below.heap_alloc _ _ _ (by simp)]
      exact heap_new w _
    have hcy : ((w.alloc (.cells #[.int .i64 k, .slice p pos.length c, .slice q path.length d] 42)).alloc (.cells #[.int .i64 k, .slice p' pos'.length c', .slice q' path'.length d'] 42)).heap[w.heap.size + 1]? = some (.cells #[.int .i64 k, .slice p' pos'.length c', .slice q' path'.length d'] 42 (0, 0)) := by
      have := heap_new (w.alloc (.cells #[.int .i64 k, .slice p pos.length c, .slice q path.length d] 42)) (.cells #[.int .i64 k, .slice p' pos'.length c', .slice q' path'.length d'] 42)
      rwa [World.size_alloc] at this
    have hsz : ((w.alloc (.cells #[.int .i64 k, .slice p pos.length c, .slice q path.length d] 42)).alloc (.cells #[.int .i64 k, .slice p' pos'.length c', .slice q' path'.length d'] 42)).heap.size = w.heap.size + 1 + 1 := by simp
    have HBB := Lib.hid hbb
    have HCX : Hid (∀ w1, Below (w.heap.size + 1 + 1) ((w.alloc (.cells #[.int .i64 k, .slice p pos.length c, .slice q path.length d] 42)).alloc (.cells #[.int .i64 k, .slice p' pos'.length c', .slice q' path'.length d'] 42)) w1 → w1.cell? ⟨w.heap.size, 2, none⟩ = some (.slice q path.length d) ∧ w1.cell? ⟨w.heap.size + 1, 2, none⟩ = some (.slice q' path'.length d') ∧ Below w.heap.size w w1) := Lib.hid (fun w1 hg => by
      have h1 := (hg.block _ (by omega)).trans hcx
      have h2 := (hg.block _ (by omega)).trans hcy
      exact ⟨by simp [World.cell?, h1], by simp [World.cell?, h2], hbb.trans (hg.mono (by omega))⟩)
    clear hbb hcx hcy hsz
    by_cases hr : r = 0
    · subst hr
      go_enter Tryz.func32, Tryz.ntmps32
      go_wp2_with (first
        | (go_at_call 59; refine (C1.out _ HBB.out).mono ?_; rintro e w1 ⟨rfl, hg1⟩; rw [World.size_alloc, World.size_alloc] at hg1; obtain ⟨qx, qy, hbw⟩ := HCX.out _ hg1; have HBW := Lib.hid hbw; clear hg1 hbw)
        | (go_at_call 12; refine (C2.out _ HBW.out).mono ?_; rintro e w2 ⟨r, rfl, hr, hg2⟩; have HG2 := Lib.hid hg2; have HR := Lib.hid hr; clear hg2 hr))
      go_ret
      exact ⟨r, rfl, by rw [HR.out, HFE.out]; simp, HBW.out.trans (HG2.out.mono HBW.out.size)⟩
    · have hr' : (r == 0) = false := by simp [hr]
      have hr2 : decide (r = 0) = false := decide_eq_false hr
      go_enter Tryz.func32, Tryz.ntmps32
      go_wp2_with (first
        | (go_at_call 59; refine (C1.out _ HBB.out).mono ?_; rintro e w1 ⟨rfl, hg1⟩; rw [World.size_alloc, World.size_alloc] at hg1; obtain ⟨qx, qy, hbw⟩ := HCX.out _ hg1; have HBW := Lib.hid hbw; clear hg1 hbw))
      go_ret
      exact ⟨false, rfl, by rw [HFE.out]; simp [hr], HBW.out⟩
  · have hk' : (k == k') = false := by simp [hk]
    have hk2 : decide (k = k') = false := decide_eq_false hk
    have HFE := Lib.hid hfe
    clear h2 h5 h2' h5' hfe
    go_enter Tryz.func32, Tryz.ntmps32
    go_wp2
    go_ret
    exact ⟨false, rfl, by rw [HFE.out]; simp [hk], ((Below.refl _ _).alloc (Nat.le_refl _) _).alloc (by simp) _⟩

theorem map_f_eq {a b : List LF} (hl : a.length = b.length) (h : ∀ (i : Nat) x y, a[i]? = some x → b[i]? = some y → x.f = y.f) : a.map LF.f = b.map LF.f := by
  refine List.ext_getElem? (fun i => ?_)
  rw [List.getElem?_map, List.getElem?_map]
  cases hx : a[i]? with
  | none => rw [List.getElem?_eq_none (by have := List.getElem?_eq_none_iff.1 hx; omega)]
  | some x =>
    obtain ⟨y, hy⟩ : ∃ y, b[i]? = some y := ⟨_, List.getElem?_eq_getElem (by have := (List.getElem?_eq_some_iff.1 hx).1; omega)⟩
    rw [hy]
    simp [h i x y hx hy]

set_option maxRecDepth 100000 in
set_option maxHeartbeats 2000000 in
theorem SameFaults_any (a b : List LF) (p q : Option Addr) (c d : Nat) (w : World) (ha : FsAt w.heap.size w p a) (hb : FsAt w.heap.size w q b) (la : a.length ≤ big) (lb : b.length ≤ big) :
    Calls Tryz.prog 13 #[.slice p a.length c, .slice q b.length d] w (fun e w' => ∃ r : Bool, e = .returned (.bool r) ∧ (r = true ↔ a.map LF.f = b.map LF.f) ∧ Below w.heap.size w w') := by
  unfold big at la lb
  by_cases hlen : a.length = b.length
  · have HLEN := Lib.hid hlen
    have hd5 : ((a.length : Int) != (b.length : Int)) = false := by simp [hlen]
    clear hlen
    go_enter Tryz.func13, Tryz.ntmps13
    go_wp2
    clear hd5
    go_loopw [5] (fun i wr => ∃ k : Nat, k ≤ a.length ∧ i = .int .i64 k ∧ Hid (∀ (i : Nat) x y, i < k → a[i]? = some x → b[i]? = some y → x.f = y.f) ∧ Hid (Below w.heap.size w wr)) (fun i _ => a.length - (intOf i).toNat)
    case atStart => exact ⟨0, Nat.zero_le _, rfl, Lib.hid (fun _ _ _ h => absurd h (by omega)), Lib.hid (Below.refl _ _)⟩
    case round =>
      obtain ⟨k, hka, rfl, hcmp, HBwr⟩ := hrel
      by_cases h1 : k < a.length
      · have h2 : k < b.length := by have := HLEN.out; omega
        obtain ⟨x, hx⟩ : ∃ x, a[k]? = some x := ⟨a[k], by simp [h1]⟩
        obtain ⟨y, hy⟩ : ∃ y, b[k]? = some y := ⟨b[k], by simp [h2]⟩
        have okx := (ha.2 x (List.mem_of_getElem? hx)).below HBwr.out
        have oky := (hb.2 y (List.mem_of_getElem? hy)).below HBwr.out
        rcases ha.1 with ha | ⟨ba, oa, rfl, hBa, hca⟩
        · subst ha; simp at h1
        rcases hb.1 with hb | ⟨bb, ob, rfl, hBb, hcb⟩
        · subst hb; simp at h2
        obtain ⟨a1, a2, a3⟩ := hca k x hx
        obtain ⟨b1, b2, b3⟩ := hcb k y hy
        have a1 := (HBwr.out.cell (p := ⟨ba, oa + k * 3, none⟩) hBa).trans a1
        have a2 := (HBwr.out.cell (p := ⟨ba, oa + k * 3 + 1, none⟩) hBa).trans a2
        have a3 := (HBwr.out.cell (p := ⟨ba, oa + k * 3 + 2, none⟩) hBa).trans a3
        have b1 := (HBwr.out.cell (p := ⟨bb, ob + k * 3, none⟩) hBb).trans b1
        have b2 := (HBwr.out.cell (p := ⟨bb, ob + k * 3 + 1, none⟩) hBb).trans b2
        have b3 := (HBwr.out.cell (p := ⟨bb, ob + k * 3 + 2, none⟩) hBb).trans b3
        have hw1 : ba < wr.heap.size := Nat.lt_of_lt_of_le hBa HBwr.out.size
        have hw2 : bb < wr.heap.size := Nat.lt_of_lt_of_le hBb HBwr.out.size
        have C1 : Hid (∀ W, Below wr.heap.size wr W → Calls Tryz.prog 32 #[.agg x.cells, .agg y.cells] W (fun e w' => ∃ r : Bool, e = .returned (.bool r) ∧ (r = true ↔ x.f = y.f) ∧ Below W.heap.size W w')) := Lib.hid (fun W h => SameFault_any x y w.heap.size W (okx.below (h.mono HBwr.out.size)) (oky.below (h.mono HBwr.out.size)) (Nat.le_trans HBwr.out.size h.size))
        have HX := Lib.hid hx
        have HY := Lib.hid hy
        have HA := Lib.hid ha
        have HB := Lib.hid hb
        obtain ⟨⟨p1, c1, e1, _⟩, q1, d1, e2, _⟩ := okx
        obtain ⟨⟨p2, c2, e3, _⟩, q2, d2, e4, _⟩ := oky
        rw [e1] at a2
        rw [e2] at a3
        rw [e3] at b2
        rw [e4] at b3
        unfold LF.cells at C1
        rw [e1, e2, e3, e4] at C1
        clear hca hcb hx hy ha hb e1 e2 e3 e4
        go_wp2
        refine wp_region_plan_below 8 [(0, [0, 1, 2, 3, 4, 5, 6, 7]), (2, [8, 9])] (by kernel_rfl) (by kernel_rfl) (fun _ _ _ _ h => h) ?_
        simp only [wpSegs, pickOps, List.getElem?_toArray, List.getElem?_cons_zero, List.getElem?_cons_succ]
        have kc := cell_cls wr
        iterate 8 (go_big_quiet_step (fail))
        refine wpQuiet_nil ?_
        clear kc
        go_wp2_with (go_at_call 32; refine (C1.out _ (Below.drew (Below.refl _ _))).mono ?_; rintro e w3 ⟨r, rfl, hr, hb3⟩; have HR := Lib.hid hr; have HB3 := Lib.hid hb3; clear hr hb3; cases r)
        · go_ret
          exact ⟨false, rfl, by
            constructor
            · intro h; cases h
            · intro h
              have := congrArg (fun l => l[k]?) h
              simp only [List.getElem?_map, HX.out, HY.out, Option.map_some, Option.some.injEq] at this
              exact HR.out.2 this, HBwr.out.trans (((Below.drew (Below.refl wr.heap.size wr)).trans HB3.out).mono HBwr.out.size)⟩
        · go_roundw
          case rel =>
            refine ⟨k + 1, by omega, by go_num, Lib.hid (fun i x' y' hi hx' hy' => ?_), Lib.hid (HBwr.out.trans (((Below.drew (Below.refl wr.heap.size wr)).trans HB3.out).mono HBwr.out.size))⟩
            by_cases hik : i = k
            · subst hik
              rw [HX.out] at hx'
              rw [HY.out] at hy'
              cases hx'
              cases hy'
              exact HR.out.1 (by first | rfl | trivial)
            · exact hcmp.out i x' y' (by omega) hx' hy'
          case measure => simp [intOf]; omega
      · have HALL := Lib.hid (map_f_eq HLEN.out (fun i x y hx hy => hcmp.out i x y (by have := (List.getElem?_eq_some_iff.1 hx).1; omega) hx hy))
        go_wp2
        go_ret
        exact ⟨true, rfl, by simp [HALL.out], HBwr.out⟩
  · have hne : ¬ a.map LF.f = b.map LF.f := fun e => hlen (by have := congrArg List.length e; simpa using this)
    have HN := Lib.hid hne
    have hd5 : ((a.length : Int) != (b.length : Int)) = true := by simp [hlen]; omega
    clear hne
    go_enter Tryz.func13, Tryz.ntmps13
    go_wp2
    go_ret
    exact ⟨false, rfl, by simp [HN.out], Below.refl _ _⟩
end Go.Proofs.YtnmnmkdmnohbmaaGreatDoor
