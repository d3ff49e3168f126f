/- Several texts in one: Helper text: how many parts a value has, how deep it is: the walks over Count and Depth of the program. A table of texts that keeps its order: what its blocks hold; New, Len, Put. Helper text: the walk over Children of the reference. Helper text: how deep a value is: the walk over Depth of the program. Helper text: the walks over Count and Depth of the reference. Conditions: none. -/
import Derived.Test.YtldjbgklmeigmaaGreatDoorPackF
import Derived.RangeFuncBox
import Derived.Test.YtldjbgklmeigmaaGreatDoorPackE
import Derived.Maps.OwnSet
import Derived.StillTailTactics
set_option linter.unusedVariables false
set_option linter.unusedSimpArgs false
namespace Go.Proofs.YtldjbgklmeigmaaGreatDoor
open Go Go.RowKit Go.Shelf
attribute [local go_sem] run_store_float Oper.semAt_some

mutual
/-- The number of parts. -/
def cntV : V → Nat
  | .mk k _ _ _ _ _ its fs => 1 + if kd k = 5 then cntVs its else if kd k = 6 then cntFs fs else 0
def cntVs : List V → Nat
  | [] => 0
  | v :: r => cntV v + cntVs r
def cntFs : List (ByteArray × V) → Nat
  | [] => 0
  | x :: r => cntV x.2 + cntFs r
end

mutual
theorem cntV_le : ∀ v : V, cntV v ≤ szV v
  | .mk k b i f t ty its fs => by
    have h1 := cntVs_le its
    have h2 := cntFs_le fs
    rw [cntV]
    simp only [szV]
    split
    · omega
    · split <;> omega
theorem cntVs_le : ∀ l : List V, cntVs l ≤ szV.szVs l
  | [] => by rw [cntVs]; omega
  | v :: r => by have h1 := cntV_le v; have h2 := cntVs_le r; rw [cntVs]; simp only [szV.szVs]; omega
theorem cntFs_le : ∀ l : List (ByteArray × V), cntFs l ≤ szV.szFs l
  | [] => by rw [cntFs]; omega
  | x :: r => by have h1 := cntV_le x.2; have h2 := cntFs_le r; rw [cntFs]; simp only [szV.szFs]; omega
end

theorem children_any (cs : Array Value) (w : World) (h : cs.size = 8) : Calls Tryz.prog 69 #[.agg cs] w (fun e w' => e = .returned (.func (.func 109) #[] #[.pointer (some ⟨w.heap.size, 0, none⟩)]) ∧ w' = w.alloc (.cells cs 34)) := by
  go_enter Tryz.func69, Tryz.ntmps69
  have hmf : ∀ (fn : Fn) (first cap : Array Value) (w : World), (Instr.makeFunc fn first cap).run Tryz.prog w = .ok (.func fn first cap) w := fun _ _ _ _ => rfl
  go_wp2
  go_ret
  exact ⟨rfl, rfl⟩

theorem itemKids_sum : ∀ (l : List V) (i : Nat), ((itemKids l i).map (fun x => cntV x.2)).sum = cntVs l
  | [], _ => by rw [cntVs]; rfl
  | v :: r, i => by rw [cntVs]; simp only [itemKids, List.map_cons, List.sum_cons, itemKids_sum r (i + 1)]
theorem fieldKids_sum : ∀ (l : List (ByteArray × V)), ((fieldKids l).map (fun x => cntV x.2)).sum = cntFs l
  | [] => by rw [cntFs]; rfl
  | x :: r => by
    have h := fieldKids_sum r
    simp only [fieldKids] at h ⊢
    rw [cntFs]
    simp only [List.map_cons, List.sum_cons, h]

end Go.Proofs.YtldjbgklmeigmaaGreatDoor

namespace Go.Proofs.YtldjbgklmeigmaaGreatDoor
open Go.RowKit Go.Maps

theorem lawS : Keyed Tryz.prog 9 := string_keyed Tryz.underlying9
theorem zeroI (w : World) : (zeroValue 3).run Tryz.prog w = .ok (.int .i64 0) w := by kernel_rfl

/-- Where a text stands among the keys. -/
def pos (ks : List ByteArray) (s : ByteArray) : Option Nat := ks.findIdx? (fun t => t.toList == s.toList)

/-- A slice of one's own has its length. -/
theorem row_slice {w : World} {B : Nat} {e : TypeId} {sz : Nat} {v : Value} {n : Nat} {xs : List Value} (h : w.ownsRow B e sz v n xs) : ∃ p c, v = .slice p n c := by
  rcases h.2 with ⟨rfl, rfl⟩ | ⟨g, cap, cur, rfl, _⟩
  · exact ⟨_, _, rfl⟩
  · exact ⟨_, _, rfl⟩

/-- All but some blocks stand. -/
structure Moved (S : Nat → Prop) (w w' : World) : Prop where
  os : w'.os = w.os
  tape : w'.tape = w.tape
  output : w'.output = w.output
  size : w.heap.size ≤ w'.heap.size
  block : ∀ k, k < w.heap.size → ¬ S k → w'.heap[k]? = w.heap[k]?

theorem Moved.trans {S : Nat → Prop} {a b c : World} (h : Moved S a b) (k : Moved S b c) : Moved S a c :=
  ⟨k.os.trans h.os, k.tape.trans h.tape, k.output.trans h.output, Nat.le_trans h.size k.size, fun i hi hn => (k.block i (Nat.lt_of_lt_of_le hi h.size) hn).trans (h.block i hi hn)⟩
theorem Moved.mono {S S' : Nat → Prop} {a b : World} (h : Moved S a b) (hs : ∀ k, k < a.heap.size → S k → S' k) : Moved S' a b :=
  ⟨h.os, h.tape, h.output, h.size, fun i hi hn => h.block i hi (fun e => hn (hs i hi e))⟩
theorem Moved.below {S : Nat → Prop} {a b : World} (h : Moved S a b) {B : Nat} (hB : B ≤ a.heap.size) (hs : ∀ k, S k → B ≤ k) : Below B a b :=
  ⟨h.os, h.tape, h.output, h.size, fun i hi => h.block i (by omega) (fun e => by have := hs i e; omega)⟩
theorem grown_setCell (w : World) (a : Addr) (v : Value) : w.grownBy (w.setCell a v) (some a.block) :=
  ⟨rfl, rfl, rfl, by simp [World.setCell], fun k _ hk => Below.heap_setCell w a v k (fun e => hk (by rw [e]))⟩

end Go.Proofs.YtldjbgklmeigmaaGreatDoor

namespace Go.Proofs.YtldjbgklmeigmaaGreatDoor
open Go Go.RowKit
attribute [local go_sem] run_store_float

/-- The cells belong to these values. -/
def Fit8 (n₀ : Nat) (w : World) : List (St × V) → List (Array Value) → Prop
  | [], [] => True
  | x :: r, cs :: ss => IsV n₀ w x.2 cs ∧ Fit8 n₀ w r ss
  | _, _ => False

theorem Fit8.snoc {n₀ : Nat} {w : World} {x : St × V} {cs : Array Value} (hx : IsV n₀ w x.2 cs) : ∀ {l : List (St × V)} {ss : List (Array Value)}, Fit8 n₀ w l ss → Fit8 n₀ w (l ++ [x]) (ss ++ [cs])
  | [], [], _ => ⟨hx, trivial⟩
  | _ :: _, _ :: _, h => ⟨h.1, Fit8.snoc hx h.2⟩
  | [], _ :: _, h => h.elim
  | _ :: _, [], h => h.elim

theorem Fit8.get {n₀ : Nat} {w : World} : ∀ {l : List (St × V)} {ss : List (Array Value)} {j : Nat} {x : St × V}, Fit8 n₀ w l ss → l[j]? = some x → ∃ cs, ss[j]? = some cs ∧ IsV n₀ w x.2 cs
  | [], [], _, _, _, h => by simp at h
  | y :: _, cs :: _, 0, x, h, hx => by obtain rfl : y = x := by simpa using hx
                                       exact ⟨cs, rfl, h.1⟩
  | _ :: _, _ :: _, j + 1, x, h, hx => by
    obtain ⟨cs, h1, h2⟩ := Fit8.get (j := j) h.2 (by simpa using hx)
    exact ⟨cs, by simpa using h1, h2⟩
  | [], _ :: _, _, _, h, _ => h.elim
  | _ :: _, [], _, _, h, _ => h.elim

theorem vcells8 {n₀ : Nat} {w : World} {v : V} {cs : Array Value} (h : IsV n₀ w v cs) : cs.size = 8 := by
  obtain ⟨k, b, i, f, t, ty, its, fs⟩ := v
  obtain ⟨p, c, q, d, rfl, _⟩ := h
  rfl

theorem Fit8.at {n₀ : Nat} {w : World} : ∀ {l : List (St × V)} {ss : List (Array Value)}, Fit8 n₀ w l ss → ∀ {j : Nat} {cs : Array Value}, ss[j]? = some cs → ∀ m x, cs[m]? = some x → (ss.flatMap (·.toList))[j * 8 + m]? = some x
  | [], [], _, _, _, h, _, _, _ => by simp at h
  | _ :: _, cs :: _, hf, 0, cs', h, m, x, hx => by
    obtain rfl : cs = cs' := by simpa using h
    rw [List.flatMap_cons, List.getElem?_append_left (by simp; have := (Array.getElem?_eq_some_iff.1 hx).1; omega)]
    simpa using hx
  | _ :: _, cs :: _, hf, j + 1, cs', h, m, x, hx => by
    have hs := vcells8 hf.1
    have := Fit8.at hf.2 (j := j) (by simpa using h) m x hx
    rw [List.flatMap_cons, List.getElem?_append_right (by simp [hs]; omega)]
    rw [show (j + 1) * 8 + m - cs.toList.length = j * 8 + m by simp [hs]; omega]
    exact this
  | [], _ :: _, h, _, _, _, _, _, _ => h.elim
  | _ :: _, [], h, _, _, _, _, _, _ => h.elim

/-- The two lists of the children: their steps, their values. -/
def RowsAt (B : Nat) (w : World) (sv vv : Value) (kids : List (St × V)) (css : List (Array Value)) : Prop :=
  w.ownsRow B 161 3 sv kids.length (kids.flatMap (fun x => x.1.cells.toList)) ∧ w.ownsRow B 34 8 vv kids.length (css.flatMap (·.toList)) ∧ (sv.ownBlock = none ∨ sv.ownBlock ≠ vv.ownBlock)

theorem RowsAt.kept {B : Nat} {w w' : World} {sv vv : Value} {kids : List (St × V)} {css : List (Array Value)} (h : RowsAt B w sv vv kids css) (hb : Below w.heap.size w w') : RowsAt B w' sv vv kids css := by
  have hg := grown_of_below hb none
  exact ⟨h.1.kept hg (by cases sv.ownBlock <;> simp), h.2.1.kept hg (by cases vv.ownBlock <;> simp), h.2.2⟩

def ChildPostB (mb : Nat) (v : V) (w : World) (e : Ending) (w' : World) : Prop :=
  ∃ sv vv css, e = .returned (.tuple #[sv, vv]) ∧ RowsAt w.heap.size w' sv vv (kidsV v) css ∧ Fit8 mb w (kidsV v) css ∧ Below w.heap.size w w'
theorem ownsRow_base {w : World} {B C : Nat} {e : TypeId} {size n : Nat} {v : Value} {xs : List Value} (h : w.ownsRow B e size v n xs) (hC : C ≤ B) : w.ownsRow C e size v n xs := by
  refine ⟨h.1, ?_⟩
  rcases h.2 with h2 | ⟨g, cap, cur, r0, r1, r⟩
  · exact .inl h2
  · exact .inr ⟨g, cap, cur, r0, by omega, r⟩

set_option maxRecDepth 100000 in
set_option maxHeartbeats 2000000 in
theorem refChildrenB_any (v : V) (cs : Array Value) (w : World) (mb : Nat) (hmb : mb ≤ w.heap.size) (hv : IsV mb w v cs) (hm : szV v ≤ 1000000000) : Calls Tryz.prog 165 #[.agg cs] w (ChildPostB mb v w) := by
  obtain ⟨k, b, i, f, t, ty, its, fs⟩ := v
  obtain ⟨p, c, q, d, rfl, hi, hf, l1, l2⟩ := hv
  have hln : its.length ≤ 1000000000 ∧ fs.length ≤ 1000000000 := by simp only [szV] at hm; omega
  have HI := Lib.hid hi
  have HF := Lib.hid hf
  clear hi hf
  have K1 := refkind_any k b i f t ty p its.length c q fs.length d
  have hkv : kidsV (.mk k b i f t ty its fs) = if kd k = 5 then itemKids its 0 else if kd k = 6 then fieldKids fs else [] := rfl
  unfold ChildPostB
  rw [hkv]
  clear hkv
  generalize kd k = κ at K1 ⊢
  have hal := cellsAt_alloc w (vcells k b i f t ty p its.length c q fs.length d) 34 (0, 0)
  have hwa : Below w.heap.size w (w.alloc (.cells (vcells k b i f t ty p its.length c q fs.length d) 34)) := (Below.refl _ _).alloc (Nat.le_refl _) _
  have hs0 : w.heap.size < (w.alloc (.cells (vcells k b i f t ty p its.length c q fs.length d) 34)).heap.size := by simp
  obtain ⟨a0, a1, a2, a3, a4, a5, a6, a7⟩ := hal.all0
  obtain ⟨wa, hW⟩ : ∃ wa, w.alloc (.cells (vcells k b i f t ty p its.length c q fs.length d) 34) = wa := ⟨_, rfl⟩
  rw [hW] at hal hwa hs0 a0 a1 a2 a3 a4 a5 a6 a7
  have e := hW
  clear hW
  by_cases h5 : κ = 5
  · subst h5
    rw [if_pos rfl]
    go_enter Tryz.func165, Tryz.ntmps165
    go_wp2_with (go_at_call 220; refine (K1 _).mono ?_; rintro _ w1 ⟨rfl, hb1⟩)
    have HBA := Lib.hid hb1
    clear e a0 a1 a2 a3 a4 a5 a6 a7 hb1
    go_loopw [4, 5, 6] (fun s4 s5 ii wr => ∃ j : Nat, j ≤ its.length ∧ ii = .int .i64 j ∧ ∃ sv vv css, s4 = sv ∧ s5 = vv ∧ Hid (RowsAt wa.heap.size wr sv vv ((itemKids its 0).take j) css) ∧ Hid (Fit8 mb w ((itemKids its 0).take j) css) ∧ Below wa.heap.size wa wr) (fun _ _ ii _ => its.length - (intOf ii).toNat)
    case atStart => exact ⟨0, by omega, rfl, _, _, [], rfl, rfl, Lib.hid ⟨World.ownsRow_nil _ _ _ _, World.ownsRow_nil _ _ _ _, .inl rfl⟩, Lib.hid trivial, HBA.out⟩
    case round =>
      clear HBA
      obtain ⟨j, hj, rfl, _, _, css, rfl, rfl, hrw, hft, hbel⟩ := hrel
      obtain ⟨_, _, _, _, _, _, e6, e7⟩ := (hal.below hbel hs0).all0
      by_cases h1 : j < its.length
      · obtain ⟨x, hx⟩ : ∃ x, its[j]? = some x := ⟨its[j], by simp [h1]⟩
        rcases HI.out with h0 | ⟨g, o, rfl, hg, hvs⟩
        · subst h0; simp at h1
        have hg := Nat.lt_of_lt_of_le hg hmb
        obtain ⟨csx, hcx, hvx⟩ := hvs.get hx
        have hkid := itemKids_get its 0 j x hx
        rw [Nat.zero_add] at hkid
        have HST := Lib.hid (rfl : (St.mk ⟨#[]⟩ (j : Int) true) = (St.mk ⟨#[]⟩ (j : Int) true))
        obtain ⟨xk, xb, xi, xf, xt, xty, xits, xfs⟩ := x
        have HVX := Lib.hid hvx
        obtain ⟨xp, xc, xq, xd, rfl, _, _, _, _⟩ := hvx
        have hll : ((itemKids its 0).take j).length = j := by rw [List.length_take]; rw [itemKids_length]; omega
        obtain ⟨hr1, hr2, hr3⟩ := hrw.out
        rw [hll] at hr1 hr2
        have HR1 := Lib.hid hr1
        have HR2 := Lib.hid hr2
        have HR3 := Lib.hid hr3
        have HKID := Lib.hid hkid
        have HCX := Lib.hid hcx
        clear hx hcx hvs hkid hr1 hr2 hr3 hrw
        go_upto_region 8 with (fail)
        go_step
        iterate 4
          refine wpList_plain rfl (fun K hK => ?_)
          go_step
          refine hK _ _ ?_
          clear hK K
        obtain ⟨W1, hW1⟩ : ∃ W1, wr.alloc (.cells #[.string ⟨#[]⟩, .int .i64 (j : Int), .bool true] 161) = W1 := ⟨_, rfl⟩
        have hb1 : Below wr.heap.size wr W1 := by rw [← hW1]; exact (Below.refl _ _).alloc (Nat.le_refl _) _
        have hc1 : CellsAt W1 wr.heap.size 0 #[.string ⟨#[]⟩, .int .i64 (j : Int), .bool true] := by rw [← hW1]; exact cellsAt_alloc _ _ _ _
        have e := hW1
        clear hW1
        rw [e]
        clear e
        have hg1 := grown_of_below hb1 none
        have HS1 := HR1.out.kept hg1 (by cases u4.ownBlock <;> simp)
        have HV1 := HR2.out.kept hg1 (by cases u5.ownBlock <;> simp)
        refine wpList_plain rfl (fun K hK => ?_)
        refine wp_append_x (P := Tryz.prog) W1 (.tmp 19) (.tmp 22) 55 rfl wa.heap.size 161 (.agg #[.string ⟨#[]⟩, .int .i64 0, .bool false]) 3 32 Tryz.underlying55 (by kernel_rfl) rfl (by decide) u4 j _ rfl HS1 ⟨wr.heap.size, 0, none⟩ 1 1 (#[.string ⟨#[]⟩, .int .i64 (j : Int), .bool true] : Array Value).toList rfl (by decide) rfl ?c1 ?c2 ?c3 ?c4 ?c5 ?_
        case c1 =>
          intro m u hu
          have := hc1 m u (by simpa using hu)
          rw [addr_add]
          exact this
        case c2 => intro u hu; simp at hu; rcases hu with rfl | rfl | rfl <;> rfl
        case c3 => unfold maxLen; omega
        case c4 => omega
        case c5 => have := hb1.size; have := hbel.size; omega
        intro sv' w2 hsv hgr2 hloc
        refine hK _ _ ?_
        clear hK K
        have hV2 := HV1.kept hgr2 (by rcases HR3.out with h | h; rw [h]; cases u5.ownBlock <;> simp; exact .inr (Ne.symm h))
        have hS2 : w2.ownsRow wa.heap.size 161 3 sv' (j + 1) ((((itemKids its 0).take j).flatMap (fun x => x.1.cells.toList)) ++ (#[.string ⟨#[]⟩, .int .i64 (j : Int), .bool true] : Array Value).toList) := hsv
        have hbel2 : Below wa.heap.size wa w2 := (hbel.trans (hb1.mono hbel.size)).grown hgr2 (by have := hb1.size; have := hbel.size; omega) (fun y hy => (HS1.lt y hy).1)
        have hne2 : sv'.ownBlock = none ∨ sv'.ownBlock ≠ u5.ownBlock := by
          rcases hloc with h | h
          · rw [h]; exact HR3.out
          · rw [h]
            refine .inr (fun hc => ?_)
            have := (HR2.out.lt _ hc.symm).2
            have := hb1.size
            omega
        refine wpList_plain rfl (fun K hK => ?_)
        go_step
        refine hK _ _ ?_
        clear hK K
        have hbw2 := hwa.trans (hbel2.mono hwa.size)
        obtain ⟨_, _, _, _, _, _, y6, y7⟩ := (hal.below hbel2 hs0).all0
        obtain ⟨z0, z1, z2, z3, z4, z5, z6, z7⟩ := (HCX.out.below hbw2 hg).all
        have hsz2 : wa.heap.size ≤ w2.heap.size := hbel2.size
        have HS2 := Lib.hid hS2
        have HV2 := Lib.hid hV2
        have HNE2 := Lib.hid hne2
        clear hS2 hV2 hne2 hsv hgr2 hloc HS1 HV1 hg1 hc1
        go_upto_region 9 with (fail)
        go_step
        iterate 7
          refine wpList_plain rfl (fun K hK => ?_)
          go_step
          refine hK _ _ ?_
          clear hK K
        obtain ⟨W3, hW3⟩ : ∃ W3, w2.alloc (.cells (vcells xk xb xi xf xt xty xp xits.length xc xq xfs.length xd) 34) = W3 := ⟨_, rfl⟩
        have hb3 : Below w2.heap.size w2 W3 := by rw [← hW3]; exact (Below.refl _ _).alloc (Nat.le_refl _) _
        have hc3 : CellsAt W3 w2.heap.size 0 (vcells xk xb xi xf xt xty xp xits.length xc xq xfs.length xd) := by rw [← hW3]; exact cellsAt_alloc _ _ _ _
        have e := hW3
        clear hW3
        rw [e]
        clear e
        have hg3 := grown_of_below hb3 none
        have HS3 := HS2.out.kept hg3 (by cases sv'.ownBlock <;> simp)
        have HV3 := HV2.out.kept hg3 (by cases u5.ownBlock <;> simp)
        refine wpList_plain rfl (fun K hK => ?_)
        refine wp_append_x (P := Tryz.prog) W3 (.tmp 24) (.tmp 30) 31 rfl wa.heap.size 34 (.agg (vcells 0 false 0 0 ⟨#[]⟩ ⟨#[]⟩ none 0 0 none 0 0)) 8 112 Tryz.underlying31 (by kernel_rfl) rfl (by decide) u5 j _ rfl HV3 ⟨w2.heap.size, 0, none⟩ 1 1 (vcells xk xb xi xf xt xty xp xits.length xc xq xfs.length xd).toList rfl (by decide) rfl ?d1 ?d2 ?d3 ?d4 ?d5 ?_
        case d1 =>
          intro m u hu
          have := hc3 m u (by simpa using hu)
          rw [addr_add]
          exact this
        case d2 => intro u hu; simp at hu; rcases hu with rfl | rfl | rfl | rfl | rfl | rfl | rfl | rfl <;> rfl
        case d3 => unfold maxLen; omega
        case d4 => omega
        case d5 => have := hb3.size; omega
        intro vv' w4 hvv hgr4 hloc4
        refine hK _ _ ?_
        clear hK K
        have hS4 := HS3.kept hgr4 (by rcases HNE2.out with h | h; exact .inl h; exact .inr h)
        have hbel4 : Below wa.heap.size wa w4 := (hbel2.trans (hb3.mono hbel2.size)).grown hgr4 (by have := hb3.size; omega) (fun y hy => (HV3.lt y hy).1)
        have hne4 : sv'.ownBlock = none ∨ sv'.ownBlock ≠ vv'.ownBlock := by
          rcases hloc4 with h | h
          · rw [h]; exact HNE2.out
          · rw [h]
            cases hsb : sv'.ownBlock with
            | none => exact .inl rfl
            | some y =>
              refine .inr (fun hc => ?_)
              have h1 := (HS2.out.lt _ hsb).2
              have h2 := hb3.size
              simp only [Option.some.injEq] at hc
              omega
        have hrows : RowsAt wa.heap.size w4 sv' vv' ((itemKids its 0).take (j + 1)) (css ++ [vcells xk xb xi xf xt xty xp xits.length xc xq xfs.length xd]) := by
          rw [List.take_add_one, HKID.out]
          refine ⟨?_, ?_, hne4⟩
          · simp only [Option.toList_some, List.length_append, hll, List.length_singleton, List.flatMap_append, List.flatMap_singleton]
            exact hS4
          · simp only [Option.toList_some, List.length_append, hll, List.length_singleton, List.flatMap_append, List.flatMap_singleton]
            exact hvv
        have hfit : Fit8 mb w ((itemKids its 0).take (j + 1)) (css ++ [vcells xk xb xi xf xt xty xp xits.length xc xq xfs.length xd]) := by
          rw [List.take_add_one, HKID.out]
          exact Fit8.snoc HVX.out hft.out
        have HROWS := Lib.hid hrows
        have HFIT := Lib.hid hfit
        clear hrows hfit hS4 hne4 hvv hgr4 hloc4 HS3 HV3 hg3 hc3 hb3 HS2 HV2 HNE2 HR1 HR2 HR3 z0 z1 z2 z3 z4 z5 z6 z7 y6 y7
        go_wp2
        go_roundw
        case rel => exact ⟨j + 1, by omega, by go_num, _, _, _, rfl, rfl, HROWS, HFIT, hbel4⟩
        case measure => simp [intOf]; omega
      · have hrw := hrw.out
        have hft := hft.out
        rw [List.take_of_length_le (by rw [itemKids_length]; omega)] at hrw hft
        have HRW := Lib.hid hrw
        clear hrw
        go_wp2_with fail
        go_ret2
        exact ⟨_, _, css, rfl, ⟨ownsRow_base HRW.out.1 hwa.size, ownsRow_base HRW.out.2.1 hwa.size, HRW.out.2.2⟩, hft, hwa.trans (hbel.mono hwa.size)⟩
  · by_cases h6 : κ = 6
    · subst h6
      rw [if_neg (by decide), if_pos rfl]
      go_enter Tryz.func165, Tryz.ntmps165
      go_wp2_with (go_at_call 220; refine (K1 _).mono ?_; rintro _ w1 ⟨rfl, hb1⟩)
      have HBA := Lib.hid hb1
      clear e a0 a1 a2 a3 a4 a5 a6 a7 hb1
      go_loopw [4, 5, 7] (fun s4 s5 ii wr => ∃ j : Nat, j ≤ fs.length ∧ ii = .int .i64 j ∧ ∃ sv vv css, s4 = sv ∧ s5 = vv ∧ Hid (RowsAt wa.heap.size wr sv vv ((fieldKids fs).take j) css) ∧ Hid (Fit8 mb w ((fieldKids fs).take j) css) ∧ Below wa.heap.size wa wr) (fun _ _ ii _ => fs.length - (intOf ii).toNat)
      case atStart => exact ⟨0, by omega, rfl, _, _, [], rfl, rfl, Lib.hid ⟨World.ownsRow_nil _ _ _ _, World.ownsRow_nil _ _ _ _, .inl rfl⟩, Lib.hid trivial, HBA.out⟩
      case round =>
        clear HBA
        obtain ⟨j, hj, rfl, _, _, css, rfl, rfl, hrw, hft, hbel⟩ := hrel
        obtain ⟨_, _, _, _, _, _, e6, e7⟩ := (hal.below hbel hs0).all0
        by_cases h1 : j < fs.length
        · obtain ⟨x, hx⟩ : ∃ x, fs[j]? = some x := ⟨fs[j], by simp [h1]⟩
          rcases HF.out with h0 | ⟨g, o, rfl, hg, hvs⟩
          · subst h0; simp at h1
          have hg := Nat.lt_of_lt_of_le hg hmb
          obtain ⟨hnm, csx, hcx, hvx⟩ := hvs.get hx
          have hbw := hwa.trans (hbel.mono hwa.size)
          have hnm' := (hbw.cell (p := ⟨g, _, none⟩) hg).trans hnm
          have hgr : g < wr.heap.size := Nat.lt_of_lt_of_le hg hbw.size
          have hkid := fieldKids_get fs j x hx
          obtain ⟨xn, xk, xb, xi, xf, xt, xty, xits, xfs⟩ := x
          have HVX := Lib.hid hvx
          obtain ⟨xp, xc, xq, xd, rfl, _, _, _, _⟩ := hvx
          have hll : ((fieldKids fs).take j).length = j := by rw [List.length_take]; simp only [fieldKids, List.length_map]; omega
          obtain ⟨hr1, hr2, hr3⟩ := hrw.out
          rw [hll] at hr1 hr2
          have HR1 := Lib.hid hr1
          have HR2 := Lib.hid hr2
          have HR3 := Lib.hid hr3
          have HKID := Lib.hid hkid
          have HCX := Lib.hid hcx
          clear hx hcx hvs hkid hr1 hr2 hr3 hrw
          go_upto_region 14 with (fail)
          go_step
          iterate 9
            refine wpList_plain rfl (fun K hK => ?_)
            go_step
            refine hK _ _ ?_
            clear hK K
          obtain ⟨W1, hW1⟩ : ∃ W1, wr.alloc (.cells #[.string xn, .int .i64 0, .bool false] 161) = W1 := ⟨_, rfl⟩
          have hb1 : Below wr.heap.size wr W1 := by rw [← hW1]; exact (Below.refl _ _).alloc (Nat.le_refl _) _
          have hc1 : CellsAt W1 wr.heap.size 0 #[.string xn, .int .i64 0, .bool false] := by rw [← hW1]; exact cellsAt_alloc _ _ _ _
          have e := hW1
          clear hW1
          rw [e]
          clear e
          have hg1 := grown_of_below hb1 none
          have HS1 := HR1.out.kept hg1 (by cases u4.ownBlock <;> simp)
          have HV1 := HR2.out.kept hg1 (by cases u5.ownBlock <;> simp)
          refine wpList_plain rfl (fun K hK => ?_)
          refine wp_append_x (P := Tryz.prog) W1 (.tmp 41) (.tmp 49) 55 rfl wa.heap.size 161 (.agg #[.string ⟨#[]⟩, .int .i64 0, .bool false]) 3 32 Tryz.underlying55 (by kernel_rfl) rfl (by decide) u4 j _ rfl HS1 ⟨wr.heap.size, 0, none⟩ 1 1 (#[.string xn, .int .i64 0, .bool false] : Array Value).toList rfl (by decide) rfl ?c1 ?c2 ?c3 ?c4 ?c5 ?_
          case c1 =>
            intro m u hu
            have := hc1 m u (by simpa using hu)
            rw [addr_add]
            exact this
          case c2 => intro u hu; simp at hu; rcases hu with rfl | rfl | rfl <;> rfl
          case c3 => unfold maxLen; omega
          case c4 => omega
          case c5 => have := hb1.size; have := hbel.size; omega
          intro sv' w2 hsv hgr2 hloc
          refine hK _ _ ?_
          clear hK K
          have hV2 := HV1.kept hgr2 (by rcases HR3.out with h | h; rw [h]; cases u5.ownBlock <;> simp; exact .inr (Ne.symm h))
          have hS2 : w2.ownsRow wa.heap.size 161 3 sv' (j + 1) ((((fieldKids fs).take j).flatMap (fun x => x.1.cells.toList)) ++ (#[.string xn, .int .i64 0, .bool false] : Array Value).toList) := hsv
          have hbel2 : Below wa.heap.size wa w2 := (hbel.trans (hb1.mono hbel.size)).grown hgr2 (by have := hb1.size; have := hbel.size; omega) (fun y hy => (HS1.lt y hy).1)
          have hne2 : sv'.ownBlock = none ∨ sv'.ownBlock ≠ u5.ownBlock := by
            rcases hloc with h | h
            · rw [h]; exact HR3.out
            · rw [h]
              refine .inr (fun hc => ?_)
              have := (HR2.out.lt _ hc.symm).2
              have := hb1.size
              omega
          refine wpList_plain rfl (fun K hK => ?_)
          go_step
          refine hK _ _ ?_
          clear hK K
          have hbw2 := hwa.trans (hbel2.mono hwa.size)
          obtain ⟨_, _, _, _, _, _, y6, y7⟩ := (hal.below hbel2 hs0).all0
          obtain ⟨z0, z1, z2, z3, z4, z5, z6, z7⟩ := (HCX.out.below hbw2 hg).all
          have hsz2 : wa.heap.size ≤ w2.heap.size := hbel2.size
          have HS2 := Lib.hid hS2
          have HV2 := Lib.hid hV2
          have HNE2 := Lib.hid hne2
          clear hS2 hV2 hne2 hsv hgr2 hloc HS1 HV1 hg1 hc1
          go_upto_region 15 with (fail)
          go_step
          iterate 8
            refine wpList_plain rfl (fun K hK => ?_)
            go_step
            refine hK _ _ ?_
            clear hK K
          obtain ⟨W3, hW3⟩ : ∃ W3, w2.alloc (.cells (vcells xk xb xi xf xt xty xp xits.length xc xq xfs.length xd) 34) = W3 := ⟨_, rfl⟩
          have hb3 : Below w2.heap.size w2 W3 := by rw [← hW3]; exact (Below.refl _ _).alloc (Nat.le_refl _) _
          have hc3 : CellsAt W3 w2.heap.size 0 (vcells xk xb xi xf xt xty xp xits.length xc xq xfs.length xd) := by rw [← hW3]; exact cellsAt_alloc _ _ _ _
          have e := hW3
          clear hW3
          rw [e]
          clear e
          have hg3 := grown_of_below hb3 none
          have HS3 := HS2.out.kept hg3 (by cases sv'.ownBlock <;> simp)
          have HV3 := HV2.out.kept hg3 (by cases u5.ownBlock <;> simp)
          refine wpList_plain rfl (fun K hK => ?_)
          refine wp_append_x (P := Tryz.prog) W3 (.tmp 51) (.tmp 58) 31 rfl wa.heap.size 34 (.agg (vcells 0 false 0 0 ⟨#[]⟩ ⟨#[]⟩ none 0 0 none 0 0)) 8 112 Tryz.underlying31 (by kernel_rfl) rfl (by decide) u5 j _ rfl HV3 ⟨w2.heap.size, 0, none⟩ 1 1 (vcells xk xb xi xf xt xty xp xits.length xc xq xfs.length xd).toList rfl (by decide) rfl ?d1 ?d2 ?d3 ?d4 ?d5 ?_
          case d1 =>
            intro m u hu
            have := hc3 m u (by simpa using hu)
            rw [addr_add]
            exact this
          case d2 => intro u hu; simp at hu; rcases hu with rfl | rfl | rfl | rfl | rfl | rfl | rfl | rfl <;> rfl
          case d3 => unfold maxLen; omega
          case d4 => omega
          case d5 => have := hb3.size; omega
          intro vv' w4 hvv hgr4 hloc4
          refine hK _ _ ?_
          clear hK K
          have hS4 := HS3.kept hgr4 (by rcases HNE2.out with h | h; exact .inl h; exact .inr h)
          have hbel4 : Below wa.heap.size wa w4 := (hbel2.trans (hb3.mono hbel2.size)).grown hgr4 (by have := hb3.size; omega) (fun y hy => (HV3.lt y hy).1)
          have hne4 : sv'.ownBlock = none ∨ sv'.ownBlock ≠ vv'.ownBlock := by
            rcases hloc4 with h | h
            · rw [h]; exact HNE2.out
            · rw [h]
              cases hsb : sv'.ownBlock with
              | none => exact .inl rfl
              | some y =>
                refine .inr (fun hc => ?_)
                have h1 := (HS2.out.lt _ hsb).2
                have h2 := hb3.size
                simp only [Option.some.injEq] at hc
                omega
          have hrows : RowsAt wa.heap.size w4 sv' vv' ((fieldKids fs).take (j + 1)) (css ++ [vcells xk xb xi xf xt xty xp xits.length xc xq xfs.length xd]) := by
            rw [List.take_add_one, HKID.out]
            refine ⟨?_, ?_, hne4⟩
            · simp only [Option.toList_some, List.length_append, hll, List.length_singleton, List.flatMap_append, List.flatMap_singleton]
              exact hS4
            · simp only [Option.toList_some, List.length_append, hll, List.length_singleton, List.flatMap_append, List.flatMap_singleton]
              exact hvv
          have hfit : Fit8 mb w ((fieldKids fs).take (j + 1)) (css ++ [vcells xk xb xi xf xt xty xp xits.length xc xq xfs.length xd]) := by
            rw [List.take_add_one, HKID.out]
            exact Fit8.snoc HVX.out hft.out
          have HROWS := Lib.hid hrows
          have HFIT := Lib.hid hfit
          clear hrows hfit hS4 hne4 hvv hgr4 hloc4 HS3 HV3 hg3 hc3 hb3 HS2 HV2 HNE2 HR1 HR2 HR3 z0 z1 z2 z3 z4 z5 z6 z7 y6 y7
          go_wp2
          go_roundw
          case rel => exact ⟨j + 1, by omega, by go_num, _, _, _, rfl, rfl, HROWS, HFIT, hbel4⟩
          case measure => simp [intOf]; omega
        · have hrw := hrw.out
          have hft := hft.out
          rw [List.take_of_length_le (by simp only [fieldKids, List.length_map]; omega)] at hrw hft
          have HRW := Lib.hid hrw
          clear hrw
          go_wp2_with fail
          go_ret2
          exact ⟨_, _, css, rfl, ⟨ownsRow_base HRW.out.1 hwa.size, ownsRow_base HRW.out.2.1 hwa.size, HRW.out.2.2⟩, hft, hwa.trans (hbel.mono hwa.size)⟩
    · rw [if_neg h5, if_neg h6]
      go_enter Tryz.func165, Tryz.ntmps165
      go_wp2_with (go_at_call 220; refine (K1 _).mono ?_; rintro _ w1 ⟨rfl, hb1⟩)
      go_ret2
      exact ⟨_, _, [], rfl, ⟨World.ownsRow_nil _ _ _ _, World.ownsRow_nil _ _ _ _, .inl rfl⟩, trivial, hwa.trans (hb1.mono hwa.size)⟩
end Go.Proofs.YtldjbgklmeigmaaGreatDoor

namespace Go.Proofs.YtldjbgklmeigmaaGreatDoor
open Go Go.RowKit Go.Shelf
attribute [local go_sem] run_store_float Oper.semAt_some

end Go.Proofs.YtldjbgklmeigmaaGreatDoor

namespace Go.Proofs.YtldjbgklmeigmaaGreatDoor
open Go Go.RowKit
attribute [local go_sem] run_store_float

theorem rows_open {B n₀ : Nat} {w w0 : World} {sv vv : Value} {kids : List (St × V)} {css : List (Array Value)} (h : RowsAt B w sv vv kids css) (hf : Fit8 n₀ w0 kids css) :
    (∃ A cap, sv = .slice A kids.length cap) ∧ ∃ A cap, vv = .slice A kids.length cap ∧ (kids = [] ∨ ∃ g, A = some ⟨g, 0, none⟩ ∧ g < w.heap.size ∧ ∀ (j : Nat) cs, css[j]? = some cs → CellsAt w g (j * 8) cs) := by
  obtain ⟨h1, h2, _⟩ := h
  constructor
  · rcases h1.2 with ⟨rfl, h0⟩ | ⟨g, cap, cur, rfl, _⟩
    · exact ⟨none, 0, by rw [h0]⟩
    · exact ⟨_, cap, rfl⟩
  · rcases h2.2 with ⟨rfl, h0⟩ | ⟨g, cap, cur, rfl, _, hh, _, _, _, ht⟩
    · exact ⟨none, 0, by rw [h0], .inl (List.length_eq_zero_iff.1 h0)⟩
    · refine ⟨_, cap, rfl, .inr ⟨g, rfl, (Array.getElem?_eq_some_iff.1 hh).1, fun j cs hcs m x hx => ?_⟩⟩
      have := row_at ht (j * 8 + m) x (hf.at hcs m x hx)
      rw [Nat.zero_add] at this
      simp only [World.cell?, hh]
      exact this

end Go.Proofs.YtldjbgklmeigmaaGreatDoor
