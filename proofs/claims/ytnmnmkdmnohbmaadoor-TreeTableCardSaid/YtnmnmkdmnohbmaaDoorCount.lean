/- Helper text: how many parts a value has, how deep it is: the walks over Count and Depth of the program. Conditions: none. -/
import Derived.Test.YtnmnmkdmnohbmaaDoorKids
import Derived.RangeFuncBox
import Derived.Test.YtnmnmkdmnohbmaaDoorSet
namespace Go.Proofs.YtnmnmkdmnohbmaaDoor
open Go Go.RowKit Go.Shelf
attribute [local go_sem] run_store_float Oper.semAt_some

mutual
/-- The number of parts. -/
def cntV : V → Nat
  | .mk k _ _ _ _ _ its fs => 1 + if kd k = 5 then cntVs its else if kd k = 6 then cntFs fs else 0
def cntVs : List V → Nat
  | [] => 0
  | v :: r => cntV v + cntVs r
def cntFs : List (ByteArray × V) → Nat
  | [] => 0
  | x :: r => cntV x.2 + cntFs r
end

mutual
theorem cntV_le : ∀ v : V, cntV v ≤ szV v
  | .mk k b i f t ty its fs => by
    have h1 := cntVs_le its
    have h2 := cntFs_le fs
    rw [cntV]
    simp only [szV]
    split
    · omega
    · split <;> omega
theorem cntVs_le : ∀ l : List V, cntVs l ≤ szV.szVs l
  | [] => by rw [cntVs]; omega
  | v :: r => by have h1 := cntV_le v; have h2 := cntVs_le r; rw [cntVs]; simp only [szV.szVs]; omega
theorem cntFs_le : ∀ l : List (ByteArray × V), cntFs l ≤ szV.szFs l
  | [] => by rw [cntFs]; omega
  | x :: r => by have h1 := cntV_le x.2; have h2 := cntFs_le r; rw [cntFs]; simp only [szV.szFs]; omega
end

theorem children_any (cs : Array Value) (w : World) (h : cs.size = 8) : Calls Tryd.prog 53 #[.agg cs] w (fun e w' => e = .returned (.func (.func 99) #[] #[.pointer (some ⟨w.heap.size, 0, none⟩)]) ∧ w' = w.alloc (.cells cs 27)) := by
  go_enter Tryd.func53, Tryd.ntmps53
  have hmf : ∀ (fn : Fn) (first cap : Array Value) (w : World), (Instr.makeFunc fn first cap).run Tryd.prog w = .ok (.func fn first cap) w := fun _ _ _ _ => rfl
  go_wp2
  go_ret
  exact ⟨rfl, rfl⟩

/-- The count behind some children. -/
def sumC (l : List (St × V)) : Int := l.foldl (fun s x => wrap64 (s + (cntV x.2 : Int))) 1
theorem sumC_snoc (l : List (St × V)) (x : St × V) : sumC (l ++ [x]) = wrap64 (sumC l + (cntV x.2 : Int)) := by simp [sumC]

theorem sumC_small : ∀ (l : List (St × V)) (s : Nat), s + (l.map (fun x => cntV x.2)).sum ≤ 1000000000 → l.foldl (fun s x => wrap64 (s + (cntV x.2 : Int))) (s : Int) = ((s + (l.map (fun x => cntV x.2)).sum : Nat) : Int)
  | [], s, _ => by simp
  | x :: r, s, h => by
    simp only [List.map_cons, List.sum_cons] at h ⊢
    have e : wrap64 ((s : Int) + (cntV x.2 : Int)) = ((s + cntV x.2 : Nat) : Int) := by rw [IntWalk.wrap64_in _ ⟨by omega, by omega⟩]; omega
    rw [List.foldl_cons, e, sumC_small r (s + cntV x.2) (by omega)]
    omega

theorem itemKids_sum : ∀ (l : List V) (i : Nat), ((itemKids l i).map (fun x => cntV x.2)).sum = cntVs l
  | [], _ => by rw [cntVs]; rfl
  | v :: r, i => by rw [cntVs]; simp only [itemKids, List.map_cons, List.sum_cons, itemKids_sum r (i + 1)]
theorem fieldKids_sum : ∀ (l : List (ByteArray × V)), ((fieldKids l).map (fun x => cntV x.2)).sum = cntFs l
  | [] => by rw [cntFs]; rfl
  | x :: r => by
    have h := fieldKids_sum r
    simp only [fieldKids] at h ⊢
    rw [cntFs]
    simp only [List.map_cons, List.sum_cons, h]

theorem sumC_kids (v : V) (h : szV v ≤ 1000000000) : sumC (kidsV v) = (cntV v : Int) := by
  have hle := cntV_le v
  obtain ⟨k, b, i, f, t, ty, its, fs⟩ := v
  have e : 1 + ((kidsV (.mk k b i f t ty its fs)).map (fun x => cntV x.2)).sum = cntV (.mk k b i f t ty its fs) := by
    rw [cntV]
    simp only [kidsV]
    split
    · rw [itemKids_sum]
    · split
      · rw [fieldKids_sum]
      · rfl
  have := sumC_small (kidsV (.mk k b i f t ty its fs)) 1 (by omega)
  rw [e] at this
  exact this

set_option maxRecDepth 100000 in
set_option maxHeartbeats 2000000 in
theorem Count_any : ∀ (N : Nat) (v : V), szV v ≤ N → ∀ (cs : Array Value) (w : World), IsV w.heap.size w v cs → szV v ≤ 1000000000 →
    Calls Tryd.prog 35 #[.agg cs] w (RetB (.int .i64 (cntV v)) w) := by
  intro N
  induction N with
  | zero => intro v hv; have := szV_pos v; omega
  | succ N ih =>
    intro v hN cs w hv hm
    have IH := Lib.hid ih
    have HV := Lib.hid hv
    have HN := Lib.hid hN
    clear ih hN
    obtain ⟨k, b, i, f, t, ty, its, fs⟩ := v
    obtain ⟨p, c, q, d, rfl, _, _, _, _⟩ := hv
    refine (callsIn_wide (n := 5)).1 ?_
    refine callsIn_of_wp_marks Tryd.func35 rfl trivial ?_ rfl
    simp only [Tryd.ntmps35, List.size_toArray, List.length_cons, List.length_nil, Nat.reduceAdd, Nat.reduceSub, Array.replicate_succ, Array.replicate_zero, List.push_toArray, List.append_toArray, List.nil_append, List.cons_append]
    gi_wp2_with (refine ⟨trivial, ?_⟩; gi_at_call 53; refine (callsIn_wide.2 (children_any _ _ rfl)).mono ?_; rintro e w1 ⟨rfl, rfl⟩)
    have bN0 := Boxed.new (w.alloc (.cells (vcells k b i f t ty p its.length c q fs.length d) 27)) 3 (.int .i64 1)
    rw [World.size_alloc] at bN0
    have bN := bN0.alloc (.cells (vcells k b i f t ty p its.length c q fs.length d) 27)
    have hB0 : Below w.heap.size w (((w.alloc (.cells (vcells k b i f t ty p its.length c q fs.length d) 27)).alloc (.cells #[.int .i64 1] 3)).alloc (.cells (vcells k b i f t ty p its.length c q fs.length d) 27)) := (((Below.refl _ w).alloc (Nat.le_refl _) _).alloc (by simp) _).alloc (by simp; omega) _
    have hcv := cellsAt_alloc ((w.alloc (.cells (vcells k b i f t ty p its.length c q fs.length d) 27)).alloc (.cells #[.int .i64 1] 3)) (vcells k b i f t ty p its.length c q fs.length d) 27 (0, 0)
    have hsW : (((w.alloc (.cells (vcells k b i f t ty p its.length c q fs.length d) 27)).alloc (.cells #[.int .i64 1] 3)).alloc (.cells (vcells k b i f t ty p its.length c q fs.length d) 27)).heap.size = w.heap.size + 1 + 1 + 1 := by simp
    rw [World.size_alloc, World.size_alloc] at hcv
    obtain ⟨W0, hW0⟩ : ∃ W0, ((w.alloc (.cells (vcells k b i f t ty p its.length c q fs.length d) 27)).alloc (.cells #[.int .i64 1] 3)).alloc (.cells (vcells k b i f t ty p its.length c q fs.length d) 27) = W0 := ⟨_, rfl⟩
    rw [hW0] at bN hB0 hcv hsW ⊢
    clear hW0 bN0
    have hvW : IsV w.heap.size W0 (.mk k b i f t ty its fs) (vcells k b i f t ty p its.length c q fs.length d) := HV.out.below hB0 (Nat.le_refl _)
    refine wpIn_rangeFunc_ownH rfl (by decide) (gf := 99) (lb := #[.pointer (some ⟨w.heap.size + 1 + 1, 0, none⟩)]) rfl trivial (enters_of Tryd.func99 (by kernel_rfl) rfl)
      (kids_stops 4 (by decide) w.heap.size (w.heap.size + 1 + 1) (.mk k b i f t ty its fs) (vcells k b i f t ty p its.length c q fs.length d) W0 (by omega) hB0.size hcv hvW) belowK_t (belowK_b hB0.size) (Below.refl _ _) (fun _ => rfl)
      (fun pre W => Boxed W (w.heap.size + 1) 3 (.int .i64 (sumC (pre.map Kid.sv))) ∧ Below w.heap.size W0 W)
      (fun _ _ _ => False)
      (OwnFrom.and (Own.from (boxed_own _ _ _) _) (ownFrom_below hB0.size hB0.size))
      (fun _ _ _ _ _ hs _ _ => hs)
      ⟨bN, Below.refl _ _⟩
      (fun x a' W => ∃ Bx, w.heap.size + 1 < Bx ∧ W.heap[Bx]? = some (.cells x.1.2.2 27 (0, 0)) ∧ a' = { tmps := #[.agg (vcells k b i f t ty p its.length c q fs.length d), .pointer (some ⟨w.heap.size, 0, none⟩), .int .i64 0, .pointer (some ⟨w.heap.size + 1, 0, none⟩), undef, .pointer (some ⟨Bx, 0, none⟩), .agg (vcells k b i f t ty p its.length c q fs.length d), .func (.func 99) #[] #[.pointer (some ⟨w.heap.size + 1 + 1, 0, none⟩)], .agg x.1.1.cells, .agg x.1.2.2, undef, undef, undef, undef, undef], defers := [] })
      ?hAx ?assign ?body ?done ?stop
    case hAx =>
      rintro x a' _ A B row ⟨Bx, h1, h2, h3⟩ hg hr
      refine ⟨Bx, h1, (hg.block Bx (Array.getElem?_eq_some_iff.1 h2).1 (fun e => ?_)).trans h2, h3⟩
      obtain ⟨_, o, ho, hc⟩ := hr Bx e.symm
      rw [h2] at ho
      cases ho
      cases hc
    case assign =>
      rintro l pre ⟨⟨s, xv, xcs⟩, hx⟩ W K ⟨hbx, hB⟩ hK
      have hx0 := hx
      obtain ⟨xk, xb, xi, xf, xt, xty, xits, xfs⟩ := xv
      obtain ⟨⟨xp, xc, xq, xd, hcs, _⟩, _⟩ := hx0
      dsimp only at hcs
      subst hcs
      dsimp only [kidEnc]
      gi_wp2
      exact hK _ _ ((KeepsOthers.alloc _ _).from _) ((Below.refl _ W).alloc (by have := hB.size; omega) _) ⟨hbx.alloc _, hB.alloc (by have := hB.size; omega) _⟩ ⟨W.heap.size, hbx.lt, heap_new _ _, rfl⟩
    case body =>
      rintro l pre ⟨⟨s, xv, xcs⟩, hx⟩ a' W hl hrl ⟨hbx, hB⟩ ⟨Bx, hBx, bX, rfl⟩ _
      replace bX : W.heap[Bx]? = some (.cells xcs 27 (0, 0)) := bX
      have hx0 := hx
      obtain ⟨hvx, hkx⟩ := hx0
      have hsz := isKid_size hkx
      dsimp only at hvx hkx hsz
      have hxN : szV xv ≤ N ∧ szV xv ≤ 1000000000 := by have := HN.out; omega
      have hwW : w.heap.size ≤ W.heap.size := by have := hB.size; omega
      have HC : Hid (∀ W', Below W.heap.size W W' → Calls Tryd.prog 35 #[.agg xcs] W' (RetB (.int .i64 (cntV xv)) W')) := Lib.hid (fun W' h => IH.out xv hxN.1 xcs W' (hvx.below (hB.trans (h.mono hwW)) (by have := h.size; omega)) hxN.2)
      have hsn : ∀ y : Kid w.heap.size W0 (.mk k b i f t ty its fs), y.1.2.1 = xv → sumC ((pre ++ [y]).map Kid.sv) = wrap64 (sumC (pre.map Kid.sv) + (cntV xv : Int)) := fun y hy => by rw [List.map_append, List.map_singleton, sumC_snoc, ← hy]; rfl
      have hsn := hsn ⟨(s, xv, xcs), hx⟩ rfl
      generalize hpx : pre ++ [(⟨(s, xv, xcs), hx⟩ : Kid w.heap.size W0 (.mk k b i f t ty its fs))] = pre' at *
      dsimp only
      clear hpx hx
      generalize sumC (pre.map Kid.sv) = S at *
      have HSN := Lib.hid hsn
      clear hsn
      have hbc := hbx.cell
      have hbf := hbx.frozen
      obtain ⟨xk, xb, xi, xf, xt, xty, xits, xfs⟩ := xv
      obtain ⟨xp, xc, xq, xd, hcs, _⟩ := hvx
      subst hcs
      obtain ⟨d0, d1, d2, d3, d4, d5, d6, d7⟩ := (block_of_cells bX).all0
      generalize cntV (V.mk xk xb xi xf xt xty xits xfs) = cn at *
      have hmx : Tryd.prog.follows .mixedOrders = true := by kernel_rfl
      have hBl : Bx < W.heap.size := (Array.getElem?_eq_some_iff.1 bX).1
      have hbl := hbx.lt
      gi_wp2
      gi_region_with_o (refine ⟨trivial, ?_⟩; gi_at_call 35; refine (CallsIn.inRound l (callsIn_wide.2 (HC.out _ (by first | exact Below.refl _ _ | exact Below.drew (Below.refl _ _))))).mono ?_; rintro e w1 ⟨rfl, hb1⟩; have hbc1 := (hb1.cell (p := ⟨w.heap.size + 1, 0, none⟩) hbl).trans hbc; have hbf1 : w1.frozen? ⟨w.heap.size + 1, 0, none⟩ = false := (World.frozen?_of_block (hb1.block _ hbl)).trans hbf; have hbb1 := hb1)
      all_goals gi_wp2
      all_goals (try go_bits)
      all_goals
        have hbw : Below W.heap.size W w1 := ⟨hbb1.os, hbb1.tape, hbb1.output, hbb1.size, hbb1.block⟩
        have hk : KeepsFrom W0.heap.size W w1 := ⟨hbw.size, fun k o _ hk _ => (hbw.block k (Array.getElem?_eq_some_iff.1 hk).1).trans hk⟩
        have hx1 : Boxed w1 (w.heap.size + 1) 3 (.int .i64 S) := (hbw.block _ hbl).trans hbx
        refine ⟨hk.trans ((KeepsOthers.setCell _ _ _).from _), (hbw.mono hwW).setCell (by show w.heap.size ≤ w.heap.size + 1; omega) _, ?_, (hB.trans (hbw.mono hwW)).setCell (by show w.heap.size ≤ w.heap.size + 1; omega) _⟩
        rw [HSN.out]
        exact hx1.set _
    case done =>
      rintro D xs W hD hS ⟨hbx, hB⟩ hK
      rw [hS, sumC_kids _ hm] at hbx
      have hbc := hbx.cell
      have hbf := hbx.frozen
      generalize cntV (V.mk k b i f t ty its fs) = R at *
      gi_wp2
      refine ⟨by simp, .inl ⟨_, _, rfl, run_takeDeferred hK, ?_⟩⟩
      exact ⟨_, results_tmp rfl _ _ _, rfl, (hB0.trans hB).trans (belowK_b (w := W0) hB0.size W D _ _ hD hK rfl rfl)⟩
    case stop =>
      rintro D c pre W _ _ h _
      exact h.elim
end Go.Proofs.YtnmnmkdmnohbmaaDoor
