/- Helper text: how deep a value is: the walk over Depth of the program. Conditions: none. -/
import Derived.Test.YtnmnmkdmnohbmaaDoorCount
namespace Go.Proofs.YtnmnmkdmnohbmaaDoor
open Go Go.RowKit Go.Shelf
attribute [local go_sem] run_store_float Oper.semAt_some

mutual
/-- How many lists and objects are nested. -/
def depV : V → Nat
  | .mk k _ _ _ _ _ its fs => if kd k = 5 then depVs its + 1 else if kd k = 6 then depFs fs + 1 else 0
def depVs : List V → Nat
  | [] => 0
  | v :: r => max (depV v) (depVs r)
def depFs : List (ByteArray × V) → Nat
  | [] => 0
  | x :: r => max (depV x.2) (depFs r)
end

mutual
theorem depV_le : ∀ v : V, depV v ≤ szV v
  | .mk k b i f t ty its fs => by
    have h1 := depVs_le its
    have h2 := depFs_le fs
    rw [depV]
    simp only [szV]
    split
    · omega
    · split <;> omega
theorem depVs_le : ∀ l : List V, depVs l ≤ szV.szVs l
  | [] => by rw [depVs]; omega
  | v :: r => by have h1 := depV_le v; have h2 := depVs_le r; rw [depVs]; simp only [szV.szVs]; omega
theorem depFs_le : ∀ l : List (ByteArray × V), depFs l ≤ szV.szFs l
  | [] => by rw [depFs]; omega
  | x :: r => by have h1 := depV_le x.2; have h2 := depFs_le r; rw [depFs]; simp only [szV.szFs]; omega
end

/-- The greatest depth among some children. -/
def maxD (l : List (St × V)) : Int := l.foldl (fun s x => max s (depV x.2 : Int)) 0
theorem maxD_snoc (l : List (St × V)) (x : St × V) : maxD (l ++ [x]) = max (maxD l) (depV x.2 : Int) := by simp [maxD]

theorem maxD_from : ∀ (l : List (St × V)) (s : Nat), l.foldl (fun s x => max s (depV x.2 : Int)) (s : Int) = ((l.foldl (fun s x => max s (depV x.2)) s : Nat) : Int)
  | [], s => rfl
  | x :: r, s => by
    have e : max (s : Int) (depV x.2 : Int) = ((max s (depV x.2) : Nat) : Int) := by omega
    rw [List.foldl_cons, List.foldl_cons, e, maxD_from r]

theorem itemKids_max : ∀ (l : List V) (i s : Nat), (itemKids l i).foldl (fun s x => max s (depV x.2)) s = max s (depVs l)
  | [], _, s => by rw [depVs]; simp [itemKids]
  | v :: r, i, s => by rw [depVs]; simp only [itemKids, List.foldl_cons, itemKids_max r (i + 1)]; omega
theorem fieldKids_max : ∀ (l : List (ByteArray × V)) (s : Nat), (fieldKids l).foldl (fun s x => max s (depV x.2)) s = max s (depFs l)
  | [], s => by rw [depFs]; simp [fieldKids]
  | x :: r, s => by
    have h := fieldKids_max r (max s (depV x.2))
    simp only [fieldKids] at h ⊢
    rw [depFs, List.map_cons, List.foldl_cons, h]
    omega

set_option maxRecDepth 100000 in
set_option maxHeartbeats 2000000 in
theorem Depth_any : ∀ (N : Nat) (v : V), szV v ≤ N → ∀ (cs : Array Value) (w : World), IsV w.heap.size w v cs → szV v ≤ 1000000000 →
    Calls Tryd.prog 45 #[.agg cs] w (RetB (.int .i64 (depV v)) w) := by
  intro N
  induction N with
  | zero => intro v hv; have := szV_pos v; omega
  | succ N ih =>
    intro v hN cs w hv hm
    have IH := Lib.hid ih
    have HV := Lib.hid hv
    have HN := Lib.hid hN
    clear ih hN
    obtain ⟨k, b, i, f, t, ty, its, fs⟩ := v
    obtain ⟨p, c, q, d, rfl, _, _, _, _⟩ := hv
    have K1 := kind_any k b i f t ty p its.length c q fs.length d
    have HMD : Hid (∀ κ, kd k = κ → (κ = 5 ∨ κ = 6) → maxD (kidsV (.mk k b i f t ty its fs)) + 1 = (depV (.mk k b i f t ty its fs) : Int)) := Lib.hid (by
      rintro κ rfl (h | h)
      · have h1 := maxD_from (itemKids its 0) 0
        rw [itemKids_max] at h1
        have e : kidsV (.mk k b i f t ty its fs) = itemKids its 0 := by simp only [kidsV, if_pos h]
        rw [e, depV, if_pos h]
        unfold maxD
        have h2 : ((0 : Nat) : Int) = 0 := rfl
        rw [h2] at h1
        rw [h1]
        omega
      · have h1 := maxD_from (fieldKids fs) 0
        rw [fieldKids_max] at h1
        have h5 : ¬ kd k = 5 := by omega
        have e : kidsV (.mk k b i f t ty its fs) = fieldKids fs := by simp only [kidsV, if_neg h5, if_pos h]
        rw [e, depV, if_neg h5, if_pos h]
        unfold maxD
        have h2 : ((0 : Nat) : Int) = 0 := rfl
        rw [h2] at h1
        rw [h1]
        omega)
    have HZ : Hid (∀ κ, kd k = κ → κ ≠ 5 → κ ≠ 6 → depV (.mk k b i f t ty its fs) = 0) := Lib.hid (by
      rintro κ rfl h5 h6
      rw [depV, if_neg h5, if_neg h6])
    generalize hκ : kd k = κ at K1 HMD HZ
    have HK := Lib.hid hκ
    clear hκ
    have hal := cellsAt_alloc w (vcells k b i f t ty p its.length c q fs.length d) 27 (0, 0)
    have hba : Below w.heap.size w (w.alloc (.cells (vcells k b i f t ty p its.length c q fs.length d) 27)) := (Below.refl _ _).alloc (Nat.le_refl _) _
    have hsa : w.heap.size < (w.alloc (.cells (vcells k b i f t ty p its.length c q fs.length d) 27)).heap.size := by simp
    by_cases h5 : κ = 5
    · subst h5
      refine (callsIn_wide (n := 5)).1 ?_
      refine callsIn_of_wp_marks Tryd.func45 rfl trivial ?_ rfl
      simp only [Tryd.ntmps45, List.size_toArray, List.length_cons, List.length_nil, Nat.reduceAdd, Nat.reduceSub, Array.replicate_succ, Array.replicate_zero, List.push_toArray, List.append_toArray, List.nil_append, List.cons_append]
      gi_wp2_with (first | (refine ⟨trivial, ?_⟩; gi_at_call 75; refine (callsIn_wide.2 (K1 _)).mono ?_; rintro e w1 ⟨rfl, hb1⟩; obtain ⟨c0, c1, c2, c3, c4, c5, c6, c7⟩ := (hal.below hb1 hsa).all0; have hs1 := Nat.lt_of_lt_of_le hsa hb1.size) | (refine ⟨trivial, ?_⟩; gi_at_call 53; refine (callsIn_wide.2 (children_any _ _ rfl)).mono ?_; rintro e w2 ⟨rfl, rfl⟩))
      have bN0 := Boxed.new w1 3 (.int .i64 0)
      have bN := bN0.alloc (.cells (vcells k b i f t ty p its.length c q fs.length d) 27)
      have hbw1 := hba.trans (hb1.mono hba.size)
      have hBq : Below w1.heap.size w1 ((w1.alloc (.cells #[.int .i64 0] 3)).alloc (.cells (vcells k b i f t ty p its.length c q fs.length d) 27)) := ((Below.refl _ w1).alloc (Nat.le_refl _) _).alloc (by simp) _
      have hB0 := hbw1.trans (hBq.mono hbw1.size)
      have hcv := cellsAt_alloc (w1.alloc (.cells #[.int .i64 0] 3)) (vcells k b i f t ty p its.length c q fs.length d) 27 (0, 0)
      have hsW : ((w1.alloc (.cells #[.int .i64 0] 3)).alloc (.cells (vcells k b i f t ty p its.length c q fs.length d) 27)).heap.size = w1.heap.size + 1 + 1 := by simp
      rw [World.size_alloc] at hcv
      have hwM : w.heap.size ≤ w1.heap.size := hbw1.size
      obtain ⟨W0, hW0⟩ : ∃ W0, (w1.alloc (.cells #[.int .i64 0] 3)).alloc (.cells (vcells k b i f t ty p its.length c q fs.length d) 27) = W0 := ⟨_, rfl⟩
      rw [hW0] at bN hB0 hcv hsW ⊢
      clear hW0 bN0 hBq c0 c1 c2 c3 c4 c5 c6 c7
      generalize w1.heap.size = M at *
      have hvW : IsV w.heap.size W0 (.mk k b i f t ty its fs) (vcells k b i f t ty p its.length c q fs.length d) := HV.out.below hB0 (Nat.le_refl _)
      refine wpIn_rangeFunc_ownH rfl (by decide) (gf := 99) (lb := #[.pointer (some ⟨M + 1, 0, none⟩)]) rfl trivial (enters_of Tryd.func99 (by kernel_rfl) rfl)
        (kids_stops 4 (by decide) w.heap.size (M + 1) (.mk k b i f t ty its fs) (vcells k b i f t ty p its.length c q fs.length d) W0 (by omega) hB0.size hcv hvW) belowK_t (belowK_b hB0.size) (Below.refl _ _) (fun _ => rfl)
        (fun pre W => Boxed W (M) 3 (.int .i64 (maxD (pre.map Kid.sv))) ∧ Below w.heap.size W0 W)
        (fun _ _ _ => False)
        (OwnFrom.and (Own.from (boxed_own _ _ _) _) (ownFrom_below hB0.size hB0.size))
        (fun _ _ _ _ _ hs _ _ => hs)
        ⟨bN, Below.refl _ _⟩
        (fun x a' W => ∃ Bx, M < Bx ∧ W.heap[Bx]? = some (.cells x.1.2.2 27 (0, 0)) ∧ a' = { tmps := #[.agg (vcells k b i f t ty p its.length c q fs.length d), .pointer (some ⟨w.heap.size, 0, none⟩), .int .i64 0, .int .i64 5, .pointer (some ⟨M, 0, none⟩), undef, .pointer (some ⟨Bx, 0, none⟩), .agg (vcells k b i f t ty p its.length c q fs.length d), .int .i64 5, .int .i64 5, .bool false, .bool false, undef, undef, .bool false, .agg (vcells k b i f t ty p its.length c q fs.length d), .func (.func 99) #[] #[.pointer (some ⟨M + 1, 0, none⟩)], .agg x.1.1.cells, .agg x.1.2.2, undef, undef, undef, undef, undef, undef], defers := [] })
        ?hAx ?assign ?body ?done ?stop
      case hAx =>
        rintro x a' _ A B row ⟨Bx, h1, h2, h3⟩ hg hr
        refine ⟨Bx, h1, (hg.block Bx (Array.getElem?_eq_some_iff.1 h2).1 (fun e => ?_)).trans h2, h3⟩
        obtain ⟨_, o, ho, hc⟩ := hr Bx e.symm
        rw [h2] at ho
        cases ho
        cases hc
      case assign =>
        rintro l pre ⟨⟨s, xv, xcs⟩, hx⟩ W K ⟨hbx, hB⟩ hK
        have hx0 := hx
        obtain ⟨xk, xb, xi, xf, xt, xty, xits, xfs⟩ := xv
        obtain ⟨⟨xp, xc, xq, xd, hcs, _⟩, _⟩ := hx0
        dsimp only at hcs
        subst hcs
        dsimp only [kidEnc]
        gi_wp2
        exact hK _ _ ((KeepsOthers.alloc _ _).from _) ((Below.refl _ W).alloc (by have := hB.size; omega) _) ⟨hbx.alloc _, hB.alloc (by have := hB.size; omega) _⟩ ⟨W.heap.size, hbx.lt, heap_new _ _, rfl⟩
      case body =>
        rintro l pre ⟨⟨s, xv, xcs⟩, hx⟩ a' W hl hrl ⟨hbx, hB⟩ ⟨Bx, hBx, bX, rfl⟩ _
        replace bX : W.heap[Bx]? = some (.cells xcs 27 (0, 0)) := bX
        have hx0 := hx
        obtain ⟨hvx, hkx⟩ := hx0
        have hsz := isKid_size hkx
        dsimp only at hvx hkx hsz
        have hxN : szV xv ≤ N ∧ szV xv ≤ 1000000000 := by have := HN.out; omega
        have hwW : w.heap.size ≤ W.heap.size := by have := hB.size; omega
        have HC : Hid (∀ W', Below W.heap.size W W' → Calls Tryd.prog 45 #[.agg xcs] W' (RetB (.int .i64 (depV xv)) W')) := Lib.hid (fun W' h => IH.out xv hxN.1 xcs W' (hvx.below (hB.trans (h.mono hwW)) (by have := h.size; omega)) hxN.2)
        have hsn : ∀ y : Kid w.heap.size W0 (.mk k b i f t ty its fs), y.1.2.1 = xv → maxD ((pre ++ [y]).map Kid.sv) = max (maxD (pre.map Kid.sv)) (depV xv : Int) := fun y hy => by rw [List.map_append, List.map_singleton, maxD_snoc, ← hy]; rfl
        have hsn := hsn ⟨(s, xv, xcs), hx⟩ rfl
        generalize hpx : pre ++ [(⟨(s, xv, xcs), hx⟩ : Kid w.heap.size W0 (.mk k b i f t ty its fs))] = pre' at *
        dsimp only
        clear hpx hx
        generalize maxD (pre.map Kid.sv) = S at *
        have HSN := Lib.hid hsn
        clear hsn
        have hbc := hbx.cell
        have hbf := hbx.frozen
        obtain ⟨xk, xb, xi, xf, xt, xty, xits, xfs⟩ := xv
        obtain ⟨xp, xc, xq, xd, hcs, _⟩ := hvx
        subst hcs
        obtain ⟨d0, d1, d2, d3, d4, d5, d6, d7⟩ := (block_of_cells bX).all0
        generalize depV (V.mk xk xb xi xf xt xty xits xfs) = cn at *
        have hmx : Tryd.prog.follows .mixedOrders = true := by kernel_rfl
        have hBl : Bx < W.heap.size := (Array.getElem?_eq_some_iff.1 bX).1
        have hbl := hbx.lt
        gi_wp2
        gi_region_with_o (refine ⟨trivial, ?_⟩; gi_at_call 45; refine (CallsIn.inRound l (callsIn_wide.2 (HC.out _ (by first | exact Below.refl _ _ | exact Below.drew (Below.refl _ _))))).mono ?_; rintro e w1 ⟨rfl, hb1⟩; have hbc1 := (hb1.cell (p := ⟨M, 0, none⟩) hbl).trans hbc; have hbf1 : w1.frozen? ⟨M, 0, none⟩ = false := (World.frozen?_of_block (hb1.block _ hbl)).trans hbf; have hbb1 := hb1)
        all_goals gi_wp2
        all_goals (try go_bits)
        all_goals
          have hbw : Below W.heap.size W w1 := ⟨hbb1.os, hbb1.tape, hbb1.output, hbb1.size, hbb1.block⟩
          have hk : ∀ B, KeepsFrom B W w1 := fun _ => ⟨hbw.size, fun k o _ hk _ => (hbw.block k (Array.getElem?_eq_some_iff.1 hk).1).trans hk⟩
          have hx1 : Boxed w1 (M) 3 (.int .i64 S) := (hbw.block _ hbl).trans hbx
          refine ⟨(hk _).trans ((KeepsOthers.setCell _ _ _).from _), (hbw.mono hwW).setCell (by show w.heap.size ≤ M; exact hwM) _, ?_, (hB.trans (hbw.mono hwW)).setCell (by show w.heap.size ≤ M; exact hwM) _⟩
          rw [HSN.out]
          first
            | (rw [show max S (cn : Int) = (cn : Int) by omega]; exact hx1.set _)
            | (rw [show max S (cn : Int) = S by omega]; exact hx1.set _)
      case done =>
        rintro D xs W hD hS ⟨hbx, hB⟩ hK
        rw [hS] at hbx
        have hmd := HMD.out 5 rfl (by omega)
        have hle := depV_le (.mk k b i f t ty its fs)
        generalize maxD (kidsV (.mk k b i f t ty its fs)) = MX at *
        obtain rfl : MX = (depV (.mk k b i f t ty its fs) : Int) - 1 := by omega
        have hbc := hbx.cell
        have hbf := hbx.frozen
        generalize depV (V.mk k b i f t ty its fs) = R at *
        gi_wp2
        refine ⟨by simp, .inl ⟨_, _, rfl, run_takeDeferred hK, ?_⟩⟩
        exact ⟨_, results_tmp rfl _ _ _, rfl, (hB0.trans hB).trans (belowK_b (w := W0) hB0.size W D _ _ hD hK rfl rfl)⟩
      case stop =>
        rintro D c pre W _ _ h _
        exact h.elim

    · by_cases h6 : κ = 6
      · subst h6
        refine (callsIn_wide (n := 5)).1 ?_
        refine callsIn_of_wp_marks Tryd.func45 rfl trivial ?_ rfl
        simp only [Tryd.ntmps45, List.size_toArray, List.length_cons, List.length_nil, Nat.reduceAdd, Nat.reduceSub, Array.replicate_succ, Array.replicate_zero, List.push_toArray, List.append_toArray, List.nil_append, List.cons_append]
        gi_wp2_with (first | (refine ⟨trivial, ?_⟩; gi_at_call 75; refine (callsIn_wide.2 (K1 _)).mono ?_; rintro e w1 ⟨rfl, hb1⟩; obtain ⟨c0, c1, c2, c3, c4, c5, c6, c7⟩ := (hal.below hb1 hsa).all0; have hs1 := Nat.lt_of_lt_of_le hsa hb1.size) | (refine ⟨trivial, ?_⟩; gi_at_call 53; refine (callsIn_wide.2 (children_any _ _ rfl)).mono ?_; rintro e w2 ⟨rfl, rfl⟩))
        have bN0 := Boxed.new w1 3 (.int .i64 0)
        have bN := bN0.alloc (.cells (vcells k b i f t ty p its.length c q fs.length d) 27)
        have hbw1 := hba.trans (hb1.mono hba.size)
        have hBq : Below w1.heap.size w1 ((w1.alloc (.cells #[.int .i64 0] 3)).alloc (.cells (vcells k b i f t ty p its.length c q fs.length d) 27)) := ((Below.refl _ w1).alloc (Nat.le_refl _) _).alloc (by simp) _
        have hB0 := hbw1.trans (hBq.mono hbw1.size)
        have hcv := cellsAt_alloc (w1.alloc (.cells #[.int .i64 0] 3)) (vcells k b i f t ty p its.length c q fs.length d) 27 (0, 0)
        have hsW : ((w1.alloc (.cells #[.int .i64 0] 3)).alloc (.cells (vcells k b i f t ty p its.length c q fs.length d) 27)).heap.size = w1.heap.size + 1 + 1 := by simp
        rw [World.size_alloc] at hcv
        have hwM : w.heap.size ≤ w1.heap.size := hbw1.size
        obtain ⟨W0, hW0⟩ : ∃ W0, (w1.alloc (.cells #[.int .i64 0] 3)).alloc (.cells (vcells k b i f t ty p its.length c q fs.length d) 27) = W0 := ⟨_, rfl⟩
        rw [hW0] at bN hB0 hcv hsW ⊢
        clear hW0 bN0 hBq c0 c1 c2 c3 c4 c5 c6 c7
        generalize w1.heap.size = M at *
        have hvW : IsV w.heap.size W0 (.mk k b i f t ty its fs) (vcells k b i f t ty p its.length c q fs.length d) := HV.out.below hB0 (Nat.le_refl _)
        refine wpIn_rangeFunc_ownH rfl (by decide) (gf := 99) (lb := #[.pointer (some ⟨M + 1, 0, none⟩)]) rfl trivial (enters_of Tryd.func99 (by kernel_rfl) rfl)
          (kids_stops 4 (by decide) w.heap.size (M + 1) (.mk k b i f t ty its fs) (vcells k b i f t ty p its.length c q fs.length d) W0 (by omega) hB0.size hcv hvW) belowK_t (belowK_b hB0.size) (Below.refl _ _) (fun _ => rfl)
          (fun pre W => Boxed W (M) 3 (.int .i64 (maxD (pre.map Kid.sv))) ∧ Below w.heap.size W0 W)
          (fun _ _ _ => False)
          (OwnFrom.and (Own.from (boxed_own _ _ _) _) (ownFrom_below hB0.size hB0.size))
          (fun _ _ _ _ _ hs _ _ => hs)
          ⟨bN, Below.refl _ _⟩
          (fun x a' W => ∃ Bx, M < Bx ∧ W.heap[Bx]? = some (.cells x.1.2.2 27 (0, 0)) ∧ a' = { tmps := #[.agg (vcells k b i f t ty p its.length c q fs.length d), .pointer (some ⟨w.heap.size, 0, none⟩), .int .i64 0, .int .i64 6, .pointer (some ⟨M, 0, none⟩), undef, .pointer (some ⟨Bx, 0, none⟩), .agg (vcells k b i f t ty p its.length c q fs.length d), .int .i64 6, .int .i64 6, .bool true, .bool true, .int .i64 6, .bool false, .bool false, .agg (vcells k b i f t ty p its.length c q fs.length d), .func (.func 99) #[] #[.pointer (some ⟨M + 1, 0, none⟩)], .agg x.1.1.cells, .agg x.1.2.2, undef, undef, undef, undef, undef, undef], defers := [] })
          ?hAx ?assign ?body ?done ?stop
        case hAx =>
          rintro x a' _ A B row ⟨Bx, h1, h2, h3⟩ hg hr
          refine ⟨Bx, h1, (hg.block Bx (Array.getElem?_eq_some_iff.1 h2).1 (fun e => ?_)).trans h2, h3⟩
          obtain ⟨_, o, ho, hc⟩ := hr Bx e.symm
          rw [h2] at ho
          cases ho
          cases hc
        case assign =>
          rintro l pre ⟨⟨s, xv, xcs⟩, hx⟩ W K ⟨hbx, hB⟩ hK
          have hx0 := hx
          obtain ⟨xk, xb, xi, xf, xt, xty, xits, xfs⟩ := xv
          obtain ⟨⟨xp, xc, xq, xd, hcs, _⟩, _⟩ := hx0
          dsimp only at hcs
          subst hcs
          dsimp only [kidEnc]
          gi_wp2
          exact hK _ _ ((KeepsOthers.alloc _ _).from _) ((Below.refl _ W).alloc (by have := hB.size; omega) _) ⟨hbx.alloc _, hB.alloc (by have := hB.size; omega) _⟩ ⟨W.heap.size, hbx.lt, heap_new _ _, rfl⟩
        case body =>
          rintro l pre ⟨⟨s, xv, xcs⟩, hx⟩ a' W hl hrl ⟨hbx, hB⟩ ⟨Bx, hBx, bX, rfl⟩ _
          replace bX : W.heap[Bx]? = some (.cells xcs 27 (0, 0)) := bX
          have hx0 := hx
          obtain ⟨hvx, hkx⟩ := hx0
          have hsz := isKid_size hkx
          dsimp only at hvx hkx hsz
          have hxN : szV xv ≤ N ∧ szV xv ≤ 1000000000 := by have := HN.out; omega
          have hwW : w.heap.size ≤ W.heap.size := by have := hB.size; omega
          have HC : Hid (∀ W', Below W.heap.size W W' → Calls Tryd.prog 45 #[.agg xcs] W' (RetB (.int .i64 (depV xv)) W')) := Lib.hid (fun W' h => IH.out xv hxN.1 xcs W' (hvx.below (hB.trans (h.mono hwW)) (by have := h.size; omega)) hxN.2)
          have hsn : ∀ y : Kid w.heap.size W0 (.mk k b i f t ty its fs), y.1.2.1 = xv → maxD ((pre ++ [y]).map Kid.sv) = max (maxD (pre.map Kid.sv)) (depV xv : Int) := fun y hy => by rw [List.map_append, List.map_singleton, maxD_snoc, ← hy]; rfl
          have hsn := hsn ⟨(s, xv, xcs), hx⟩ rfl
          generalize hpx : pre ++ [(⟨(s, xv, xcs), hx⟩ : Kid w.heap.size W0 (.mk k b i f t ty its fs))] = pre' at *
          dsimp only
          clear hpx hx
          generalize maxD (pre.map Kid.sv) = S at *
          have HSN := Lib.hid hsn
          clear hsn
          have hbc := hbx.cell
          have hbf := hbx.frozen
          obtain ⟨xk, xb, xi, xf, xt, xty, xits, xfs⟩ := xv
          obtain ⟨xp, xc, xq, xd, hcs, _⟩ := hvx
          subst hcs
          obtain ⟨d0, d1, d2, d3, d4, d5, d6, d7⟩ := (block_of_cells bX).all0
          generalize depV (V.mk xk xb xi xf xt xty xits xfs) = cn at *
          have hmx : Tryd.prog.follows .mixedOrders = true := by kernel_rfl
          have hBl : Bx < W.heap.size := (Array.getElem?_eq_some_iff.1 bX).1
          have hbl := hbx.lt
          gi_wp2
          gi_region_with_o (refine ⟨trivial, ?_⟩; gi_at_call 45; refine (CallsIn.inRound l (callsIn_wide.2 (HC.out _ (by first | exact Below.refl _ _ | exact Below.drew (Below.refl _ _))))).mono ?_; rintro e w1 ⟨rfl, hb1⟩; have hbc1 := (hb1.cell (p := ⟨M, 0, none⟩) hbl).trans hbc; have hbf1 : w1.frozen? ⟨M, 0, none⟩ = false := (World.frozen?_of_block (hb1.block _ hbl)).trans hbf; have hbb1 := hb1)
          all_goals gi_wp2
          all_goals (try go_bits)
          all_goals
            have hbw : Below W.heap.size W w1 := ⟨hbb1.os, hbb1.tape, hbb1.output, hbb1.size, hbb1.block⟩
            have hk : ∀ B, KeepsFrom B W w1 := fun _ => ⟨hbw.size, fun k o _ hk _ => (hbw.block k (Array.getElem?_eq_some_iff.1 hk).1).trans hk⟩
            have hx1 : Boxed w1 (M) 3 (.int .i64 S) := (hbw.block _ hbl).trans hbx
            refine ⟨(hk _).trans ((KeepsOthers.setCell _ _ _).from _), (hbw.mono hwW).setCell (by show w.heap.size ≤ M; exact hwM) _, ?_, (hB.trans (hbw.mono hwW)).setCell (by show w.heap.size ≤ M; exact hwM) _⟩
            rw [HSN.out]
            first
              | (rw [show max S (cn : Int) = (cn : Int) by omega]; exact hx1.set _)
              | (rw [show max S (cn : Int) = S by omega]; exact hx1.set _)
        case done =>
          rintro D xs W hD hS ⟨hbx, hB⟩ hK
          rw [hS] at hbx
          have hmd := HMD.out 6 rfl (by omega)
          have hle := depV_le (.mk k b i f t ty its fs)
          generalize maxD (kidsV (.mk k b i f t ty its fs)) = MX at *
          obtain rfl : MX = (depV (.mk k b i f t ty its fs) : Int) - 1 := by omega
          have hbc := hbx.cell
          have hbf := hbx.frozen
          generalize depV (V.mk k b i f t ty its fs) = R at *
          gi_wp2
          refine ⟨by simp, .inl ⟨_, _, rfl, run_takeDeferred hK, ?_⟩⟩
          exact ⟨_, results_tmp rfl _ _ _, rfl, (hB0.trans hB).trans (belowK_b (w := W0) hB0.size W D _ _ hD hK rfl rfl)⟩
        case stop =>
          rintro D c pre W _ _ h _
          exact h.elim

      · have q5 : (κ != 5) = true := by simp [h5]
        have q6 : (κ != 6) = true := by simp [h6]
        have hz := HZ.out κ rfl h5 h6
        rw [hz]
        clear hz
        go_enter Tryd.func45, Tryd.ntmps45
        go_wp2_with (go_at_call 75; refine (K1 _).mono ?_; rintro e w1 ⟨rfl, hb1⟩)
        go_ret
        exact ⟨rfl, hba.trans (hb1.mono hba.size)⟩
end Go.Proofs.YtnmnmkdmnohbmaaDoor
