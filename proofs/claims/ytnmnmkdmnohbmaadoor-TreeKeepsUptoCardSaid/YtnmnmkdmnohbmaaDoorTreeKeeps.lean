/- TreeKeeps: the walk over the law. Conditions: none. -/
import Derived.Test.YtnmnmkdmnohbmaaDoorPackH
import Derived.Test.YtnmnmkdmnohbmaaDoorPackI
import Derived.Test.YtnmnmkdmnohbmaaDoorSameD
import Derived.Test.YtnmnmkdmnohbmaaDoorRefCount
import Derived.Test.YtnmnmkdmnohbmaaDoorPackJ
namespace Go.Proofs.YtnmnmkdmnohbmaaDoor
open Go Go.RowKit Go.Shelf
attribute [local go_sem] run_store_float undef

theorem steps_src {w : World} {B : Nat} {p : Option Addr} {l : List St} (h : StepsAt B w p l) (hl : 0 < l.length) : ∀ a, p = some a → ∀ j u, (flatS l)[j]? = some u → w.cell? (a.add j) = some u := by
  rcases h with rfl | ⟨b, o, rfl, hB, hc⟩
  · simp at hl
  intro a ha j u hu
  cases ha
  rw [addr_add]
  have key : ∀ (l : List St) (o : Nat), (∀ i s, l[i]? = some s → w.cell? ⟨b, o + i * 3, none⟩ = some (.string s.nm) ∧ w.cell? ⟨b, o + i * 3 + 1, none⟩ = some (.int .i64 s.ix) ∧ w.cell? ⟨b, o + i * 3 + 2, none⟩ = some (.bool s.it)) → ∀ j u, (flatS l)[j]? = some u → w.cell? ⟨b, o + j, none⟩ = some u := by
    intro l
    induction l with
    | nil => intro o _ j u hu; simp [flatS] at hu
    | cons s r ih =>
      intro o hc j u hu
      have e : flatS (s :: r) = [.string s.nm, .int .i64 s.ix, .bool s.it] ++ flatS r := by simp [flatS, St.cells]
      rw [e] at hu
      have h0 := hc 0 s rfl
      match j, hu with
      | 0, hu => cases hu; simpa using h0.1
      | 1, hu => cases hu; simpa using h0.2.1
      | 2, hu => cases hu; simpa using h0.2.2
      | j + 3, hu =>
        have := ih (o + 3) (fun i s hs => by
          have := hc (i + 1) s (by simpa using hs)
          rw [show o + (i + 1) * 3 = o + 3 + i * 3 by omega] at this
          exact this) j u (by simpa using hu)
        rw [show o + (j + 3) = o + 3 + j by omega]
        exact this
  exact key l o hc j u hu
theorem steps_prefix {w : World} {B : Nat} {p : Option Addr} {l r : List St} (h : StepsAt B w p (l ++ r)) : StepsAt B w p l := by
  rcases h with h | ⟨b, o, rfl, hB, hc⟩
  · exact .inl (List.append_eq_nil_iff.1 h).1
  · exact .inr ⟨b, o, rfl, hB, fun i s hs => hc i s (by rw [List.getElem?_append_left (List.getElem?_eq_some_iff.1 hs).1]; exact hs)⟩
theorem flatS_append (a b : List St) : flatS (a ++ b) = flatS a ++ flatS b := by simp [flatS]
theorem rd_nm_le {l : List St} (h : wtP l ≤ 1048576) : ∀ s ∈ l, s.nm.size ≤ maxLen := by
  intro s hs
  have : wtS s ≤ wtP l := by
    induction l with
    | nil => cases hs
    | cons x l ih =>
      rw [wtP_cons] at *
      rcases List.mem_cons.1 hs with rfl | hs
      · omega
      · have := ih (by omega) hs
        omega
  unfold wtS at this
  rw [ba_len] at this
  unfold maxLen
  omega

theorem short_of_sh : ∀ {fs : List (ByteArray × V)}, shFs fs → shortFs fs
  | [], _, z, hz => by cases hz
  | x :: r, h, z, hz => by
    rw [shFs] at h
    rcases List.mem_cons.1 hz with rfl | hz
    · exact h.1.1
    · exact short_of_sh h.2 z hz
mutual
theorem nm_of_sh : ∀ v : V, shV v → nmV v
  | .mk _ _ _ _ _ _ its fs, h => by
    rw [shV] at h
    rw [nmV]
    exact ⟨nm_of_shs its h.2.2.1, nm_of_shf fs h.2.2.2⟩
theorem nm_of_shs : ∀ l : List V, shVs l → nmVs l
  | [], _ => trivial
  | v :: r, h => by
    rw [shVs] at h
    rw [nmVs]
    exact ⟨nm_of_sh v h.1, nm_of_shs r h.2⟩
theorem nm_of_shf : ∀ l : List (ByteArray × V), shFs l → nmFs l
  | [], _ => trivial
  | x :: r, h => by
    rw [shFs] at h
    rw [nmFs]
    exact ⟨⟨by have := h.1.1; unfold maxLen; omega, nm_of_sh x.2 h.1.2⟩, nm_of_shf r h.2⟩
end
/-- The two steps that are laid behind a path. -/
def spareS (k : Int) : List St := [⟨⟨#[115, 112, 97, 114, 101]⟩, 0, false⟩, ⟨⟨#[114, 111, 111, 109]⟩, k, false⟩]

set_option maxRecDepth 100000 in
set_option maxHeartbeats 4000000 in
theorem TreeKeeps_walk (x y : V) (cs cs' : Array Value) (P Q : List St) (pp qp : Option Addr) (cp cq : Nat) (w : World) (hv : IsV w.heap.size w x cs) (hv' : IsV w.heap.size w y cs') (ox : okV x) (oy : okV y) (shx : shV x) (shy : shV y)
    (hp : StepsAt w.heap.size w pp P) (hq : StepsAt w.heap.size w qp Q) (lp : P.length ≤ cp) (lpm : cp ≤ maxLen) (lq : Q.length ≤ cq) (lqm : cq ≤ maxLen)
    (ip : ∀ s ∈ P, inI s.ix) (wp : wtP P ≤ 1048576) (wq : wtP Q ≤ 1048576)
    (htab : Lib.TabIs Tryd.prog w "internal/strconv.uint64pow10" .u64 Lib.pow10Tab) (hT : TabsIn w) :
    Calls Tryd.prog 8 #[.agg cs, .agg cs', .slice pp P.length cp, .slice qp Q.length cq] w (RetB (.bool true) w) := by
  have HV := Lib.hid hv
  have HV' := Lib.hid hv'
  obtain ⟨k, b, i, f, t, ty, p, n, c, q, m, d, rfl⟩ := rd_shape hv
  obtain ⟨k', b', i', f', t', ty', p', n', c', q', m', d', rfl⟩ := rd_shape hv'
  have HOX := Lib.hid ox
  have HOY := Lib.hid oy
  have HNX := Lib.hid (nm_of_sh x shx)
  have HNY := Lib.hid (nm_of_sh y shy)
  have HSX := Lib.hid shx
  have HSY := Lib.hid shy
  have HP := Lib.hid hp
  have HQ := Lib.hid hq
  have HIP := Lib.hid ip
  have HTAB := Lib.hid (Lib.tabBelow_of_tabIs htab)
  have HT := Lib.hid hT
  obtain ⟨wa, e, hwa, hs0, hs1, hal, hal'⟩ := two_allocs w (vcells k b i f t ty p n c q m d) (vcells k' b' i' f' t' ty' p' n' c' q' m' d') 27 27
  have HWA := Lib.hid hwa
  have HAL := Lib.hid hal
  have HAL' := Lib.hid hal'
  have hlp := wtP_len P
  have hlq := wtP_len Q
  clear hv hv' ox oy shx shy hp hq ip htab hT hwa hal hal'
  unfold maxLen at lpm lqm
  have tk := trivial
  have tk2 := trivial
  have tk3 := trivial
  go_enter Tryd.func8, Tryd.ntmps8
  go_upto_region 3 with (go_at_call 32; clear tk; refine (known_any _).mono ?_; rintro _ w1 ⟨rfl, hb1⟩; have HB1 := Lib.hid hb1; clear hb1; obtain ⟨a0, a1, a2, a3, a4, a5, a6, a7⟩ := (HAL.out.below HB1.out hs0).all0)
  clear e
  by_cases hz1 : 10000 ≤ sizeR x 9999
  · have dz : decide (10000 ≤ sizeR x 9999) = true := by simp [hz1]
    go_wp2_with (go_at_call 16; clear tk2; refine (lawParts_any _ x (Nat.le_refl _) _ _ 10000 (HV.out.on (HWA.out.trans (HB1.out.mono HWA.out.size))) (by decide) (by decide)).mono ?_; rintro _ w2 ⟨rfl, hb2⟩)
    go_ret
    exact ⟨rfl, (HWA.out.trans (HB1.out.mono HWA.out.size)).trans (hb2.mono (Nat.le_trans HWA.out.size HB1.out.size))⟩
  · have hsx : szV x ≤ 9999 := by have := sizeR_eq x 9999 (by omega); omega
    have dz : decide (10000 ≤ sizeR x 9999) = false := by simp; omega
    clear hz1
    by_cases hz2 : 10000 ≤ sizeR y 9999
    · have dz2 : decide (10000 ≤ sizeR y 9999) = true := by simp [hz2]
      go_wp2_with (go_at_call 16; first
        | (clear tk2; refine (lawParts_any _ x (Nat.le_refl _) _ _ 10000 (HV.out.on (HWA.out.trans (HB1.out.mono HWA.out.size))) (by decide) (by decide)).mono ?_; rintro _ w2 ⟨rfl, hb2⟩; have hb2' := HB1.out.trans (hb2.mono HB1.out.size); have HB2 := Lib.hid hb2'; clear hb2 hb2'; obtain ⟨d0, d1, d2, d3, d4, d5, d6, d7⟩ := (HAL'.out.below HB2.out hs1).all0)
        | (clear tk3; refine (lawParts_any _ y (Nat.le_refl _) _ _ 10000 (HV'.out.on (HWA.out.trans (HB2.out.mono HWA.out.size))) (by decide) (by decide)).mono ?_; rintro _ w3 ⟨rfl, hb3⟩))
      go_ret
      exact ⟨rfl, (HWA.out.trans (HB2.out.mono HWA.out.size)).trans (hb3.mono (Nat.le_trans HWA.out.size HB2.out.size))⟩
    · have hsy : szV y ≤ 9999 := by have := sizeR_eq y 9999 (by omega); omega
      have dz2 : decide (10000 ≤ sizeR y 9999) = false := by simp; omega
      clear hz2
      go_upto_region 5 with (go_at_call 16; first
        | (clear tk2; refine (lawParts_any _ x (Nat.le_refl _) _ _ 10000 (HV.out.on (HWA.out.trans (HB1.out.mono HWA.out.size))) (by decide) (by decide)).mono ?_; rintro _ w2 ⟨rfl, hb2⟩; have hb2' := HB1.out.trans (hb2.mono HB1.out.size); have HB2 := Lib.hid hb2'; clear hb2 hb2'; obtain ⟨d0, d1, d2, d3, d4, d5, d6, d7⟩ := (HAL'.out.below HB2.out hs1).all0)
        | (clear tk3; refine (lawParts_any _ y (Nat.le_refl _) _ _ 10000 (HV'.out.on (HWA.out.trans (HB2.out.mono HWA.out.size))) (by decide) (by decide)).mono ?_; rintro _ w3 ⟨rfl, hb3⟩; have hb3' := HB2.out.trans (hb3.mono HB2.out.size); have HB3 := Lib.hid hb3'; clear hb3 hb3'))
      have HCX := Lib.hid (show ∀ w', Below w3.heap.size w3 w' → Calls Tryd.prog 17 #[.agg (vcells k b i f t ty p n c q m d)] w' (CopyPost x w') from fun w' h => refCopy_any _ x (Nat.le_refl _) _ w' (HV.out.on ((HWA.out.trans (HB3.out.mono HWA.out.size)).trans (h.mono (Nat.le_trans HWA.out.size HB3.out.size)))) (by omega))
      have HCY := Lib.hid (show ∀ w', Below w3.heap.size w3 w' → Calls Tryd.prog 17 #[.agg (vcells k' b' i' f' t' ty' p' n' c' q' m' d')] w' (CopyPost y w') from fun w' h => refCopy_any _ y (Nat.le_refl _) _ w' (HV'.out.on ((HWA.out.trans (HB3.out.mono HWA.out.size)).trans (h.mono (Nat.le_trans HWA.out.size HB3.out.size)))) (by omega))
      unfold CopyPost at HCX HCY
      clear a0 a1 a2 a3 a4 a5 a6 a7 d0 d1 d2 d3 d4 d5 d6 d7
      have h30 : w.heap.size < w3.heap.size := Nat.lt_of_lt_of_le hs0 HB3.out.size
      have h31 : w.heap.size + 1 < w3.heap.size := Nat.lt_of_lt_of_le hs1 HB3.out.size
      refine wp_region_states twoDeps (by kernel_rfl) (by rfl) (twoI 9 10 25 26 27 28 x y (vcells k b i f t ty p n c q m d) (vcells k' b' i' f' t' ty' p' n' c' q' m' d')) ?start ?step ?fin
      case start =>
        exact ⟨false, false, false, false, false, false, false, false, undef, undef, undef, undef, #[], #[], 0, 0, [], [], rfl, rfl, TwoF.start _ _ (Below.drew (Below.refl _ _)) _ _ _ _ _ _ _ _⟩
      case step =>
        rintro ls a W j ⟨l0, l1, l2, l3, l4, l5, l6, l7, v25, v26, v27, v28, c9, c10, g9, g10, bx, bz, rfl, rfl, hF⟩ hcan
        simp only [List.setIfInBounds_toArray, List.set_cons_succ, List.set_cons_zero]
        have HF := Lib.hid hF
        have hbw := hF.below
        have HBW := Lib.hid hbw
        rcases j with _ | _ | _ | _ | _ | _ | _ | _ | j
        · obtain rfl : l0 = false := by simpa [can] using hcan
          obtain ⟨a0, a1, a2, a3, a4, a5, a6, a7⟩ := (HAL.out.below (HB3.out.trans (HBW.out.mono HB3.out.size)) hs0).all0
          clear hF hbw
          refine wpOp_plain rfl rfl (fun K hK => ?_)
          go_step
          exact hK _ _ ⟨true, l1, l2, l3, l4, l5, l6, l7, _, v26, v27, v28, c9, c10, g9, g10, bx, bz, rfl, rfl, HF.out.load0⟩
        · obtain ⟨rfl, rfl⟩ : l1 = false ∧ l0 = true := by simpa [can] using hcan
          obtain rfl := hF.h25 rfl
          clear hF
          refine wpOp_plain rfl rfl (fun K hK => ?_)
          go_step
          refine (HCX.out _ hbw).mono ?_
          rintro e W' ⟨csn, bsn, rfl, ho, hn, hr, hb⟩
          exact hK _ _ ⟨true, true, l2, l3, l4, l5, l6, l7, _, _, v27, v28, c9, c10, g9, g10, bsn, bz, rfl, rfl, HF.out.call1 ho hn hr hb⟩
        · obtain rfl : l2 = false := by simpa [can] using hcan
          obtain ⟨a0, a1, a2, a3, a4, a5, a6, a7⟩ := (HAL'.out.below (HB3.out.trans (HBW.out.mono HB3.out.size)) hs1).all0
          clear hF hbw
          refine wpOp_plain rfl rfl (fun K hK => ?_)
          go_step
          exact hK _ _ ⟨l0, l1, true, l3, l4, l5, l6, l7, v25, v26, _, v28, c9, c10, g9, g10, bx, bz, rfl, rfl, HF.out.load2⟩
        · obtain ⟨rfl, rfl, rfl⟩ : l3 = false ∧ l2 = true ∧ l1 = true := by simpa [can] using hcan
          obtain rfl := hF.h27 rfl
          clear hF
          refine wpOp_plain rfl rfl (fun K hK => ?_)
          go_step
          refine (HCY.out _ hbw).mono ?_
          rintro e W' ⟨csn, bsn, rfl, ho, hn, hr, hb⟩
          exact hK _ _ ⟨l0, true, true, true, l4, l5, l6, l7, v25, v26, _, _, c9, c10, g9, g10, bx, bsn, rfl, rfl, HF.out.call3 ho hn hr hb⟩
        · obtain rfl : l4 = false := by simpa [can] using hcan
          clear hF hbw
          refine wpOp_plain rfl rfl (fun K hK => ?_)
          go_step
          exact hK _ _ ⟨l0, l1, l2, l3, true, l5, l6, l7, v25, v26, v27, v28, _, c10, W.heap.size, g10, bx, bz, rfl, rfl, HF.out.alloc4 _ rfl⟩
        · obtain rfl : l5 = false := by simpa [can] using hcan
          clear hF hbw
          refine wpOp_plain rfl rfl (fun K hK => ?_)
          go_step
          exact hK _ _ ⟨l0, l1, l2, l3, l4, true, l6, l7, v25, v26, v27, v28, c9, _, g9, W.heap.size, bx, bz, rfl, rfl, HF.out.alloc5 _ rfl⟩
        · obtain ⟨rfl, rfl, rfl, rfl, rfl, rfl⟩ := two_can6 hcan
          obtain ⟨cs6, rfl, ho6⟩ := hF.h26 rfl
          have hi6 := ho6.isV (fun z hz => (hF.rx z hz).2)
          obtain ⟨k6, b6, i6, f6, t6, ty6, p6, n6, c6, q6, m6, d6, rfl⟩ := rd_shape hi6
          obtain ⟨_, _, hb6, _, _, hs6⟩ := hF.h9 rfl
          have H6 := Lib.hid hb6
          clear hF hbw hi6 ho6 hb6
          refine wpOp_plain rfl rfl (fun K hK => ?_)
          refine wp_store_row (P := Tryd.prog) 27 (.tmp 9) (.tmp 26) rfl g9 (vcells k6 b6 i6 f6 t6 ty6 p6 n6 c6 q6 m6 d6) rfl rfl 27 _ H6.out (by kernel_rfl) hs6 (vcells_one ..) ?_
          exact hK _ _ ⟨true, true, l2, true, true, true, true, l7, v25, _, v27, v28, _, c10, g9, g10, bx, bz, rfl, rfl, HF.out.store6 _ rfl rfl⟩
        · obtain ⟨rfl, rfl, rfl, rfl, rfl, rfl, rfl, rfl⟩ := two_can7 hcan
          obtain ⟨cs6, rfl, ho6⟩ := hF.h28 rfl
          have hi6 := ho6.isV (fun z hz => (hF.ry z hz).2)
          obtain ⟨k6, b6, i6, f6, t6, ty6, p6, n6, c6, q6, m6, d6, rfl⟩ := rd_shape hi6
          obtain ⟨_, _, hb6, _, _, hs6⟩ := hF.h10 rfl
          have H6 := Lib.hid hb6
          clear hF hbw hi6 ho6 hb6
          refine wpOp_plain rfl rfl (fun K hK => ?_)
          refine wp_store_row (P := Tryd.prog) 27 (.tmp 10) (.tmp 28) rfl g10 (vcells k6 b6 i6 f6 t6 ty6 p6 n6 c6 q6 m6 d6) rfl rfl 27 _ H6.out (by kernel_rfl) hs6 (vcells_one ..) ?_
          exact hK _ _ ⟨true, true, true, true, true, true, true, true, v25, v26, v27, _, c9, _, g9, g10, bx, bz, rfl, rfl, HF.out.store7 _ rfl rfl⟩
        · simp [can] at hcan
      case fin =>
        rintro ls a W3 hcan ⟨l0, l1, l2, l3, l4, l5, l6, l7, v25, v26, v27, v28, c9, c10, g9, g10, bx, bz, rfl, rfl, hF⟩
        obtain ⟨rfl, rfl, rfl, rfl, rfl, rfl, rfl, rfl⟩ := two_end hcan
        clear hcan
        simp only [List.setIfInBounds_toArray, List.set_cons_succ, List.set_cons_zero, if_true]
        obtain ⟨cx3, hv26, hox⟩ := hF.h26 rfl
        obtain ⟨cy3, hv28, hoy⟩ := hF.h28 rfl
        obtain rfl : cx3 = c9 := by have := hF.e6 rfl; rw [hv26] at this; cases this; rfl
        obtain rfl : cy3 = c10 := by have := hF.e7 rfl; rw [hv28] at this; cases this; rfl
        obtain ⟨ge9, gl9, hb9, hn9x, hn9y, _⟩ := hF.h9 rfl
        obtain ⟨ge10, gl10, hb10, hn10x, hn10y, _⟩ := hF.h10 rfl
        have hne := hF.ne rfl rfl
        have hbw3 : Below w.heap.size w W3 := (HWA.out.trans (HB3.out.mono HWA.out.size)).trans (hF.below.mono (Nat.le_trans HWA.out.size HB3.out.size))
        have HB3' := Lib.hid hbw3
        have HOX3 := Lib.hid hox
        have HOY3 := Lib.hid hoy
        have HBX := Lib.hid hb9
        have HBY := Lib.hid hb10
        have HFF := Lib.hid hF
        have HB03 := Lib.hid hF.below
        clear hv26 hv28 hox hoy hb9 hb10 hF hbw3 HCX HCY
        have hsp : StepsAt W3.heap.size W3 pp P := HP.out.on HB3'.out
        have hsq : StepsAt W3.heap.size W3 qp Q := HQ.out.on HB3'.out
        have HSP := Lib.hid hsp
        have HSQ := Lib.hid hsq
        clear hsp hsq
        have HNIL := Lib.hid (show pp = none → P.length = 0 from fun h => by rcases HSP.out with h1 | ⟨b, o, h2, _⟩; rw [h1]; rfl; rw [h2] at h; cases h)
        have HSRC := Lib.hid (show ∀ a, pp = some a → ∀ j u, (flatS P)[j]? = some u → (W3.alloc (.cells #[] 34)).cell? (a.add j) = some u from fun a ha j u hu => steps_src (HSP.out.on ((Below.refl _ _).alloc (Nat.le_refl _) _)) (by have := (List.getElem?_eq_some_iff.1 hu).1; rw [flatS_len] at this; omega) a ha j u hu)
        go_upto_region 6 with (fail)
        have hsrcp := HSRC.out
        have hb4 := heap_new W3 (.cells #[] 34)
        go_step
        refine wpList_plain rfl (fun K hK => ?_)
        go_step
        refine hK _ _ ?_
        clear hK K
        refine wpList_plain rfl (fun K hK => ?_)
        go_step
        refine hK _ _ ?_
        clear hK K
        refine wpList_plain rfl (fun K hK => ?_)
        refine wp_append_y (P := Tryd.prog) (.tmp 29) (.tmp 30) 29 rfl W3.heap.size 34 (.agg #[.string ⟨#[]⟩, .int .i64 0, .bool false]) 3 32 Tryd.underlying29 (by kernel_rfl) rfl (by decide) _ 0 _ rfl (empty_row (Nat.le_refl _) hb4) pp P.length cp (flatS P) rfl (by rw [flatS_len]) HNIL.out hsrcp (flatS_one P) (by unfold maxLen; omega) (by omega) (by simp) ?_
        intro v4 w4p hrow4 hgr4
        obtain ⟨p4, c4, rfl⟩ := row_slice hrow4
        simp only [Nat.zero_add, List.nil_append] at hrow4
        have hgb4 : Below W3.heap.size W3 w4p := ((Below.refl _ W3).alloc (Nat.le_refl _) _).grown hgr4 (by simp) (fun y hy => by cases hy; exact Nat.le_refl _)
        refine hK _ _ ?_
        clear hK K hb4 hgr4 hsrcp
        refine wpList_plain rfl (fun K hK => ?_)
        go_step
        refine hK _ _ ?_
        clear hK K
        refine wpList_plain rfl (fun K hK => ?_)
        go_step
        refine hK _ _ ?_
        clear hK K
        refine wpList_plain rfl (fun K hK => ?_)
        go_step
        refine hK _ _ ?_
        clear hK K
        have hrow5 := hrow4.kept (World.grownBy_alloc w4p (.cells #[.string ⟨#[115, 112, 97, 114, 101]⟩, .int .i64 0, .bool false, .string ⟨#[114, 111, 111, 109]⟩, .int .i64 5, .bool false] 34) none) (by cases (Value.slice p4 P.length c4).ownBlock <;> simp)
        have hb5 := heap_new w4p (.cells #[.string ⟨#[115, 112, 97, 114, 101]⟩, .int .i64 0, .bool false, .string ⟨#[114, 111, 111, 109]⟩, .int .i64 5, .bool false] 34)
        refine wpList_plain rfl (fun K hK => ?_)
        refine wp_append_y (P := Tryd.prog) (.tmp 31) (.tmp 34) 29 rfl W3.heap.size 34 (.agg #[.string ⟨#[]⟩, .int .i64 0, .bool false]) 3 32 Tryd.underlying29 (by kernel_rfl) rfl (by decide) _ P.length _ (by first | rfl | (simp [Act.eval]; done)) hrow5 (some ⟨w4p.heap.size, 0, none⟩) 2 2 (flatS (spareS 5)) rfl rfl (fun e => by cases e) (fun a ha j u hu => by cases ha; rw [addr_add, Nat.zero_add]; simp only [World.cell?, hb5]; simpa [spareS, flatS, St.cells] using hu) (flatS_one _) (by unfold maxLen; omega) (by omega) (by have := hgb4.size; simp; omega) ?_
        intro v6 w6p hrow6 hgr6
        rw [← flatS_append] at hrow6
        obtain ⟨p6p, c6p, rfl⟩ := row_slice hrow6
        have hgb6 : Below W3.heap.size W3 w6p := (hgb4.alloc hgb4.size _).grown hgr6 (by have := hgb4.size; simp; omega) (fun y hy => (hrow4.lt y hy).1)
        refine hK _ _ ?_
        have HR6p := Lib.hid hrow6
        have HG6p := Lib.hid hgb6
        clear hK K hb5 hgr6 hrow6 hrow5 hrow4 hgb4 hgb6
        refine wpList_plain rfl (fun K hK => ?_)
        go_step
        refine hK _ _ ?_
        clear hK K
        have HSQ6 := Lib.hid (HSQ.out.on HG6p.out)
        have HNIL2 := Lib.hid (show qp = none → Q.length = 0 from fun h => by rcases HSQ6.out with h1 | ⟨b, o, h2, _⟩; rw [h1]; rfl; rw [h2] at h; cases h)
        have HSRC2 := Lib.hid (show ∀ a, qp = some a → ∀ j u, (flatS Q)[j]? = some u → (w6p.alloc (.cells #[] 34)).cell? (a.add j) = some u from fun a ha j u hu => steps_src (HSQ6.out.on ((Below.refl _ _).alloc (Nat.le_refl _) _)) (by have := (List.getElem?_eq_some_iff.1 hu).1; rw [flatS_len] at this; omega) a ha j u hu)
        go_upto_region 7 with (fail)
        have hsrcq := HSRC2.out
        have hb4 := heap_new w6p (.cells #[] 34)
        go_step
        refine wpList_plain rfl (fun K hK => ?_)
        go_step
        refine hK _ _ ?_
        clear hK K
        refine wpList_plain rfl (fun K hK => ?_)
        go_step
        refine hK _ _ ?_
        clear hK K
        refine wpList_plain rfl (fun K hK => ?_)
        refine wp_append_y (P := Tryd.prog) (.tmp 36) (.tmp 37) 29 rfl w6p.heap.size 34 (.agg #[.string ⟨#[]⟩, .int .i64 0, .bool false]) 3 32 Tryd.underlying29 (by kernel_rfl) rfl (by decide) _ 0 _ rfl (empty_row (Nat.le_refl _) hb4) qp Q.length cq (flatS Q) rfl (by rw [flatS_len]) HNIL2.out hsrcq (flatS_one Q) (by unfold maxLen; omega) (by omega) (by simp) ?_
        intro v4 w4q hrow4 hgr4
        obtain ⟨p4, c4, rfl⟩ := row_slice hrow4
        simp only [Nat.zero_add, List.nil_append] at hrow4
        have hgb4 : Below w6p.heap.size w6p w4q := ((Below.refl _ w6p).alloc (Nat.le_refl _) _).grown hgr4 (by simp) (fun y hy => by cases hy; exact Nat.le_refl _)
        refine hK _ _ ?_
        clear hK K hb4 hgr4 hsrcq
        refine wpList_plain rfl (fun K hK => ?_)
        go_step
        refine hK _ _ ?_
        clear hK K
        refine wpList_plain rfl (fun K hK => ?_)
        go_step
        refine hK _ _ ?_
        clear hK K
        refine wpList_plain rfl (fun K hK => ?_)
        go_step
        refine hK _ _ ?_
        clear hK K
        have hrow5 := hrow4.kept (World.grownBy_alloc w4q (.cells #[.string ⟨#[115, 112, 97, 114, 101]⟩, .int .i64 0, .bool false, .string ⟨#[114, 111, 111, 109]⟩, .int .i64 6, .bool false] 34) none) (by cases (Value.slice p4 Q.length c4).ownBlock <;> simp)
        have hb5 := heap_new w4q (.cells #[.string ⟨#[115, 112, 97, 114, 101]⟩, .int .i64 0, .bool false, .string ⟨#[114, 111, 111, 109]⟩, .int .i64 6, .bool false] 34)
        refine wpList_plain rfl (fun K hK => ?_)
        refine wp_append_y (P := Tryd.prog) (.tmp 38) (.tmp 41) 29 rfl w6p.heap.size 34 (.agg #[.string ⟨#[]⟩, .int .i64 0, .bool false]) 3 32 Tryd.underlying29 (by kernel_rfl) rfl (by decide) _ Q.length _ (by first | rfl | (simp [Act.eval]; done)) hrow5 (some ⟨w4q.heap.size, 0, none⟩) 2 2 (flatS (spareS 6)) rfl rfl (fun e => by cases e) (fun a ha j u hu => by cases ha; rw [addr_add, Nat.zero_add]; simp only [World.cell?, hb5]; simpa [spareS, flatS, St.cells] using hu) (flatS_one _) (by unfold maxLen; omega) (by omega) (by have := hgb4.size; simp; omega) ?_
        intro v6 w6q hrow6 hgr6
        rw [← flatS_append] at hrow6
        obtain ⟨p6q, c6q, rfl⟩ := row_slice hrow6
        have hgb6 : Below w6p.heap.size w6p w6q := (hgb4.alloc hgb4.size _).grown hgr6 (by have := hgb4.size; simp; omega) (fun y hy => (hrow4.lt y hy).1)
        refine hK _ _ ?_
        have HR6q := Lib.hid hrow6
        have HG6q := Lib.hid hgb6
        clear hK K hb5 hgr6 hrow6 hrow5 hrow4 hgb4 hgb6
        refine wpList_plain rfl (fun K hK => ?_)
        go_step
        refine hK _ _ ?_
        clear hK K
        have hb36 : Below W3.heap.size W3 w6q := HG6p.out.trans (HG6q.out.mono HG6p.out.size)
        have hbw6 := HB3'.out.trans (hb36.mono HB3'.out.size)
        have hrp := HR6p.out.kept (grown_of_below HG6q.out none) (by cases (Value.slice p6p (P.length + 2) c6p).ownBlock <;> simp)
        have hrq := HR6q.out
        have el : ∀ (l : List St) (k : Int), l.length + 2 = (l ++ spareS k).length := fun l k => by simp [spareS]
        have hsp6 := row_steps (l := P ++ spareS 5) (by rw [← el]; exact hrp)
        have hsq6 := row_steps (l := Q ++ spareS 6) (by rw [← el]; exact hrq)
        obtain ⟨pA, cA, e1, hcp, hcpm, hstp⟩ := hsp6
        obtain ⟨pB, cB, e2, hcq, hcqm, hstq⟩ := hsq6
        rw [← el] at hcp hcq e1 e2
        obtain ⟨rfl, rfl⟩ : p6p = pA ∧ c6p = cA := by simpa using e1
        obtain ⟨rfl, rfl⟩ : p6q = pB ∧ c6q = cB := by simpa using e2
        clear e1 e2
        have hox6 := HOX3.out.kept (Kept.below hb36 (fun z hz => (HFF.out.rx z hz).2))
        have hoy6 := HOY3.out.kept (Kept.below hb36 (fun z hz => (HFF.out.ry z hz).2))
        have hix6 := hox6.isV (fun z hz => Nat.lt_of_lt_of_le (HFF.out.rx z hz).2 hb36.size)
        have hiy6 := hoy6.isV (fun z hz => Nat.lt_of_lt_of_le (HFF.out.ry z hz).2 hb36.size)
        obtain ⟨xk, xb, xi, xf, xt, xty, its, fs⟩ := x
        obtain ⟨xp, xc, xq, xd, _, _, rfl, _, lits, lfs, _⟩ := id hox6
        obtain ⟨yk, yb, yi, yf, yt, yty, yp, yn, yc, yq, ym, yd, rfl⟩ := rd_shape hiy6
        have hbx6 := (hb36.block _ gl9).trans HBX.out
        have hby6 := (hb36.block _ gl10).trans HBY.out
        have HOX6 := Lib.hid hox6
        have HOY6 := Lib.hid hoy6
        have HIX6 := Lib.hid hix6
        have HIY6 := Lib.hid hiy6
        have HBX6 := Lib.hid hbx6
        have HBY6 := Lib.hid hby6
        have HSTP := Lib.hid hstp
        have HSTQ := Lib.hid hstq
        have HB36 := Lib.hid hb36
        have HBW6 := Lib.hid hbw6
        unfold maxLen at hcpm hcqm
        have l9 : g9 < w6q.heap.size := Nat.lt_of_lt_of_le gl9 hb36.size
        have l10 : g10 < w6q.heap.size := Nat.lt_of_lt_of_le gl10 hb36.size
        obtain ⟨a0, a1, a2, a3, a4, a5, a6, a7⟩ := (block_of_cells hbx6).all0
        obtain ⟨d0, d1, d2, d3, d4, d5, d6, d7⟩ := (block_of_cells hby6).all0
        have hdr := Below.drew (Below.refl w6q.heap.size w6q)
        have HRD := Lib.hid (show Calls Tryd.prog 40 #[.agg (vcells xk xb xi xf xt xty xp its.length xc xq fs.length xd), .agg (vcells yk yb yi yf yt yty yp yn yc yq ym yd), .slice p6p P.length c6p, .slice p6q Q.length c6q] w6q.drew (RetB (.tuple #[]) w6q.drew) from
          reads_any (.mk xk xb xi xf xt xty its fs) y _ _ P Q p6p p6q c6p c6q w6q.drew (HIX6.out.on hdr) (HIY6.out.on hdr) HNX.out HNY.out HSX.out (by omega) (by omega) ((steps_prefix HSTP.out).on hdr) ((steps_prefix HSTQ.out).on hdr) (by omega) (by unfold maxLen; omega) (by unfold maxLen; omega)
            HIP.out (by have := pathT_len HIP.out; omega) (rd_nm_le wp) (HTAB.out _ (HBW6.out.trans (hdr.mono HBW6.out.size))) (HT.out.on (HBW6.out.trans (hdr.mono HBW6.out.size))))
        clear hb36 hbw6 hrp hrq hstp hstq hox6 hoy6 hix6 hiy6 hbx6 hby6 hdr el
        have l0 : w.heap.size < w6q.heap.size := by have := HB36.out.size; have := HB03.out.size; omega
        have l1 : w.heap.size + 1 < w6q.heap.size := by have := HB36.out.size; have := HB03.out.size; omega
        have hbA : Below wa.heap.size wa w6q := HB3.out.trans ((HB03.out.mono HB3.out.size).trans (HB36.out.mono (Nat.le_trans HB3.out.size HB03.out.size)))
        obtain ⟨gp, op, rfl, lgp, hcp3⟩ : ∃ gp op, p6p = some ⟨gp, op, none⟩ ∧ gp < w6q.heap.size ∧ ∀ i s, (P ++ spareS 5)[i]? = some s → w6q.cell? ⟨gp, op + i * 3, none⟩ = some (.string s.nm) ∧ w6q.cell? ⟨gp, op + i * 3 + 1, none⟩ = some (.int .i64 s.ix) ∧ w6q.cell? ⟨gp, op + i * 3 + 2, none⟩ = some (.bool s.it) := by
          rcases HSTP.out with h | h
          · simp [spareS] at h
          · exact h
        obtain ⟨gq, oq, rfl, lgq, hcq3⟩ : ∃ gq oq, p6q = some ⟨gq, oq, none⟩ ∧ gq < w6q.heap.size ∧ ∀ i s, (Q ++ spareS 6)[i]? = some s → w6q.cell? ⟨gq, oq + i * 3, none⟩ = some (.string s.nm) ∧ w6q.cell? ⟨gq, oq + i * 3 + 1, none⟩ = some (.int .i64 s.ix) ∧ w6q.cell? ⟨gq, oq + i * 3 + 2, none⟩ = some (.bool s.it) := by
          rcases HSTQ.out with h | h
          · simp [spareS] at h
          · exact h
        have HALL : Hid (∀ w', Below w6q.heap.size w6q w' → w'.cell? ⟨g9, 0, none⟩ = some (.int .i64 xk) ∧ w'.cell? ⟨g9, 1, none⟩ = some (.bool xb) ∧ w'.cell? ⟨g9, 2, none⟩ = some (.int .i64 xi) ∧ w'.cell? ⟨g9, 3, none⟩ = some (.float .f64 xf) ∧ w'.cell? ⟨g9, 4, none⟩ = some (.string xt) ∧ w'.cell? ⟨g9, 5, none⟩ = some (.string xty) ∧ w'.cell? ⟨g9, 6, none⟩ = some (.slice xp its.length xc) ∧ w'.cell? ⟨g9, 7, none⟩ = some (.slice xq fs.length xd) ∧ w'.cell? ⟨g10, 0, none⟩ = some (.int .i64 yk) ∧ w'.cell? ⟨g10, 1, none⟩ = some (.bool yb) ∧ w'.cell? ⟨g10, 2, none⟩ = some (.int .i64 yi) ∧ w'.cell? ⟨g10, 3, none⟩ = some (.float .f64 yf) ∧ w'.cell? ⟨g10, 4, none⟩ = some (.string yt) ∧ w'.cell? ⟨g10, 5, none⟩ = some (.string yty) ∧ w'.cell? ⟨g10, 6, none⟩ = some (.slice yp yn yc) ∧ w'.cell? ⟨g10, 7, none⟩ = some (.slice yq ym yd) ∧ w'.cell? ⟨w.heap.size, 0, none⟩ = some (.int .i64 k) ∧ w'.cell? ⟨w.heap.size, 1, none⟩ = some (.bool b) ∧ w'.cell? ⟨w.heap.size, 2, none⟩ = some (.int .i64 i) ∧ w'.cell? ⟨w.heap.size, 3, none⟩ = some (.float .f64 f) ∧ w'.cell? ⟨w.heap.size, 4, none⟩ = some (.string t) ∧ w'.cell? ⟨w.heap.size, 5, none⟩ = some (.string ty) ∧ w'.cell? ⟨w.heap.size, 6, none⟩ = some (.slice p n c) ∧ w'.cell? ⟨w.heap.size, 7, none⟩ = some (.slice q m d) ∧ w'.cell? ⟨w.heap.size + 1, 0, none⟩ = some (.int .i64 k') ∧ w'.cell? ⟨w.heap.size + 1, 1, none⟩ = some (.bool b') ∧ w'.cell? ⟨w.heap.size + 1, 2, none⟩ = some (.int .i64 i') ∧ w'.cell? ⟨w.heap.size + 1, 3, none⟩ = some (.float .f64 f') ∧ w'.cell? ⟨w.heap.size + 1, 4, none⟩ = some (.string t') ∧ w'.cell? ⟨w.heap.size + 1, 5, none⟩ = some (.string ty') ∧ w'.cell? ⟨w.heap.size + 1, 6, none⟩ = some (.slice p' n' c') ∧ w'.cell? ⟨w.heap.size + 1, 7, none⟩ = some (.slice q' m' d') ∧ w'.cell? ⟨gp, op + P.length * 3, none⟩ = some (.string ⟨#[115, 112, 97, 114, 101]⟩) ∧ w'.cell? ⟨gp, op + (P.length + 1) * 3 + 1, none⟩ = some (.int .i64 5) ∧ w'.cell? ⟨gq, oq + Q.length * 3, none⟩ = some (.string ⟨#[115, 112, 97, 114, 101]⟩) ∧ w'.cell? ⟨gq, oq + (Q.length + 1) * 3 + 1, none⟩ = some (.int .i64 6)) := Lib.hid (fun w' h => by
          obtain ⟨a0, a1, a2, a3, a4, a5, a6, a7⟩ := ((block_of_cells HBX6.out).below h l9).all0
          obtain ⟨d0, d1, d2, d3, d4, d5, d6, d7⟩ := ((block_of_cells HBY6.out).below h l10).all0
          obtain ⟨b0, b1, b2, b3, b4, b5, b6, b7⟩ := ((HAL.out.below hbA hs0).below h l0).all0
          obtain ⟨e0, e1, e2, e3, e4, e5, e6, e7⟩ := ((HAL'.out.below hbA hs1).below h l1).all0
          exact ⟨a0, a1, a2, a3, a4, a5, a6, a7, d0, d1, d2, d3, d4, d5, d6, d7, b0, b1, b2, b3, b4, b5, b6, b7, e0, e1, e2, e3, e4, e5, e6, e7,
            (h.cell (p := ⟨gp, _, none⟩) lgp).trans (hcp3 P.length _ (by simp [spareS]; rfl)).1, (h.cell (p := ⟨gp, _, none⟩) lgp).trans (hcp3 (P.length + 1) _ (by simp [spareS]; rfl)).2.1,
            (h.cell (p := ⟨gq, _, none⟩) lgq).trans (hcq3 Q.length _ (by simp [spareS]; rfl)).1, (h.cell (p := ⟨gq, _, none⟩) lgq).trans (hcq3 (Q.length + 1) _ (by simp [spareS]; rfl)).2.1⟩)
        have WH1 := Lib.hid (show ∀ w', Below w6q.heap.size w6q w' → Calls Tryd.prog 22 #[.agg (vcells xk xb xi xf xt xty xp its.length xc xq fs.length xd), .agg (vcells k b i f t ty p n c q m d)] w' (RetB (.bool true) w') from fun w' h => Whole_same _ (.mk xk xb xi xf xt xty its fs) (Nat.le_refl _) HOX.out _ _ w' (HIX6.out.on h) (HV.out.on (HBW6.out.trans (h.mono HBW6.out.size))))
        have WH2 := Lib.hid (show ∀ w', Below w6q.heap.size w6q w' → Calls Tryd.prog 22 #[.agg (vcells yk yb yi yf yt yty yp yn yc yq ym yd), .agg (vcells k' b' i' f' t' ty' p' n' c' q' m' d')] w' (RetB (.bool true) w') from fun w' h => Whole_same _ y (Nat.le_refl _) HOY.out _ _ w' (HIY6.out.on h) (HV'.out.on (HBW6.out.trans (h.mono HBW6.out.size))))
        have SS1 := Lib.hid (show ∀ w', Below w6q.heap.size w6q w' → Calls Tryd.prog 15 #[.slice (some ⟨gp, op, none⟩) P.length c6p, .slice pp P.length cp] w' (fun e w'' => ∃ r : Bool, e = .returned (.bool r) ∧ (r = true ↔ P = P) ∧ Below w'.heap.size w' w'') from fun w' h => SameSteps_d P P _ pp c6p cp w' ((steps_prefix HSTP.out).on h) (HP.out.on (HBW6.out.trans (h.mono HBW6.out.size))) (by omega) (by omega))
        have SS2 := Lib.hid (show ∀ w', Below w6q.heap.size w6q w' → Calls Tryd.prog 15 #[.slice (some ⟨gq, oq, none⟩) Q.length c6q, .slice qp Q.length cq] w' (fun e w'' => ∃ r : Bool, e = .returned (.bool r) ∧ (r = true ↔ Q = Q) ∧ Below w'.heap.size w' w'') from fun w' h => SameSteps_d Q Q _ qp c6q cq w' ((steps_prefix HSTQ.out).on h) (HQ.out.on (HBW6.out.trans (h.mono HBW6.out.size))) (by omega) (by omega))
        have HDR := Lib.hid (Below.drew (Below.refl w6q.heap.size w6q))
        clear hbA hcp3 hcq3 a0 a1 a2 a3 a4 a5 a6 a7 d0 d1 d2 d3 d4 d5 d6 d7
        obtain ⟨a0, a1, a2, a3, a4, a5, a6, a7, d0, d1, d2, d3, d4, d5, d6, d7, b0, b1, b2, b3, b4, b5, b6, b7, e0, e1, e2, e3, e4, e5, e6, e7, s0, s1, r0, r1⟩ := HALL.out _ (Below.refl _ _)
        go_upto_region 8 with (fail)
        refine wp_region_plan_below 10 [(0, [0, 1, 2, 3, 4, 5, 6, 7, 8, 9]), (2, [10])] (by kernel_rfl) (by kernel_rfl) (fun _ _ _ _ h => h) ?_
        simp only [wpSegs, pickOps, List.getElem?_toArray, List.getElem?_cons_zero, List.getElem?_cons_succ]
        have kc := cell_cls w6q
        iterate 10 (go_big_quiet_step (fail))
        refine wpQuiet_nil ?_
        clear kc
        have tr := trivial
        have tw1 := trivial
        have tw2 := trivial
        have ts1 := trivial
        have ts2 := trivial
        go_upto_region 13 with (first
          | (go_at_call 40; clear tr; refine (HRD.out).mono ?_; rintro e v1 ⟨rfl, hb⟩; have HDv1 := Lib.hid (HDR.out.trans (hb.mono HDR.out.size)); clear hb; clear a0 a1 a2 a3 a4 a5 a6 a7 b0 b1 b2 b3 b4 b5 b6 b7 d0 d1 d2 d3 d4 d5 d6 d7 e0 e1 e2 e3 e4 e5 e6 e7 s0 s1 r0 r1; obtain ⟨a0, a1, a2, a3, a4, a5, a6, a7, d0, d1, d2, d3, d4, d5, d6, d7, b0, b1, b2, b3, b4, b5, b6, b7, e0, e1, e2, e3, e4, e5, e6, e7, s0, s1, r0, r1⟩ := HALL.out _ HDv1.out)
          | (go_at_call 22; clear tw1; refine (WH1.out _ HDv1.out).mono ?_; rintro e v2 ⟨rfl, hb⟩; have HDv2 := Lib.hid (HDv1.out.trans (hb.mono HDv1.out.size)); clear hb; clear a0 a1 a2 a3 a4 a5 a6 a7 b0 b1 b2 b3 b4 b5 b6 b7 d0 d1 d2 d3 d4 d5 d6 d7 e0 e1 e2 e3 e4 e5 e6 e7 s0 s1 r0 r1; obtain ⟨a0, a1, a2, a3, a4, a5, a6, a7, d0, d1, d2, d3, d4, d5, d6, d7, b0, b1, b2, b3, b4, b5, b6, b7, e0, e1, e2, e3, e4, e5, e6, e7, s0, s1, r0, r1⟩ := HALL.out _ HDv2.out)
          | (go_at_call 22; clear tw2; refine (WH2.out _ HDv2.out).mono ?_; rintro e v3 ⟨rfl, hb⟩; have HDv3 := Lib.hid (HDv2.out.trans (hb.mono HDv2.out.size)); clear hb; clear a0 a1 a2 a3 a4 a5 a6 a7 b0 b1 b2 b3 b4 b5 b6 b7 d0 d1 d2 d3 d4 d5 d6 d7 e0 e1 e2 e3 e4 e5 e6 e7 s0 s1 r0 r1; obtain ⟨a0, a1, a2, a3, a4, a5, a6, a7, d0, d1, d2, d3, d4, d5, d6, d7, b0, b1, b2, b3, b4, b5, b6, b7, e0, e1, e2, e3, e4, e5, e6, e7, s0, s1, r0, r1⟩ := HALL.out _ HDv3.out)
          | (go_at_call 15; clear ts1; refine (SS1.out _ HDv3.out).mono ?_; rintro e v4 ⟨rs, rfl, hrs, hb⟩; obtain rfl : rs = true := hrs.2 (by trivial); have HDv4 := Lib.hid (HDv3.out.trans (hb.mono HDv3.out.size)); clear hb; clear a0 a1 a2 a3 a4 a5 a6 a7 b0 b1 b2 b3 b4 b5 b6 b7 d0 d1 d2 d3 d4 d5 d6 d7 e0 e1 e2 e3 e4 e5 e6 e7 s0 s1 r0 r1; obtain ⟨a0, a1, a2, a3, a4, a5, a6, a7, d0, d1, d2, d3, d4, d5, d6, d7, b0, b1, b2, b3, b4, b5, b6, b7, e0, e1, e2, e3, e4, e5, e6, e7, s0, s1, r0, r1⟩ := HALL.out _ HDv4.out)
          | (go_at_call 15; clear ts2; refine (SS2.out _ HDv4.out).mono ?_; rintro e v5 ⟨rs, rfl, hrs, hb⟩; obtain rfl : rs = true := hrs.2 (by trivial); have HDv5 := Lib.hid (HDv4.out.trans (hb.mono HDv4.out.size)); clear hb; clear a0 a1 a2 a3 a4 a5 a6 a7 b0 b1 b2 b3 b4 b5 b6 b7 d0 d1 d2 d3 d4 d5 d6 d7 e0 e1 e2 e3 e4 e5 e6 e7 s0 s1 r0 r1; obtain ⟨a0, a1, a2, a3, a4, a5, a6, a7, d0, d1, d2, d3, d4, d5, d6, d7, b0, b1, b2, b3, b4, b5, b6, b7, e0, e1, e2, e3, e4, e5, e6, e7, s0, s1, r0, r1⟩ := HALL.out _ HDv5.out))
        have hox5 := HOX6.out.kept (Kept.below HDv5.out (fun z hz => Nat.lt_of_lt_of_le (HFF.out.rx z hz).2 HB36.out.size))
        have hoy5 := HOY6.out.kept (Kept.below HDv5.out (fun z hz => Nat.lt_of_lt_of_le (HFF.out.ry z hz).2 HB36.out.size))
        have hl5 : W3.heap.size ≤ v5.heap.size := Nat.le_trans HB36.out.size HDv5.out.size
        have hlx5 : ∀ z ∈ bx, z < v5.heap.size := fun z hz => Nat.lt_of_lt_of_le (HFF.out.rx z hz).2 hl5
        have hly5 : ∀ z ∈ bz, z < v5.heap.size := fun z hz => Nat.lt_of_lt_of_le (HFF.out.ry z hz).2 hl5
        obtain ⟨_, _, gI, gF, br, hH⟩ := heads_of hox5 HFF.out.nx hlx5
        have hI9 : gI ≠ g9 ∧ gI ≠ g10 ∧ w3.heap.size ≤ gI := by
          rcases hH.inI with e | e
          · exact ⟨fun e' => hn9x (e' ▸ e), fun e' => hn10x (e' ▸ e), (HFF.out.rx _ e).1⟩
          · omega
        have hF9 : gF ≠ g9 ∧ gF ≠ g10 ∧ w3.heap.size ≤ gF := by
          rcases hH.inF with e | e
          · exact ⟨fun e' => hn9x (e' ▸ e), fun e' => hn10x (e' ▸ e), (HFF.out.rx _ e).1⟩
          · omega
        have hst := FillI.start (ycs := vcells yk yb yi yf yt yty yp yn yc yq ym yd) (fun h => by obtain ⟨_, _, _, cur, q1, q2⟩ := hH.items h; exact ⟨cur, q1, q2⟩ : 0 < its.length → ∃ cur, v5.heap[gI]? = some (.cells cur 27 (0, 0)) ∧ cur.size = xc * 8)
        have HST := Lib.hid hst
        have HH := Lib.hid hH
        have HOX5 := Lib.hid hox5
        have HOY5 := Lib.hid hoy5
        have HLX5 := Lib.hid hlx5
        have HLY5 := Lib.hid hly5
        have hI1 : Hid (0 < its.length → xp = some ⟨gI, 0, none⟩ ∧ its.length ≤ xc ∧ xc ≤ maxLen) := Lib.hid (fun h => by obtain ⟨q1, q2, q3, _⟩ := hH.items h; exact ⟨q1, q2, q3⟩)
        have li := lits
        have lf := lfs
        unfold lenMax at li lf
        have v9 : g9 < v5.heap.size := Nat.lt_of_lt_of_le l9 HDv5.out.size
        have v10 : g10 < v5.heap.size := Nat.lt_of_lt_of_le l10 HDv5.out.size
        clear hst hH hox5 hoy5 hlx5 hly5 s0 s1 r0 r1
        go_wp2_with fail
        clear a0 a1 a2 a3 a4 a5 a6 a7 d0 d1 d2 d3 d4 d5 d6 d7 b0 b1 b2 b3 b4 b5 b6 b7 e0 e1 e2 e3 e4 e5 e6 e7
        go_loopw [121] (fun ii wr => ∃ j : Nat, j ≤ its.length ∧ ii = .int .i64 j ∧ FillI v5 gI xc its.length (vcells yk yb yi yf yt yty yp yn yc yq ym yd) j wr) (fun ii _ => its.length - (intOf ii).toNat)
        case atStart => exact ⟨0, by omega, rfl, HST.out⟩
        case round =>
          obtain ⟨j, hj, rfl, hfill⟩ := hrel
          have hm := hfill.moved
          have HFILL := Lib.hid hfill
          have hb9r := (hm.block g9 v9 (fun e => hI9.1 e.symm)).trans ((HDv5.out.block _ l9).trans HBX6.out)
          have hb10r := (hm.block g10 v10 (fun e => hI9.2.1 e.symm)).trans ((HDv5.out.block _ l10).trans HBY6.out)
          by_cases hlt : j < its.length
          · obtain ⟨rfl, hcI, hcm⟩ := hI1.out (by omega)
            obtain ⟨a0, a1, a2, a3, a4, a5, a6, a7⟩ := (block_of_cells hb9r).all0
            obtain ⟨d0, d1, d2, d3, d4, d5, d6, d7⟩ := (block_of_cells hb10r).all0
            have HTH := Lib.hid (hfill.there hlt hcI)
            clear hm hfill hb9r hb10r
            go_upto_region 16 with (fail)
            go_step
            iterate 5
              refine wpList_plain rfl (fun K hK => ?_)
              go_step
              refine hK _ _ ?_
              clear hK K
            refine wpList_store_mid rfl 27 (.tmp 128) (.tmp 127) rfl gI (j * 8) (vcells yk yb yi yf yt yty yp yn yc yq ym yd) rfl rfl HTH.out (by kernel_rfl) (vcells_one ..) ?_
            clear a0 a1 a2 a3 a4 a5 a6 a7 d0 d1 d2 d3 d4 d5 d6 d7
            go_wp2_with fail
            go_roundw
            case rel => exact ⟨j + 1, by omega, by go_num, HFILL.out.step hlt hcI rfl⟩
            case measure => simp [intOf]; omega
          · obtain rfl : j = its.length := by omega
            clear hlt hj
            obtain ⟨wI, rfl⟩ : ∃ wI : World, wI = wr := ⟨_, rfl⟩
            have hst2 := fillN_of HH.out HFILL.out
            have HST2 := Lib.hid hst2
            obtain ⟨a0, a1, a2, a3, a4, a5, a6, a7⟩ := (block_of_cells hb9r).all0
            have HB9 := Lib.hid hb9r
            have HB10 := Lib.hid hb10r
            have i9 : g9 < wI.heap.size := Nat.lt_of_lt_of_le v9 hm.size
            have i10 : g10 < wI.heap.size := Nat.lt_of_lt_of_le v10 hm.size
            have hF1 : Hid (0 < fs.length → xq = some ⟨gF, 0, none⟩ ∧ fs.length ≤ xd ∧ xd ≤ maxLen) := Lib.hid (fun h => by obtain ⟨q1, q2, q3, _⟩ := HH.out.fields h; exact ⟨q1, q2, q3⟩)
            clear hst2 hm hfill hb9r hb10r
            go_wp2_with fail
            clear a0 a1 a2 a3 a4 a5 a6 a7
            go_loopw [133] (fun ii wr => ∃ j : Nat, j ≤ fs.length ∧ ii = .int .i64 j ∧ FillN wI gF fs.length fs j wr) (fun ii _ => fs.length - (intOf ii).toNat)
            case atStart => exact ⟨0, by omega, rfl, HST2.out⟩
            case round =>
              obtain ⟨j, hj, rfl, hfill⟩ := hrel
              have hm := hfill.moved
              have HFILN := Lib.hid hfill
              have hb9r := (hm.block g9 i9 (fun e => hF9.1 e.symm)).trans HB9.out
              by_cases hlt : j < fs.length
              · obtain ⟨rfl, hcF, hcm⟩ := hF1.out (by omega)
                unfold maxLen at hcm
                obtain ⟨z, hz⟩ : ∃ z, fs[j]? = some z := ⟨_, List.getElem?_eq_getElem hlt⟩
                have n0 := hfill.old j z (Nat.le_refl _) hz
                obtain ⟨cur, hrow⟩ := hfill.row (by omega)
                have hfz : wr.frozen? ⟨gF, j * 9, none⟩ = false := by simp [World.frozen?, hrow]
                have HZ := Lib.hid hz
                have hzs : z.1.size ≤ 1048576 := short_of_sh (show shFs fs from HSX.out.2.2.2) z (List.mem_of_getElem? hz)
                obtain ⟨a0, a1, a2, a3, a4, a5, a6, a7⟩ := (block_of_cells hb9r).all0
                have kc := cell_cls wr
                have r9 : g9 < wr.heap.size := Nat.lt_of_lt_of_le i9 hm.size
                have rF : gF < wr.heap.size := (Array.getElem?_eq_some_iff.1 hrow).1
                clear hm hfill hb9r hz hrow
                go_upto_region 21 with (fail)
                refine wp_region_plan_below 12 [(0, [0, 1, 2, 3, 4, 5, 6, 7, 8, 9, 10, 11]), (2, [12])] (by kernel_rfl) (by kernel_rfl) (fun _ _ _ _ h => h) ?_
                simp only [wpSegs, pickOps, List.getElem?_toArray, List.getElem?_cons_zero, List.getElem?_cons_succ]
                iterate 12 (go_big_quiet_step (fail))
                refine wpQuiet_nil ?_
                clear kc
                go_wp2_with fail
                exact ⟨⟨j + 1, by omega, by go_num, (HFILN.out.step HZ.out (by omega)).drew⟩, by simp [intOf]; omega⟩
              · obtain rfl : j = fs.length := by omega
                clear hlt hj
                obtain ⟨wF, rfl⟩ : ∃ wF : World, wF = wr := ⟨_, rfl⟩
                have hw3I : w3.heap.size ≤ v5.heap.size := Nat.le_trans HB03.out.size hl5
                have hv5F : Below w3.heap.size v5 wF := ((HFILL.out.moved.below hw3I (fun k e => by rw [e]; exact hI9.2.2)) : Below w3.heap.size v5 wI).trans (HFILN.out.moved.below (Nat.le_trans hw3I HFILL.out.moved.size) (fun k e => by rw [e]; exact hF9.2.2))
                have hb3F : Below w3.heap.size w3 wF := (HB03.out.trans ((HB36.out.trans (HDv5.out.mono HB36.out.size)).mono HB03.out.size)).trans hv5F
                have hbwF : Below w.heap.size w wF := (HWA.out.trans (HB3.out.mono HWA.out.size)).trans (hb3F.mono (Nat.le_trans HWA.out.size HB3.out.size))
                have hxF := is_refill (k := xk) (b := xb) (i := xi) (f := xf) (t := xt) (ty := xty) HH.out HOY5.out HLY5.out HLX5.out HFF.out.dxy lits lfs HOY.out HOX.out.2.2 HFILL.out HFILN.out
                have hsF := sz_refill _ _ hsx hsy
                have hoF := ok_refill _ _ HOX.out HOY.out
                have hnF : nmV (refill (.mk xk xb xi xf xt xty its fs) y) := ⟨nmVs_replicate _ HNY.out _, nmFs_names _ HNX.out.2 (short_of_sh HSX.out.2.2.2)⟩
                have hvF := HV.out.on hbwF
                have hal0 := (HAL.out.below HB3.out hs0).below hb3F h30
                have hb10r := (hm.block g10 i10 (fun e => hF9.2.1 e.symm)).trans HB10.out
                obtain ⟨a0, a1, a2, a3, a4, a5, a6, a7⟩ := (block_of_cells hb9r).all0
                obtain ⟨b0, b1, b2, b3, b4, b5, b6, b7⟩ := hal0.all0
                have f9 : g9 < wF.heap.size := Nat.lt_of_lt_of_le i9 hm.size
                have f0 : w.heap.size < wF.heap.size := Nat.lt_of_lt_of_le h30 hb3F.size
                have D1 := Lib.hid (show ∀ w', Below wF.heap.size wF w' → Calls Tryd.prog 34 #[.agg (vcells xk xb xi xf xt xty xp its.length xc xq fs.length xd), .agg (vcells k b i f t ty p n c q m d)] w' (RetB (.bool (eqV (refill (.mk xk xb xi xf xt xty its fs) y) (.mk xk xb xi xf xt xty its fs))) w') from fun w' h => Equal_any _ _ (Nat.le_refl _) _ _ _ w' (hxF.on h) (hvF.on h))
                have D2 := Lib.hid (show ∀ w', Below wF.heap.size wF w' → Calls Tryd.prog 41 #[.agg (vcells xk xb xi xf xt xty xp its.length xc xq fs.length xd), .agg (vcells k b i f t ty p n c q m d)] w' (RetB (.bool (eqV (refill (.mk xk xb xi xf xt xty its fs) y) (.mk xk xb xi xf xt xty its fs))) w') from fun w' h => refEqual_any _ _ (Nat.le_refl _) hoF _ HOX.out _ _ w' (hxF.on h) (hvF.on h))
                have D3 := Lib.hid (show ∀ w', Below wF.heap.size wF w' → Calls Tryd.prog 42 #[.agg (vcells xk xb xi xf xt xty xp its.length xc xq fs.length xd), .agg (vcells k b i f t ty p n c q m d)] w' (RetB (.bool (sameV (refill (.mk xk xb xi xf xt xty its fs) y) (.mk xk xb xi xf xt xty its fs))) w') from fun w' h => Same_any _ _ (Nat.le_refl _) hnF _ HNX.out _ _ w' (hxF.on h) (hvF.on h))
                have D4 := Lib.hid (show ∀ w', Below wF.heap.size wF w' → Calls Tryd.prog 43 #[.agg (vcells xk xb xi xf xt xty xp its.length xc xq fs.length xd), .agg (vcells k b i f t ty p n c q m d)] w' (RetB (.bool (sameV (refill (.mk xk xb xi xf xt xty its fs) y) (.mk xk xb xi xf xt xty its fs))) w') from fun w' h => refSame_any _ _ (Nat.le_refl _) hoF _ HOX.out _ _ w' (hxF.on h) (hvF.on h))
                have D5 := Lib.hid (show ∀ w', Below wF.heap.size wF w' → Calls Tryd.prog 35 #[.agg (vcells xk xb xi xf xt xty xp its.length xc xq fs.length xd)] w' (RetB (.int .i64 (cntV (refill (.mk xk xb xi xf xt xty its fs) y))) w') from fun w' h => Count_any _ _ (Nat.le_refl _) _ w' (hxF.on h) (by omega))
                have D6 := Lib.hid (show ∀ w', Below wF.heap.size wF w' → Calls Tryd.prog 44 #[.agg (vcells xk xb xi xf xt xty xp its.length xc xq fs.length xd)] w' (RetB (.int .i64 (cntV (refill (.mk xk xb xi xf xt xty its fs) y))) w') from fun w' h => refCount_any _ _ (Nat.le_refl _) _ w' (hxF.on h) (by omega))
                have D7 := Lib.hid (show ∀ w', Below wF.heap.size wF w' → Calls Tryd.prog 45 #[.agg (vcells xk xb xi xf xt xty xp its.length xc xq fs.length xd)] w' (RetB (.int .i64 (depV (refill (.mk xk xb xi xf xt xty its fs) y))) w') from fun w' h => Depth_any _ _ (Nat.le_refl _) _ w' (hxF.on h) (by omega))
                have D8 := Lib.hid (show ∀ w', Below wF.heap.size wF w' → Calls Tryd.prog 46 #[.agg (vcells xk xb xi xf xt xty xp its.length xc xq fs.length xd)] w' (RetB (.int .i64 (depV (refill (.mk xk xb xi xf xt xty its fs) y))) w') from fun w' h => refDepth_any _ _ (Nat.le_refl _) _ w' (hxF.on h) (by omega))
                clear hxF hsF hoF hnF hvF hal0 hb10r hb9r hm hfill hv5F hb3F
                generalize eqV (refill (.mk xk xb xi xf xt xty its fs) y) (.mk xk xb xi xf xt xty its fs) = E1 at *
                generalize sameV (refill (.mk xk xb xi xf xt xty its fs) y) (.mk xk xb xi xf xt xty its fs) = E2 at *
                generalize cntV (refill (.mk xk xb xi xf xt xty its fs) y) = cn at *
                generalize depV (refill (.mk xk xb xi xf xt xty its fs) y) = dn at *
                have kc := cell_cls wF
                go_upto_region 23 with (fail)
                refine wp_region_plan_below 30 [(0, [0, 1, 3, 4]), (1, [2, 5]), (0, [6, 7, 8, 9, 11, 12]), (1, [10, 13]), (0, [14, 15, 16, 17, 19]), (1, [18, 20]), (0, [21, 22, 23, 24, 26]), (1, [25, 27]), (0, [28, 29]), (2, [30])] (by kernel_rfl) (by kernel_rfl) (fun _ _ _ _ h => h) ?_
                simp only [wpSegs, pickOps, List.getElem?_toArray, List.getElem?_cons_zero, List.getElem?_cons_succ]
                have hk0 := (Below.drew (Below.refl wF.heap.size wF))
                iterate 4 (go_big_quiet_step (fail))
                refine wpQuiet_nil ?_
                refine wpListC_plain rfl (fun K hK => ?_)
                go_step
                refine (D1.out _ hk0).mono ?_
                rintro e u1 ⟨rfl, hbc⟩
                have hk1 := hk0.trans (hbc.mono hk0.size)
                refine hK _ _ (cls_of_below hk1) ?_
                clear hK K hbc
                refine wpListC_plain rfl (fun K hK => ?_)
                go_step
                refine (D2.out _ hk1).mono ?_
                rintro e u2 ⟨rfl, hbc⟩
                have hk2 := hk1.trans (hbc.mono hk1.size)
                refine hK _ _ (cls_of_below hk2) ?_
                clear hK K hbc
                refine wpListC_nil ?_
                iterate 6 (go_big_quiet_step (fail))
                refine wpQuiet_nil ?_
                refine wpListC_want (by rfl) (fun K hK => ?_)
                go_step
                refine (D3.out _ hk2).mono ?_
                rintro e u3 ⟨rfl, hbc⟩
                have hk3 := hk2.trans (hbc.mono hk2.size)
                refine hK _ _ (cls_of_below hk3) ?_
                clear hK K hbc
                refine wpListC_want (by rfl) (fun K hK => ?_)
                go_step
                refine (D4.out _ hk3).mono ?_
                rintro e u4 ⟨rfl, hbc⟩
                have hk4 := hk3.trans (hbc.mono hk3.size)
                refine hK _ _ (cls_of_below hk4) ?_
                clear hK K hbc
                refine wpListC_nil ?_
                iterate 5 (go_big_quiet_step (fail))
                refine wpQuiet_nil ?_
                refine wpListC_want (by rfl) (fun K hK => ?_)
                go_step
                refine (D5.out _ hk4).mono ?_
                rintro e u5 ⟨rfl, hbc⟩
                have hk5 := hk4.trans (hbc.mono hk4.size)
                refine hK _ _ (cls_of_below hk5) ?_
                clear hK K hbc
                refine wpListC_want (by rfl) (fun K hK => ?_)
                go_step
                refine (D6.out _ hk5).mono ?_
                rintro e u6 ⟨rfl, hbc⟩
                have hk6 := hk5.trans (hbc.mono hk5.size)
                refine hK _ _ (cls_of_below hk6) ?_
                clear hK K hbc
                refine wpListC_nil ?_
                iterate 5 (go_big_quiet_step (fail))
                refine wpQuiet_nil ?_
                refine wpListC_want (by rfl) (fun K hK => ?_)
                go_step
                refine (D7.out _ hk6).mono ?_
                rintro e u7 ⟨rfl, hbc⟩
                have hk7 := hk6.trans (hbc.mono hk6.size)
                refine hK _ _ (cls_of_below hk7) ?_
                clear hK K hbc
                refine wpListC_want (by rfl) (fun K hK => ?_)
                go_step
                refine (D8.out _ hk7).mono ?_
                rintro e u8 ⟨rfl, hbc⟩
                have hk8 := hk7.trans (hbc.mono hk7.size)
                refine hK _ _ (cls_of_below hk8) ?_
                clear hK K hbc
                refine wpListC_nil ?_
                iterate 2 (go_big_quiet_step (fail))
                refine wpQuiet_nil ?_
                clear kc
                go_wp2_with fail
                go_ret
                exact ⟨rfl, hbwF.trans (hk8.mono hbwF.size)⟩
end Go.Proofs.YtnmnmkdmnohbmaaDoor
