/- Several texts in one: A part's own fault, as the program finds it. The first fault of a value and its path: the walk over tree.Sound. Conditions: none. -/
import Derived.Test.YtldjbgklmeigmaaGreatDoorPackM
import Derived.Test.YtldjbgklmeigmaaGreatDoorPackN
import Derived.Test.YtldjbgklmeigmaaGreatDoorPackG
import Derived.Maps.OwnOps
import Derived.Test.YtldjbgklmeigmaaGreatDoorPackI
import Derived.Test.YtldjbgklmeigmaaGreatDoorPackL
namespace Go.Proofs.YtldjbgklmeigmaaGreatDoor
open Go.RowKit Go.Maps Go.WideMaps
attribute [local go_sem] run_store_float

/-- The map counts the names. -/
def CntIs (D : DataW Unit) (l : List ByteArray) : Prop := IsMap D ∧ ∀ s, D.atKey (nkey s) (.lit (.int .i64 0)) = .lit (.int .i64 (if (l.any (fun n => n.toList == s.toList)) = true then 1 else 0))
theorem CntIs.start : CntIs (.map []) [] := ⟨isMap_empty, fun _ => rfl⟩
theorem CntIs.put {D : DataW Unit} {l : List ByteArray} (h : CntIs D l) (s : ByteArray) (_ : (l.any (fun n => n.toList == s.toList)) = false) : CntIs (D.put (nkey s) (.lit (.int .i64 1))) (l ++ [s]) := by
  refine ⟨h.1.put _ _, fun t => ?_⟩
  rw [List.any_append]
  by_cases e : s.toList = t.toList
  · rw [← nkey_eq.2 e, atKey_put_same h.1 (show WideAt.IsKeyLit (nkey s) from (trivial : WideAt.IsKeyLit (.string s.data.toList)))]
    simp [e]
  · rw [atKey_put_other (fun hc => e (nkey_eq.1 hc).symm), h.2 t]
    simp [e]
theorem CntIs.at {D : DataW Unit} {l : List ByteArray} (h : CntIs D l) {s : ByteArray} {c : Int} (hc : D.atKey (nkey s) (.lit (.int .i64 0)) = .lit (.int .i64 c)) : c = if (l.any (fun n => n.toList == s.toList)) = true then 1 else 0 := by
  rw [h.2 s] at hc
  injection hc with hc
  injection hc with _ hc
  exact hc.symm
theorem CntIs.two {D : DataW Unit} {l : List ByteArray} (h : CntIs D l) (s : ByteArray) {v c : Int} (hc : (D.put (nkey s) (.lit (.int .i64 v))).atKey (nkey s) (.lit (.int .i64 0)) = .lit (.int .i64 c)) : c = v := by
  rw [atKey_put_same h.1 (show WideAt.IsKeyLit (nkey s) from (trivial : WideAt.IsKeyLit (.string s.data.toList)))] at hc
  injection hc with hc
  injection hc with _ hc
  exact hc.symm
theorem below_of_grown {w w' : World} {b B : Nat} (h : w.grownBy w' (some b)) (hB : B ≤ b) (hs : B ≤ w.heap.size) : Below B w w' :=
  ⟨h.os, h.tape, h.output, h.size, fun k hk => h.block k (by omega) (fun e => by cases e; omega)⟩

set_option maxRecDepth 100000 in
set_option maxHeartbeats 4000000 in
theorem own_any (k : Int) (b : Bool) (i : Int) (f : Nat) (t ty : ByteArray) (its : List V) (fs : List (ByteArray × V)) (cs : Array Value) (w : World) (hv : IsV w.heap.size w (.mk k b i f t ty its fs) cs)
    (hf : f < 18446744073709551616) (ht : t.size ≤ 1048576) (hn : ∀ x ∈ fs, x.1.size ≤ 1048576) (hT : (k ≠ 4 ∧ k ≠ 6) ∨ TabsIn w) :
    Calls Tryz.prog 68 #[.agg cs] w (RetB (.int .i64 (ownF (.mk k b i f t ty its fs))) w) := by
  obtain ⟨p, c, q, d, rfl, _, hfs, _, lf⟩ := hv
  unfold lenMax at lf
  obtain ⟨W0, hW0⟩ : ∃ W0, w.alloc (.cells (vcells k b i f t ty p its.length c q fs.length d) 34) = W0 := ⟨_, rfl⟩
  have HB0 : Hid (Below w.heap.size w W0) := Lib.hid (by rw [← hW0]; exact (Below.refl _ _).alloc (Nat.le_refl _) _)
  have hc0 : ∀ j x, (vcells k b i f t ty p its.length c q fs.length d)[j]? = some x → W0.cell? ⟨w.heap.size, 0 + j, none⟩ = some x := by
    intro j x hx
    rw [← hW0, Nat.zero_add]
    have := heap_new w (.cells (vcells k b i f t ty p its.length c q fs.length d) 34)
    simp only [World.cell?, this]
    exact hx
  have HCA : Hid (CellsAt W0 w.heap.size 0 (vcells k b i f t ty p its.length c q fs.length d)) := Lib.hid hc0
  have hlt : w.heap.size < W0.heap.size := by rw [← hW0]; simp
  have HLT := Lib.hid hlt
  obtain ⟨a0, a1, a2, a3, a4, a5, a6, a7⟩ := HCA.out.all
  simp only [Nat.zero_add] at a0 a1 a2 a3 a4 a5 a6 a7
  have HW0 := Lib.hid hW0
  have HFS := Lib.hid hfs
  have HN := Lib.hid hn
  have HT := Lib.hid hT
  clear hW0 hc0 hfs hn hT
  have K1 := Lib.hid (kind_any k b i f t ty p its.length c q fs.length d)
  go_enter Tryz.func68, Tryz.ntmps68
  go_upto_region 1 with (fail)
  rw [HW0.out]
  clear HW0
  refine wp_region_plan_below 4 [(0, [0, 2, 3]), (1, [1]), (2, [4, 5, 6, 7, 8, 9, 10])] (by kernel_rfl) (by kernel_rfl) (fun _ _ _ _ h => h) ?_
  simp only [wpSegs, pickOps, List.getElem?_toArray, List.getElem?_cons_zero, List.getElem?_cons_succ]
  have kc := cell_cls W0
  repeat (go_big_quiet_step (fail))
  refine wpQuiet_nil ?_
  clear kc
  refine wpListC_plain rfl (fun K hK => ?_)
  go_step
  refine (K1.out _).mono ?_
  clear K1
  rintro e w1 ⟨rfl, hb1⟩
  replace hb1 := (Below.drew (Below.refl W0.heap.size W0)).trans hb1
  refine hK _ _ (cls_of_below hb1) ?_
  clear hK K
  refine wpListC_nil ?_
  clear a0 a1 a2 a3 a4 a5 a6 a7 hlt
  have hlt1 : w.heap.size < w1.heap.size := Nat.lt_of_lt_of_le HLT.out hb1.size
  have HC1 : Hid (CellsAt w1 w.heap.size 0 (vcells k b i f t ty p its.length c q fs.length d)) := Lib.hid (HCA.out.below hb1 HLT.out)
  have HB1 : Hid (Below w.heap.size w w1) := Lib.hid (HB0.out.trans (hb1.mono HB0.out.size))
  obtain ⟨a0, a1, a2, a3, a4, a5, a6, a7⟩ := HC1.out.all
  simp only [Nat.zero_add] at a0 a1 a2 a3 a4 a5 a6 a7
  clear hb1 HCA HLT HB0
  clear W0
  by_cases h1 : kd k = k
  · rw [h1]
    have h1' : (k != k) = false := by simp
    by_cases h7 : k = 7
    · subst h7
      have e : Hid (ownF (.mk 7 b i f t ty its fs) = 2) := Lib.hid (by rw [ownF_eq, if_pos (.inr rfl)])
      go_wp2
      go_ret
      exact ⟨ret_eq (by rw [e.out]; rfl), HB1.out⟩
    · have h7' : (k == 7) = false := beq_eq_false_iff_ne.2 h7
      have HG : Hid (¬ (kd k ≠ k ∨ k = 7)) := Lib.hid (by rw [h1]; simp [h7])
      clear h1
      by_cases h3 : k = 3
      · subst h3
        have HNAN := Lib.hid (IsNaN_any f)
        cases hnan : fnan f
        · have HINF := Lib.hid (fun W => IsInf_any f hf W hnan)
          by_cases hinf : frung f = 9218868437227405312
          · have e : Hid (ownF (.mk 3 b i f t ty its fs) = 6) := Lib.hid (by rw [ownF_eq, if_neg HG.out, if_pos rfl, hinf]; simp)
            rw [hnan] at HNAN
            rw [hinf] at HINF
            clear hnan hinf
            go_wp2_with (first | (go_at_call 99; refine (HNAN.out _).mono ?_; rintro e w3 ⟨rfl, hw3⟩; rw [← hw3]; clear hw3) | (go_at_call 100; refine (HINF.out _).mono ?_; rintro e w3 ⟨rfl, hw3⟩; rw [← hw3]; clear hw3))
            go_ret
            exact ⟨ret_eq (by rw [e.out]; rfl), HB1.out⟩
          · have e : Hid (ownF (.mk 3 b i f t ty its fs) = 0) := Lib.hid (by rw [ownF_eq, if_neg HG.out, if_pos rfl, hnan]; simp [hinf])
            rw [hnan] at HNAN
            rw [beq_eq_false_iff_ne.2 hinf] at HINF
            clear hnan hinf
            go_wp2_with (first | (go_at_call 99; refine (HNAN.out _).mono ?_; rintro e w3 ⟨rfl, hw3⟩; rw [← hw3]; clear hw3) | (go_at_call 100; refine (HINF.out _).mono ?_; rintro e w3 ⟨rfl, hw3⟩; rw [← hw3]; clear hw3))
            go_ret
            exact ⟨ret_eq (by rw [e.out]; rfl), HB1.out⟩
        · have e : Hid (ownF (.mk 3 b i f t ty its fs) = 6) := Lib.hid (by rw [ownF_eq, if_neg HG.out, if_pos rfl, hnan]; rfl)
          rw [hnan] at HNAN
          clear hnan
          go_wp2_with (go_at_call 99; refine (HNAN.out _).mono ?_; rintro e w3 ⟨rfl, hw3⟩; rw [← hw3]; clear hw3)
          go_ret
          exact ⟨ret_eq (by rw [e.out]; rfl), HB1.out⟩
      · have h3' : (k == 3) = false := beq_eq_false_iff_ne.2 h3
        by_cases h4 : k = 4
        · subst h4
          have HC := Lib.hid (utfClean_any t ht w1 ((HT.out.resolve_left (by simp)).on HB1.out))
          obtain ⟨V1, hV1⟩ : ∃ x, Lib.validD t.data.toList = x := ⟨_, rfl⟩
          have e : Hid (ownF (.mk 4 b i f t ty its fs) = if V1 = true then 0 else 1) := Lib.hid (by rw [ownF_eq, if_neg HG.out, if_neg (by decide), if_pos rfl, hV1])
          rw [hV1] at HC
          clear hV1
          cases V1
          all_goals
            go_wp2_with (go_at_call 67; refine HC.out.mono ?_; rintro e w3 ⟨rfl, hb3⟩; have HB3 := Lib.hid (HB1.out.trans (hb3.mono HB1.out.size)); have ca := HC1.out.below hb3 hlt1; obtain ⟨d0, d1, d2, d3, d4, d5, d6, d7⟩ := ca.all; have hlt3 : w.heap.size < w3.heap.size := Nat.lt_of_lt_of_le hlt1 hb3.size; simp only [Nat.zero_add] at d0 d1 d2 d3 d4 d5 d6 d7; clear hb3 ca)
            go_ret
            exact ⟨ret_eq (by rw [e.out]; rfl), HB3.out⟩
        · have h4' : (k == 4) = false := beq_eq_false_iff_ne.2 h4
          by_cases h6 : k = 6
          · subst h6
            have e : Hid (ownF (.mk 6 b i f t ty its fs) = memF [] fs) := Lib.hid (by rw [ownF_eq, if_neg HG.out, if_neg (by decide), if_neg (by decide), if_pos rfl])
            have hmm := @run_makeMap Tryz.prog
            go_wp2_with fail
            have hown0 := World.ownsMap_made (H := Unit) w1 Tryz.prog 9 (plainElem Tryz.prog 3)
            have hba0 : Below w.heap.size w (w1.alloc (.map #[] 0)) := HB1.out.alloc (Nat.le_of_lt hlt1) _
            have HBM : Hid (w.heap.size ≤ w1.heap.size) := Lib.hid (Nat.le_of_lt hlt1)
            generalize w1.alloc (.map #[] 0) = wa at *
            have HOWN0 := Lib.hid hown0
            have HBA0 := Lib.hid hba0
            clear hown0 hba0 hmm a0 a1 a2 a3 a4 a5 a6 a7 HC1 HB1 hlt1
            generalize w1.heap.size = bm at *
            clear w1
            go_loopw [49] (fun iv wr => ∃ n : Nat, n ≤ fs.length ∧ iv = .int .i64 n ∧ Hid (memF ((fs.take n).map (·.1)) (fs.drop n) = memF [] fs) ∧ Hid (Below w.heap.size w wr) ∧ ∃ D, Hid (CntIs D ((fs.take n).map (·.1))) ∧ Hid (wr.ownsMap Tryz.prog 9 (plainElem Tryz.prog 3) bm n D)) (fun iv _ => fs.length - (intOf iv).toNat)
            case atStart => exact ⟨0, Nat.zero_le _, rfl, Lib.hid (by simp), HBA0, _, Lib.hid CntIs.start, HOWN0⟩
            case round =>
              obtain ⟨n, hn, rfl, HME, HBW, D, HD, HOW⟩ := hrel
              by_cases h1 : n < fs.length
              · obtain ⟨x, hx⟩ : ∃ x, fs[n]? = some x := ⟨fs[n], by simp [h1]⟩
                rcases HFS.out with h0 | ⟨g, o, rfl, hg, hvs⟩
                · subst h0; simp at h1
                obtain ⟨hnm, csx, hcx, hvx⟩ := hvs.get hx
                have hnm := (HBW.out.cell (p := ⟨g, _, none⟩) hg).trans hnm
                have hcx := hcx.below HBW.out hg
                have hxs := HN.out x (List.mem_of_getElem? hx)
                have HST := Lib.hid (memF_step hx)
                have HTK : Hid ((fs.take (n + 1)).map (·.1) = (fs.take n).map (·.1) ++ [x.1]) := Lib.hid (by rw [List.take_add_one, hx, List.map_append]; rfl)
                obtain ⟨yn, yk, yb, yi, yf, yt, yty, yits, yfs⟩ := x
                obtain ⟨yp, yc, yq, yd, rfl, _, _, _, _⟩ := hvx
                obtain ⟨c0, c1, c2, c3, c4, c5, c6, c7⟩ := hcx.all
                have hgr : g < wr.heap.size := Nat.lt_of_lt_of_le hg HBW.out.size
                dsimp only at hxs HST HTK
                clear hx hvs hcx
                go_upto_region 13 with (fail)
                obtain ⟨W1, hW⟩ : ∃ W1, wr.alloc (.cells (mcells yn yk yb yi yf yt yty yp yits.length yc yq yfs.length yd) 58) = W1 := ⟨_, rfl⟩
                have hb1 : Below wr.heap.size wr W1 := by rw [← hW]; exact (Below.refl _ _).alloc (Nat.le_refl _) _
                have hs1 : wr.heap.size < W1.heap.size := by rw [← hW]; simp
                have hcm : CellsAt W1 wr.heap.size 0 (mcells yn yk yb yi yf yt yty yp yits.length yc yq yfs.length yd) := by rw [← hW]; exact cellsAt_alloc _ _ _ _
                have ew := hW
                clear hW c0 c1 c2 c3 c4 c5 c6 c7 hnm
                rw [ew]
                clear ew
                have m0 : W1.cell? ⟨wr.heap.size, 0, none⟩ = some (.string yn) := hcm 0 _ rfl
                have HOW1 := Lib.hid (HOW.out.kept (grown_of_below hb1 none) (by simp))
                have HBW1 := Lib.hid (HBW.out.trans (hb1.mono HBW.out.size))
                have HC := Lib.hid (utfClean_any yn hxs W1 ((HT.out.resolve_left (by simp)).on HBW1.out))
                clear hcm hb1
                obtain ⟨V1, hV1⟩ : ∃ z, Lib.validD yn.data.toList = z := ⟨_, rfl⟩
                rw [hV1] at HC HST
                clear hV1
                cases V1
                · have HR : Hid (memF [] fs = 1) := Lib.hid (by rw [← HME.out, HST.out]; rfl)
                  go_wp2_with (go_at_call 67; refine HC.out.mono ?_; rintro e w3 ⟨rfl, hb3⟩; have HB3 := Lib.hid (HBW1.out.trans (hb3.mono HBW1.out.size)); clear hb3)
                  go_ret
                  exact ⟨ret_eq (by rw [e.out, HR.out]; rfl), HB3.out⟩
                · have HST2 : Hid (memF ((fs.take n).map (·.1)) (fs.drop n) = if (((fs.take n).map (·.1)).any (fun m => m.toList == yn.toList)) = true then 5 else memF ((fs.take (n + 1)).map (·.1)) (fs.drop (n + 1))) := Lib.hid (by rw [HST.out]; rfl)
                  have hkey := keyOf_string_mk (P := Tryz.prog) (k := 9) Tryz.underlying9 (s := yn) (by unfold maxLen; omega)
                  have HKEY := Lib.hid hkey
                  clear hkey
                  go_upto_region 15 with (go_at_call 67; refine HC.out.mono ?_; rintro e w3 ⟨rfl, hb3⟩; have HB3 := Lib.hid (HBW1.out.trans (hb3.mono HBW1.out.size)); have HOW3 := Lib.hid (HOW1.out.kept (grown_of_below hb3 none) (by simp)); have m3 := (hb3.cell (p := ⟨wr.heap.size, 0, none⟩) hs1).trans m0; have hs3 : wr.heap.size < w3.heap.size := Nat.lt_of_lt_of_le hs1 hb3.size; clear hb3)
                  clear HOW1 HC m0 hs1
                  obtain ⟨S1, hS1⟩ : ∃ z, ((fs.take n).map (·.1)).any (fun m => m.toList == yn.toList) = z := ⟨_, rfl⟩
                  cases S1
                  · have HCN : Hid (CntIs (D.put (nkey yn) (.lit (.int .i64 1))) ((fs.take (n + 1)).map (·.1))) := Lib.hid (by rw [HTK.out]; exact HD.out.put yn hS1)
                    have HNX : Hid (memF ((fs.take (n + 1)).map (·.1)) (fs.drop (n + 1)) = memF [] fs) := Lib.hid (by rw [← HME.out, HST2.out, hS1]; rfl)
                    have HS1 := Lib.hid hS1
                    clear hS1
                    go_upto_region 16 with (first | (at_lookup; refine wpList_lookup_own_int _ rfl _ _ 80 rfl 9 3 .i64 lawS Tryz.underlying80 Tryz.underlying3 (zeroI _) bm n D rfl HOW3.out _ _ rfl HKEY.out ?_; intro cv hat _; obtain rfl : cv = 0 := (HD.out.at hat).trans (by rw [HS1.out]; rfl); clear hat) | (at_mapUpdate; refine wpList_mapUpdate_own _ rfl _ _ _ 80 rfl 9 3 lawS Tryz.underlying80 _ bm n D rfl HOW3.out (by unfold maxLen; omega) _ _ _ rfl rfl HKEY.out _ [] (plainElem_int Tryz.underlying3 rfl) ?_; intro w4 hown4 hgr4; have HOW4 := Lib.hid hown4; have HGR4 := Lib.hid hgr4; clear hown4 hgr4))
                    go_frame
                    have hlb : bm < wr.heap.size := HOW.out.lt
                    have HB4 : Hid (Below w.heap.size w w4) := Lib.hid (HB3.out.trans (below_of_grown HGR4.out HBM.out HB3.out.size))
                    have m4 : w4.cell? ⟨wr.heap.size, 0, none⟩ = some (.string yn) := by
                      have hb := HGR4.out.block wr.heap.size hs3 (fun e => by cases e; omega)
                      rw [← m3]
                      simp only [World.cell?, hb]
                    clear m3 hs3 hlb HGR4 HB3 HOW3
                    go_wp2_with (at_lookup; refine wpList_lookup_own_int _ rfl _ _ 80 rfl 9 3 .i64 lawS Tryz.underlying80 Tryz.underlying3 (zeroI _) bm (n + 1) (D.put (nkey yn) (.lit (.int .i64 1))) rfl HOW4.out _ _ rfl HKEY.out ?_; intro cv hat _; obtain rfl : cv = 1 := HD.out.two yn hat; clear hat)
                    go_roundw
                    case rel => exact ⟨n + 1, by omega, by go_num, HNX, HB4, _, HCN, HOW4⟩
                    case measure => simp [intOf]; omega
                  · have HR : Hid (memF [] fs = 5) := Lib.hid (by rw [← HME.out, HST2.out, hS1]; rfl)
                    have HS1 := Lib.hid hS1
                    clear hS1
                    go_upto_region 16 with (first | (at_lookup; refine wpList_lookup_own_int _ rfl _ _ 80 rfl 9 3 .i64 lawS Tryz.underlying80 Tryz.underlying3 (zeroI _) bm n D rfl HOW3.out _ _ rfl HKEY.out ?_; intro cv hat _; obtain rfl : cv = 1 := (HD.out.at hat).trans (by rw [HS1.out]; rfl); clear hat) | (at_mapUpdate; refine wpList_mapUpdate_own _ rfl _ _ _ 80 rfl 9 3 lawS Tryz.underlying80 _ bm n D rfl HOW3.out (by unfold maxLen; omega) _ _ _ rfl rfl HKEY.out _ [] (plainElem_int Tryz.underlying3 rfl) ?_; intro w4 hown4 hgr4; have HOW4 := Lib.hid hown4; have HGR4 := Lib.hid hgr4; clear hown4 hgr4))
                    go_frame
                    have hlb : bm < wr.heap.size := HOW.out.lt
                    have HB4 : Hid (Below w.heap.size w w4) := Lib.hid (HB3.out.trans (below_of_grown HGR4.out HBM.out HB3.out.size))
                    have m4 : w4.cell? ⟨wr.heap.size, 0, none⟩ = some (.string yn) := by
                      have hb := HGR4.out.block wr.heap.size hs3 (fun e => by cases e; omega)
                      rw [← m3]
                      simp only [World.cell?, hb]
                    clear m3 hs3 hlb HGR4 HB3 HOW3
                    go_wp2_with (at_lookup; refine wpList_lookup_own_int _ rfl _ _ 80 rfl 9 3 .i64 lawS Tryz.underlying80 Tryz.underlying3 (zeroI _) bm (n + 1) (D.put (nkey yn) (.lit (.int .i64 2))) rfl HOW4.out _ _ rfl HKEY.out ?_; intro cv hat _; obtain rfl : cv = 2 := HD.out.two yn hat; clear hat)
                    go_ret
                    exact ⟨ret_eq (by rw [e.out, HR.out]; rfl), HB4.out⟩
              · have HR : Hid (memF [] fs = 0) := Lib.hid (by rw [← HME.out, List.drop_eq_nil_iff.2 (by omega)]; rfl)
                go_wp2
                go_ret
                exact ⟨ret_eq (by rw [e.out, HR.out]; rfl), HBW.out⟩
          · have h6' : (k != 6) = true := by simp [h6]
            have e : Hid (ownF (.mk k b i f t ty its fs) = 0) := Lib.hid (by rw [ownF_eq, if_neg HG.out, if_neg h3, if_neg h4, if_neg h6])
            go_wp2
            go_ret
            exact ⟨ret_eq (by rw [e.out]; rfl), HB1.out⟩
  · have e : Hid (ownF (.mk k b i f t ty its fs) = 2) := Lib.hid (by rw [ownF_eq, if_pos (.inl h1)])
    have h1' : (kd k != k) = true := by simp [h1]
    go_wp2
    go_ret
    exact ⟨ret_eq (by rw [e.out]; rfl), HB1.out⟩
end Go.Proofs.YtldjbgklmeigmaaGreatDoor

namespace Go.Proofs.YtldjbgklmeigmaaGreatDoor
open Go Go.RowKit Go.Shelf
attribute [local go_sem] run_store_float Oper.semAt_some

mutual
/-- The first fault and its path. -/
def sndV : V → List St × Int
  | .mk k b i f t ty its fs => if ownF (.mk k b i f t ty its fs) ≠ 0 then ([], ownF (.mk k b i f t ty its fs)) else if kd k = 5 then sndVs its 0 else if kd k = 6 then sndFs fs else ([], 0)
def sndVs : List V → Nat → List St × Int
  | [], _ => ([], 0)
  | v :: r, n => if (sndV v).2 ≠ 0 then (⟨⟨#[]⟩, (n : Int), true⟩ :: (sndV v).1, (sndV v).2) else sndVs r (n + 1)
def sndFs : List (ByteArray × V) → List St × Int
  | [] => ([], 0)
  | x :: r => if (sndV x.2).2 ≠ 0 then (⟨x.1, 0, false⟩ :: (sndV x.2).1, (sndV x.2).2) else sndFs r
end
/-- The first child with a fault. -/
def bad : List (St × V) → List St × Int
  | [] => ([], 0)
  | x :: r => if (sndV x.2).2 ≠ 0 then (x.1 :: (sndV x.2).1, (sndV x.2).2) else bad r
theorem sndVs_bad : ∀ (l : List V) (n : Nat), sndVs l n = bad (itemKids l n)
  | [], _ => by rw [sndVs]; rfl
  | v :: r, n => by rw [sndVs, itemKids, bad, sndVs_bad r (n + 1)]
theorem sndFs_bad : ∀ (l : List (ByteArray × V)), sndFs l = bad (fieldKids l)
  | [] => by rw [sndFs]; rfl
  | x :: r => by
    have e : fieldKids (x :: r) = (⟨x.1, 0, false⟩, x.2) :: fieldKids r := rfl
    rw [sndFs, e, bad, sndFs_bad r]
theorem sndV_bad (v : V) : sndV v = if ownF v ≠ 0 then ([], ownF v) else bad (kidsV v) := by
  obtain ⟨k, b, i, f, t, ty, its, fs⟩ := v
  rw [sndV, kidsV, sndVs_bad, sndFs_bad]
  split
  · rfl
  · split
    · rfl
    · split <;> rfl
theorem bad_none : ∀ {l : List (St × V)}, (∀ x ∈ l, (sndV x.2).2 = 0) → bad l = ([], 0)
  | [], _ => rfl
  | x :: r, h => by rw [bad, if_neg (by simp [h x (by simp)]), bad_none (fun y hy => h y (List.mem_cons_of_mem _ hy))]
theorem bad_at : ∀ {l r : List (St × V)} {x : St × V}, (∀ y ∈ l, (sndV y.2).2 = 0) → (sndV x.2).2 ≠ 0 → bad (l ++ x :: r) = (x.1 :: (sndV x.2).1, (sndV x.2).2)
  | [], _, x, _, h => by rw [List.nil_append, bad, if_pos h]
  | y :: l, r, x, h, hx => by rw [List.cons_append, bad, if_neg (by simp [h y (by simp)]), bad_at (fun z hz => h z (List.mem_cons_of_mem _ hz)) hx]

mutual
/-- The texts are no longer than this. -/
def shV : V → Prop
  | .mk _ _ _ f t _ its fs => f < 18446744073709551616 ∧ t.size ≤ 1048576 ∧ shVs its ∧ shFs fs
def shVs : List V → Prop
  | [] => True
  | v :: r => shV v ∧ shVs r
def shFs : List (ByteArray × V) → Prop
  | [] => True
  | x :: r => (x.1.size ≤ 1048576 ∧ shV x.2) ∧ shFs r
end
theorem shVs.mem : ∀ {l : List V} {v : V}, shVs l → v ∈ l → shV v
  | [], _, _, h => by cases h
  | x :: r, v, h, hv => by
    rw [shVs] at h
    rcases List.mem_cons.1 hv with rfl | hv
    · exact h.1
    · exact shVs.mem h.2 hv
theorem shFs.mem : ∀ {l : List (ByteArray × V)} {x : ByteArray × V}, shFs l → x ∈ l → x.1.size ≤ 1048576 ∧ shV x.2
  | [], _, _, h => by cases h
  | y :: r, x, h, hx => by
    rw [shFs] at h
    rcases List.mem_cons.1 hx with rfl | hx
    · exact h.1
    · exact shFs.mem h.2 hx
theorem shV.kid {v : V} {s : St} {u : V} (h : shV v) (hk : isKid v s u) : shV u := by
  obtain ⟨k, b, i, f, t, ty, its, fs⟩ := v
  rw [shV] at h
  unfold isKid at hk
  have hi : ∀ (l : List V) (n : Nat), (s, u) ∈ itemKids l n → u ∈ l := by
    intro l
    induction l with
    | nil => intro n h; simp [itemKids] at h
    | cons v r ih =>
      intro n h
      simp only [itemKids, List.mem_cons, Prod.mk.injEq] at h
      rcases h with ⟨_, rfl⟩ | h
      · simp
      · exact List.mem_cons_of_mem _ (ih _ h)
  simp only [kidsV] at hk
  split at hk
  · exact h.2.2.1.mem (hi _ _ hk)
  · split at hk
    · simp only [fieldKids, List.mem_map, Prod.mk.injEq] at hk
      obtain ⟨x, hx, _, rfl⟩ := hk
      exact (h.2.2.2.mem hx).2
    · simp at hk

mutual
/-- No text in it is looked at. -/
def NoT : V → Prop
  | .mk k _ _ _ _ _ its fs => (k ≠ 4 ∧ k ≠ 6) ∧ NoTs its ∧ NoTf fs
def NoTs : List V → Prop
  | [] => True
  | v :: r => NoT v ∧ NoTs r
def NoTf : List (ByteArray × V) → Prop
  | [] => True
  | x :: r => NoT x.2 ∧ NoTf r
end
theorem NoTs.mem : ∀ {l : List V} {v : V}, NoTs l → v ∈ l → NoT v
  | [], _, _, h => by cases h
  | x :: r, v, h, hv => by
    rw [NoTs] at h
    rcases List.mem_cons.1 hv with rfl | hv
    · exact h.1
    · exact NoTs.mem h.2 hv
theorem NoTf.mem : ∀ {l : List (ByteArray × V)} {x : ByteArray × V}, NoTf l → x ∈ l → NoT x.2
  | [], _, _, h => by cases h
  | y :: r, x, h, hx => by
    rw [NoTf] at h
    rcases List.mem_cons.1 hx with rfl | hx
    · exact h.1
    · exact NoTf.mem h.2 hx
/-- The tables stand where a text is looked at. -/
def TabT (v : V) (w : World) : Prop := NoT v ∨ TabsIn w
theorem TabT.on {v : V} {w w' : World} (h : TabT v w) (hb : Below w.heap.size w w') : TabT v w' := h.imp id (fun h => h.on hb)
theorem TabT.own {k : Int} {b : Bool} {i : Int} {f : Nat} {t ty : ByteArray} {its : List V} {fs : List (ByteArray × V)} {w : World} (h : TabT (.mk k b i f t ty its fs) w) : (k ≠ 4 ∧ k ≠ 6) ∨ TabsIn w := h.imp (fun h => by rw [NoT] at h; exact h.1) id
theorem TabT.kid {v : V} {s : St} {u : V} {w : World} (h : TabT v w) (hk : isKid v s u) : TabT u w := by
  rcases h with h | h
  · left
    obtain ⟨k, b, i, f, t, ty, its, fs⟩ := v
    rw [NoT] at h
    unfold isKid at hk
    have hi : ∀ (l : List V) (n : Nat), (s, u) ∈ itemKids l n → u ∈ l := by
      intro l
      induction l with
      | nil => intro n h; simp [itemKids] at h
      | cons v r ih =>
        intro n h
        simp only [itemKids, List.mem_cons, Prod.mk.injEq] at h
        rcases h with ⟨_, rfl⟩ | h
        · simp
        · exact List.mem_cons_of_mem _ (ih _ h)
    simp only [kidsV] at hk
    split at hk
    · exact h.2.1.mem (hi _ _ hk)
    · split at hk
      · simp only [fieldKids, List.mem_map, Prod.mk.injEq] at hk
        obtain ⟨x, hx, _, rfl⟩ := hk
        exact h.2.2.mem hx
      · simp at hk
  · exact .inr h

def SndP (v : V) (w : World) (e : Ending) (w' : World) : Prop :=
  ∃ sv, e = .returned (.tuple #[sv, .int .i64 (sndV v).2]) ∧ (w'.ownsRow w.heap.size 161 3 sv (sndV v).1.length (flatS (sndV v).1) ∧ ((sndV v).2 = 0 → sv = .slice none 0 0)) ∧ Below w.heap.size w w'

theorem snd_len : ∀ (N : Nat) (v : V), szV v ≤ N → (sndV v).1.length + 1 ≤ szV v := by
  intro N
  induction N with
  | zero => intro v h; have := szV_pos v; omega
  | succ N ih =>
    intro v h
    rw [sndV_bad]
    have hp := szV_pos v
    split
    · simpa using hp
    · have hb : ∀ l : List (St × V), (∀ x ∈ l, szV x.2 + 1 ≤ szV v) → (bad l).1.length + 1 ≤ szV v := by
        intro l
        induction l with
        | nil => intro _; simpa [bad] using hp
        | cons x r ihl =>
          intro hl
          rw [bad]
          split
          · have h1 := hl x (by simp)
            have h2 := ih x.2 (by omega)
            simp only [List.length_cons]
            omega
          · exact ihl (fun y hy => hl y (List.mem_cons_of_mem _ hy))
      exact hb _ (fun x hx => isKid_size (s := x.1) (u := x.2) hx)

section
variable {F : Fence} {n : Nat} {P : Program} (w : World) {ops : Array Oper} {rest : List Oper} {o : Oper} {a : Act} {Q : Exit → Act → World → Prop}
theorem wpListIn_append_y (hg : o.guard = none) (s x : Operand) (t : TypeId) (hop : o.op = Op.call { callee := Callee.builtin Builtin.append, args := #[s, x], argTypes := #[t, t] })
    (base : Nat) (e : TypeId) (z : Value) (size bytes : Nat) (ht : P.underlying t = some (.slice e)) (hi : (P.info? e).map (fun i => (i.zero, i.size, i.bytes)) = some (some z, size, bytes))
    (hzs : z.cells.size = size) (hsz : 0 < size)
    (v : Value) (k : Nat) (xs : List Value) (hs : a.eval s = v) (hown : w.ownsRow base e size v k xs)
    (p : Option Addr) (m c : Nat) (news : List Value) (hx : a.eval x = .slice p m c) (hl : news.length = m * size) (h0 : p = none → m = 0) (hnews : ∀ a, p = some a → ∀ j u, news[j]? = some u → w.cell? (a.add j) = some u) (h1 : ∀ u ∈ news, u.oneCell' = true)
    (h63 : k + m ≤ maxLen) (hbytes : (k + m) * bytes ≤ 140737488355328) (hbase : base ≤ w.heap.size)
    (hK : ∀ v' w', w'.ownsRow base e size v' (k + m) (xs ++ news) → w.grownBy w' v.ownBlock → wpListIn F n P ops Q rest (a.put o.dst v') w') : wpListIn F n P ops Q (o :: rest) a w := by
  obtain ⟨i, hi', hz, hsize, hby⟩ := info_parts hi
  refine wpListIn_plain hg fun K hK' => ?_
  obtain ⟨v', w', hrun, h2, h3⟩ := run_append_y (P := P) w base t o.type e i z size bytes ht hi' hz hsize hby hzs hsz v k xs hown p m c news hl h0 hnews h1 h63 hbytes hbase
  unfold Oper.wpIn
  refine ⟨?_, ?_⟩
  · simp [Oper.about, hop, resolve, Target.leads, Sem.run_pure]
  · rw [Oper.semAt_plain F _ _ (by rw [hop]; intro c hc'; cases hc')]
    simp [execOp, hop, resolve, invoke, builtin, hs, hx, hrun, Result.andThen]
    exact hK' _ _ (hK v' w' h2 h3)
end

/-- A box that holds a row of steps. -/
def RowBox (n b : Nat) (l : List St) (W : World) : Prop := ∃ sv, Boxed W b 55 sv ∧ W.ownsRow n 161 3 sv l.length (flatS l)
theorem row_not_block {W W' : World} {B : Nat} {e : TypeId} {sz n : Nat} {v : Value} {xs : List Value} {row : Option Nat} (h : W.ownsRow B e sz v n xs) (hg : W.grownBy W' row) (hr : ∀ r, row = some r → ∃ o : Obj, W.heap[r]? = some o ∧ o.isCells = false) : W'.ownsRow B e sz v n xs := by
  refine h.kept hg ?_
  rcases h.2 with ⟨rfl, _⟩ | ⟨g, cap, cur, rfl, _, hb, _⟩
  · exact .inl rfl
  · refine .inr (fun e => ?_)
    obtain ⟨o, ho, hc⟩ := hr g e.symm
    rw [hb] at ho
    cases ho
    cases hc
theorem rowBox_own {β : Type} (n b : Nat) (f : β → List St) : Own (fun s W => RowBox n b (f s) W) := fun s X Y row hs hg hr => by
  obtain ⟨sv, h1, h2⟩ := hs
  exact ⟨sv, boxed_own b _ (fun (_ : Unit) => sv) () X Y row h1 hg hr, row_not_block h2 hg hr⟩
theorem row_src {w : World} {B : Nat} {sv : Value} {l : List St} (h : w.ownsRow B 161 3 sv l.length (flatS l)) :
    ∃ p c, sv = .slice p l.length c ∧ (p = none → l.length = 0) ∧ ∀ a, p = some a → ∀ j u, (flatS l)[j]? = some u → w.cell? (a.add j) = some u := by
  rcases h.2 with ⟨rfl, h0⟩ | ⟨g, cap, cur, rfl, _⟩
  · refine ⟨none, 0, by rw [h0], fun _ => h0, fun a h => by cases h⟩
  · exact ⟨some ⟨g, 0, none⟩, cap, rfl, (fun h => by cases h), fun a ha => by cases ha; exact h.cells (g := g) rfl⟩
theorem flatS_one (l : List St) : ∀ u ∈ flatS l, u.oneCell' = true := by
  intro u hu
  simp only [flatS, List.mem_flatMap] at hu
  obtain ⟨s, _, hu⟩ := hu
  simp only [St.cells, List.mem_cons, List.not_mem_nil, or_false] at hu
  rcases hu with rfl | rfl | rfl <;> rfl
theorem built_row {B : Nat} (w : World) (hB : B ≤ w.heap.size) (s : St) : (w.alloc (.cells s.cells 161)).ownsRow B 161 3 (.slice (some ⟨w.heap.size, 0, none⟩) 1 1) 1 s.cells.toList := by
  refine ⟨rfl, .inr ⟨w.heap.size, 1, s.cells, rfl, hB, heap_new w _, Nat.le_refl _, by decide, rfl, ?_⟩⟩
  rfl

/-- The first fault is among these. -/
def Stops (l : List (St × V)) : Prop := (bad l).2 ≠ 0 ∧ ∀ r, bad (l ++ r) = bad l
theorem stops_at {l : List (St × V)} {x : St × V} (h : ∀ y ∈ l, (sndV y.2).2 = 0) (hx : (sndV x.2).2 ≠ 0) : Stops (l ++ [x]) ∧ bad (l ++ [x]) = (x.1 :: (sndV x.2).1, (sndV x.2).2) := by
  have e : bad (l ++ [x]) = (x.1 :: (sndV x.2).1, (sndV x.2).2) := bad_at (r := []) h hx
  refine ⟨⟨by rw [e]; exact hx, fun r => ?_⟩, e⟩
  rw [e, List.append_assoc]
  exact bad_at (r := r) h hx

set_option maxRecDepth 100000 in
set_option maxHeartbeats 4000000 in
theorem Sound_any : ∀ (N : Nat) (v : V), szV v ≤ N → ∀ (cs : Array Value) (w : World), IsV w.heap.size w v cs → szV v ≤ 1000000 → shV v → TabT v w →
    Calls Tryz.prog 37 #[.agg cs] w (SndP v w) := by
  intro N
  induction N with
  | zero => intro v hv; have := szV_pos v; omega
  | succ N ih =>
    intro v hN cs w hv hm hsh hT
    have IH := Lib.hid ih
    have HV := Lib.hid hv
    have HN := Lib.hid hN
    have HSH := Lib.hid hsh
    have HT := Lib.hid hT
    clear ih hN hsh hT
    obtain ⟨k, b, i, f, t, ty, its, fs⟩ := v
    have hsh := HSH.out
    rw [shV] at hsh
    have HO := Lib.hid (fun (w' : World) (hb : Below w.heap.size w w') => own_any k b i f t ty its fs cs w' (HV.out.below hb hb.size) hsh.1 hsh.2.1 (fun x hx => (hsh.2.2.2.mem hx).1) (HT.out.on hb).own)
    obtain ⟨p, c, q, d, rfl, _, _, _, _⟩ := hv
    clear hsh
    refine (callsIn_wide (n := 5)).1 ?_
    refine callsIn_of_wp_marks Tryz.func37 rfl trivial ?_ rfl
    simp only [Tryz.ntmps37, List.size_toArray, List.length_cons, List.length_nil, Nat.reduceAdd, Nat.reduceSub, Array.replicate_succ, Array.replicate_zero, List.push_toArray, List.append_toArray, List.nil_append, List.cons_append]
    gi_wp2_with fail
    have b1 := (Boxed.new (w.alloc (.cells (vcells k b i f t ty p its.length c q fs.length d) 34)) 55 (.slice none 0 0)).alloc (.cells #[.int .i64 0] 35)
    have b2 := Boxed.new ((w.alloc (.cells (vcells k b i f t ty p its.length c q fs.length d) 34)).alloc (.cells #[.slice none 0 0] 55)) 35 (.int .i64 0)
    simp only [World.size_alloc] at b1 b2
    have hB0 : Below w.heap.size w (((w.alloc (.cells (vcells k b i f t ty p its.length c q fs.length d) 34)).alloc (.cells #[.slice none 0 0] 55)).alloc (.cells #[.int .i64 0] 35)) := (((Below.refl _ w).alloc (Nat.le_refl _) _).alloc (by simp) _).alloc (by simp; omega) _
    have hsW : (((w.alloc (.cells (vcells k b i f t ty p its.length c q fs.length d) 34)).alloc (.cells #[.slice none 0 0] 55)).alloc (.cells #[.int .i64 0] 35)).heap.size = w.heap.size + 1 + 1 + 1 := by simp
    have hc0 : CellsAt (((w.alloc (.cells (vcells k b i f t ty p its.length c q fs.length d) 34)).alloc (.cells #[.slice none 0 0] 55)).alloc (.cells #[.int .i64 0] 35)) w.heap.size 0 (vcells k b i f t ty p its.length c q fs.length d) :=
      ((cellsAt_alloc w (vcells k b i f t ty p its.length c q fs.length d) 34 (0, 0)).below ((Below.refl _ _).alloc (Nat.le_refl _) _) (by simp)).below ((Below.refl _ _).alloc (Nat.le_refl _) _) (by simp; omega)
    obtain ⟨W0, hW0⟩ : ∃ W0, ((w.alloc (.cells (vcells k b i f t ty p its.length c q fs.length d) 34)).alloc (.cells #[.slice none 0 0] 55)).alloc (.cells #[.int .i64 0] 35) = W0 := ⟨_, rfl⟩
    rw [hW0] at b1 b2 hB0 hsW hc0 ⊢
    clear hW0
    refine ⟨trivial, (callsIn_wide.2 (HO.out W0 hB0)).mono ?_⟩
    rintro e w1 ⟨rfl, hb1⟩
    replace b1 : Boxed w1 (w.heap.size + 1) 55 (.slice none 0 0) := (hb1.block _ (by omega)).trans b1
    replace b2 : Boxed w1 (w.heap.size + 1 + 1) 35 (.int .i64 0) := (hb1.block _ (by omega)).trans b2
    have hc1 := hc0.below hb1 (by omega)
    have HB1 : Hid (Below w.heap.size w w1) := Lib.hid (hB0.trans (hb1.mono hB0.size))
    have hs1 : w.heap.size + 1 + 1 + 1 ≤ w1.heap.size := by have := hb1.size; omega
    clear hb1 hB0 hsW hc0
    clear W0
    dsimp only
    obtain ⟨E, hE⟩ : ∃ E, ownF (.mk k b i f t ty its fs) = E := ⟨_, rfl⟩
    have HE := Lib.hid hE
    rw [hE]
    clear hE
    have cB1 := b1.cell
    have cB2 := b2.cell
    have fB1 := b1.frozen
    have fB2 := b2.frozen
    obtain ⟨a0, a1, a2, a3, a4, a5, a6, a7⟩ := hc1.all0
    by_cases h0 : E = 0
    · subst h0
      gi_wp2_with (refine ⟨trivial, ?_⟩; gi_at_call 69; refine (callsIn_wide.2 (children_any _ _ rfl)).mono ?_; rintro e wk ⟨rfl, rfl⟩)
      have hcv := cellsAt_alloc w1 (vcells k b i f t ty p its.length c q fs.length d) 34 (0, 0)
      have hbv : Below w1.heap.size w1 (w1.alloc (.cells (vcells k b i f t ty p its.length c q fs.length d) 34)) := (Below.refl _ _).alloc (Nat.le_refl _) _
      have hsv : (w1.alloc (.cells (vcells k b i f t ty p its.length c q fs.length d) 34)).heap.size = w1.heap.size + 1 := by simp
      obtain ⟨W0, hW0⟩ : ∃ W0, w1.alloc (.cells (vcells k b i f t ty p its.length c q fs.length d) 34) = W0 := ⟨_, rfl⟩
      rw [hW0] at hcv hbv hsv ⊢
      clear hW0
      have c1 : Boxed W0 (w.heap.size + 1) 55 (.slice none 0 0) := (hbv.block _ (by omega)).trans b1
      have c2 : Boxed W0 (w.heap.size + 1 + 1) 35 (.int .i64 0) := (hbv.block _ (by omega)).trans b2
      have hBW : Below w.heap.size w W0 := HB1.out.trans (hbv.mono HB1.out.size)
      have hvW : IsV w.heap.size W0 (.mk k b i f t ty its fs) (vcells k b i f t ty p its.length c q fs.length d) := HV.out.below hBW (Nat.le_refl _)
      have HBW := Lib.hid hBW
      clear hbv b1 b2 hc1 cB1 cB2 fB1 fB2 a0 a1 a2 a3 a4 a5 a6 a7
      have hsn : sndV (.mk k b i f t ty its fs) = bad (kidsV (.mk k b i f t ty its fs)) := by rw [sndV_bad, HE.out]; rfl
      have HSN := Lib.hid hsn
      clear hsn
      refine wpIn_rangeFunc_ownH rfl (by decide) (gf := 109) (lb := #[.pointer (some ⟨w1.heap.size, 0, none⟩)]) rfl trivial (enters_of Tryz.func109 (by kernel_rfl) rfl)
        (kids_stops 4 (by decide) w.heap.size w1.heap.size (.mk k b i f t ty its fs) (vcells k b i f t ty p its.length c q fs.length d) W0 (by omega) hBW.size hcv hvW) belowK_t (belowK_b hBW.size) (Below.refl _ _) (fun _ => rfl)
        (fun pre W => (((∀ y ∈ pre.map Kid.sv, (sndV y.2).2 = 0) ∧ Boxed W (w.heap.size + 1) 55 (.slice none 0 0)) ∧ Boxed W (w.heap.size + 1 + 1) 35 (.int .i64 0)) ∧ Below w.heap.size W0 W)
        (fun c pre W => (((c = .ret ∧ Stops (pre.map Kid.sv)) ∧ RowBox w.heap.size (w.heap.size + 1) (bad (pre.map Kid.sv)).1 W) ∧ Boxed W (w.heap.size + 1 + 1) 35 (.int .i64 (bad (pre.map Kid.sv)).2)) ∧ Below w.heap.size W0 W)
        (OwnFrom.and (OwnFrom.and (OwnFrom.and (ownFrom_pure _ _) (Own.from (boxed_own _ _ _) _)) (Own.from (boxed_own _ _ _) _)) (ownFrom_below hBW.size hBW.size))
        (fun c => OwnFrom.and (OwnFrom.and (OwnFrom.and (ownFrom_pure _ _) (Own.from (rowBox_own _ _ _) _)) (Own.from (boxed_own _ _ _) _)) (ownFrom_below hBW.size hBW.size))
        ⟨⟨⟨by simp, c1⟩, c2⟩, Below.refl _ _⟩
        (fun x a' W => ∃ B1 B2, w.heap.size + 1 + 1 < B1 ∧ B1 < B2 ∧ W.heap[B1]? = some (.cells x.1.1.cells 161 (0, 0)) ∧ W.heap[B2]? = some (.cells x.1.2.2 34 (0, 0)) ∧ a' = { tmps := #[.agg (vcells k b i f t ty p its.length c q fs.length d), .pointer (some ⟨w.heap.size, 0, none⟩), .pointer (some ⟨w.heap.size + 1, 0, none⟩), .pointer (some ⟨w.heap.size + 1 + 1, 0, none⟩), .int .i64 0, .pointer (some ⟨B1, 0, none⟩), .pointer (some ⟨B2, 0, none⟩), undef, undef, .agg (vcells k b i f t ty p its.length c q fs.length d), .int .i64 0, .int .i64 0, .bool false, undef, .agg (vcells k b i f t ty p its.length c q fs.length d), .func (.func 109) #[] #[.pointer (some ⟨w1.heap.size, 0, none⟩)], .agg x.1.1.cells, .agg x.1.2.2, undef, undef, undef, undef, undef, undef, undef, undef, undef, undef, undef, undef], defers := [] })
        ?hAx ?assign ?body ?done ?stop
      case hAx =>
        rintro x a' _ A B row ⟨B1, B2, h1, h2, h3, h4, h5⟩ hg hr
        have hk : ∀ (g : Nat) (cs : Array Value) (ty : TypeId), A.heap[g]? = some (Obj.cells cs ty (0, 0)) → B.heap[g]? = some (Obj.cells cs ty (0, 0)) := fun g cs ty hh => (hg.block g (Array.getElem?_eq_some_iff.1 hh).1 (fun e => by
          obtain ⟨_, o, ho, hc⟩ := hr g e.symm
          rw [hh] at ho
          cases ho
          cases hc)).trans hh
        exact ⟨B1, B2, h1, h2, hk _ _ _ h3, hk _ _ _ h4, h5⟩
      case assign =>
        rintro l pre ⟨⟨⟨sn, si, sb⟩, xv, xcs⟩, hx⟩ W K ⟨⟨⟨hp, hx1⟩, hx2⟩, hB⟩ hK
        have hx0 := hx
        obtain ⟨xk, xb, xi, xf, xt, xty, xits, xfs⟩ := xv
        obtain ⟨⟨xp, xc, xq, xd, hcs, _⟩, _⟩ := hx0
        dsimp only at hcs
        subst hcs
        dsimp only [kidEnc, St.cells]
        have hbs := hB.size
        gi_wp2
        refine hK _ _ (((KeepsOthers.alloc _ _).from _).trans ((KeepsOthers.alloc _ _).from _)) (((Below.refl _ W).alloc (by omega) _).alloc (by simp; omega) _) ⟨⟨⟨hp, (hx1.alloc _).alloc _⟩, (hx2.alloc _).alloc _⟩, (hB.alloc (by omega) _).alloc (by simp; omega) _⟩ ⟨W.heap.size, W.heap.size + 1, hx2.lt, by omega, ?_, ?_, rfl⟩
        · exact (Below.heap_alloc _ _ _ (by simp)).trans (heap_new _ _)
        · have := heap_new (W.alloc (.cells #[.string sn, .int .i64 si, .bool sb] 161)) (.cells (vcells xk xb xi xf xt xty xp xits.length xc xq xfs.length xd) 34)
          rw [World.size_alloc] at this
          exact this
      case body =>
        rintro l pre ⟨⟨s, xv, xcs⟩, hx⟩ a' W hl hrl ⟨⟨⟨hp, hx1⟩, hx2⟩, hB⟩ ⟨B1, B2, hB1, hB2, bS, bX, rfl⟩ _
        replace bX : W.heap[B2]? = some (.cells xcs 34 (0, 0)) := bX
        replace bS : W.heap[B1]? = some (.cells s.cells 161 (0, 0)) := bS
        have hx0 := hx
        obtain ⟨hvx, hkx⟩ := hx0
        have hsz := isKid_size hkx
        dsimp only at hvx hkx hsz
        have hxN : szV xv ≤ N ∧ szV xv ≤ 1000000 := by have := HN.out; omega
        have hbs := hB.size
        have hwW : w.heap.size ≤ W.heap.size := by omega
        have HC : Hid (Calls Tryz.prog 37 #[.agg xcs] W (SndP xv W)) := Lib.hid (IH.out xv hxN.1 xcs W (hvx.below hB hwW) hxN.2 (HSH.out.kid hkx) ((HT.out.on (HBW.out.trans hB)).kid hkx))
        have HLEN : Hid ((sndV xv).1.length + 1 ≤ 1000000) := Lib.hid (by have := snd_len _ xv (Nat.le_refl _); omega)
        have HGD : Hid ((sndV xv).2 = 0 → ∀ y ∈ (pre ++ [(⟨(s, xv, xcs), hx⟩ : Kid w.heap.size W0 (.mk k b i f t ty its fs))]).map Kid.sv, (sndV y.2).2 = 0) := Lib.hid (fun h y hy => by
          rw [List.map_append, List.mem_append] at hy
          rcases hy with hy | hy
          · exact hp y hy
          · simp only [List.map_cons, List.map_nil, List.mem_singleton] at hy
            subst hy
            exact h)
        have HST : Hid ((sndV xv).2 ≠ 0 → Stops ((pre ++ [(⟨(s, xv, xcs), hx⟩ : Kid w.heap.size W0 (.mk k b i f t ty its fs))]).map Kid.sv) ∧ bad ((pre ++ [(⟨(s, xv, xcs), hx⟩ : Kid w.heap.size W0 (.mk k b i f t ty its fs))]).map Kid.sv) = (s :: (sndV xv).1, (sndV xv).2)) := Lib.hid (fun h => by
          rw [List.map_append]
          exact stops_at (x := (s, xv)) hp h)
        generalize pre ++ [(⟨(s, xv, xcs), hx⟩ : Kid w.heap.size W0 (.mk k b i f t ty its fs))] = pre' at *
        dsimp only
        clear hx hxN hkx hsz hp
        have cB1 := hx1.cell
        have cB2 := hx2.cell
        have fB1 := hx1.frozen
        have fB2 := hx2.frozen
        obtain ⟨xk, xb, xi, xf, xt, xty, xits, xfs⟩ := xv
        obtain ⟨xp, xc, xq, xd, hcs, _⟩ := hvx
        subst hcs
        obtain ⟨sn, si, sb⟩ := s
        obtain ⟨d0, d1, d2, d3, d4, d5, d6, d7⟩ := (block_of_cells bX).all0
        have hbl1 := hx1.lt
        have hbl2 := hx2.lt
        have hblS : B1 < W.heap.size := (Array.getElem?_eq_some_iff.1 bS).1
        have hblX : B2 < W.heap.size := (Array.getElem?_eq_some_iff.1 bX).1
        have HX1 := Lib.hid hx1
        have HX2 := Lib.hid hx2
        have HBB := Lib.hid hB
        have HPD : Hid (SndP (.mk xk xb xi xf xt xty xits xfs) W = fun e w' => ∃ sv, e = .returned (.tuple #[sv, .int .i64 (sndV (.mk xk xb xi xf xt xty xits xfs)).2]) ∧ (w'.ownsRow W.heap.size 161 3 sv (sndV (.mk xk xb xi xf xt xty xits xfs)).1.length (flatS (sndV (.mk xk xb xi xf xt xty xits xfs)).1) ∧ ((sndV (.mk xk xb xi xf xt xty xits xfs)).2 = 0 → sv = .slice none 0 0)) ∧ Below W.heap.size W w') := Lib.hid rfl
        rw [HPD.out] at HC
        clear HPD hx1 hx2 hB
        generalize (sndV (.mk xk xb xi xf xt xty xits xfs)).1 = L at *
        generalize (sndV (.mk xk xb xi xf xt xty xits xfs)).2 = E2 at *
        by_cases h2 : E2 = 0
        · subst h2
          gi_wp2_with (refine ⟨trivial, ?_⟩; gi_at_call 37; refine (CallsIn.inRound l (callsIn_wide.2 HC.out)).mono ?_; rintro e w3 ⟨sv, rfl, hrow, hb3⟩)
          refine ⟨⟨hb3.size, fun k o _ hk _ => (hb3.block k (Array.getElem?_eq_some_iff.1 hk).1).trans hk⟩, hb3.mono hwW, ⟨⟨HGD.out (by simp), (hb3.block _ hbl1).trans HX1.out⟩, (hb3.block _ hbl2).trans HX2.out⟩, HBB.out.trans (hb3.mono hwW)⟩
        · have h2' : (E2 != 0) = true := by simp [h2]
          have tk := trivial
          gi_wp2_with (first
            | (refine ⟨trivial, ?_⟩; gi_at_call 37; refine (CallsIn.inRound l (callsIn_wide.2 HC.out)).mono ?_; rintro e w3 ⟨sv, rfl, ⟨hrow, _⟩, hb3⟩; have HB3 := Lib.hid hb3; have HROW := Lib.hid hrow; have hs3 := hb3.size; obtain ⟨e0, e1, e2⟩ := step_reads ((hb3.block _ hblS).trans bS); have hblS3 := Nat.lt_of_lt_of_le hblS hs3; obtain ⟨pp, cc, hsv, hp0, hsrc⟩ := row_src (hrow.kept (World.grownBy_alloc w3 (.cells #[.string sn, .int .i64 si, .bool sb] 161) none) (by cases sv.ownBlock <;> simp)); subst hsv; have HP0 := Lib.hid hp0; have HSRC := Lib.hid hsrc; clear hb3 hrow hp0 hsrc)
            | (gi_at_builtin; go_loud (clear tk; refine wpListIn_append_y _ rfl _ _ 55 rfl w.heap.size 161 (.agg #[.string ⟨#[]⟩, .int .i64 0, .bool false]) 3 32 Tryz.underlying55 (by kernel_rfl) rfl (by decide) _ 1 _ rfl (built_row w3 (by omega) ⟨sn, si, sb⟩) pp L.length cc (flatS L) rfl (flatS_len L) HP0.out HSRC.out (flatS_one L) (by have := HLEN.out; unfold maxLen; omega) (by have := HLEN.out; omega) (by simp; omega) ?_; intro v5 w5 hrow5 hgr5; obtain ⟨p5, c5, rfl⟩ := row_slice hrow5; have hx15 := ((show Boxed w3 (w.heap.size + 1) 55 (.slice none 0 0) from (HB3.out.block _ hbl1).trans HX1.out).alloc _).kept hgr5 (fun e => by have h := Option.some.inj (show some (w.heap.size + 1) = some w3.heap.size from e); omega); have hx25 := ((show Boxed w3 (w.heap.size + 1 + 1) 35 (.int .i64 0) from (HB3.out.block _ hbl2).trans HX2.out).alloc _).kept hgr5 (fun e => by have h := Option.some.inj (show some (w.heap.size + 1 + 1) = some w3.heap.size from e); omega); have HX15 := Lib.hid hx15; have HX25 := Lib.hid hx25; have f15 := hx15.frozen; have f25 := hx25.frozen; have k15 := hx15.cell; have k25 := hx25.cell; have HROW5 := Lib.hid hrow5; have HGR5 := Lib.hid hgr5; clear hrow5 hgr5 hx15 hx25)))
          have hkeep : ∀ g o, W.heap[g]? = some o → w5.heap[g]? = some o := fun g o hg => by
            have hlg := (Array.getElem?_eq_some_iff.1 hg).1
            have e1 := HGR5.out.block g (by simp; omega) (fun e => by have h := Option.some.inj (show some g = some w3.heap.size from e); omega)
            have e2 := Below.heap_alloc w3 (.cells #[.string sn, .int .i64 si, .bool sb] 161) g (by omega)
            exact (e1.trans e2).trans ((HB3.out.block g hlg).trans hg)
          have hbw5 : Below w.heap.size W w5 := by
            have hg := HGR5.out
            have b3 := HB3.out
            exact ⟨hg.os.trans b3.os, hg.tape.trans b3.tape, hg.output.trans b3.output, by have := hg.size; simp at this; omega, fun g hg => by
              have hlt : g < W.heap.size := by omega
              have := hkeep g _ (Array.getElem?_eq_getElem hlt)
              rw [this, Array.getElem?_eq_getElem hlt]⟩
          obtain ⟨hst, hbad⟩ := HST.out h2
          have hrow5 : w5.ownsRow w.heap.size 161 3 (.slice p5 (1 + L.length) c5) ((⟨sn, si, sb⟩ : St) :: L).length (flatS (⟨sn, si, sb⟩ :: L)) := by
            rw [List.length_cons, Nat.add_comm L.length 1]
            exact HROW5.out
          have hnr1 : (Value.slice p5 (1 + L.length) c5).ownBlock ≠ some (w.heap.size + 1) := fun e => HX15.out.not_row (by decide) HROW5.out e.symm
          have hnr2 : (Value.slice p5 (1 + L.length) c5).ownBlock ≠ some (w.heap.size + 1 + 1) := fun e => HX25.out.not_row (by decide) HROW5.out e.symm
          have r1 := hrow5.kept (grown_setCell w5 ⟨w.heap.size + 1, 0, none⟩ (.slice p5 (1 + L.length) c5)) (.inr hnr1)
          have r2 := r1.kept (grown_setCell _ ⟨w.heap.size + 1 + 1, 0, none⟩ (.int .i64 E2)) (.inr hnr2)
          have y1 := (HX15.out.set (.slice p5 (1 + L.length) c5)).other (B' := w.heap.size + 1 + 1) (by omega) (.int .i64 E2)
          have y2 := (HX25.out.other (B' := w.heap.size + 1) (by omega) (.slice p5 (1 + L.length) c5)).set (.int .i64 E2)
          have yB := (hbw5.setCell (p := ⟨w.heap.size + 1, 0, none⟩) (by show w.heap.size ≤ w.heap.size + 1; omega) (.slice p5 (1 + L.length) c5)).setCell (p := ⟨w.heap.size + 1 + 1, 0, none⟩) (by show w.heap.size ≤ w.heap.size + 1 + 1; omega) (.int .i64 E2)
          have yK : KeepsFrom W0.heap.size W w5 := ⟨by have := HGR5.out.size; simp at this; omega, fun g o _ hg _ => hkeep g o hg⟩
          refine ⟨(yK.trans ((KeepsOthers.setCell _ _ _).from _)).trans ((KeepsOthers.setCell _ _ _).from _), ⟨⟨⟨rfl, hst⟩, ?_⟩, ?_⟩, HBB.out.trans yB⟩
          · rw [hbad]
            exact ⟨_, y1, r2⟩
          · rw [hbad]
            exact y2
      case done =>
        rintro D xs W hD hS ⟨⟨⟨hp, hx1⟩, hx2⟩, hB⟩ hK
        have hbs := hB.size
        have cB1 := hx1.cell
        have cB2 := hx2.cell
        have fB1 := hx1.frozen
        have fB2 := hx2.frozen
        gi_wp2
        have hK' := (KeepsOthers.setCell (W.setCell ⟨w.heap.size + 1, 0, none⟩ (.slice none 0 0)) ⟨w.heap.size + 1 + 1, 0, none⟩ (.int .i64 0)).same D _ ((KeepsOthers.setCell W ⟨w.heap.size + 1, 0, none⟩ (.slice none 0 0)).same D _ hK rfl) rfl
        have hy1 := (hx1.set (.slice none 0 0)).other (B' := w.heap.size + 1 + 1) (by omega) (.int .i64 0)
        have hy2 := (hx2.other (B' := w.heap.size + 1) (by omega) (.slice none 0 0)).set (.int .i64 0)
        have hyB := (hB.setCell (p := ⟨w.heap.size + 1, 0, none⟩) (by show w.heap.size ≤ w.heap.size + 1; omega) (.slice none 0 0)).setCell (p := ⟨w.heap.size + 1 + 1, 0, none⟩) (by show w.heap.size ≤ w.heap.size + 1 + 1; omega) (.int .i64 0)
        generalize (W.setCell ⟨w.heap.size + 1, 0, none⟩ (.slice none 0 0)).setCell ⟨w.heap.size + 1 + 1, 0, none⟩ (.int .i64 0) = W2 at *
        have hR : sndV (.mk k b i f t ty its fs) = ([], 0) := by rw [HSN.out, ← hS]; exact bad_none hp
        refine ⟨by simp, .inl ⟨_, _, rfl, run_takeDeferred hK', ?_⟩⟩
        have hz2 := Own.putObj (β := Unit) (boxed_own (w.heap.size + 1 + 1) _ (fun _ => .int .i64 0)) (s := ()) (.deferred none) hy2 hK' rfl
        have hz1 := Own.putObj (β := Unit) (boxed_own (w.heap.size + 1) _ (fun _ => .slice none 0 0)) (s := ()) (.deferred none) hy1 hK' rfl
        have d1 := hz1.cell
        have d2 := hz2.cell
        refine ⟨.tuple #[.slice none 0 0, .int .i64 0], ?_, .slice none 0 0, by rw [hR], ⟨by rw [hR]; exact World.ownsRow_nil _ _ _ _, fun _ => rfl⟩, (HBW.out.trans hyB).trans (belowK_b (w := W0) hBW.size W2 D _ _ hD hK' rfl rfl)⟩
        simp [results, Tryz.results37, go_sem, d1, d2]
      case stop =>
        rintro D cc pre W hD hpre ⟨⟨⟨⟨rfl, hst⟩, hrb⟩, hx2⟩, hB⟩ hK
        have hR : bad (pre.map Kid.sv) = sndV (.mk k b i f t ty its fs) := by
          obtain ⟨r, hr⟩ := hpre
          rw [HSN.out, ← hr, hst.2]
        have hne : (sndV (.mk k b i f t ty its fs)).2 ≠ 0 := by rw [← hR]; exact hst.1
        rw [hR] at hrb hx2
        gi_wp2
        refine ⟨by simp, .inl ⟨_, _, rfl, run_takeDeferred hK, ?_⟩⟩
        have hx2' := Own.putObj (β := Unit) (boxed_own (w.heap.size + 1 + 1) _ (fun _ => .int .i64 (sndV (.mk k b i f t ty its fs)).2)) (s := ()) (.deferred none) hx2 hK rfl
        obtain ⟨sv, hb, hrow⟩ := Own.putObj (β := Unit) (rowBox_own w.heap.size (w.heap.size + 1) (fun _ => (sndV (.mk k b i f t ty its fs)).1)) (s := ()) (.deferred none) hrb hK rfl
        have d1 := hb.cell
        have d2 := hx2'.cell
        refine ⟨.tuple #[sv, .int .i64 (sndV (.mk k b i f t ty its fs)).2], ?_, sv, rfl, ⟨hrow, fun h => absurd h hne⟩, (HBW.out.trans hB).trans (belowK_b (w := W0) hBW.size W D _ _ hD hK rfl rfl)⟩
        simp [results, Tryz.results37, go_sem, d1, d2]
    · have h0' : (E != 0) = true := by simp [h0]
      gi_wp2_with fail
      have c1 : Boxed ((w1.setCell ⟨w.heap.size + 1, 0, none⟩ (.slice none 0 0)).setCell ⟨w.heap.size + 1 + 1, 0, none⟩ (.int .i64 E)) (w.heap.size + 1) 55 (.slice none 0 0) := (b1.set _).other (by omega) _
      have c2 : Boxed ((w1.setCell ⟨w.heap.size + 1, 0, none⟩ (.slice none 0 0)).setCell ⟨w.heap.size + 1 + 1, 0, none⟩ (.int .i64 E)) (w.heap.size + 1 + 1) 35 (.int .i64 E) := (b2.other (by omega) _).set _
      have hbw : Below w.heap.size w ((w1.setCell ⟨w.heap.size + 1, 0, none⟩ (.slice none 0 0)).setCell ⟨w.heap.size + 1 + 1, 0, none⟩ (.int .i64 E)) := (HB1.out.setCell (p := ⟨w.heap.size + 1, 0, none⟩) (by show w.heap.size ≤ w.heap.size + 1; omega) _).setCell (p := ⟨w.heap.size + 1 + 1, 0, none⟩) (by show w.heap.size ≤ w.heap.size + 1 + 1; omega) _
      generalize (w1.setCell ⟨w.heap.size + 1, 0, none⟩ (.slice none 0 0)).setCell ⟨w.heap.size + 1 + 1, 0, none⟩ (.int .i64 E) = w2 at *
      have d1 := c1.cell
      have d2 := c2.cell
      have hs : sndV (.mk k b i f t ty its fs) = ([], E) := by rw [sndV_bad, HE.out, if_pos h0]
      refine ⟨.tuple #[.slice none 0 0, .int .i64 E], ?_, .slice none 0 0, by rw [hs], ⟨by rw [hs]; exact World.ownsRow_nil _ _ _ _, fun _ => rfl⟩, hbw⟩
      simp [results, Tryz.results37, go_sem, d1, d2]
end Go.Proofs.YtldjbgklmeigmaaGreatDoor
