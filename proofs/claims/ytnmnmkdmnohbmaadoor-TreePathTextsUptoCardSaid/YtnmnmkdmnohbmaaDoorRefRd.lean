/- The reference's PathRead. Conditions: none. -/
import Derived.Test.YtnmnmkdmnohbmaaDoorGuess
import Derived.Test.YtnmnmkdmnohbmaaDoorTreePathBack
namespace Go.Proofs.YtnmnmkdmnohbmaaDoor
open Go.RowKit
attribute [local go_sem] St.cells

theorem plainL_len : ∀ l : List UInt8, (plainL l).length ≤ l.length
  | [] => by simp [plainL]
  | [b] => by simp [plainL]
  | b :: c :: r => by
    have h1 := plainL_len r
    have h2 := plainL_len (c :: r)
    unfold plainL
    split
    · split
      · simp only [List.length_cons]; omega
      · split <;> simp only [List.length_cons] <;> omega
    · simp only [List.length_cons] at h2 ⊢
      omega
theorem guess_nm (p : List UInt8) : (guessL p).nm.data.toList.length ≤ p.length := by
  unfold guessL
  split
  · simp
  · exact plainL_len p

theorem seg_at {l a seg rest : List UInt8} {f i : Nat} (h : l = a ++ 47 :: (seg ++ rest)) (hf : f = a.length + 1) (hi : i = f + seg.length) : l.drop i = rest ∧ (l.drop f).take (i - f) = seg ∧ l.length = i + rest.length := by
  have e1 : l = (a ++ [47]) ++ (seg ++ rest) := by rw [h]; simp
  have e2 : l = (a ++ [47] ++ seg) ++ rest := by rw [h]; simp
  have l1 : (a ++ [47]).length = f := by simp [hf]
  have l2 : (a ++ [47] ++ seg).length = i := by rw [List.length_append, l1, hi]
  refine ⟨?_, ?_, ?_⟩
  · rw [e2, ← l2, List.drop_left]
  · rw [e1, ← l1, List.drop_left, hi, ← l1, Nat.add_sub_cancel_left, List.take_left]
  · rw [e2, List.length_append, l2]

/-- Where the reading stands: within a piece, or at the end. -/
def RdAt (s : ByteArray) (d : List St) (f i : Nat) : Prop :=
  (∃ seg rest, s.data.toList = pathT d ++ 47 :: (seg ++ rest) ∧ (∀ c ∈ seg, c ≠ 47) ∧ f = (pathT d).length + 1 ∧ i = f + seg.length) ∨ (pathT d = s.data.toList ∧ i = s.size + 1)

set_option maxRecDepth 100000 in
set_option maxHeartbeats 4000000 in
theorem refPathRead_any (s : ByteArray) (hs : s.size ≤ 16777216) (w : World) (htab : Lib.TabIs Tryd.prog w "internal/strconv.uint64pow10" .u64 Lib.pow10Tab) :
    Calls Tryd.prog 48 #[.string s] w (ReadP s w) := by
  by_cases h0 : s.size = 0
  · obtain rfl := ba_nil h0
    go_enter Tryd.func48, Tryd.ntmps48
    go_wp2
    all_goals go_ret2
    exact ⟨none, [], 0, true, rfl, fun _ => rfl, (fun h => by cases h), .inl rfl, Nat.le_refl _, by decide, Below.refl _ _⟩
  · have h1 : 0 < s.size := by omega
    obtain ⟨r, e⟩ := ba_head h1
    have hne : ¬ s.toList = [] := by rw [ByteArray.toList_eq, e]; simp
    have hie : s.toList.isEmpty = false := by
      cases h : s.toList with
      | nil => exact absurd h hne
      | cons _ _ => rfl
    obtain ⟨b, hb⟩ : ∃ b, s[0] = b := ⟨_, rfl⟩
    rw [hb] at e
    have E := Lib.hid e
    clear e
    by_cases g1 : (b.toNat : Int) = 47
    · have GB : Hid (b = 47) := Lib.hid (byte_num (k := 47) g1 (by omega))
      have HT := Lib.hid (Lib.tabBelow_of_tabIs htab)
      go_enter Tryd.func48, Tryd.ntmps48
      go_wp2
      clear hb hie hne
      go_loopw [4, 5, 6] (fun pv fv iv wr => ∃ f i : Nat, fv = .int .i64 f ∧ iv = .int .i64 i ∧ i ≤ s.size + 1 ∧ f ≤ s.size + 1 ∧ ∃ d : List St, d.length ≤ s.size ∧ Hid (∀ x ∈ d, okSt x) ∧ Hid (wr.ownsRow w.heap.size 34 3 pv d.length (flatS d)) ∧ Hid (Below w.heap.size w wr) ∧ Hid (RdAt s d f i)) (fun _ _ iv _ => s.size + 1 - (intOf iv).toNat)
      case atStart => exact ⟨1, 1, rfl, rfl, by omega, by omega, [], by simp, Lib.hid (fun x hx => by cases hx), Lib.hid (World.ownsRow_nil _ _ _ _), Lib.hid (Below.refl _ _), Lib.hid (.inl ⟨[], r, by rw [E.out, GB.out]; rfl, (fun c hc => by cases hc), rfl, rfl⟩)⟩
      case round =>
        obtain ⟨f, i, rfl, rfl, hi, hf, d, hd, HOK, HR, HBW, HAT⟩ := hrel
        by_cases h2 : i ≤ s.size
        · obtain ⟨seg, rest, hA, hB, hC, hD⟩ : ∃ seg rest, s.data.toList = pathT d ++ 47 :: (seg ++ rest) ∧ (∀ c ∈ seg, c ≠ 47) ∧ f = (pathT d).length + 1 ∧ i = f + seg.length := by
            rcases HAT.out with h | ⟨_, h⟩
            · exact h
            · omega
          obtain ⟨sa, sb, sc⟩ := seg_at hA hC hD
          have SA := Lib.hid sa
          have SB := Lib.hid sb
          have SC := Lib.hid sc
          have HA := Lib.hid hA
          have HSF := Lib.hid hB
          have HC := Lib.hid hC
          have HD := Lib.hid hD
          have hfi : f ≤ i := by omega
          clear hA hB hC hD sa sb sc HAT
          by_cases h3 : i < s.size
          · obtain ⟨x, hx⟩ : ∃ x, s[i] = x := ⟨_, rfl⟩
            have HX := Lib.hid (drop_byte h3 hx)
            by_cases g2 : (x.toNat : Int) = 47
            · have HCUT : Hid (Cut rest ∧ ∀ g, stepT g = seg → RdAt s (d ++ [g]) (i + 1) (i + 1)) := Lib.hid (by
                have e : rest = 47 :: s.data.toList.drop (i + 1) := by rw [← SA.out, HX.out, byte_num (k := 47) g2 (by omega)]; rfl
                refine ⟨.inr ⟨_, e⟩, fun g hg => .inl ⟨[], s.data.toList.drop (i + 1), ?_, (fun c hc => by cases hc), ?_, rfl⟩⟩
                · rw [pathT_snoc, hg, List.append_assoc, List.nil_append, List.cons_append, ← e]
                  exact HA.out
                · have h := HD.out
                  have h4 := HC.out
                  rw [pathT_snoc, hg, List.length_append, List.length_cons]
                  omega)
              obtain ⟨g, hg⟩ : ∃ g, guessL seg = g := ⟨_, rfl⟩
              have hgk := guess_ok seg
              have hgn := guess_nm seg
              have hpd : (s.extract f i).data.toList = seg := by rw [Lib.extract_data]; exact SB.out
              have hsl : seg.length ≤ 16777216 := by have := HD.out; have := HC.out; omega
              have HCG : Hid (∀ w6, Calls Tryd.prog 91 #[.string (s.extract f i)] w6 (RetB (.agg g.cells) w6)) := Lib.hid (fun w6 => by
                have h := guess_any (s.extract f i) (by rw [← ba_len, hpd]; exact hsl) w6
                rw [hpd, hg] at h
                exact h)
              rw [hg] at hgk hgn
              obtain ⟨tx, htx⟩ : ∃ tx : ByteArray, (⟨(stepT g).toArray⟩ : ByteArray) = tx := ⟨_, rfl⟩
              have HTX : Hid (tx.data.toList = stepT g) := Lib.hid (by rw [← htx])
              have HCS : Hid (∀ w6, Below w.heap.size w w6 → Calls Tryd.prog 92 #[.agg g.cells] w6 (RetB (.string tx) w6)) := Lib.hid (fun w6 h => by
                rw [← htx]
                exact stepText_any g w6 hgk.2 (by rw [← ba_len]; omega) (HT.out _ h))
              have HPD := Lib.hid hpd
              have HG := Lib.hid hg
              have HGK := Lib.hid hgk
              have HDL : Hid (d.length + 1 ≤ s.size) := Lib.hid (by
                have h := congrArg List.length HA.out
                have h4 := count_path d
                have h5 := List.count_le_length (a := (47 : UInt8)) (l := pathT d)
                rw [ba_len, List.length_append, List.length_cons] at h
                omega)
              clear hgk hgn hpd hg htx
              obtain ⟨gn, gi, gt⟩ := g
              unfold St.cells at HCG HCS
              dsimp only at HCG HCS
              go_wp2_with fail
              refine (HCG.out _).mono ?_
              rintro e w3 ⟨rfl, hb3⟩
              have HB3 := Lib.hid (HBW.out.trans (hb3.mono HBW.out.size))
              have HB3' := Lib.hid hb3
              clear hb3
              obtain ⟨W5, hW5⟩ : ∃ W5, w3.alloc (.cells #[.string gn, .int .i64 gi, .bool gt] 34) = W5 := ⟨_, rfl⟩
              have hb5 : Below w3.heap.size w3 W5 := by rw [← hW5]; exact (Below.refl _ _).alloc (Nat.le_refl _) _
              have hg5 : W5.heap[w3.heap.size]? = some (.cells (St.mk gn gi gt).cells 34 (0, 0)) := by rw [← hW5]; exact heap_new w3 _
              have hs5 : w3.heap.size < W5.heap.size := by rw [← hW5]; simp
              have HB5 := Lib.hid (HB3.out.trans (hb5.mono HB3.out.size))
              have HB5' := Lib.hid (HB3'.out.trans (hb5.mono HB3'.out.size))
              have HG5 := Lib.hid hg5
              have HS5 := Lib.hid hs5
              have HW5 := Lib.hid hW5
              clear hW5 hb5 hg5 hs5
              go_wp2_with fail
              rw [HW5.out]
              clear HW5
              refine (HCS.out _ HB5.out).mono ?_
              rintro e w4 ⟨rfl, hb4⟩
              have HB4 := Lib.hid (HB5.out.trans (hb4.mono HB5.out.size))
              have HB4' := Lib.hid (HB5'.out.trans (hb4.mono HB5'.out.size))
              have hg4 : w4.heap[w3.heap.size]? = some (.cells (St.mk gn gi gt).cells 34 (0, 0)) := (hb4.block _ HS5.out).trans HG5.out
              have hs4 : w3.heap.size < w4.heap.size := Nat.lt_of_lt_of_le HS5.out hb4.size
              obtain ⟨a0, a1, a2⟩ := step_reads hg4
              dsimp only at a0 a1 a2
              clear hb4 hg4
              by_cases hw : stepT ⟨gn, gi, gt⟩ = seg
              · have hq : tx.toList = (s.extract f i).toList := by rw [ByteArray.toList_eq, ByteArray.toList_eq, HTX.out, HPD.out, hw]
                have hq2 : (tx.toList == (s.extract f i).toList) = true := beq_iff_eq.2 hq
                have HNX := Lib.hid (HCUT.out.2 _ hw)
                clear hw
                go_upto_region 15 with (fail)
                go_step
                iterate 3
                  refine wpList_plain rfl (fun K hK => ?_)
                  go_step
                  refine hK _ _ ?_
                  clear hK K
                obtain ⟨W6, hW6⟩ : ∃ W6, w4.alloc (.cells #[.string gn, .int .i64 gi, .bool gt] 34) = W6 := ⟨_, rfl⟩
                have hb6 : Below w4.heap.size w4 W6 := by rw [← hW6]; exact (Below.refl _ _).alloc (Nat.le_refl _) _
                have hg6 : W6.heap[w4.heap.size]? = some (.cells (St.mk gn gi gt).cells 34 (0, 0)) := by rw [← hW6]; exact heap_new w4 _
                obtain ⟨n0, n1, n2⟩ := step_reads hg6
                dsimp only at n0 n1 n2
                try rw [hW6]
                clear hW6
                have hb16 : Below wr.heap.size wr W6 := HB4'.out.trans (hb6.mono HB4'.out.size)
                refine wpList_plain rfl (fun K hK => ?_)
                have HG3 := HR.out.kept (grown_b hb16 none) (by cases u4.ownBlock <;> simp)
                refine wp_append_1 (P := Tryd.prog) W6 (.tmp 43) (.tmp 45) 29 rfl w.heap.size 34 (.agg #[.string ⟨#[]⟩, .int .i64 0, .bool false]) 3 32 Tryd.underlying29 (by kernel_rfl) rfl (by decide) u4 d.length _ rfl HG3 ⟨w4.heap.size, 0, none⟩ 1 1 [.string gn, .int .i64 gi, .bool gt] rfl (by decide) rfl ?c1 ?c2 ?c3 ?c4 ?c5 ?_
                case c1 =>
                  intro m v hv
                  rw [addr_add1, Nat.zero_add]
                  match m, hv with
                  | 0, hv => cases hv; exact n0
                  | 1, hv => cases hv; exact n1
                  | 2, hv => cases hv; exact n2
                  | m + 3, hv => simp at hv
                case c2 => intro v hv; simp at hv; rcases hv with rfl | rfl | rfl <;> rfl
                case c3 => unfold maxLen; omega
                case c4 => omega
                case c5 => have := HBW.out.size; have := hb16.size; omega
                intro v' w' hrow hgr hv'
                refine hK _ _ ?_
                clear hK K
                have HROW : Hid (w'.ownsRow w.heap.size 34 3 v' (d ++ [St.mk gn gi gt]).length (flatS (d ++ [St.mk gn gi gt]))) := Lib.hid (by
                  have e : flatS (d ++ [St.mk gn gi gt]) = flatS d ++ [.string gn, .int .i64 gi, .bool gt] := by simp [flatS, St.cells]
                  rw [List.length_append, e]
                  exact hrow)
                have HBN : Hid (Below w.heap.size w w') := Lib.hid ((HBW.out.trans (hb16.mono HBW.out.size)).grown hgr (by have := HBW.out.size; have := hb16.size; omega) (fun y hy => (HG3.lt y hy).1))
                clear hrow hgr hv' HG3 hb16 hb6 hg6 n0 n1 n2 a0 a1 a2 hs4 hq hq2
                have hdl := HDL.out
                go_wp2
                go_roundw
                case rel => exact ⟨i + 1, i + 1, by go_num, by go_num, by omega, by omega, d ++ [St.mk gn gi gt], by rw [List.length_append]; exact hdl, Lib.hid (fun y hy => by
                  rcases List.mem_append.1 hy with hy | hy
                  · exact HOK.out y hy
                  · obtain rfl := List.mem_singleton.1 hy; exact HGK.out), HROW, HBN, HNX⟩
                case measure => simp [intOf]; omega
              · have hq : ¬ tx.toList = (s.extract f i).toList := by rw [ByteArray.toList_eq, ByteArray.toList_eq, HTX.out, HPD.out]; exact hw
                have hq2 : (tx.toList == (s.extract f i).toList) = false := beq_eq_false_iff_ne.2 hq
                have HNO : Hid (readL s.data.toList = none) := Lib.hid (readL_refuse HA.out HSF.out HCUT.out.1 (by rw [HG.out]; exact hw))
                clear hw
                go_wp2
                go_ret2
                exact ⟨none, [], 0, false, rfl, (fun h => by cases h), fun _ => ⟨HNO.out, rfl⟩, .inl rfl, Nat.le_refl _, by decide, HB4.out⟩
            · have HN : Hid (RdAt s d f (i + 1)) := Lib.hid (.inl ⟨seg ++ [x], s.data.toList.drop (i + 1), by rw [List.append_assoc, List.singleton_append, ← HX.out, SA.out]; exact HA.out, (fun c hc => by
                rcases List.mem_append.1 hc with hc | hc
                · exact HSF.out c hc
                · obtain rfl := List.mem_singleton.1 hc
                  exact fun e => g2 (by rw [e]; rfl)), HC.out, by have := HD.out; rw [List.length_append]; simp; omega⟩)
              go_wp2
              go_roundw
              case rel => exact ⟨f, i + 1, rfl, by go_num, by omega, by omega, d, hd, HOK, HR, HBW, HN⟩
              case measure => simp [intOf]; omega
          · have HCUT : Hid (Cut rest ∧ ∀ g, stepT g = seg → RdAt s (d ++ [g]) (i + 1) (i + 1)) := Lib.hid (by
              have e : rest = [] := List.eq_nil_of_length_eq_zero (by have := SC.out; rw [ba_len] at this; omega)
              refine ⟨.inl e, fun g hg => .inr ⟨?_, by omega⟩⟩
              have h := HA.out
              rw [e, List.append_nil] at h
              rw [pathT_snoc, hg, h])
            obtain ⟨g, hg⟩ : ∃ g, guessL seg = g := ⟨_, rfl⟩
            have hgk := guess_ok seg
            have hgn := guess_nm seg
            have hpd : (s.extract f i).data.toList = seg := by rw [Lib.extract_data]; exact SB.out
            have hsl : seg.length ≤ 16777216 := by have := HD.out; have := HC.out; omega
            have HCG : Hid (∀ w6, Calls Tryd.prog 91 #[.string (s.extract f i)] w6 (RetB (.agg g.cells) w6)) := Lib.hid (fun w6 => by
              have h := guess_any (s.extract f i) (by rw [← ba_len, hpd]; exact hsl) w6
              rw [hpd, hg] at h
              exact h)
            rw [hg] at hgk hgn
            obtain ⟨tx, htx⟩ : ∃ tx : ByteArray, (⟨(stepT g).toArray⟩ : ByteArray) = tx := ⟨_, rfl⟩
            have HTX : Hid (tx.data.toList = stepT g) := Lib.hid (by rw [← htx])
            have HCS : Hid (∀ w6, Below w.heap.size w w6 → Calls Tryd.prog 92 #[.agg g.cells] w6 (RetB (.string tx) w6)) := Lib.hid (fun w6 h => by
              rw [← htx]
              exact stepText_any g w6 hgk.2 (by rw [← ba_len]; omega) (HT.out _ h))
            have HPD := Lib.hid hpd
            have HG := Lib.hid hg
            have HGK := Lib.hid hgk
            have HDL : Hid (d.length + 1 ≤ s.size) := Lib.hid (by
              have h := congrArg List.length HA.out
              have h4 := count_path d
              have h5 := List.count_le_length (a := (47 : UInt8)) (l := pathT d)
              rw [ba_len, List.length_append, List.length_cons] at h
              omega)
            clear hgk hgn hpd hg htx
            obtain ⟨gn, gi, gt⟩ := g
            unfold St.cells at HCG HCS
            dsimp only at HCG HCS
            go_wp2_with fail
            refine (HCG.out _).mono ?_
            rintro e w3 ⟨rfl, hb3⟩
            have HB3 := Lib.hid (HBW.out.trans (hb3.mono HBW.out.size))
            have HB3' := Lib.hid hb3
            clear hb3
            obtain ⟨W5, hW5⟩ : ∃ W5, w3.alloc (.cells #[.string gn, .int .i64 gi, .bool gt] 34) = W5 := ⟨_, rfl⟩
            have hb5 : Below w3.heap.size w3 W5 := by rw [← hW5]; exact (Below.refl _ _).alloc (Nat.le_refl _) _
            have hg5 : W5.heap[w3.heap.size]? = some (.cells (St.mk gn gi gt).cells 34 (0, 0)) := by rw [← hW5]; exact heap_new w3 _
            have hs5 : w3.heap.size < W5.heap.size := by rw [← hW5]; simp
            have HB5 := Lib.hid (HB3.out.trans (hb5.mono HB3.out.size))
            have HB5' := Lib.hid (HB3'.out.trans (hb5.mono HB3'.out.size))
            have HG5 := Lib.hid hg5
            have HS5 := Lib.hid hs5
            have HW5 := Lib.hid hW5
            clear hW5 hb5 hg5 hs5
            go_wp2_with fail
            rw [HW5.out]
            clear HW5
            refine (HCS.out _ HB5.out).mono ?_
            rintro e w4 ⟨rfl, hb4⟩
            have HB4 := Lib.hid (HB5.out.trans (hb4.mono HB5.out.size))
            have HB4' := Lib.hid (HB5'.out.trans (hb4.mono HB5'.out.size))
            have hg4 : w4.heap[w3.heap.size]? = some (.cells (St.mk gn gi gt).cells 34 (0, 0)) := (hb4.block _ HS5.out).trans HG5.out
            have hs4 : w3.heap.size < w4.heap.size := Nat.lt_of_lt_of_le HS5.out hb4.size
            obtain ⟨a0, a1, a2⟩ := step_reads hg4
            dsimp only at a0 a1 a2
            clear hb4 hg4
            by_cases hw : stepT ⟨gn, gi, gt⟩ = seg
            · have hq : tx.toList = (s.extract f i).toList := by rw [ByteArray.toList_eq, ByteArray.toList_eq, HTX.out, HPD.out, hw]
              have hq2 : (tx.toList == (s.extract f i).toList) = true := beq_iff_eq.2 hq
              have HNX := Lib.hid (HCUT.out.2 _ hw)
              clear hw
              go_upto_region 15 with (fail)
              go_step
              iterate 3
                refine wpList_plain rfl (fun K hK => ?_)
                go_step
                refine hK _ _ ?_
                clear hK K
              obtain ⟨W6, hW6⟩ : ∃ W6, w4.alloc (.cells #[.string gn, .int .i64 gi, .bool gt] 34) = W6 := ⟨_, rfl⟩
              have hb6 : Below w4.heap.size w4 W6 := by rw [← hW6]; exact (Below.refl _ _).alloc (Nat.le_refl _) _
              have hg6 : W6.heap[w4.heap.size]? = some (.cells (St.mk gn gi gt).cells 34 (0, 0)) := by rw [← hW6]; exact heap_new w4 _
              obtain ⟨n0, n1, n2⟩ := step_reads hg6
              dsimp only at n0 n1 n2
              try rw [hW6]
              clear hW6
              have hb16 : Below wr.heap.size wr W6 := HB4'.out.trans (hb6.mono HB4'.out.size)
              refine wpList_plain rfl (fun K hK => ?_)
              have HG3 := HR.out.kept (grown_b hb16 none) (by cases u4.ownBlock <;> simp)
              refine wp_append_1 (P := Tryd.prog) W6 (.tmp 43) (.tmp 45) 29 rfl w.heap.size 34 (.agg #[.string ⟨#[]⟩, .int .i64 0, .bool false]) 3 32 Tryd.underlying29 (by kernel_rfl) rfl (by decide) u4 d.length _ rfl HG3 ⟨w4.heap.size, 0, none⟩ 1 1 [.string gn, .int .i64 gi, .bool gt] rfl (by decide) rfl ?c1 ?c2 ?c3 ?c4 ?c5 ?_
              case c1 =>
                intro m v hv
                rw [addr_add1, Nat.zero_add]
                match m, hv with
                | 0, hv => cases hv; exact n0
                | 1, hv => cases hv; exact n1
                | 2, hv => cases hv; exact n2
                | m + 3, hv => simp at hv
              case c2 => intro v hv; simp at hv; rcases hv with rfl | rfl | rfl <;> rfl
              case c3 => unfold maxLen; omega
              case c4 => omega
              case c5 => have := HBW.out.size; have := hb16.size; omega
              intro v' w' hrow hgr hv'
              refine hK _ _ ?_
              clear hK K
              have HROW : Hid (w'.ownsRow w.heap.size 34 3 v' (d ++ [St.mk gn gi gt]).length (flatS (d ++ [St.mk gn gi gt]))) := Lib.hid (by
                have e : flatS (d ++ [St.mk gn gi gt]) = flatS d ++ [.string gn, .int .i64 gi, .bool gt] := by simp [flatS, St.cells]
                rw [List.length_append, e]
                exact hrow)
              have HBN : Hid (Below w.heap.size w w') := Lib.hid ((HBW.out.trans (hb16.mono HBW.out.size)).grown hgr (by have := HBW.out.size; have := hb16.size; omega) (fun y hy => (HG3.lt y hy).1))
              clear hrow hgr hv' HG3 hb16 hb6 hg6 n0 n1 n2 a0 a1 a2 hs4 hq hq2
              have hdl := HDL.out
              go_wp2
              go_roundw
              case rel => exact ⟨i + 1, i + 1, by go_num, by go_num, by omega, by omega, d ++ [St.mk gn gi gt], by rw [List.length_append]; exact hdl, Lib.hid (fun y hy => by
                rcases List.mem_append.1 hy with hy | hy
                · exact HOK.out y hy
                · obtain rfl := List.mem_singleton.1 hy; exact HGK.out), HROW, HBN, HNX⟩
              case measure => simp [intOf]; omega
            · have hq : ¬ tx.toList = (s.extract f i).toList := by rw [ByteArray.toList_eq, ByteArray.toList_eq, HTX.out, HPD.out]; exact hw
              have hq2 : (tx.toList == (s.extract f i).toList) = false := beq_eq_false_iff_ne.2 hq
              have HNO : Hid (readL s.data.toList = none) := Lib.hid (readL_refuse HA.out HSF.out HCUT.out.1 (by rw [HG.out]; exact hw))
              clear hw
              go_wp2
              go_ret2
              exact ⟨none, [], 0, false, rfl, (fun h => by cases h), fun _ => ⟨HNO.out, rfl⟩, .inl rfl, Nat.le_refl _, by decide, HB4.out⟩
        · have HY : Hid (readL s.data.toList = some d) := Lib.hid (by
            rcases HAT.out with ⟨seg, rest, hA, _, hC, hD⟩ | ⟨h, _⟩
            · obtain ⟨_, _, sc⟩ := seg_at hA hC hD
              rw [ba_len] at sc
              omega
            · exact readL_iff.2 ⟨h, HOK.out⟩)
          obtain ⟨p, c, rfl, hpc, hcm, hst⟩ := row_steps HR.out
          have HST := Lib.hid hst
          have HPC := Lib.hid hpc
          have HCM := Lib.hid hcm
          clear hst hpc hcm
          go_wp2
          go_ret2
          exact ⟨p, d, c, true, rfl, fun _ => HY.out, (fun h => by cases h), HST.out, HPC.out, HCM.out, HBW.out⟩
    · have g1' : ((b.toNat : Int) != 47) = true := by simp [g1]
      have HN : Hid (readL s.data.toList = none) := Lib.hid (readL_head E.out (fun e => g1 (by rw [e]; rfl)))
      go_enter Tryd.func48, Tryd.ntmps48
      go_wp2
      all_goals go_ret2
      exact ⟨none, [], 0, false, rfl, (fun h => by cases h), fun _ => ⟨HN.out, rfl⟩, .inl rfl, Nat.le_refl _, by decide, Below.refl _ _⟩
end Go.Proofs.YtnmnmkdmnohbmaaDoor
