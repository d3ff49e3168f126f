/- TreeOrderLaws, walked: Compare is an order, Under is told by the texts. Conditions: none. -/
import Derived.Test.YtnmnmkdmnohbmaaDoorPathText
import Derived.Test.YtnmnmkdmnohbmaaDoorOpenP
namespace Go.Proofs.YtnmnmkdmnohbmaaDoor
open Go.RowKit
attribute [local go_sem] St.cells

theorem nm_le {l : List St} (h : wtP l ≤ 1048576) : ∀ s ∈ l, s.nm.size ≤ maxLen := by
  intro s hs
  have : wtS s ≤ wtP l := by
    induction l with
    | nil => cases hs
    | cons x l ih =>
      rw [wtP_cons] at *
      rcases List.mem_cons.1 hs with rfl | hs
      · omega
      · have := ih (by omega) hs
        omega
  unfold wtS at this
  rw [ba_len] at this
  unfold maxLen
  omega

theorem PathText_w (l : List St) (p : Option Addr) (c : Nat) (w : World) (hs : StepsAt w.heap.size w p l) (hi : ∀ s ∈ l, inI s.ix) (hw : wtP l ≤ 1048576)
    (htab : Lib.TabIs Tryd.prog w "internal/strconv.uint64pow10" .u64 Lib.pow10Tab) :
    Calls Tryd.prog 38 #[.slice p l.length c] w (RetB (.string ⟨(pathT l).toArray⟩) w) :=
  PathText_any l p c w hs (by have := wtP_len l; unfold maxLen; omega) hi (by have := pathT_len hi; omega) (nm_le hw) htab

set_option maxRecDepth 100000 in
set_option maxHeartbeats 4000000 in
theorem TreeOrderLaws_walk (a b d : List St) (p q r : Option Addr) (ca cb cd : Nat) (w : World) (ha : StepsAt w.heap.size w p a) (hb : StepsAt w.heap.size w q b) (hd : StepsAt w.heap.size w r d)
    (lca : a.length ≤ ca) (lcm : ca ≤ maxLen) (ia : ∀ s ∈ a, inI s.ix) (ib : ∀ s ∈ b, inI s.ix) (wa : wtP a ≤ 1048576) (wb : wtP b ≤ 1048576) (wd : wtP d ≤ 1048576)
    (htab : Lib.TabIs Tryd.prog w "internal/strconv.uint64pow10" .u64 Lib.pow10Tab) :
    Calls Tryd.prog 7 #[.slice p a.length ca, .slice q b.length cb, .slice r d.length cd] w (RetB (.bool true) w) := by
  have HT := Lib.hid (Lib.tabBelow_of_tabIs htab)
  have HA := Lib.hid ha
  have HB := Lib.hid hb
  have HD := Lib.hid hd
  have HIA := Lib.hid ia
  have HIB := Lib.hid ib
  have HWA := Lib.hid wa
  have HWB := Lib.hid wb
  have HWD := Lib.hid wd
  have LA := Lib.hid (show a.length ≤ maxLen from by have := wtP_len a; unfold maxLen; omega)
  have LB := Lib.hid (show b.length ≤ maxLen from by have := wtP_len b; unfold maxLen; omega)
  have LD := Lib.hid (show d.length ≤ maxLen from by have := wtP_len d; unfold maxLen; omega)
  have LC1 := Lib.hid lca
  have LC2 := Lib.hid lcm
  have O := Lib.hid cmpP_ord
  have ON : ∀ w', Below w.heap.size w w' → StepsAt w'.heap.size w' p a ∧ StepsAt w'.heap.size w' q b ∧ StepsAt w'.heap.size w' r d := fun w' h => ⟨HA.out.on h, HB.out.on h, HD.out.on h⟩
  have HON := Lib.hid ON
  have UT := Lib.hid (under_text a b)
  have UG := Lib.hid (show underP a b = true → 0 ≤ cmpP a b from under_ge)
  clear ha hb hd ia ib wa wb wd htab lca lcm ON
  obtain ⟨ab, hab⟩ : ∃ x, cmpP a b = x := ⟨_, rfl⟩
  obtain ⟨ba, hba⟩ : ∃ x, cmpP b a = x := ⟨_, rfl⟩
  obtain ⟨bd, hbd⟩ : ∃ x, cmpP b d = x := ⟨_, rfl⟩
  obtain ⟨ad, had⟩ : ∃ x, cmpP a d = x := ⟨_, rfl⟩
  obtain ⟨un, hun⟩ : ∃ x, underP a b = x := ⟨_, rfl⟩
  obtain ⟨ta, hta⟩ : ∃ x : ByteArray, (⟨(pathT a).toArray⟩ : ByteArray) = x := ⟨_, rfl⟩
  obtain ⟨tb, htb⟩ : ∃ x : ByteArray, (⟨(pathT b).toArray⟩ : ByteArray) = x := ⟨_, rfl⟩
  have KAB := Lib.hid hab
  have KBA := Lib.hid hba
  have KBD := Lib.hid hbd
  have KAD := Lib.hid had
  have KUN := Lib.hid hun
  have KTA := Lib.hid hta
  have KTB := Lib.hid htb
  clear hab hba hbd had hun hta htb
  have h1 : -1 ≤ ab ∧ ab ≤ 1 := by have := O.out.rng a b; rw [KAB.out] at this; omega
  obtain ⟨h1, h2⟩ := h1
  have h3 : ba = - ab := by rw [← KBA.out, ← KAB.out]; exact O.out.swap a b
  have h4 : ¬ (ab ≤ 0 ∧ bd ≤ 0 ∧ 0 < ad) := by
    rintro ⟨x, y, z⟩
    rw [← KAB.out] at x
    rw [← KBD.out] at y
    have := O.out.trans a b d x y
    rw [KAD.out] at this
    omega
  have h5 : ab = 0 → ad = bd := by
    intro x
    rw [← KAB.out] at x
    have := O.out.eq_left x d
    rw [KAD.out, KBD.out] at this
    exact this
  have H4 := Lib.hid h4
  have H5 := Lib.hid h5
  clear h4 h5
  subst h3
  go_enter Tryd.func7, Tryd.ntmps7
  obtain ⟨W0, hW0⟩ : ∃ W0, w.alloc (.cells #[.string ⟨#[120]⟩, .int .i64 0, .bool false] 34) = W0 := ⟨_, rfl⟩
  have HB0 : Hid (Below w.heap.size w W0) := Lib.hid (by rw [← hW0]; exact (Below.refl _ _).alloc (Nat.le_refl _) _)
  have S0 : Hid (StepsAt W0.heap.size W0 (some ⟨w.heap.size, 0, none⟩) [⟨⟨#[120]⟩, 0, false⟩]) := Lib.hid (steps_one (by rw [← hW0]; exact heap_new w _))
  go_wp2_with fail
  try rw [hW0]
  clear hW0
  refine (Compare_n [] [⟨⟨#[120]⟩, 0, false⟩] _ _ 0 1 0 1 _ rfl rfl (.inl rfl) S0.out (by decide) (by decide)).mono ?_
  rintro e w1 ⟨rfl, hb1⟩
  have HB1 := Lib.hid (HB0.out.trans (hb1.mono HB0.out.size))
  clear hb1
  have hone : cmpP [] [⟨⟨#[120]⟩, 0, false⟩] = -1 := rfl
  rw [hone]
  clear hone
  go_wp2_with fail
  refine (Compare_n a b _ _ _ _ _ _ _ rfl rfl (HON.out _ HB1.out).1 (HON.out _ HB1.out).2.1 LA.out LB.out).mono ?_
  rintro e w2 ⟨rfl, hb2⟩
  have HB2 := Lib.hid (HB1.out.trans (hb2.mono HB1.out.size))
  clear hb2
  rw [KAB.out]
  go_wp2_with fail
  refine (Compare_n b a _ _ _ _ _ _ _ rfl rfl (HON.out _ HB2.out).2.1 (HON.out _ HB2.out).1 LB.out LA.out).mono ?_
  rintro e w3 ⟨rfl, hb3⟩
  have HB3 := Lib.hid (HB2.out.trans (hb3.mono HB2.out.size))
  clear hb3
  rw [KBA.out]
  go_wp2_with fail
  refine (Compare_n b d _ _ _ _ _ _ _ rfl rfl (HON.out _ HB3.out).2.1 (HON.out _ HB3.out).2.2 LB.out LD.out).mono ?_
  rintro e w4 ⟨rfl, hb4⟩
  have HB4 := Lib.hid (HB3.out.trans (hb4.mono HB3.out.size))
  clear hb4
  rw [KBD.out]
  go_wp2_with fail
  refine (Compare_n a d _ _ _ _ _ _ _ rfl rfl (HON.out _ HB4.out).1 (HON.out _ HB4.out).2.2 LA.out LD.out).mono ?_
  rintro e w5 ⟨rfl, hb5⟩
  have HB5 := Lib.hid (HB4.out.trans (hb5.mono HB4.out.size))
  clear hb5
  rw [KAD.out]
  have HCALL : Hid (∀ w6, Below w.heap.size w w6 → Calls Tryd.prog 37 #[.slice p a.length ca, .slice q b.length cb] w6 (RetB (.bool un) w6)) := Lib.hid (fun w6 h => by
    rw [← KUN.out]
    exact Under_any a b _ _ _ _ _ (HON.out _ h).1 (HON.out _ h).2.1 LC1.out LC2.out LB.out)
  have HPA : Hid (∀ w6, Below w.heap.size w w6 → Calls Tryd.prog 38 #[.slice p a.length ca] w6 (RetB (.string ta) w6)) := Lib.hid (fun w6 h => by
    rw [← KTA.out]
    exact PathText_w a _ _ _ (HON.out _ h).1 HIA.out HWA.out (HT.out _ h))
  have HPB : Hid (∀ w6, Below w.heap.size w w6 → Calls Tryd.prog 38 #[.slice q b.length cb] w6 (RetB (.string tb) w6)) := Lib.hid (fun w6 h => by
    rw [← KTB.out]
    exact PathText_w b _ _ _ (HON.out _ h).2.1 HIB.out HWB.out (HT.out _ h))
  have HEND : Hid (un = ((ta.toList == tb.toList) || Lib.hasPrefix ta.data.toList (tb.data.toList ++ [47]))) := Lib.hid (by
    have e1 : ta.data.toList = pathT a := by rw [← KTA.out]
    have e2 : tb.data.toList = pathT b := by rw [← KTB.out]
    rw [e1, ByteArray.toList_eq, ByteArray.toList_eq, e1, e2, ← KUN.out]
    have h := UT.out
    unfold Lib.hasPrefix
    rw [Bool.eq_iff_iff, h, Bool.or_eq_true, beq_iff_eq, List.isPrefixOf_iff_prefix])
  have hts : ¬ 9223372036854775807 < tb.size + 1 := by
    have e2 : tb.data.toList = pathT b := by rw [← KTB.out]
    have h1 := pathT_len HIB.out
    have h2 := HWB.out
    rw [← e2, ba_len] at h1
    omega
  have HUG : Hid (un = true → 0 ≤ ab) := Lib.hid (fun h => by
    have := UG.out (KUN.out.trans h)
    rw [KAB.out] at this
    exact this)
  have hc : (un = false ∧ ab = -1 ∧ bd ≤ 0 ∧ ad ≤ 0) ∨ (un = false ∧ ab = -1 ∧ 0 < bd) ∨ (ab = 0 ∧ ad = bd ∧ bd ≤ 0) ∨ (ab = 0 ∧ ad = bd ∧ 0 < bd) ∨ ab = 1 := by
    have h4 := H4.out
    have h5 := H5.out
    have h6 := HUG.out
    cases un
    · simp only [true_and]
      omega
    · have := h6 rfl
      simp only [Bool.true_eq_false, false_and, false_or]
      omega
  clear H4 H5 h1 h2 HUG
  rcases hc with ⟨rfl, rfl, k1, k2⟩ | ⟨rfl, rfl, k1⟩ | ⟨rfl, rfl, k1⟩ | ⟨rfl, rfl, k1⟩ | rfl
  all_goals
    go_wp2_with fail
    refine (HCALL.out _ HB5.out).mono ?_
    rintro e w6 ⟨rfl, hb6⟩
    have HB6 := Lib.hid (HB5.out.trans (hb6.mono HB5.out.size))
    clear hb6 HCALL
    try cases un
  all_goals
    go_wp2_with fail
    refine (HPA.out _ HB6.out).mono ?_
    rintro e w7 ⟨rfl, hb7⟩
    have HB7 := Lib.hid (HB6.out.trans (hb7.mono HB6.out.size))
    clear hb7 HPA
    go_wp2_with fail
    refine (HPB.out _ HB7.out).mono ?_
    rintro e w8 ⟨rfl, hb8⟩
    have HB8 := Lib.hid (HB7.out.trans (hb8.mono HB7.out.size))
    clear hb8 HPB
    by_cases he : ta.toList = tb.toList
    · go_wp2_with (go_at_call 39; refine (Tryd.strings_HasPrefix _ _ _).mono ?_; rintro e w9 ⟨rfl, rfl⟩)
      go_ret
      exact ⟨ret_eq (by have h := HEND.out; rw [he, beq_self_eq_true, Bool.true_or] at h; first | (exfalso; exact absurd h (by decide)) | (simp; done)), HB8.out⟩
    · go_wp2_with (go_at_call 39; refine (Tryd.strings_HasPrefix _ _ _).mono ?_; rintro e w9 ⟨rfl, rfl⟩)
      go_ret
      exact ⟨ret_eq (by have h := HEND.out; have he2 : (ta.toList == tb.toList) = false := beq_eq_false_iff_ne.2 he; rw [he2, Bool.false_or] at h; simp only [he2, ← h]; first | rfl | (simp; done)), HB8.out⟩
end Go.Proofs.YtnmnmkdmnohbmaaDoor
