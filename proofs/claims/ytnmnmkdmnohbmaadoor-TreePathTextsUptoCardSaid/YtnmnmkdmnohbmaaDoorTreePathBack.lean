/- TreePathBack, walked: there and back. Conditions: none. -/
import Derived.Test.YtnmnmkdmnohbmaaDoorCleanD
import Derived.Test.YtnmnmkdmnohbmaaDoorSameD
import Derived.Test.YtnmnmkdmnohbmaaDoorTreeOrderLaws
namespace Go.Proofs.YtnmnmkdmnohbmaaDoor
open Go.RowKit
attribute [local go_sem] St.cells

theorem bare_ok {s : St} (h : inI s.ix) : okSt (bareS s) := by
  obtain ⟨n, i, t⟩ := s
  cases t
  · exact ⟨rfl, by show (-9223372036854775808 : Int) ≤ 0; decide, by show (0 : Int) ≤ 9223372036854775807; decide⟩
  · exact ⟨rfl, h⟩
theorem bares_ok {l : List St} (h : ∀ s ∈ l, inI s.ix) : ∀ s ∈ l.map bareS, okSt s := by
  intro s hs
  obtain ⟨x, hx, rfl⟩ := List.mem_map.1 hs
  exact bare_ok (h x hx)
theorem read_back {l : List St} (h : ∀ s ∈ l, inI s.ix) : readL (pathT l) = some (l.map bareS) := by
  rw [← pathT_bare]
  exact readL_path (bares_ok h)
theorem text_same {a b : List St} (ha : ∀ s ∈ a, inI s.ix) (hb : ∀ s ∈ b, inI s.ix) : pathT b = pathT a ↔ cmpP a b = 0 := by
  rw [cmpP_zero]
  constructor
  · intro h
    exact ok_inj (bares_ok ha) (bares_ok hb) (by rw [pathT_bare, pathT_bare, h])
  · intro h
    rw [← pathT_bare a, ← pathT_bare b, h]
theorem count_none {l : List UInt8} (h : ∀ c ∈ l, c ≠ 47) : l.count 47 = 0 := List.count_eq_zero.2 (fun hm => h 47 hm rfl)
theorem count_path : ∀ l : List St, (pathT l).count 47 = l.length
  | [] => rfl
  | s :: l => by
    have e : pathT (s :: l) = 47 :: stepT s ++ pathT l := rfl
    rw [e, List.cons_append, List.count_cons_self, List.count_append, count_none (stepT_slash s), count_path l]
    simp
theorem esc_ge (l : List UInt8) : l.length ≤ (l.flatMap escB).length := by
  induction l with
  | nil => simp
  | cons b l ih =>
    have : 1 ≤ (escB b).length := by
      rcases escB_cases b with ⟨_, e⟩ | ⟨_, e⟩ | ⟨_, _, e⟩ <;> rw [e] <;> simp
    simp only [List.flatMap_cons, List.length_append, List.length_cons]
    omega
theorem nm_room {l : List St} (h : ∀ s ∈ l, okSt s) : ∀ s ∈ l, s.nm.data.toList.length ≤ (pathT l).length := by
  intro s hs
  have h1 : s.nm.data.toList.length ≤ (stepT s).length := by
    have hb := (h s hs).1
    obtain ⟨n, i, t⟩ := s
    cases t
    · have := esc_ge n.data.toList
      show _ ≤ (nameT n.data.toList).length
      unfold nameT
      rw [List.length_append]
      dsimp only
      omega
    · have : n = ByteArray.empty := by simp [bareS] at hb; exact hb.symm
      subst this
      simp
  have h2 : (stepT s).length ≤ (pathT l).length := by
    clear h1 h
    induction l with
    | nil => cases hs
    | cons x l ih =>
      have e : pathT (x :: l) = 47 :: stepT x ++ pathT l := rfl
      rw [e, List.cons_append, List.length_cons, List.length_append]
      rcases List.mem_cons.1 hs with rfl | hs
      · omega
      · have := ih hs; omega
  omega

/-- The text of what was read. -/
theorem PathText_r (l : List St) (s : ByteArray) (hr : readL s.data.toList = some l) (hs : s.size ≤ 16777216) (p : Option Addr) (c : Nat) (w : World) (hst : StepsAt w.heap.size w p l)
    (htab : Lib.TabIs Tryd.prog w "internal/strconv.uint64pow10" .u64 Lib.pow10Tab) : Calls Tryd.prog 38 #[.slice p l.length c] w (RetB (.string s) w) := by
  obtain ⟨h1, h2⟩ := readL_iff.1 hr
  have h3 : (pathT l).length ≤ 16777216 := by rw [h1, ba_len]; exact hs
  have h4 : l.length ≤ (pathT l).length := by have := count_path l; have := List.count_le_length (a := (47 : UInt8)) (l := pathT l); omega
  have := PathText_any l p c w hst (by unfold maxLen; omega) (fun x hx => (h2 x hx).2) (by omega) (fun x hx => by have := nm_room h2 x hx; rw [ba_len] at this; unfold maxLen; omega) htab
  have e : (⟨(pathT l).toArray⟩ : ByteArray) = s := by rw [h1]
  rw [e] at this
  exact this

set_option maxRecDepth 100000 in
set_option maxHeartbeats 4000000 in
theorem TreePathBack_walk (a b : List St) (s : ByteArray) (p q : Option Addr) (ca cb : Nat) (w : World) (ha : StepsAt w.heap.size w p a) (hb : StepsAt w.heap.size w q b)
    (ia : ∀ s ∈ a, inI s.ix) (ib : ∀ s ∈ b, inI s.ix) (wa : wtP a ≤ 1048576) (wb : wtP b ≤ 1048576) (hs : s.size ≤ 1048576) (hw : RdW w) :
    Calls Tryd.prog 10 #[.slice p a.length ca, .slice q b.length cb, .string s] w (RetB (.bool true) w) := by
  have HON : Hid (∀ w', Below w.heap.size w w' → StepsAt w'.heap.size w' p a ∧ StepsAt w'.heap.size w' q b ∧ RdW w') := Lib.hid (fun w' h => ⟨ha.on h, hb.on h, hw.on h⟩)
  have la : a.length ≤ 1048576 := by have := wtP_len a; omega
  have lb : b.length ≤ 1048576 := by have := wtP_len b; omega
  have hta : (pathT a).length ≤ 16777216 := by have := pathT_len ia; omega
  obtain ⟨ta, hta2⟩ : ∃ x : ByteArray, (⟨(pathT a).toArray⟩ : ByteArray) = x := ⟨_, rfl⟩
  obtain ⟨tb, htb2⟩ : ∃ x : ByteArray, (⟨(pathT b).toArray⟩ : ByteArray) = x := ⟨_, rfl⟩
  have KTA : Hid (ta.data.toList = pathT a) := Lib.hid (by rw [← hta2])
  have KTB : Hid (tb.data.toList = pathT b) := Lib.hid (by rw [← htb2])
  have hts : ta.size ≤ 16777216 := by rw [← ba_len, KTA.out]; exact hta
  have HPA : Hid (∀ w6, Below w.heap.size w w6 → Calls Tryd.prog 38 #[.slice p a.length ca] w6 (RetB (.string ta) w6)) := Lib.hid (fun w6 h => by
    rw [← hta2]
    exact PathText_w a _ _ _ (HON.out _ h).1 ia wa (HON.out _ h).2.2.tab)
  have HPB : Hid (∀ w6, Below w.heap.size w w6 → Calls Tryd.prog 38 #[.slice q b.length cb] w6 (RetB (.string tb) w6)) := Lib.hid (fun w6 h => by
    rw [← htb2]
    exact PathText_w b _ _ _ (HON.out _ h).2.1 ib wb (HON.out _ h).2.2.tab)
  have HR1 : Hid (∀ w6, Below w.heap.size w w6 → Calls Tryd.prog 47 #[.string ta] w6 (ReadP ta w6)) := Lib.hid (fun w6 h => PathRead_any ta hts w6 (HON.out _ h).2.2)
  have HR2 : Hid (∀ w6, Below w.heap.size w w6 → Calls Tryd.prog 47 #[.string s] w6 (ReadP s w6)) := Lib.hid (fun w6 h => PathRead_any s (by omega) w6 (HON.out _ h).2.2)
  have HCL : Hid (∀ w6, Below w.heap.size w w6 → Calls Tryd.prog 50 #[.slice p a.length ca] w6 (fun e w' => ∃ p' c', e = .returned (.slice p' (a.map bareS).length c') ∧ StepsAt w'.heap.size w' p' (a.map bareS) ∧ Below w6.heap.size w6 w')) := Lib.hid (fun w6 h => clean_any a _ _ _ (HON.out _ h).1 (by omega))
  have HCM : Hid (∀ w6, Below w.heap.size w w6 → Calls Tryd.prog 36 #[.slice p a.length ca, .slice q b.length cb] w6 (RetB (.int .i64 (cmpP a b)) w6)) := Lib.hid (fun w6 h => Compare_any a b _ _ _ _ _ (HON.out _ h).1 (HON.out _ h).2.1 (by unfold maxLen; omega) (by unfold maxLen; omega))
  have HBACK : Hid (readL ta.data.toList = some (a.map bareS)) := Lib.hid (by rw [KTA.out]; exact read_back ia)
  have HTS : Hid (tb.toList = ta.toList ↔ cmpP a b = 0) := Lib.hid (by rw [ByteArray.toList_eq, ByteArray.toList_eq, KTA.out, KTB.out]; exact text_same ia ib)
  have HCNT : Hid (Lib.countByte ta.data.toList 47 = a.length) := Lib.hid (by rw [KTA.out]; exact count_path a)
  have HLM : Hid ((a.map bareS).length = a.length) := Lib.hid (by simp)
  clear ha hb ia ib wa wb hw hta hta2 htb2
  obtain ⟨r, hr⟩ : ∃ r, cmpP a b = r := ⟨_, rfl⟩
  rw [hr] at HCM HTS
  clear hr
  go_enter Tryd.func10, Tryd.ntmps10
  go_wp2_with fail
  refine (HPA.out _ (Below.refl _ _)).mono ?_
  rintro e w1 ⟨rfl, hb1⟩
  have HB1 := Lib.hid hb1
  clear hb1
  go_wp2_with fail
  refine (HR1.out _ HB1.out).mono ?_
  rintro e w2 ⟨p2, l2, c2, ok2, rfl, hy, hn, hst, hl2, hc2, hb2⟩
  have HB2 := Lib.hid (HB1.out.trans (hb2.mono HB1.out.size))
  obtain rfl : ok2 = true := by
    cases ok2 with
    | true => rfl
    | false => have := (hn rfl).1; rw [HBACK.out] at this; cases this
  obtain rfl : l2 = a.map bareS := by have := hy rfl; rw [HBACK.out] at this; exact (Option.some.inj this).symm
  have HST2 := Lib.hid hst
  clear hy hn hst hb2 hl2 hc2
  go_wp2_with fail
  refine (HCL.out _ HB2.out).mono ?_
  rintro e w3 ⟨p3, c3, rfl, hst3, hb3⟩
  have HB3 := Lib.hid (HB2.out.trans (hb3.mono HB2.out.size))
  have HST3 := Lib.hid hst3
  have HC3 := Lib.hid (SameSteps_d (a.map bareS) (a.map bareS) p2 p3 c2 c3 w3 (HST2.out.on hb3) hst3 (by rw [HLM.out]; omega) (by rw [HLM.out]; omega))
  clear hst3 hb3
  rw [HLM.out] at HC3
  go_wp2_with fail
  refine HC3.out.mono ?_
  rintro e w4 ⟨rb, rfl, hrb, hb4⟩
  obtain rfl : rb = true := hrb.2 (by first | rfl | trivial)
  have HB4 := Lib.hid (HB3.out.trans (hb4.mono HB3.out.size))
  clear hrb hb4
  go_wp2_with (go_at_call 51; refine (Tryd.strings_Count_one ta 47 _).mono ?_; rintro e w5 ⟨rfl, hw5⟩; rw [hw5]; clear hw5; rw [HCNT.out])
  refine (HR2.out _ HB4.out).mono ?_
  rintro e w6 ⟨p6, l6, c6, ok6, rfl, hy, hn, hst6, _, _, hb6⟩
  have HB6 := Lib.hid (HB4.out.trans (hb6.mono HB4.out.size))
  cases ok6
  · clear hy hn hst6 hb6
    go_wp2_with fail
    refine (HPB.out _ HB6.out).mono ?_
    rintro e w8 ⟨rfl, hb8⟩
    have HB8 := Lib.hid (HB6.out.trans (hb8.mono HB6.out.size))
    clear hb8
    go_wp2_with (go_at_call 36; refine (HCM.out _ HB8.out).mono ?_; rintro e w9 ⟨rfl, hb9⟩; have HB9 := Lib.hid (HB8.out.trans (hb9.mono HB8.out.size)); clear hb9)
    go_ret
    exact ⟨ret_eq (by
      have e1 : (tb.toList == ta.toList) = (r == 0) := by
        rw [Bool.eq_iff_iff, beq_iff_eq, beq_iff_eq]
        exact HTS.out
      simp [e1]), HB9.out⟩
  · have HC7 := Lib.hid (PathText_r l6 s (hy rfl) (by omega) p6 c6 w6 hst6 (HON.out _ HB6.out).2.2.tab)
    clear hy hn hst6 hb6
    go_wp2_with fail
    refine HC7.out.mono ?_
    rintro e w7 ⟨rfl, hb7⟩
    have HB7 := Lib.hid (HB6.out.trans (hb7.mono HB6.out.size))
    clear hb7
    go_wp2_with fail
    refine (HPB.out _ HB7.out).mono ?_
    rintro e w8 ⟨rfl, hb8⟩
    have HB8 := Lib.hid (HB7.out.trans (hb8.mono HB7.out.size))
    clear hb8
    go_wp2_with (go_at_call 36; refine (HCM.out _ HB8.out).mono ?_; rintro e w9 ⟨rfl, hb9⟩; have HB9 := Lib.hid (HB8.out.trans (hb9.mono HB8.out.size)); clear hb9)
    go_ret
    exact ⟨ret_eq (by
      have e1 : (tb.toList == ta.toList) = (r == 0) := by
        rw [Bool.eq_iff_iff, beq_iff_eq, beq_iff_eq]
        exact HTS.out
      simp [e1]), HB9.out⟩
end Go.Proofs.YtnmnmkdmnohbmaaDoor
