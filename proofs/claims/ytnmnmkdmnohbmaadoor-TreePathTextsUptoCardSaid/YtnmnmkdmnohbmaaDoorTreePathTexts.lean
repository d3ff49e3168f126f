/- TreePathTexts, walked: PathText of every path, PathRead of every text. Conditions: none. -/
import Derived.Test.YtnmnmkdmnohbmaaDoorRefRd
namespace Go.Proofs.YtnmnmkdmnohbmaaDoor
open Go.RowKit
attribute [local go_sem] St.cells

theorem wt_mem : ∀ {l : List St} {x : St}, x ∈ l → wtS x ≤ wtP l
  | [], _, h => by cases h
  | y :: l, x, h => by
    rw [wtP_cons]
    rcases List.mem_cons.1 h with rfl | h
    · omega
    · have := wt_mem h; omega

def threeP : List St := [⟨⟨#[48]⟩, 0, false⟩, ⟨⟨#[]⟩, 0, true⟩, ⟨⟨#[126, 47]⟩, 0, false⟩]
theorem three_text : pathT threeP = [47, 126, 50, 48, 47, 48, 47, 126, 48, 126, 49] := by
  have e : Lib.itoa 0 = [48] := by
    unfold Lib.itoa
    rw [if_neg (by decide)]
    show Lib.decDigits 0 = _
    rw [Lib.decDigits, dif_pos (by omega)]
    rfl
  have e2 : stepT ⟨⟨#[]⟩, 0, true⟩ = [48] := e
  show 47 :: stepT ⟨⟨#[48]⟩, 0, false⟩ ++ (47 :: stepT ⟨⟨#[]⟩, 0, true⟩ ++ (47 :: stepT ⟨⟨#[126, 47]⟩, 0, false⟩ ++ [])) = _
  rw [e2]
  rfl
theorem steps_three {w : World} {g : Nat} {e : TypeId} {f : Nat × Nat} (h : w.heap[g]? = some (.cells #[.string ⟨#[48]⟩, .int .i64 0, .bool false, .string ⟨#[]⟩, .int .i64 0, .bool true, .string ⟨#[126, 47]⟩, .int .i64 0, .bool false] e f)) : StepsAt w.heap.size w (some ⟨g, 0, none⟩) threeP := by
  refine .inr ⟨g, 0, rfl, (Array.getElem?_eq_some_iff.1 h).1, fun i t ht => ?_⟩
  match i, ht with
  | 0, ht => cases ht; exact ⟨by simp [World.cell?, h], by simp [World.cell?, h], by simp [World.cell?, h]⟩
  | 1, ht => cases ht; exact ⟨by simp [World.cell?, h], by simp [World.cell?, h], by simp [World.cell?, h]⟩
  | 2, ht => cases ht; exact ⟨by simp [World.cell?, h], by simp [World.cell?, h], by simp [World.cell?, h]⟩
  | i + 3, ht => simp [threeP] at ht

set_option maxRecDepth 100000 in
set_option maxHeartbeats 4000000 in
theorem TreePathTexts_walk (a : List St) (s : ByteArray) (p : Option Addr) (ca : Nat) (w : World) (ha : StepsAt w.heap.size w p a) (ia : ∀ s ∈ a, inI s.ix) (wa : wtP a ≤ 1048576) (hs : s.size ≤ 1048576) (hw : RdW w) :
    Calls Tryd.prog 9 #[.slice p a.length ca, .string s] w (RetB (.bool true) w) := by
  have HON : Hid (∀ w', Below w.heap.size w w' → StepsAt w'.heap.size w' p a ∧ RdW w') := Lib.hid (fun w' h => ⟨ha.on h, hw.on h⟩)
  have la : a.length ≤ 1048576 := by have := wtP_len a; omega
  have hta : (pathT a).length ≤ 16777216 := by have := pathT_len ia; omega
  obtain ⟨ta, hta2⟩ : ∃ x : ByteArray, (⟨(pathT a).toArray⟩ : ByteArray) = x := ⟨_, rfl⟩
  have HPA : Hid (∀ w6, Below w.heap.size w w6 → Calls Tryd.prog 38 #[.slice p a.length ca] w6 (RetB (.string ta) w6)) := Lib.hid (fun w6 h => by
    rw [← hta2]
    exact PathText_w a _ _ _ (HON.out _ h).1 ia wa (HON.out _ h).2.tab)
  have HPB : Hid (∀ w6, Below w.heap.size w w6 → Calls Tryd.prog 49 #[.slice p a.length ca] w6 (RetB (.string ta) w6)) := Lib.hid (fun w6 h => by
    rw [← hta2]
    exact refPathText_any a _ _ _ (HON.out _ h).1 (by omega) ia hta (fun x hx => by
      have h1 := wt_mem hx
      unfold wtS at h1
      rw [ba_len] at h1
      omega) (HON.out _ h).2.tab)
  have HR1 : Hid (∀ w6, Below w.heap.size w w6 → Calls Tryd.prog 47 #[.string s] w6 (ReadP s w6)) := Lib.hid (fun w6 h => PathRead_any s (by omega) w6 (HON.out _ h).2)
  have HR2 : Hid (∀ w6, Below w.heap.size w w6 → Calls Tryd.prog 48 #[.string s] w6 (ReadP s w6)) := Lib.hid (fun w6 h => refPathRead_any s (by omega) w6 (HON.out _ h).2.tab)
  clear ha ia wa hta hta2
  obtain ⟨W0, hW0⟩ : ∃ W0, w.alloc (.cells #[.string ⟨#[48]⟩, .int .i64 0, .bool false, .string ⟨#[]⟩, .int .i64 0, .bool true, .string ⟨#[126, 47]⟩, .int .i64 0, .bool false] 34) = W0 := ⟨_, rfl⟩
  have HB0 : Hid (Below w.heap.size w W0) := Lib.hid (by rw [← hW0]; exact (Below.refl _ _).alloc (Nat.le_refl _) _)
  have S0 : Hid (StepsAt W0.heap.size W0 (some ⟨w.heap.size, 0, none⟩) threeP) := Lib.hid (steps_three (by rw [← hW0]; exact heap_new w _))
  have HW0 := Lib.hid hW0
  clear hW0
  go_enter Tryd.func9, Tryd.ntmps9
  go_wp2_with fail
  rw [HW0.out]
  clear HW0
  refine (PathText_any threeP _ 3 W0 S0.out (by decide) (by intro x hx; simp only [threeP, List.mem_cons, List.not_mem_nil, or_false] at hx; rcases hx with rfl | rfl | rfl <;> decide) (by rw [three_text]; decide) (by intro x hx; simp only [threeP, List.mem_cons, List.not_mem_nil, or_false] at hx; rcases hx with rfl | rfl | rfl <;> decide) (HON.out _ HB0.out).2.tab).mono ?_
  rintro e w1 ⟨rfl, hb1⟩
  have HB1 := Lib.hid (HB0.out.trans (hb1.mono HB0.out.size))
  clear hb1
  rw [three_text]
  go_wp2_with fail
  refine (HR1.out _ HB1.out).mono ?_
  rintro e w2 ⟨p2, l2, c2, ok2, rfl, hy2, hn2, hst2, _, _, hb2⟩
  have HB2 := Lib.hid (HB1.out.trans (hb2.mono HB1.out.size))
  clear hb2
  go_wp2_with fail
  refine (HR2.out _ HB2.out).mono ?_
  rintro e w3 ⟨p3, l3, c3, ok3, rfl, hy3, hn3, hst3, _, _, hb3⟩
  have HB3 := Lib.hid (HB2.out.trans (hb3.mono HB2.out.size))
  have hst2 := hst2.on hb3
  obtain ⟨rfl, rfl⟩ : ok3 = ok2 ∧ l3 = l2 := by
    cases ok2 <;> cases ok3
    · exact ⟨rfl, by rw [(hn2 rfl).2, (hn3 rfl).2]⟩
    · have h := hy3 rfl; rw [(hn2 rfl).1] at h; cases h
    · have h := hy2 rfl; rw [(hn3 rfl).1] at h; cases h
    · have h := hy2 rfl; rw [hy3 rfl] at h; exact ⟨rfl, Option.some.inj h⟩
  have hl : l3.length ≤ 4194304 := by
    cases ok3
    · rw [(hn3 rfl).2]; decide
    · have h := (readL_iff.1 (hy3 rfl)).1
      have h4 := count_path l3
      have h5 := List.count_le_length (a := (47 : UInt8)) (l := pathT l3)
      rw [h, ba_len] at h5
      rw [h] at h4
      omega
  have HSS : Hid (∀ w6, Below w3.heap.size w3 w6 → Calls Tryd.prog 15 #[.slice p2 l3.length c2, .slice p3 l3.length c3] w6 (RetB (.bool true) w6)) := Lib.hid (fun w6 h => by
    refine (SameSteps_d l3 l3 p2 p3 c2 c3 w6 (hst2.on h) (hst3.on h) hl hl).mono ?_
    rintro e w' ⟨r, rfl, hr, hb⟩
    obtain rfl : r = true := hr.2 (by first | rfl | trivial)
    exact ⟨rfl, hb⟩)
  clear hy2 hn2 hst2 hy3 hn3 hst3 hb3 hl
  go_wp2_with fail
  refine (HPA.out _ HB3.out).mono ?_
  rintro e w4 ⟨rfl, hb4⟩
  have HB4 := Lib.hid (HB3.out.trans (hb4.mono HB3.out.size))
  have HC4 := Lib.hid hb4
  clear hb4
  go_wp2_with fail
  refine (HPB.out _ HB4.out).mono ?_
  rintro e w5 ⟨rfl, hb5⟩
  have HB5 := Lib.hid (HB4.out.trans (hb5.mono HB4.out.size))
  have HC5 := Lib.hid (HC4.out.trans (hb5.mono HC4.out.size))
  clear hb5
  go_wp2_with (go_at_call 15; refine (HSS.out _ HC5.out).mono ?_; rintro e w6 ⟨rfl, hb6⟩; have HB6 := Lib.hid (HB5.out.trans (hb6.mono HB5.out.size)); clear hb6)
  go_ret
  exact ⟨ret_eq (by simp), HB6.out⟩
end Go.Proofs.YtnmnmkdmnohbmaaDoor
