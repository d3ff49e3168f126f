/- Several texts in one: The reference's UTF-8: number, Put, same. The reference's UTF-8: One, Decode, Clean. utf.Clean: whether a text is well-formed UTF-8. Conditions: none. -/
import Derived.Deep.Cut
import Derived.Test.YtldjbgklmeigmaaGreatDoorPackL
import Derived.BigRegion
import Derived.Shelf.Unicode.ValidAny
set_option linter.unusedVariables false
set_option linter.unusedSimpArgs false
namespace Go.Proofs.YtldjbgklmeigmaaGreatDoor
open Go.RowKit

/-- Bytes in memory. -/
def BsAt (B : Nat) (w : World) (p : Option Addr) (l : List Nat) : Prop :=
  l = [] ∨ ∃ b o, p = some ⟨b, o, none⟩ ∧ b < B ∧ ∀ i x : Nat, l[i]? = some x → w.cell? ⟨b, o + i, none⟩ = some (.int .u8 (x : Int))
theorem BsAt.on {w w' : World} {p : Option Addr} {l : List Nat} (h : BsAt w.heap.size w p l) (hb : Below w.heap.size w w') : BsAt w'.heap.size w' p l := by
  rcases h with h | ⟨b, o, rfl, hB, hc⟩
  · exact .inl h
  · exact .inr ⟨b, o, rfl, Nat.lt_of_lt_of_le hB hb.size, fun i x hx => (hb.cell (p := ⟨b, _, none⟩) hB).trans (hc i x hx)⟩

def firstN (n : Nat) : Nat := if n = 1 then 128 else if n = 2 then 32 else if n = 3 then 16 else 8
def stepN (n x : Nat) : Nat := n * 64 + x % 64
theorem numN_fold (a : Nat) (r : List Nat) (h : r.length ≤ 3) : numN (a :: r) = r.foldl stepN (a % firstN (r.length + 1)) := by
  match r, h with
  | [], _ => rfl
  | [b], _ => rfl
  | [b, c], _ => rfl
  | [b, c, d], _ => rfl
  | _ :: _ :: _ :: _ :: t, h => simp at h
theorem fold_lt (r : List Nat) : ∀ a : Nat, a < 128 → r.foldl stepN a < 128 * 64 ^ r.length := by
  have : ∀ (r : List Nat) (a k : Nat), a < k → r.foldl stepN a < k * 64 ^ r.length := by
    intro r
    induction r with
    | nil => intro a k h; simpa using h
    | cons x r ih =>
      intro a k h
      have := ih (stepN a x) (k * 64) (by unfold stepN; omega)
      rw [List.foldl_cons, List.length_cons, Nat.pow_succ, Nat.mul_comm (64 ^ r.length) 64, ← Nat.mul_assoc]
      exact this
  exact fun a h => this r a 128 h

set_option maxRecDepth 100000 in
set_option maxHeartbeats 4000000 in
theorem number_any (a : Nat) (r : List Nat) (hr : r.length ≤ 3) (ha : a < 256) (hl : ∀ x ∈ r, x < 256) (p : Option Addr) (c : Nat) (w : World) (hp : BsAt w.heap.size w p (a :: r)) :
    Calls Tryz.prog 235 #[.slice p (r.length + 1) c] w (RetB (.int .i32 (numN (a :: r))) w) := by
  rcases hp with h | ⟨b, o, rfl, hB, hc⟩
  · cases h
  have h0 := hc 0 a rfl
  rw [Nat.add_zero] at h0
  have HC := Lib.hid hc
  clear hc
  obtain ⟨W0, hW0⟩ : ∃ W0, w.alloc (.cells #[.int .i64 0, .int .i64 128, .int .i64 32, .int .i64 16, .int .i64 8] 3) = W0 := ⟨_, rfl⟩
  have HB0 : Hid (Below w.heap.size w W0) := Lib.hid (by rw [← hW0]; exact (Below.refl _ _).alloc (Nat.le_refl _) _)
  have hL : W0.heap[w.heap.size]? = some (.cells #[.int .i64 0, .int .i64 128, .int .i64 32, .int .i64 16, .int .i64 8] 3 (0, 0)) := by rw [← hW0]; exact heap_new w _
  have h0 := (HB0.out.cell (p := ⟨b, o, none⟩) hB).trans h0
  have hf : W0.cell? ⟨w.heap.size, r.length + 1, none⟩ = some (.int .i64 (firstN (r.length + 1))) := by
    match r, hr with
    | [], _ => simp [World.cell?, hL, firstN]
    | [b], _ => simp [World.cell?, hL, firstN]
    | [b, c], _ => simp [World.cell?, hL, firstN]
    | [b, c, d], _ => simp [World.cell?, hL, firstN]
    | _ :: _ :: _ :: _ :: t, h => simp at h
  have hs1 : w.heap.size < W0.heap.size := by rw [← hW0]; simp
  have hs2 : b < W0.heap.size := by omega
  have hfr : 0 < firstN (r.length + 1) ∧ firstN (r.length + 1) ≤ 128 := by
    unfold firstN
    repeat' split
    all_goals omega
  have HW0 := Lib.hid hW0
  have HN := Lib.hid (numN_fold a r hr)
  clear hW0 hL
  obtain ⟨F, hF⟩ : ∃ F, firstN (r.length + 1) = F := ⟨_, rfl⟩
  rw [hF] at hf hfr HN
  clear hF
  obtain ⟨hfr0, hfr1⟩ := hfr
  go_enter Tryz.func235, Tryz.ntmps235
  go_upto_region 2 with (fail)
  rw [HW0.out]
  clear HW0
  go_region
  all_goals go_wp2
  have haF : a % F < 128 := Nat.lt_of_lt_of_le (Nat.mod_lt _ hfr0) hfr1
  have HAF := Lib.hid haF
  have HB1 : Hid (Below w.heap.size w W0.drew) := Lib.hid HB0.out.drew
  have HLT := Lib.hid hl
  clear hfr0 hfr1 h0 hf hs1 hs2 haF hl
  go_loopw [4, 5] (fun nv iv wr => ∃ i : Nat, 1 ≤ i ∧ i ≤ r.length + 1 ∧ iv = .int .i64 i ∧ ∃ n : Nat, nv = .int .i64 n ∧ Hid (n = (r.take (i - 1)).foldl stepN (a % F)) ∧ Hid (Below w.heap.size w wr)) (fun _ iv _ => r.length + 1 - (intOf iv).toNat)
  case atStart => exact ⟨1, by omega, by omega, rfl, a % F, rfl, Lib.hid rfl, HB1⟩
  case round =>
    obtain ⟨i, hi1, hi2, rfl, n, rfl, HNN, HBW⟩ := hrel
    have hnb : n < 33554432 := by
      have h1 := fold_lt (r.take (i - 1)) (a % F) HAF.out
      have h2 : 64 ^ (r.take (i - 1)).length ≤ 64 ^ 3 := Nat.pow_le_pow_right (by decide) (by rw [List.length_take]; omega)
      rw [← HNN.out] at h1
      omega
    by_cases h2 : i < r.length + 1
    · obtain ⟨x, hx⟩ : ∃ x, r[i - 1]? = some x := ⟨r[i - 1]'(by omega), by simp⟩
      have hxl := HLT.out x (List.mem_of_getElem? hx)
      have hcx := HC.out i x (by rw [show i = (i - 1) + 1 by omega, List.getElem?_cons_succ]; exact hx)
      have hcx := (HBW.out.cell (p := ⟨b, o + i, none⟩) hB).trans hcx
      have hbw : b < wr.heap.size := Nat.lt_of_lt_of_le hB HBW.out.size
      have HX := Lib.hid hx
      clear hx
      go_wp2
      go_roundw
      case rel =>
        refine ⟨i + 1, by omega, by omega, by go_num, stepN n x, ?_, Lib.hid ?_, HBW⟩
        · unfold stepN
          congr 1
        · rw [show i + 1 - 1 = (i - 1) + 1 by omega, List.take_add_one, HX.out, HNN.out]
          simp
      case measure => simp [intOf]; omega
    · have HF : Hid (numN (a :: r) = n) := Lib.hid (by
        rw [HN.out, HNN.out, List.take_of_length_le (by omega)])
      go_wp2
      go_ret
      exact ⟨ret_eq (by rw [HF.out]; rfl), HBW.out⟩

def scalarB (c : Nat) : Bool := !(decide (55296 ≤ c) && decide (c ≤ 57343)) && decide (c ≤ 1114111)
theorem Scalar_any (c : Nat) (w : World) : Calls Tryz.prog 239 #[.int .i32 c] w (RetS (.bool (scalarB c)) w) := by
  by_cases h1 : (55296 : Int) ≤ c
  · by_cases h2 : (c : Int) ≤ 57343
    · have e : Hid (scalarB c = false) := Lib.hid (by unfold scalarB; rw [decide_eq_true (by omega), decide_eq_true (by omega)]; rfl)
      go_enter Tryz.func239, Tryz.ntmps239
      go_wp2
      go_ret
      exact ⟨ret_eq (by rw [e.out]; rfl), rfl⟩
    · have h2' : decide ((c : Int) ≤ 57343) = false := decide_eq_false h2
      have e : Hid (scalarB c = decide ((c : Int) ≤ 1114111)) := Lib.hid (by unfold scalarB; rw [decide_eq_false (p := c ≤ 57343) (by omega), Bool.and_false, Bool.not_false, Bool.true_and]; rw [Bool.eq_iff_iff, decide_eq_true_eq, decide_eq_true_eq]; omega)
      go_enter Tryz.func239, Tryz.ntmps239
      go_wp2
      go_ret
      exact ⟨ret_eq (by rw [e.out]; rfl), rfl⟩
  · have h1' : decide ((55296 : Int) ≤ c) = false := decide_eq_false h1
    have h3 : (c : Int) ≤ 1114111 := by omega
    have e : Hid (scalarB c = true) := Lib.hid (by unfold scalarB; rw [decide_eq_false (p := 55296 ≤ c) (by omega), Bool.false_and, decide_eq_true (p := c ≤ 1114111) (by omega)]; rfl)
    go_enter Tryz.func239, Tryz.ntmps239
    go_wp2
    go_ret
    exact ⟨ret_eq (by rw [e.out]; rfl), rfl⟩

theorem bs_new {w : World} {g : Nat} {l : List Nat} {cs : Array Value} {e : TypeId} {f : Nat × Nat} (h : w.heap[g]? = some (.cells cs e f)) (hc : cs.toList = l.map (fun x : Nat => Value.int .u8 (x : Int))) : BsAt w.heap.size w (some ⟨g, 0, none⟩) l := by
  refine .inr ⟨g, 0, rfl, (Array.getElem?_eq_some_iff.1 h).1, fun i x hx => ?_⟩
  have e1 : cs[i]? = some (.int .u8 (x : Int)) := by rw [← Array.getElem?_toList, hc, List.getElem?_map, hx]; rfl
  simp [World.cell?, h, e1]

set_option maxRecDepth 100000 in
set_option maxHeartbeats 4000000 in
theorem Put_any (c : Nat) (hcc : c < 33554432) (w : World) :
    Calls Tryz.prog 236 #[.int .i32 c] w (fun e w' => ∃ p cap, e = .returned (.slice p (putN c).length cap) ∧ BsAt w'.heap.size w' p (putN c) ∧ Below w.heap.size w w') := by
  have HS := Lib.hid (Scalar_any c)
  cases hs : scalarB c
  · have e : Hid (putN c = []) := Lib.hid (by
      unfold scalarB at hs
      unfold putN
      by_cases h1 : 55296 ≤ c ∧ c ≤ 57343
      · rw [if_pos h1]
      · rw [if_neg h1]
        by_cases h2 : 1114111 < c
        · rw [if_pos h2]
        · exfalso
          rw [decide_eq_true (p := c ≤ 1114111) (by omega), Bool.and_true, Bool.not_eq_false', Bool.and_eq_true, decide_eq_true_eq, decide_eq_true_eq] at hs
          exact h1 hs)
    go_enter Tryz.func236, Tryz.ntmps236
    go_wp2_with (go_at_call 239; refine (HS.out _).mono ?_; rintro e w3 ⟨rfl, hw3⟩; rw [← hw3]; clear hw3; rw [hs])
    go_ret
    exact ⟨none, 0, by rw [e.out]; rfl, by rw [e.out]; exact .inl rfl, Below.refl _ _⟩
  · have hc1 : (c : Int) ≤ 1114111 := by
      unfold scalarB at hs
      rw [Bool.and_eq_true, decide_eq_true_eq] at hs
      omega
    have hc2 : ¬ (55296 ≤ c ∧ c ≤ 57343) := by
      unfold scalarB at hs
      rw [Bool.and_eq_true, Bool.not_eq_true', Bool.and_eq_false_iff, decide_eq_false_iff_not, decide_eq_false_iff_not] at hs
      omega
    have HC2 := Lib.hid hc2
    have HC1 := Lib.hid hc1
    clear hc2
    by_cases k1 : (c : Int) < 128
    · have e : Hid (putN c = [c]) := Lib.hid (by unfold putN; rw [if_neg HC2.out, if_neg (by omega), if_pos (by omega)])
      go_enter Tryz.func236, Tryz.ntmps236
      go_wp2_with (go_at_call 239; refine (HS.out _).mono ?_; rintro e w3 ⟨rfl, hw3⟩; rw [← hw3]; clear hw3; rw [hs])
      go_ret
      exact ⟨some ⟨w.heap.size, 0, none⟩, 1, by rw [e.out]; rfl, by rw [e.out]; exact bs_new (heap_new w _) (by first | rfl | simp), (Below.refl _ _).alloc (Nat.le_refl _) _⟩
    · by_cases k2 : (c : Int) < 2048
      · have e : Hid (putN c = [192 + c / 64, 128 + c % 64]) := Lib.hid (by unfold putN; rw [if_neg HC2.out, if_neg (by omega), if_neg (by omega), if_pos (by omega)])
        go_enter Tryz.func236, Tryz.ntmps236
        go_wp2_with (go_at_call 239; refine (HS.out _).mono ?_; rintro e w3 ⟨rfl, hw3⟩; rw [← hw3]; clear hw3; rw [hs])
        go_ret
        exact ⟨some ⟨w.heap.size, 0, none⟩, 2, by rw [e.out]; rfl, by rw [e.out]; exact bs_new (heap_new w _) (by first | rfl | simp), (Below.refl _ _).alloc (Nat.le_refl _) _⟩
      · by_cases k3 : (c : Int) < 65536
        · have e : Hid (putN c = [224 + c / 4096, 128 + c / 64 % 64, 128 + c % 64]) := Lib.hid (by unfold putN; rw [if_neg HC2.out, if_neg (by omega), if_neg (by omega), if_neg (by omega), if_pos (by omega)])
          have k1' : decide ((c : Int) < 128) = false := decide_eq_false k1
          have k2' : decide ((c : Int) < 2048) = false := decide_eq_false k2
          have d1 : 0 ≤ (c : Int) / 4096 ∧ (c : Int) / 4096 ≤ 15 := by omega
          obtain ⟨d1, d2⟩ := d1
          clear k1 k2
          go_enter Tryz.func236, Tryz.ntmps236
          go_wp2_with (go_at_call 239; refine (HS.out _).mono ?_; rintro e w3 ⟨rfl, hw3⟩; rw [← hw3]; clear hw3; rw [hs])
          go_ret
          refine ⟨some ⟨w.heap.size, 0, none⟩, 3, ?_, ?_, ?_⟩
          · rw [e.out]; rfl
          · rw [e.out]
            refine bs_new (heap_new w _) ?_
            simp only [List.map_cons, List.map_nil]; rw [show ((224 + c / 4096 : Nat) : Int) = 224 + (c : Int) / 4096 by omega, show ((128 + c / 64 % 64 : Nat) : Int) = 128 + (c : Int) / 64 % 64 by omega, show ((128 + c % 64 : Nat) : Int) = 128 + (c : Int) % 64 by omega]
          · exact (Below.refl _ _).alloc (Nat.le_refl _) _
        · have e : Hid (putN c = [240 + c / 262144, 128 + c / 4096 % 64, 128 + c / 64 % 64, 128 + c % 64]) := Lib.hid (by unfold putN; rw [if_neg HC2.out, if_neg (by omega), if_neg (by omega), if_neg (by omega), if_neg (by omega)])
          have k1' : decide ((c : Int) < 128) = false := decide_eq_false k1
          have k2' : decide ((c : Int) < 2048) = false := decide_eq_false k2
          have k3' : decide ((c : Int) < 65536) = false := decide_eq_false k3
          have d1 : 0 ≤ (c : Int) / 262144 ∧ (c : Int) / 262144 ≤ 4 := by omega
          obtain ⟨d1, d2⟩ := d1
          clear k1 k2 k3
          go_enter Tryz.func236, Tryz.ntmps236
          go_wp2_with (go_at_call 239; refine (HS.out _).mono ?_; rintro e w3 ⟨rfl, hw3⟩; rw [← hw3]; clear hw3; rw [hs])
          go_ret
          refine ⟨some ⟨w.heap.size, 0, none⟩, 4, ?_, ?_, ?_⟩
          · rw [e.out]; rfl
          · rw [e.out]
            refine bs_new (heap_new w _) ?_
            simp only [List.map_cons, List.map_nil]; rw [show ((240 + c / 262144 : Nat) : Int) = 240 + (c : Int) / 262144 by omega, show ((128 + c / 4096 % 64 : Nat) : Int) = 128 + (c : Int) / 4096 % 64 by omega, show ((128 + c / 64 % 64 : Nat) : Int) = 128 + (c : Int) / 64 % 64 by omega, show ((128 + c % 64 : Nat) : Int) = 128 + (c : Int) % 64 by omega]
          · exact (Below.refl _ _).alloc (Nat.le_refl _) _

set_option maxRecDepth 100000 in
set_option maxHeartbeats 4000000 in
theorem same_any (l m : List Nat) (hlen : l.length = m.length) (hl4 : l.length ≤ 4) (p q : Option Addr) (c d : Nat) (w : World) (hp : BsAt w.heap.size w p l) (hq : BsAt w.heap.size w q m) :
    Calls Tryz.prog 237 #[.slice p l.length c, .slice q m.length d] w (RetB (.bool (l == m)) w) := by
  have HLEN := Lib.hid hlen
  have HP := Lib.hid hp
  have HQ := Lib.hid hq
  rw [← hlen]
  clear hp hq hlen
  go_enter Tryz.func237, Tryz.ntmps237
  go_wp2
  go_loopw [5] (fun iv wr => ∃ i : Nat, i ≤ l.length ∧ iv = .int .i64 i ∧ Hid (l.take i = m.take i) ∧ Hid (Below w.heap.size w wr)) (fun iv _ => l.length - (intOf iv).toNat)
  case atStart => exact ⟨0, Nat.zero_le _, rfl, Lib.hid (by simp), Lib.hid (Below.refl _ _)⟩
  case round =>
    obtain ⟨i, hi, rfl, HT, HBW⟩ := hrel
    by_cases h1 : i < l.length
    · have h2 : i < m.length := by have := HLEN.out; omega
      obtain ⟨x, hx⟩ : ∃ x, l[i]? = some x := ⟨l[i], by simp [h1]⟩
      obtain ⟨y, hy⟩ : ∃ y, m[i]? = some y := ⟨m[i], by simp [h2]⟩
      rcases HP.out with h0 | ⟨b, o, rfl, hB, hc⟩
      · subst h0; simp at h1
      rcases HQ.out with h0 | ⟨b', o', rfl, hB', hc'⟩
      · subst h0; simp at h2
      have c0 := (HBW.out.cell (p := ⟨b, o + i, none⟩) hB).trans (hc i x hx)
      have c1 := (HBW.out.cell (p := ⟨b', o' + i, none⟩) hB').trans (hc' i y hy)
      have hb1 : b < wr.heap.size := Nat.lt_of_lt_of_le hB HBW.out.size
      have hb2 : b' < wr.heap.size := Nat.lt_of_lt_of_le hB' HBW.out.size
      have HX := Lib.hid hx
      have HY := Lib.hid hy
      have hq := HLEN.out
      clear hc hc' hx hy h2 hq
      by_cases he : (x : Int) = y
      · have HE : Hid (x = y) := Lib.hid (by omega)
        have he2 : ((x : Int) != (y : Int)) = false := by simp [he]
        have he3 : ((x : Int) == (y : Int)) = true := by simp [he]
        have he4 : decide ((x : Int) = y) = true := decide_eq_true he
        go_wp2
        go_region
        all_goals go_wp2
        go_roundw
        case rel => exact ⟨i + 1, by omega, by go_num, Lib.hid (by rw [List.take_add_one, List.take_add_one, HT.out, HX.out, HY.out, HE.out]), Lib.hid HBW.out.drew⟩
        case measure => simp [intOf]; omega
      · have HE : Hid ((l == m) = false) := Lib.hid (beq_eq_false_iff_ne.2 (fun e => he (by
          have h1 := HX.out
          rw [e, HY.out] at h1
          rw [Option.some.inj h1])))
        have he2 : ((x : Int) != (y : Int)) = true := by simp [he]
        have he3 : ((x : Int) == (y : Int)) = false := by simp [he]
        have he4 : decide ((x : Int) = y) = false := decide_eq_false he
        go_wp2
        go_region
        all_goals go_wp2
        go_ret
        exact ⟨ret_eq (by rw [HE.out]; rfl), HBW.out.drew⟩
    · have HE : Hid ((l == m) = true) := Lib.hid (by
        have h := HT.out
        have := HLEN.out
        rw [List.take_of_length_le (by omega), List.take_of_length_le (by omega)] at h
        rw [h, beq_self_eq_true])
      go_wp2
      go_ret
      exact ⟨ret_eq (by rw [HE.out]; rfl), HBW.out⟩
end Go.Proofs.YtldjbgklmeigmaaGreatDoor

namespace Go.Proofs.YtldjbgklmeigmaaGreatDoor
open Go.RowKit

theorem oneN_first {l : List Nat} {k : Nat} (h : ∀ j, 1 ≤ j → j < k → okK l j = false) (hk : okK l k = true) (h1 : 1 ≤ k) (h4 : k ≤ 4) : oneN l = k := by
  unfold oneN
  rcases (show k = 1 ∨ k = 2 ∨ k = 3 ∨ k = 4 by omega) with rfl | rfl | rfl | rfl
  · rw [hk]; rfl
  · rw [h 1 (by omega) (by omega), hk]; rfl
  · rw [h 1 (by omega) (by omega), h 2 (by omega) (by omega), hk]; rfl
  · rw [h 1 (by omega) (by omega), h 2 (by omega) (by omega), h 3 (by omega) (by omega), hk]; rfl
theorem oneN_zero {l : List Nat} (h : ∀ j, 1 ≤ j → j ≤ 4 → okK l j = false) : oneN l = 0 := by
  unfold oneN
  rw [h 1 (by omega) (by omega), h 2 (by omega) (by omega), h 3 (by omega) (by omega), h 4 (by omega) (by omega)]
  rfl
theorem numN_lt {l : List Nat} (h : l.length ≤ 4) (h1 : 1 ≤ l.length) : numN l < 33554432 := by
  cases l with
  | nil => simp at h1
  | cons a r =>
    have h3 : r.length ≤ 3 := by simpa using h
    rw [numN_fold a r h3]
    have hf : a % firstN (r.length + 1) < 128 := by
      have : 0 < firstN (r.length + 1) ∧ firstN (r.length + 1) ≤ 128 := by
        unfold firstN
        repeat' split
        all_goals omega
      exact Nat.lt_of_lt_of_le (Nat.mod_lt _ this.1) this.2
    have h4 := fold_lt r _ hf
    have h5 : 64 ^ r.length ≤ 64 ^ 3 := Nat.pow_le_pow_right (by decide) h3
    omega
theorem BsAt.take {B : Nat} {w : World} {p : Option Addr} {l : List Nat} (h : BsAt B w p l) (k : Nat) : BsAt B w p (l.take k) := by
  rcases h with h | ⟨b, o, rfl, hB, hc⟩
  · exact .inl (by rw [h]; simp)
  · refine .inr ⟨b, o, rfl, hB, fun i x hx => hc i x ?_⟩
    rw [List.getElem?_take] at hx
    split at hx
    · exact hx
    · cases hx

set_option maxRecDepth 100000 in
set_option maxHeartbeats 4000000 in
theorem One_any (l : List Nat) (hlt : ∀ x ∈ l, x < 256) (p : Option Addr) (c : Nat) (hlc : l.length ≤ c) (hcm : c ≤ maxLen) (w : World) (hp : BsAt w.heap.size w p l) :
    Calls Tryz.prog 187 #[.slice p l.length c] w (fun e w' => ∃ r : Int, e = .returned (.tuple #[.int .i32 r, .int .i64 (oneN l)]) ∧ Below w.heap.size w w') := by
  unfold maxLen at hcm
  have HP := Lib.hid hp
  have HLT := Lib.hid hlt
  clear hp hlt
  go_enter Tryz.func187, Tryz.ntmps187
  go_wp2
  go_loopw [4] (fun kv wr => ∃ k : Nat, 1 ≤ k ∧ k ≤ 5 ∧ kv = .int .i64 k ∧ Hid (∀ j, 1 ≤ j → j < k → okK l j = false) ∧ Hid (Below w.heap.size w wr)) (fun kv _ => 5 - (intOf kv).toNat)
  case atStart => exact ⟨1, by omega, by omega, rfl, Lib.hid (fun j h1 h2 => by omega), Lib.hid (Below.refl _ _)⟩
  case round =>
    obtain ⟨k, hk1, hk5, rfl, HNO, HBW⟩ := hrel
    by_cases h4 : (k : Int) ≤ 4
    · by_cases hkl : (k : Int) ≤ l.length
      · have hlen : (l.take k).length = k := by rw [List.length_take]; omega
        have HLEN := Lib.hid hlen
        obtain ⟨a, r, har⟩ : ∃ a r, l.take k = a :: r := by
          cases h : l.take k with
          | nil => rw [h] at hlen; simp at hlen; omega
          | cons a r => exact ⟨a, r, rfl⟩
        have hrl : r.length + 1 = k := by rw [har] at hlen; simpa using hlen
        have hmem : ∀ x ∈ a :: r, x < 256 := fun x hx => HLT.out x (List.mem_of_mem_take (by rw [har]; exact hx))
        obtain ⟨N, hN⟩ : ∃ N, numN (a :: r) = N := ⟨_, rfl⟩
        have hNl : N < 33554432 := by rw [← hN]; exact numN_lt (by simp; omega) (by simp)
        obtain ⟨P, hP⟩ : ∃ P, putN N = P := ⟨_, rfl⟩
        have hOK : okK l k = (P == a :: r) := by
          unfold okK
          rw [decide_eq_true (by omega), har, hN, hP]
          simp
        have HOK := Lib.hid hOK
        have HPL : Hid (P.length ≤ 4) := Lib.hid (by rw [← hP]; exact put_len N)
        have HC1 : Hid (∀ w6, Below w.heap.size w w6 → Calls Tryz.prog 235 #[.slice p k c] w6 (RetB (.int .i32 N) w6)) := Lib.hid (fun w6 h => by
          have h1 := number_any a r (by omega) (hmem a List.mem_cons_self) (fun x hx => hmem x (List.mem_cons_of_mem _ hx)) p c w6 (by rw [← har]; exact (HP.out.on h).take k)
          rw [hrl, hN] at h1
          exact h1)
        have HC2 : Hid (∀ w6, Calls Tryz.prog 236 #[.int .i32 N] w6 (fun e w' => ∃ p' cap, e = .returned (.slice p' P.length cap) ∧ BsAt w'.heap.size w' p' P ∧ Below w6.heap.size w6 w')) := Lib.hid (fun w6 => by
          have h1 := Put_any N hNl w6
          rw [hP] at h1
          exact h1)
        have HC3 : Hid (∀ w6 p' cap, Below w.heap.size w w6 → BsAt w6.heap.size w6 p' P → P.length = k → Calls Tryz.prog 237 #[.slice p' P.length cap, .slice p k c] w6 (RetB (.bool (P == a :: r)) w6)) := Lib.hid (fun w6 p' cap h hb he => by
          have h1 := same_any P (a :: r) (by rw [he, ← har, HLEN.out]) HPL.out p' p cap c w6 hb (by rw [← har]; exact (HP.out.on h).take k)
          rw [show (a :: r).length = k from by rw [← har, HLEN.out]] at h1
          exact h1)
        have HNX : Hid (okK l k = false → ∀ j, 1 ≤ j → j < k + 1 → okK l j = false) := Lib.hid (fun h j h1 h2 => by
          by_cases e : j = k
          · rw [e]; exact h
          · exact HNO.out j h1 (by omega))
        have HONE : Hid (okK l k = true → oneN l = k) := Lib.hid (fun h => oneN_first HNO.out h hk1 (by omega))
        have HAR := Lib.hid har
        clear hlen har hrl hmem hN hNl hP hOK
        have hkc : k ≤ c := by omega
        go_wp2_with fail
        refine (HC1.out _ HBW.out).mono ?_
        rintro e w1 ⟨rfl, hb1⟩
        have HB1 := Lib.hid (HBW.out.trans (hb1.mono HBW.out.size))
        clear hb1
        go_wp2_with fail
        refine (HC2.out _).mono ?_
        rintro e w2 ⟨p', cap, rfl, hbs, hb2⟩
        have HB2 := Lib.hid (HB1.out.trans (hb2.mono HB1.out.size))
        have HBS := Lib.hid hbs
        clear hb2 hbs
        by_cases hPk : (P.length : Int) = k
        · have HC4 := Lib.hid (HC3.out w2 p' cap HB2.out HBS.out (by omega))
          have hPk' : ((P.length : Int) == (k : Int)) = true := beq_iff_eq.2 hPk
          have hPk2 : decide ((P.length : Int) = (k : Int)) = true := decide_eq_true hPk
          cases hq : (P == a :: r)
          · rw [hq] at HC4
            have HF : Hid (okK l k = false) := Lib.hid (by rw [HOK.out, hq])
            clear hq
            go_wp2_with fail
            refine HC4.out.mono ?_
            rintro e w3 ⟨rfl, hb3⟩
            have HB3 := Lib.hid (HB2.out.trans (hb3.mono HB2.out.size))
            clear hb3
            go_wp2
            go_roundw
            case rel => exact ⟨k + 1, by omega, by omega, by go_num, Lib.hid (HNX.out HF.out), HB3⟩
            case measure => simp [intOf]; omega
          · rw [hq] at HC4
            have HF : Hid (oneN l = k) := Lib.hid (HONE.out (by rw [HOK.out, hq]))
            clear hq
            go_wp2_with fail
            refine HC4.out.mono ?_
            rintro e w3 ⟨rfl, hb3⟩
            have HB3 := Lib.hid (HB2.out.trans (hb3.mono HB2.out.size))
            clear hb3
            go_wp2
            go_ret2
            exact ⟨N, by rw [HF.out]; rfl, HB3.out⟩
        · have hPk' : ((P.length : Int) == (k : Int)) = false := beq_eq_false_iff_ne.2 hPk
          have hPk2 : decide ((P.length : Int) = (k : Int)) = false := decide_eq_false hPk
          have HF : Hid (okK l k = false) := Lib.hid (by
            rw [HOK.out]
            refine beq_eq_false_iff_ne.2 (fun e => hPk ?_)
            rw [e, ← HAR.out, HLEN.out])
          go_wp2
          go_roundw
          case rel => exact ⟨k + 1, by omega, by omega, by go_num, Lib.hid (HNX.out HF.out), HB2⟩
          case measure => simp [intOf]; omega
      · have hkl' : decide ((k : Int) ≤ (l.length : Int)) = false := decide_eq_false hkl
        have HZ : Hid (oneN l = 0) := Lib.hid (oneN_zero (fun j h1 h2 => by
          by_cases h : j < k
          · exact HNO.out j h1 h
          · exact ok_short (by omega)))
        go_wp2
        go_ret2
        exact ⟨⟨0, by rw [HZ.out]; rfl⟩, HBW.out⟩
    · have h4' : decide ((k : Int) ≤ 4) = false := decide_eq_false h4
      have HZ : Hid (oneN l = 0) := Lib.hid (oneN_zero (fun j h1 h2 => HNO.out j h1 (by omega)))
      go_wp2
      go_ret2
      exact ⟨⟨0, by rw [HZ.out]; rfl⟩, HBW.out⟩

theorem BsAt.drop {B : Nat} {w : World} {b o : Nat} {l : List Nat} (hB : b < B) (hc : ∀ i x : Nat, l[i]? = some x → w.cell? ⟨b, o + i, none⟩ = some (.int .u8 (x : Int))) (k : Nat) : BsAt B w (some ⟨b, o + k, none⟩) (l.drop k) := by
  refine .inr ⟨b, o + k, rfl, hB, fun i x hx => ?_⟩
  rw [List.getElem?_drop] at hx
  rw [Nat.add_assoc]
  exact hc _ _ hx

set_option maxRecDepth 100000 in
set_option maxHeartbeats 4000000 in
theorem Decode_any (L : List UInt8) (hL : L.length ≤ 1048576) (p : Option Addr) (c : Nat) (hlc : L.length ≤ c) (hcm : c ≤ maxLen) (w : World) (hp : BsAt w.heap.size w p (toN L)) :
    Calls Tryz.prog 112 #[.slice p L.length c] w (fun e w' => ∃ (sv : Value) (n : Nat), e = .returned (.tuple #[sv, .int .i64 n]) ∧ (n = L.length ↔ Lib.validD L = true) ∧ Below w.heap.size w w') := by
  have HCM := Lib.hid hcm
  unfold maxLen at hcm
  have hll : (toN L).length = L.length := by simp [toN]
  have HP := Lib.hid hp
  have HLL := Lib.hid hll
  clear hp hll
  go_enter Tryz.func112, Tryz.ntmps112
  go_wp2
  go_loopw [4, 5] (fun cv av wr => ∃ k : Nat, k ≤ L.length ∧ av = .int .i64 k ∧ ∃ (m : Nat) (xs : List Value), m ≤ k ∧ Hid (wr.ownsRow w.heap.size 21 1 cv m xs) ∧ Hid (Lib.validD L = Lib.validD (L.drop k)) ∧ Hid (Below w.heap.size w wr)) (fun _ av _ => L.length - (intOf av).toNat)
  case atStart => exact ⟨0, Nat.zero_le _, rfl, 0, [], Nat.le_refl _, Lib.hid (World.ownsRow_nil _ _ _ _), Lib.hid (by simp), Lib.hid (Below.refl _ _)⟩
  case round =>
    obtain ⟨k, hk, rfl, m, xs, hm, HR, HV, HBW⟩ := hrel
    by_cases h1 : k < L.length
    · rcases HP.out with h0 | ⟨b, o, rfl, hB, hc⟩
      · exfalso
        have := HLL.out
        rw [h0] at this
        simp at this
        omega
      have hne : L.drop k ≠ [] := fun e => by have := List.drop_eq_nil_iff.1 e; omega
      have HON := Lib.hid (One_any ((toN L).drop k) (fun x hx => toN_lt L x (List.mem_of_mem_drop hx)) (some ⟨b, o + k, none⟩) (c - k) (by rw [List.length_drop, HLL.out]; omega) (by have := HCM.out; omega) wr
        (BsAt.on (BsAt.drop hB hc k) HBW.out))
      obtain ⟨j, hj⟩ : ∃ j, oneN ((toN L).drop k) = j := ⟨_, rfl⟩
      rw [hj, List.length_drop, HLL.out] at HON
      rw [← toN_drop] at hj
      have HZ : Hid (j = 0 → Lib.validD L = false) := Lib.hid (fun h => by rw [HV.out]; exact valid_none hne (by rw [hj, h]))
      have HJ : Hid (1 ≤ j → Lib.validD L = Lib.validD (L.drop (k + j)) ∧ k + j ≤ L.length) := Lib.hid (fun h => by
        have h2 := valid_one hne hj h
        rw [List.length_drop] at h2
        refine ⟨?_, by omega⟩
        rw [HV.out, h2.1, List.drop_drop])
      clear hj hne hc
      go_wp2_with fail
      refine HON.out.mono ?_
      rintro e w1 ⟨rr, rfl, hb1⟩
      have HB1 := Lib.hid hb1
      have HBB1 := Lib.hid (HBW.out.trans (hb1.mono HBW.out.size))
      clear hb1
      by_cases hj0 : (j : Int) = 0
      · have HE : Hid (Lib.validD L = false) := Lib.hid (HZ.out (by omega))
        have HK : Hid (¬ k = L.length) := Lib.hid (by omega)
        go_wp2
        go_ret2
        exact ⟨_, k, rfl, by simp [HE.out, HK.out], HBB1.out⟩
      · have hj1 : 1 ≤ j := by omega
        have HJ1 := Lib.hid (HJ.out hj1)
        have hj0' : ((j : Int) == 0) = false := beq_eq_false_iff_ne.2 hj0
        have hj02 : decide ((j : Int) = 0) = false := decide_eq_false hj0
        have hkj := HJ1.out.2
        clear hj0
        go_upto_region 6 with (fail)
        go_step
        iterate 3
          refine wpList_plain rfl (fun K hK => ?_)
          go_step
          refine hK _ _ ?_
          clear hK K
        obtain ⟨W2, hW2⟩ : ∃ W2, w1.alloc (.cells #[.int .i32 rr] 21) = W2 := ⟨_, rfl⟩
        have hb2 : Below w1.heap.size w1 W2 := by rw [← hW2]; exact (Below.refl _ _).alloc (Nat.le_refl _) _
        have hn2 : W2.heap[w1.heap.size]? = some (.cells #[.int .i32 rr] 21 (0, 0)) := by rw [← hW2]; exact heap_new w1 _
        try rw [hW2]
        clear hW2
        have hb12 : Below wr.heap.size wr W2 := HB1.out.trans (hb2.mono HB1.out.size)
        refine wpList_plain rfl (fun K hK => ?_)
        have HG3 := HR.out.kept (grown_b hb12 none) (by cases u4.ownBlock <;> simp)
        refine wp_append_1 (P := Tryz.prog) W2 (.tmp 21) (.tmp 23) 204 rfl w.heap.size 21 (.int .i32 0) 1 4 Tryz.underlying204 (by kernel_rfl) rfl (by decide) u4 m _ rfl HG3 ⟨w1.heap.size, 0, none⟩ 1 1 [.int .i32 rr] rfl (by decide) rfl ?c1 ?c2 ?c3 ?c4 ?c5 ?_
        case c1 =>
          intro i v hv
          cases i with
          | zero => cases hv; rw [addr_add1]; simp [World.cell?, hn2]
          | succ i => simp at hv
        case c2 => intro v hv; simp at hv; subst hv; rfl
        case c3 => unfold maxLen; omega
        case c4 => omega
        case c5 => have := HBW.out.size; have := hb12.size; omega
        intro v' w' hrow hgr hv'
        refine hK _ _ ?_
        clear hK K
        have HROW := Lib.hid hrow
        have HBN : Hid (Below w.heap.size w w') := Lib.hid ((HBW.out.trans (hb12.mono HBW.out.size)).grown hgr (by have := HBW.out.size; have := hb12.size; omega) (fun y hy => (HG3.lt y hy).1))
        clear hrow hgr hv' HG3 hb12 hb2 hn2
        go_wp2
        go_roundw
        case rel => exact ⟨k + j, by omega, by go_num, m + 1, _, by omega, HROW, Lib.hid HJ1.out.1, HBN⟩
        case measure => simp [intOf]; omega
    · have HE : Hid (Lib.validD L = true) := Lib.hid (by
        rw [HV.out, List.drop_eq_nil_iff.2 (by omega)]
        rfl)
      have hkl : k = L.length := by omega
      have HK := Lib.hid hkl
      clear hkl
      go_wp2
      go_ret2
      exact ⟨_, k, rfl, by simp [HE.out, HK.out], HBW.out⟩

theorem Clean_any (L : List UInt8) (hL : L.length ≤ 1048576) (p : Option Addr) (c : Nat) (hlc : L.length ≤ c) (hcm : c ≤ maxLen) (w : World) (hp : BsAt w.heap.size w p (toN L)) :
    Calls Tryz.prog 94 #[.slice p L.length c] w (RetB (.bool (Lib.validD L)) w) := by
  have HC := Lib.hid (Decode_any L hL p c hlc hcm w hp)
  clear hp hlc hcm
  go_enter Tryz.func94, Tryz.ntmps94
  go_wp2_with (go_at_call 112; refine HC.out.mono ?_; rintro e w1 ⟨sv, n, rfl, hn, hb1⟩; have HN := Lib.hid hn; have HB := Lib.hid hb1; clear hn hb1)
  go_ret
  exact ⟨ret_eq (by
    have h := HN.out
    have e : ((n : Int) == (L.length : Int)) = Lib.validD L := by
      rw [Bool.eq_iff_iff, beq_iff_eq, ← h]
      omega
    simp only [e]
    first | rfl | simp), HB.out⟩
end Go.Proofs.YtldjbgklmeigmaaGreatDoor

namespace Go.Proofs.YtldjbgklmeigmaaGreatDoor
open Go.RowKit Go.Shelf
def vs_ren : Go.Shelf.Ren := ⟨fun | 196 => 107 | 259 => 176 | n => n, fun | 0 => 0 | 3 => 3 | 4 => 4 | 5 => 5 | 9 => 9 | 12 => 12 | 46 => 203 | 53 => 264 | 119 => 268 | 138 => 270 | 139 => 271 | n => n, fun | 3 => 1 | 4 => 2 | n => n⟩
set_option maxRecDepth 100000 in
theorem vs_lays : Go.Proofs.Lays.n196 Tryz.prog vs_ren := {
  mixed := by kernel_rfl
  f196 := Tryz.func107.trans (congrArg some (by kernel_rfl))
  f259 := Tryz.func176.trans (congrArg some (by kernel_rfl))
  t0 := Tryz.underlying0
  a0 := Tryz.isAgg0
  z0 := Tryz.sizeOf0
  v0 := Tryz.zeroValue0
  t3 := Tryz.underlying3
  a3 := Tryz.isAgg3
  z3 := Tryz.sizeOf3
  v3 := Tryz.zeroValue3
  t4 := Tryz.underlying4
  a4 := Tryz.isAgg4
  z4 := Tryz.sizeOf4
  v4 := Tryz.zeroValue4
  t5 := Tryz.underlying5
  a5 := Tryz.isAgg5
  z5 := Tryz.sizeOf5
  v5 := Tryz.zeroValue5
  t9 := Tryz.underlying9
  a9 := Tryz.isAgg9
  z9 := Tryz.sizeOf9
  v9 := Tryz.zeroValue9
  t12 := Tryz.underlying12
  a12 := Tryz.isAgg12
  z12 := Tryz.sizeOf12
  v12 := Tryz.zeroValue12
  t46 := Tryz.underlying203
  a46 := Tryz.isAgg203
  z46 := Tryz.sizeOf203
  v46 := Tryz.zeroValue203
  t53 := Tryz.underlying264
  a53 := Tryz.isAgg264
  z53 := Tryz.sizeOf264
  v53 := Tryz.zeroValue264
  t119 := Tryz.underlying268
  a119 := Tryz.isAgg268
  z119 := Tryz.sizeOf268
  t138 := Tryz.underlying270
  a138 := Tryz.isAgg270
  z138 := Tryz.sizeOf270
  v138 := Tryz.zeroValue270
  t139 := Tryz.underlying271
  a139 := Tryz.isAgg271
  z139 := Tryz.sizeOf271
  v139 := Tryz.zeroValue271
  g3 := by kernel_rfl
  g4 := by kernel_rfl }

/-- The decoder's two tables. -/
def TabsIn (w : World) : Prop := Lib.Utf8Tabs 1 2 w
theorem TabsIn.on {w w' : World} (h : TabsIn w) (hb : Below w.heap.size w w') : TabsIn w' := by
  refine ⟨fun c hc => ?_, fun i hi => ?_⟩
  · have h1 := h.1 c hc
    exact (hb.cell (p := ⟨_, c, none⟩) (World.block_lt_of_cell? w _ h1)).trans h1
  · obtain ⟨h1, h2⟩ := h.2 i hi
    exact ⟨(hb.cell (p := ⟨_, 2 * i, none⟩) (World.block_lt_of_cell? w _ h1)).trans h1, (hb.cell (p := ⟨_, 2 * i + 1, none⟩) (World.block_lt_of_cell? w _ h2)).trans h2⟩

theorem utfClean_any (s : ByteArray) (hs : s.size ≤ 1048576) (w : World) (hT : TabsIn w) :
    Calls Tryz.prog 67 #[.string s] w (RetB (.bool (Lib.validD s.data.toList)) w) := by
  have HC : Hid (Calls Tryz.prog 107 #[.string s] w (fun e w' => e = .returned (.bool (Lib.validD s.data.toList)) ∧ Below w.heap.size w w')) := Lib.hid (Any.utf8_ValidString vs_lays s w (by omega) hT)
  clear hT
  go_enter Tryz.func67, Tryz.ntmps67
  go_wp2_with (go_at_call 107; refine HC.out.mono ?_; rintro e w1 ⟨rfl, hb⟩; have HB := Lib.hid hb; clear hb)
  go_ret
  exact ⟨rfl, HB.out⟩
end Go.Proofs.YtldjbgklmeigmaaGreatDoor
