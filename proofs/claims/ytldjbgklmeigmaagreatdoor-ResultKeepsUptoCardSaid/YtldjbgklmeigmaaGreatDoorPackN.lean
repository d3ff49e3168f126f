/- Several texts in one: Floats: no number, infinities, and a number less itself. A part's own fault: what the reference's flaw answers. Conditions: none. -/
import Derived.Test.YtldjbgklmeigmaaGreatDoorPackC
import Derived.Test.YtldjbgklmeigmaaGreatDoorPackL
import Derived.Laws.BitsAllLaws
import Derived.Lib.AtoiErrMem
import Derived.Lib.ConvBytes
import Derived.Test.YtldjbgklmeigmaaGreatDoorPackM
set_option linter.unusedVariables false
set_option linter.unusedSimpArgs false
namespace Go.Proofs.YtldjbgklmeigmaaGreatDoor
open Go.RowKit Ieee

theorem sub_fin {x : Nat} (h : frung x < 9218868437227405312) : double.sub x x = some 0 := by
  obtain ⟨m, k, hr, _⟩ := read_number h
  unfold Format.sub
  rw [hr]
  show (Datum.sum (.number (fneg x) m _) (.number (!(fneg x)) m _)).map _ = _
  unfold Datum.sum
  have e : signed (fneg x) m (-1074 + (k : Int) - min (-1074 + (k : Int)) (-1074 + (k : Int))).toNat + signed (!fneg x) m (-1074 + (k : Int) - min (-1074 + (k : Int)) (-1074 + (k : Int))).toNat = 0 := by
    unfold signed
    cases fneg x <;> simp <;> omega
  simp only [e, if_true, Option.map_some]
  have e2 : (fneg x && !fneg x) = false := by cases fneg x <;> rfl
  rw [e2]
  rfl
theorem sub_inf {x : Nat} (h : frung x = 9218868437227405312) : double.sub x x = none := by
  unfold Format.sub
  rw [read_inf h]
  show (Datum.sum (.infinity (fneg x)) (.infinity (!(fneg x)))).map _ = _
  unfold Datum.sum
  cases fneg x <;> rfl
theorem nan_bits (t : Nat) : fnan (t % 2 * 9223372036854775808 + 9218868437227405312 + 1 + t / 2 % 4503599627370495) = true := by
  unfold fnan frung
  rw [decide_eq_true_eq]
  have h1 : t % 2 < 2 := Nat.mod_lt _ (by omega)
  have h2 : t / 2 % 4503599627370495 < 4503599627370495 := Nat.mod_lt _ (by omega)
  generalize t % 2 = a at *
  generalize t / 2 % 4503599627370495 = b at *
  rcases (show a = 0 ∨ a = 1 by omega) with rfl | rfl <;> omega
theorem fmag_lt : ∀ a b : Nat, a < b → fmag a < fmag b := by
  intro a b hab
  unfold fmag
  by_cases ha : a < 4503599627370496
  · rw [if_pos ha]
    by_cases hb : b < 4503599627370496
    · rw [if_pos hb]; exact hab
    · rw [if_neg hb]
      have h1 : 1 ≤ 2 ^ (b / 4503599627370496 - 1) := Nat.one_le_two_pow
      have h2 := Nat.le_mul_of_pos_right (4503599627370496 + b % 4503599627370496) h1
      omega
  · have hb : ¬ b < 4503599627370496 := by omega
    rw [if_neg ha, if_neg hb]
    have hle : a / 4503599627370496 ≤ b / 4503599627370496 := Nat.div_le_div_right (by omega)
    rcases Nat.lt_or_ge (a / 4503599627370496) (b / 4503599627370496) with hlt | hge
    · have h1 : (4503599627370496 + a % 4503599627370496) * 2 ^ (a / 4503599627370496 - 1) < (4503599627370496 * 2) * 2 ^ (a / 4503599627370496 - 1) :=
        Nat.mul_lt_mul_of_pos_right (by omega) (Nat.two_pow_pos _)
      have h2 : (4503599627370496 * 2) * 2 ^ (a / 4503599627370496 - 1) = 4503599627370496 * 2 ^ (a / 4503599627370496 - 1 + 1) := by rw [Nat.pow_succ]; omega
      have h3 : 2 ^ (a / 4503599627370496 - 1 + 1) ≤ 2 ^ (b / 4503599627370496 - 1) := Nat.pow_le_pow_right (by omega) (by omega)
      have h4 : 4503599627370496 * 2 ^ (a / 4503599627370496 - 1 + 1) ≤ 4503599627370496 * 2 ^ (b / 4503599627370496 - 1) := Nat.mul_le_mul_left _ h3
      have h5 : 4503599627370496 * 2 ^ (b / 4503599627370496 - 1) ≤ (4503599627370496 + b % 4503599627370496) * 2 ^ (b / 4503599627370496 - 1) := Nat.mul_le_mul_right _ (by omega)
      omega
    · have he : a / 4503599627370496 = b / 4503599627370496 := by omega
      rw [he]
      exact Nat.mul_lt_mul_of_pos_right (by omega) (Nat.two_pow_pos _)

theorem gt_max {x : Nat} (hx : fnan x = false) : (double.order (frung x) 9218868437227405311 == some Ordering.gt) = (frung x == 9218868437227405312) := by
  have hr : frung (frung x) = frung x := by unfold frung; omega
  have hs : fneg (frung x) = false := by unfold fneg frung; rw [beq_eq_false_iff_ne]; omega
  obtain ⟨E, hE⟩ : ∃ E : Nat, E = 2045 := ⟨_, rfl⟩
  have hm : double.read 9218868437227405311 = .number false 9007199254740991 (-1074 + (E : Int)) := by rw [hE]; decide
  unfold fnan at hx
  rw [decide_eq_false_iff_not] at hx
  unfold Format.order
  by_cases h : frung x = 9218868437227405312
  · rw [read_inf (by rw [hr, h]), hm, hs, h]
    rfl
  · have hlt : frung x < 9218868437227405312 := by omega
    obtain ⟨m, k, he, hv⟩ := read_number (x := frung x) (by rw [hr]; exact hlt)
    rw [he, hm, order_number, hs, hv, hr, beq_eq_false_iff_ne.2 h, beq_eq_false_iff_ne]
    intro hc
    have hc := Option.some.inj hc
    have h1 : fmag (frung x) ≤ fmag 9218868437227405311 := by
      rcases Nat.lt_or_ge (frung x) 9218868437227405311 with h2 | h2
      · exact Nat.le_of_lt (fmag_lt _ _ h2)
      · rw [show frung x = 9218868437227405311 by omega]; exact Nat.le_refl _
    have h2 : fmag 9218868437227405311 = 9007199254740991 * 2 ^ E := by
      have g : ∀ n, (4503599627370496 + 4503599627370495) * 2 ^ n = 9007199254740991 * 2 ^ n := fun n => by rw [show 4503599627370496 + 4503599627370495 = 9007199254740991 from rfl]
      have u : fmag 9218868437227405311 = (4503599627370496 + 9218868437227405311 % 4503599627370496) * 2 ^ (9218868437227405311 / 4503599627370496 - 1) := if_neg (by decide)
      have e1 : 9218868437227405311 % 4503599627370496 = 4503599627370495 := by decide
      have e2 : 9218868437227405311 / 4503599627370496 - 1 = E := by rw [hE]
      rw [e1, e2] at u
      exact u.trans (g E)
    have h3 : compare (signed false (fmag (frung x)) 0) (signed false (9007199254740991 * 2 ^ E) 0) ≠ Ordering.gt := by
      unfold signed
      simp only [Bool.false_eq_true, if_false, Nat.shiftLeft_zero]
      rw [← h2]
      intro h4
      have := Int.compare_eq_gt.1 h4
      omega
    exact h3 hc

theorem IsNaN_any (x : Nat) (w : World) : Calls Tryz.prog 99 #[.float .f64 x] w (RetS (.bool (fnan x)) w) := by
  have o2 : ∀ u v, (FloatKind.f64.format.order u v != some Ordering.eq) = !feq u v := fun _ _ => rfl
  have ex : feq x x = !fnan x := feq_self x
  go_enter Tryz.func99, Tryz.ntmps99
  go_wp2
  go_ret
  exact ⟨ret_eq (by simp), rfl⟩

theorem Abs_any (x : Nat) (hx : x < 18446744073709551616) (w : World) : Calls Tryz.prog 170 #[.float .f64 x] w (RetS (.float .f64 (frung x)) w) := by
  have hb : ∀ z wx, (callFunc 172 #[.float .f64 z]).run Tryz.prog wx = .ok (.value (.int .u64 z)) wx := fun z wx =>
    run_callFunc_extern (e := Extern.MathFloatBits.float64bits) Tryz.func172 (by kernel_rfl) (by kernel_rfl) (by kernel_rfl) (by kernel_rfl) _ _
  have hf : ∀ (z : Nat) wx, (callFunc 222 #[.int .u64 (z : Int)]).run Tryz.prog wx = .ok (.value (.float .f64 z)) wx := fun z wx =>
    run_callFunc_extern (e := Extern.MathFloatBits.float64frombits) Tryz.func222 (by kernel_rfl) (by kernel_rfl) (by kernel_rfl) (by kernel_rfl) _ _
  have ha : bits .andNot .u64 (x : Int) 9223372036854775808 = ((frung x : Nat) : Int) := by
    have h := u64_andNot_nat x 9223372036854775808 hx (by decide)
    have e : x &&& (18446744073709551615 - 9223372036854775808) = frung x := Nat.and_two_pow_sub_one_eq_mod x 63
    rw [e] at h
    exact h
  go_enter Tryz.func170, Tryz.ntmps170
  go_wp2
  go_ret
  exact ⟨rfl, rfl⟩

theorem IsInf_any (x : Nat) (hlt : x < 18446744073709551616) (w : World) (hx : fnan x = false) : Calls Tryz.prog 100 #[.float .f64 x, .int .i64 0] w (RetS (.bool (frung x == 9218868437227405312)) w) := by
  have HA := Lib.hid (Abs_any x hlt)
  have HG : Hid ((FloatKind.f64.format.order (frung x) 9218868437227405311 == some Ordering.gt) = (frung x == 9218868437227405312)) := Lib.hid (gt_max hx)
  clear hx hlt
  generalize frung x = y at *
  go_enter Tryz.func100, Tryz.ntmps100
  go_wp2_with (go_at_call 170; refine (HA.out _).mono ?_; rintro e w3 ⟨rfl, hw3⟩; rw [← hw3]; clear hw3)
  go_ret
  exact ⟨ret_eq (by rw [← HG.out]; rfl), rfl⟩
end Go.Proofs.YtldjbgklmeigmaaGreatDoor

namespace Go.Proofs.YtldjbgklmeigmaaGreatDoor
open Go.RowKit
attribute [local go_sem] run_store_float

/-- The first fault among the members. -/
def memF : List ByteArray → List (ByteArray × V) → Int
  | _, [] => 0
  | seen, x :: r => if Lib.validD x.1.data.toList = false then 1 else if (seen.any (fun n => n.toList == x.1.toList)) = true then 5 else memF (seen ++ [x.1]) r
/-- A part's own fault. -/
def ownF : V → Int
  | .mk k _ _ f t _ _ fs => if kd k ≠ k ∨ k = 7 then 2 else if k = 3 then (if (fnan f || frung f == 9218868437227405312) = true then 6 else 0)
    else if k = 4 then (if Lib.validD t.data.toList = true then 0 else 1) else if k = 6 then memF [] fs else 0

theorem ownF_eq (k : Int) (b : Bool) (i : Int) (f : Nat) (t ty : ByteArray) (its : List V) (fs : List (ByteArray × V)) : ownF (.mk k b i f t ty its fs) = if kd k ≠ k ∨ k = 7 then 2 else if k = 3 then (if (fnan f || frung f == 9218868437227405312) = true then 6 else 0)
    else if k = 4 then (if Lib.validD t.data.toList = true then 0 else 1) else if k = 6 then memF [] fs else 0 := rfl

theorem drop_one {α : Type} {l : List α} {k : Nat} {x : α} (h : l[k]? = some x) : l.drop k = x :: l.drop (k + 1) := by
  obtain ⟨hk, rfl⟩ := List.getElem?_eq_some_iff.1 h
  exact List.drop_eq_getElem_cons hk
theorem memF_step {fs : List (ByteArray × V)} {i : Nat} {x : ByteArray × V} (h : fs[i]? = some x) :
    memF ((fs.take i).map (·.1)) (fs.drop i) = if Lib.validD x.1.data.toList = false then 1 else if (((fs.take i).map (·.1)).any (fun n => n.toList == x.1.toList)) = true then 5 else memF ((fs.take (i + 1)).map (·.1)) (fs.drop (i + 1)) := by
  rw [drop_one h, memF, List.take_add_one, h, List.map_append]
  rfl

theorem bs_conv (w : World) (s : ByteArray) : BsAt (Lib.bytesWorld w 5 s).heap.size (Lib.bytesWorld w 5 s) (some ⟨w.heap.size, 0, none⟩) (toN s.data.toList) := by
  refine .inr ⟨w.heap.size, 0, rfl, by rw [Lib.bytesWorld_size]; omega, fun i x hx => ?_⟩
  have hi : i < s.size := by
    have := (List.getElem?_eq_some_iff.1 hx).1
    simp only [toN, List.length_map, ba_len] at this
    exact this
  rw [Nat.zero_add, Lib.bytesWorld_cell w _ s i hi]
  simp only [toN, List.getElem?_map] at hx
  cases h : s.data.toList[i]? with
  | none => rw [h] at hx; cases hx
  | some y =>
    rw [h] at hx
    cases hx
    simp [List.getD, h]
theorem CleanS_any (s : ByteArray) (hs : s.size ≤ 1048576) (w : World) :
    Calls Tryz.prog 94 #[.slice (some ⟨w.heap.size, 0, none⟩) s.size (grownCap w s.size 0 5)] (Lib.bytesWorld w 5 s) (RetB (.bool (Lib.validD s.data.toList)) (Lib.bytesWorld w 5 s)) := by
  have h := Clean_any s.data.toList (by rw [ba_len]; exact hs) (some ⟨w.heap.size, 0, none⟩) (grownCap w s.size 0 5) (by rw [ba_len]; exact grownCap_ge w s.size 0 _) (grownCap_le_maxLen w s.size 0 _ (by unfold maxLen; omega)) _ (bs_conv w s)
  rw [ba_len] at h
  exact h

theorem op_fin {f : Nat} (h : frung f < 9218868437227405312) (ty : TypeId) (W : World) : (binOp .sub ty (.float .f64 f) (.float .f64 f)).run Tryz.prog W = .ok (.float .f64 0) W :=
  run_float_arith W .sub ty .f64 f f 0 (show FloatKind.f64.format.sub f f = some 0 from sub_fin h)
def nanW (f : Nat) (W : World) : Nat := (Question.nanBits .f64 f f).cut (W.tape W.drawn (.nanBits .f64 f f))
theorem op_inf {f : Nat} (h : frung f = 9218868437227405312) (ty : TypeId) (W : World) : (binOp .sub ty (.float .f64 f) (.float .f64 f)).run Tryz.prog W = .ok (.float .f64 (nanW f W)) W.drew := by
  have hs : FloatKind.f64.format.sub f f = none := sub_inf h
  simp [binOp, Op.floatArith, hs, nanW, Question.forced]
theorem nanW_ne (f : Nat) (W : World) : (FloatKind.f64.format.order (nanW f W) 0 != some Ordering.eq) = true := by
  show (!feq (nanW f W) 0) = true
  have hn : fnan (nanW f W) = true := nan_bits _
  rw [feq_eq, hn]
  rfl

set_option maxRecDepth 100000 in
set_option maxHeartbeats 4000000 in
theorem flaw_any (k : Int) (b : Bool) (i : Int) (f : Nat) (t ty : ByteArray) (its : List V) (fs : List (ByteArray × V)) (cs : Array Value) (w : World) (hv : IsV w.heap.size w (.mk k b i f t ty its fs) cs)
    (hf : f < 18446744073709551616) (ht : t.size ≤ 1048576) (hn : ∀ x ∈ fs, x.1.size ≤ 1048576) :
    Calls Tryz.prog 46 #[.agg cs] w (RetB (.int .i64 (ownF (.mk k b i f t ty its fs))) w) := by
  obtain ⟨p, c, q, d, rfl, _, hfs, _, lf⟩ := hv
  unfold lenMax at lf
  obtain ⟨W0, hW0⟩ : ∃ W0, w.alloc (.cells (vcells k b i f t ty p its.length c q fs.length d) 34) = W0 := ⟨_, rfl⟩
  have HB0 : Hid (Below w.heap.size w W0) := Lib.hid (by rw [← hW0]; exact (Below.refl _ _).alloc (Nat.le_refl _) _)
  have hc0 : ∀ j x, (vcells k b i f t ty p its.length c q fs.length d)[j]? = some x → W0.cell? ⟨w.heap.size, 0 + j, none⟩ = some x := by
    intro j x hx
    rw [← hW0, Nat.zero_add]
    have := heap_new w (.cells (vcells k b i f t ty p its.length c q fs.length d) 34)
    simp only [World.cell?, this]
    exact hx
  have HCA : Hid (CellsAt W0 w.heap.size 0 (vcells k b i f t ty p its.length c q fs.length d)) := Lib.hid hc0
  have hlt : w.heap.size < W0.heap.size := by rw [← hW0]; simp
  have HLT := Lib.hid hlt
  obtain ⟨a0, a1, a2, a3, a4, a5, a6, a7⟩ := HCA.out.all
  simp only [Nat.zero_add] at a0 a1 a2 a3 a4 a5 a6 a7
  have HW0 := Lib.hid hW0
  have HFS := Lib.hid hfs
  have HN := Lib.hid hn
  clear hW0 hc0 hfs hn
  by_cases h1 : k < 0
  · have e : Hid (ownF (.mk k b i f t ty its fs) = 2) := Lib.hid (by rw [ownF_eq, if_pos (.inl (by unfold kd; rw [if_pos (.inl h1)]; omega))])
    go_enter Tryz.func46, Tryz.ntmps46
    go_upto_region 1 with (fail)
    rw [HW0.out]
    clear HW0
    go_wp2
    go_ret
    exact ⟨ret_eq (by rw [e.out]; rfl), HB0.out⟩
  · have h1' : decide (k < 0) = false := decide_eq_false h1
    by_cases h2 : 7 ≤ k
    · have e : Hid (ownF (.mk k b i f t ty its fs) = 2) := Lib.hid (by
        rw [ownF_eq]
        by_cases h3 : k = 7
        · rw [if_pos (.inr h3)]
        · rw [if_pos (.inl (by unfold kd; rw [if_pos (.inr (by omega))]; omega))])
      go_enter Tryz.func46, Tryz.ntmps46
      go_upto_region 1 with (fail)
      rw [HW0.out]
      clear HW0
      go_wp2
      go_ret
      exact ⟨ret_eq (by rw [e.out]; rfl), HB0.out⟩
    · have h2' : decide (7 ≤ k) = false := decide_eq_false h2
      have hg : ¬ (kd k ≠ k ∨ k = 7) := by
        unfold kd
        rw [if_neg (by omega)]
        omega
      have HG := Lib.hid hg
      clear hg
      by_cases h3 : k = 3
      · subst h3
        cases hnan : fnan f
        · by_cases hinf : frung f = 9218868437227405312
          · have e : Hid (ownF (.mk 3 b i f t ty its fs) = 6) := Lib.hid (by rw [ownF_eq, if_neg HG.out, if_pos rfl, hinf]; simp)
            have hop : ∀ W, (binOp .sub 30 (.float .f64 f) (.float .f64 f)).run Tryz.prog W = .ok (.float .f64 (nanW f W)) W.drew := fun W => op_inf hinf _ W
            have hnw : ∀ W, (FloatKind.f64.format.order (nanW f W) 0 != some Ordering.eq) = true := fun W => nanW_ne f W
            have ex : (FloatKind.f64.format.order f f != some Ordering.eq) = false := by
              show (!feq f f) = false
              rw [feq_self, hnan]; rfl
            go_enter Tryz.func46, Tryz.ntmps46
            go_upto_region 1 with (fail)
            rw [HW0.out]
            clear HW0
            go_wp2
            go_ret
            exact ⟨ret_eq (by rw [e.out]; rfl), HB0.out.drew⟩
          · have e : Hid (ownF (.mk 3 b i f t ty its fs) = 0) := Lib.hid (by rw [ownF_eq, if_neg HG.out, if_pos rfl, hnan]; simp [hinf])
            have hop : ∀ W, (binOp .sub 30 (.float .f64 f) (.float .f64 f)).run Tryz.prog W = .ok (.float .f64 0) W := fun W => op_fin (f := f) (ty := _) (W := W) (by unfold fnan at hnan; rw [decide_eq_false_iff_not] at hnan; omega)
            have ex : (FloatKind.f64.format.order f f != some Ordering.eq) = false := by
              show (!feq f f) = false
              rw [feq_self, hnan]; rfl
            have e0 : (FloatKind.f64.format.order 0 0 != some Ordering.eq) = false := by decide
            go_enter Tryz.func46, Tryz.ntmps46
            go_upto_region 1 with (fail)
            rw [HW0.out]
            clear HW0
            go_wp2
            go_ret
            exact ⟨ret_eq (by rw [e.out]; rfl), HB0.out⟩
        · have e : Hid (ownF (.mk 3 b i f t ty its fs) = 6) := Lib.hid (by rw [ownF_eq, if_neg HG.out, if_pos rfl, hnan]; rfl)
          have ex : (FloatKind.f64.format.order f f != some Ordering.eq) = true := by
            show (!feq f f) = true
            rw [feq_self, hnan]; rfl
          go_enter Tryz.func46, Tryz.ntmps46
          go_upto_region 1 with (fail)
          rw [HW0.out]
          clear HW0
          go_wp2
          go_ret
          exact ⟨ret_eq (by rw [e.out]; rfl), HB0.out⟩
      · have h3' : (k == 3) = false := beq_eq_false_iff_ne.2 h3
        by_cases h4 : k = 4
        · subst h4
          have hconv : ∀ W, (convert 9 47 (.string t)).run Tryz.prog W = .ok (.slice (some ⟨W.heap.size, 0, none⟩) t.size (grownCap W t.size 0 5)) (Lib.bytesWorld W 5 t) := fun W => Lib.run_convert_string_bytes W _ _ 5 t Tryz.underlying9 Tryz.underlying47 Tryz.underlying5
          have HC := Lib.hid (CleanS_any t ht W0)
          have HBW := Lib.hid (Lib.bytesWorld_below W0 5 t)
          obtain ⟨V1, hV1⟩ : ∃ x, Lib.validD t.data.toList = x := ⟨_, rfl⟩
          have e : Hid (ownF (.mk 4 b i f t ty its fs) = if V1 = true then 0 else 1) := Lib.hid (by rw [ownF_eq, if_neg HG.out, if_neg (by decide), if_pos rfl, hV1])
          rw [hV1] at HC
          clear hV1
          cases V1
          all_goals
            go_enter Tryz.func46, Tryz.ntmps46
            go_upto_region 1 with (fail)
            rw [HW0.out]
            clear HW0
            go_wp2_with (go_at_call 94; refine HC.out.mono ?_; rintro e w3 ⟨rfl, hb3⟩; have HB3 := Lib.hid (HB0.out.trans ((HBW.out.trans (hb3.mono HBW.out.size)).mono HB0.out.size)); have ca := HCA.out.below (HBW.out.trans (hb3.mono HBW.out.size)) HLT.out; obtain ⟨d0, d1, d2, d3, d4, d5, d6, d7⟩ := ca.all; have hlt3 : w.heap.size < w3.heap.size := Nat.lt_of_lt_of_le HLT.out (HBW.out.trans (hb3.mono HBW.out.size)).size; simp only [Nat.zero_add] at d0 d1 d2 d3 d4 d5 d6 d7; clear hb3 ca)
            go_ret
            exact ⟨ret_eq (by rw [e.out]; rfl), HB3.out⟩
        · have h4' : (k == 4) = false := beq_eq_false_iff_ne.2 h4
          by_cases h6 : k = 6
          · subst h6
            have e : Hid (ownF (.mk 6 b i f t ty its fs) = memF [] fs) := Lib.hid (by rw [ownF_eq, if_neg HG.out, if_neg (by decide), if_neg (by decide), if_pos rfl])
            go_enter Tryz.func46, Tryz.ntmps46
            go_upto_region 1 with (fail)
            rw [HW0.out]
            clear HW0
            go_wp2
            clear a0 a1 a2 a3 a4 a5 a6 a7 hlt
            go_loopw [3] (fun iv wr => ∃ n : Nat, n ≤ fs.length ∧ iv = .int .i64 n ∧ Hid (memF ((fs.take n).map (·.1)) (fs.drop n) = memF [] fs) ∧ Hid (Below W0.heap.size W0 wr)) (fun iv _ => fs.length - (intOf iv).toNat)
            case atStart => exact ⟨0, Nat.zero_le _, rfl, Lib.hid (by simp), Lib.hid (Below.refl _ _)⟩
            case round =>
              obtain ⟨n, hn, rfl, HME, HBW⟩ := hrel
              have hltr : w.heap.size < wr.heap.size := Nat.lt_of_lt_of_le HLT.out HBW.out.size
              obtain ⟨d0, d1, d2, d3, d4, d5, d6, d7⟩ := (HCA.out.below HBW.out HLT.out).all
              simp only [Nat.zero_add] at d0 d1 d2 d3 d4 d5 d6 d7
              by_cases h1 : n < fs.length
              · obtain ⟨x, hx⟩ : ∃ x, fs[n]? = some x := ⟨fs[n], by simp [h1]⟩
                rcases HFS.out with h0 | ⟨g, o, rfl, hg, hvs⟩
                · subst h0; simp at h1
                have HVS := Lib.hid hvs
                have hbw0 : Below w.heap.size w wr := HB0.out.trans (HBW.out.mono HB0.out.size)
                have hnm := (hbw0.cell (p := ⟨g, o + n * 9, none⟩) hg).trans (hvs.get hx).1
                have hgr : g < wr.heap.size := Nat.lt_of_lt_of_le hg hbw0.size
                have HX := Lib.hid hx
                have hxs := HN.out x (List.mem_of_getElem? hx)
                have HST := Lib.hid (memF_step hx)
                obtain ⟨xn, xv⟩ := x
                dsimp only at hnm hxs HST
                have hconv : (convert 9 47 (.string xn)).run Tryz.prog wr = .ok (.slice (some ⟨wr.heap.size, 0, none⟩) xn.size (grownCap wr xn.size 0 5)) (Lib.bytesWorld wr 5 xn) := Lib.run_convert_string_bytes wr _ _ 5 xn Tryz.underlying9 Tryz.underlying47 Tryz.underlying5
                have HC := Lib.hid (CleanS_any xn hxs wr)
                have HCB := Lib.hid (Lib.bytesWorld_below wr 5 xn)
                obtain ⟨V1, hV1⟩ : ∃ z, Lib.validD xn.data.toList = z := ⟨_, rfl⟩
                rw [hV1] at HC HST
                clear hvs hx hV1
                cases V1
                · have HR : Hid (memF [] fs = 1) := Lib.hid (by rw [← HME.out, HST.out]; rfl)
                  go_wp2_with (go_at_call 94; refine HC.out.mono ?_; rintro e w3 ⟨rfl, hb3⟩; have HB3 := Lib.hid (HBW.out.trans ((HCB.out.trans (hb3.mono HCB.out.size)).mono HBW.out.size)); clear hb3)
                  go_ret
                  exact ⟨ret_eq (by rw [e.out, HR.out]; rfl), HB0.out.trans (HB3.out.mono HB0.out.size)⟩
                · have HST2 : Hid (memF ((fs.take n).map (·.1)) (fs.drop n) = if (((fs.take n).map (·.1)).any (fun m => m.toList == xn.toList)) = true then 5 else memF ((fs.take (n + 1)).map (·.1)) (fs.drop (n + 1))) := Lib.hid (by rw [HST.out]; rfl)
                  go_wp2_with (go_at_call 94; refine HC.out.mono ?_; rintro e w3 ⟨rfl, hb3⟩; have HB3 := Lib.hid (HBW.out.trans ((HCB.out.trans (hb3.mono HCB.out.size)).mono HBW.out.size)); clear hb3)
                  clear hnm hgr hbw0 hconv hltr d0 d1 d2 d3 d4 d5 d6 d7
                  go_loopw [4] (fun jv wj => ∃ j : Nat, j ≤ n ∧ jv = .int .i64 j ∧ Hid (((fs.take j).map (·.1)).any (fun m => m.toList == xn.toList) = false) ∧ Hid (Below W0.heap.size W0 wj)) (fun jv _ => n - (intOf jv).toNat)
                  case atStart => exact ⟨0, Nat.zero_le _, rfl, Lib.hid rfl, HB3⟩
                  case round =>
                    obtain ⟨j, hj, rfl, HAN, HBJ⟩ := hrel
                    have hltj : w.heap.size < wr.heap.size := Nat.lt_of_lt_of_le HLT.out HBJ.out.size
                    obtain ⟨d0, d1, d2, d3, d4, d5, d6, d7⟩ := (HCA.out.below HBJ.out HLT.out).all
                    simp only [Nat.zero_add] at d0 d1 d2 d3 d4 d5 d6 d7
                    have hbwj : Below w.heap.size w wr := HB0.out.trans (HBJ.out.mono HB0.out.size)
                    have hgj : g < wr.heap.size := Nat.lt_of_lt_of_le hg hbwj.size
                    by_cases h5 : j < n
                    · obtain ⟨y, hy⟩ : ∃ y, fs[j]? = some y := ⟨fs[j]'(by omega), by simp⟩
                      have hnx := (hbwj.cell (p := ⟨g, o + n * 9, none⟩) hg).trans (HVS.out.get HX.out).1
                      have hny := (hbwj.cell (p := ⟨g, o + j * 9, none⟩) hg).trans (HVS.out.get hy).1
                      have h51 : j < fs.length := by omega
                      have HY : Hid ((((fs.take (j + 1)).map (·.1)).any (fun m => m.toList == xn.toList)) = (y.1.toList == xn.toList)) := Lib.hid (by
                        rw [List.take_add_one, hy, List.map_append, List.any_append, HAN.out, Bool.false_or]
                        simp)
                      have HPRE : Hid ((((fs.take (j + 1)).map (·.1)).any (fun m => m.toList == xn.toList)) = true → (((fs.take n).map (·.1)).any (fun m => m.toList == xn.toList)) = true) := Lib.hid (fun h => by
                        rw [List.any_eq_true] at h ⊢
                        obtain ⟨m, hm, h2⟩ := h
                        refine ⟨m, ?_, h2⟩
                        obtain ⟨z, hz, rfl⟩ := List.mem_map.1 hm
                        refine List.mem_map.2 ⟨z, ?_, rfl⟩
                        have e1 : fs.take (j + 1) = (fs.take n).take (j + 1) := by rw [List.take_take]; congr 1; omega
                        rw [e1] at hz
                        exact List.mem_of_mem_take hz)
                      obtain ⟨yn, yv⟩ := y
                      dsimp only at hnx hny HY
                      cases hq : (yn.toList == xn.toList)
                      · have HQ : Hid ((((fs.take (j + 1)).map (·.1)).any (fun m => m.toList == xn.toList)) = false) := Lib.hid (by rw [HY.out, hq])
                        clear hy
                        go_wp2
                        refine wp_region_plan_below 13 [(0, [0, 1, 2, 3, 4, 5, 6, 7, 8, 9, 10, 11, 12])] (by kernel_rfl) (by kernel_rfl) (fun _ _ _ _ h => h) ?_
                        simp only [wpSegs, pickOps, List.getElem?_toArray, List.getElem?_cons_zero, List.getElem?_cons_succ]
                        have kc := cell_cls wr
                        iterate 13 (go_big_quiet_step (fail))
                        refine wpQuiet_nil ?_
                        clear kc
                        go_wp2
                        go_roundw
                        case rel => exact ⟨j + 1, by omega, by go_num, HQ, Lib.hid HBJ.out.drew⟩
                        case measure => simp [intOf]; omega
                      · have HQ : Hid (memF [] fs = 5) := Lib.hid (by rw [← HME.out, HST2.out, if_pos (HPRE.out (by rw [HY.out, hq]))])
                        clear hy
                        go_wp2
                        refine wp_region_plan_below 13 [(0, [0, 1, 2, 3, 4, 5, 6, 7, 8, 9, 10, 11, 12])] (by kernel_rfl) (by kernel_rfl) (fun _ _ _ _ h => h) ?_
                        simp only [wpSegs, pickOps, List.getElem?_toArray, List.getElem?_cons_zero, List.getElem?_cons_succ]
                        have kc := cell_cls wr
                        iterate 13 (go_big_quiet_step (fail))
                        refine wpQuiet_nil ?_
                        clear kc
                        go_wp2
                        go_ret
                        exact ⟨ret_eq (by rw [e.out, HQ.out]; rfl), HB0.out.trans (HBJ.out.drew.mono HB0.out.size)⟩
                    · obtain rfl : j = n := by omega
                      have HNX : Hid (memF ((fs.take (j + 1)).map (·.1)) (fs.drop (j + 1)) = memF [] fs) := Lib.hid (by rw [← HME.out, HST2.out, HAN.out]; rfl)
                      go_wp2
                      go_roundw
                      case rel => exact ⟨j + 1, by omega, by go_num, HNX, HBJ⟩
                      case measure => simp [intOf]; omega
              · have HR : Hid (memF [] fs = 0) := Lib.hid (by rw [← HME.out, List.drop_eq_nil_iff.2 (by omega)]; rfl)
                go_wp2
                go_ret
                exact ⟨ret_eq (by rw [e.out, HR.out]; rfl), HB0.out.trans (HBW.out.mono HB0.out.size)⟩
          · have h6' : (k == 6) = false := beq_eq_false_iff_ne.2 h6
            have e : Hid (ownF (.mk k b i f t ty its fs) = 0) := Lib.hid (by rw [ownF_eq, if_neg HG.out, if_neg h3, if_neg h4, if_neg h6])
            go_enter Tryz.func46, Tryz.ntmps46
            go_upto_region 1 with (fail)
            rw [HW0.out]
            clear HW0
            go_wp2
            go_ret
            exact ⟨ret_eq (by rw [e.out]; rfl), HB0.out⟩
end Go.Proofs.YtldjbgklmeigmaaGreatDoor
