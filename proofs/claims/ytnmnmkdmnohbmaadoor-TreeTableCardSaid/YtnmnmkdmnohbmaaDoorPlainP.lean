/- Helper text: values without children alike: the walks over plain and Same of numbers. Conditions: none. -/
import Derived.Test.YtnmnmkdmnohbmaaDoorWhole
import Derived.Laws.Externs
namespace Go.Proofs.YtnmnmkdmnohbmaaDoor
open Go.RowKit

/-- Two values of the kind k, without children, alike. -/
def plainV (k : Int) (b b' : Bool) (i i' : Int) (f f' : Nat) (t t' ty ty' : ByteArray) : Bool :=
  if k = 1 then b == b' else if k = 2 then i == i' else if k = 3 then sameF f f' else if k = 4 then t.toList == t'.toList
  else if k = 7 then ty.toList == ty'.toList && t.toList == t'.toList else true

theorem two_allocs (w : World) (A B : Array Value) (s t : TypeId) : ∃ wa, (w.alloc (.cells A s)).alloc (.cells B t) = wa ∧ Below w.heap.size w wa ∧
    w.heap.size < wa.heap.size ∧ w.heap.size + 1 < wa.heap.size ∧ CellsAt wa w.heap.size 0 A ∧ CellsAt wa (w.heap.size + 1) 0 B := by
  refine ⟨_, rfl, ((Below.refl _ _).alloc (Nat.le_refl _) _).alloc (by simp) _, by simp; omega, by simp, ?_, ?_⟩
  · exact (cellsAt_alloc w _ _ _).below ((Below.refl _ _).alloc (Nat.le_refl _) _) (by simp)
  · have := cellsAt_alloc (w.alloc (.cells A s)) B t (0, 0)
    rwa [World.size_alloc] at this

theorem numberSame_any (x y : Nat) (w : World) : Calls Tryd.prog 107 #[.float .f64 x, .float .f64 y] w (RetS (.bool (sameF x y)) w) := by
  have o2 : ∀ u v, (FloatKind.f64.format.order u v != some Ordering.eq) = !feq u v := fun _ _ => rfl
  have ex : feq x x = !fnan x := feq_self x
  have ey : feq y y = !fnan y := feq_self y
  have hb : ∀ z wx, (callFunc 122 #[.float .f64 z]).run Tryd.prog wx = .ok (.value (.int .u64 z)) wx := fun z wx =>
    run_callFunc_extern (e := Extern.MathFloatBits.float64bits) Tryd.func122 (by kernel_rfl) (by kernel_rfl) (by kernel_rfl) (by kernel_rfl) _ _
  cases nx : fnan x
  · rw [nx] at ex
    cases ny : fnan y
    · rw [ny] at ey
      have hs : sameF x y = (x == y) := by simp [sameF, nx, ny]
      have hq : ((x : Int) == (y : Int)) = (x == y) := by
        by_cases h : x = y
        · simp [h]
        · rw [beq_eq_false_iff_ne.2 h]
          exact beq_eq_false_iff_ne.2 (fun e => h (by omega))
      rw [hs]
      clear hs nx ny
      go_enter Tryd.func107, Tryd.ntmps107
      go_wp2
      go_ret
      exact ⟨ret_eq (by simp), rfl⟩
    · rw [ny] at ey
      have hs : sameF x y = false := by simp [sameF, nx, ny]
      rw [hs]
      clear hs nx ny
      go_enter Tryd.func107, Tryd.ntmps107
      go_wp2
      go_ret
      exact ⟨rfl, rfl⟩
  · rw [nx] at ex
    have hs : sameF x y = fnan y := by simp [sameF, nx]
    rw [hs]
    clear hs nx
    generalize fnan y = ny at *
    cases ny
    all_goals
      go_enter Tryd.func107, Tryd.ntmps107
      go_wp2
      go_ret
      exact ⟨rfl, rfl⟩

set_option maxRecDepth 100000 in
set_option maxHeartbeats 1000000 in
theorem plain_any (k : Int) (b : Bool) (i : Int) (f : Nat) (t ty : ByteArray) (p : Option Addr) (n c : Nat) (q : Option Addr) (m d : Nat)
    (k' : Int) (b' : Bool) (i' : Int) (f' : Nat) (t' ty' : ByteArray) (p' : Option Addr) (n' c' : Nat) (q' : Option Addr) (m' d' : Nat) (w : World) :
    Calls Tryd.prog 76 #[.agg (vcells k b i f t ty p n c q m d), .agg (vcells k' b' i' f' t' ty' p' n' c' q' m' d')] w (RetB (.bool (plainV (kd k) b b' i i' f f' t t' ty ty')) w) := by
  have K1 := kind_any k b i f t ty p n c q m d
  have HS := numberSame_any f f'
  generalize kd k = κ at K1 ⊢
  obtain ⟨wa, e, hwa, hs0, hs1, hal, hal'⟩ := two_allocs w (vcells k b i f t ty p n c q m d) (vcells k' b' i' f' t' ty' p' n' c' q' m' d') 27 27
  obtain ⟨a0, a1, a2, a3, a4, a5, a6, a7⟩ := hal.all0
  by_cases h1 : κ = 1
  · subst h1
    have hr : plainV 1 b b' i i' f f' t t' ty ty' = (b == b') := rfl
    rw [hr]
    clear hr
    go_enter Tryd.func76, Tryd.ntmps76
    go_wp2_with (go_at_call 75; refine (K1 _).mono ?_; rintro e w1 ⟨rfl, hb1⟩; obtain ⟨c0, c1, c2, c3, c4, c5, c6, c7⟩ := (hal.below hb1 hs0).all0; obtain ⟨d0, d1, d2, d3, d4, d5, d6, d7⟩ := (hal'.below hb1 hs1).all0)
    go_ret
    exact ⟨by first | rfl | simp, hwa.trans (hb1.mono hwa.size)⟩
  · by_cases h2 : κ = 2
    · subst h2
      have hr : plainV 2 b b' i i' f f' t t' ty ty' = (i == i') := rfl
      rw [hr]
      clear hr
      go_enter Tryd.func76, Tryd.ntmps76
      go_wp2_with (go_at_call 75; refine (K1 _).mono ?_; rintro e w1 ⟨rfl, hb1⟩; obtain ⟨c0, c1, c2, c3, c4, c5, c6, c7⟩ := (hal.below hb1 hs0).all0; obtain ⟨d0, d1, d2, d3, d4, d5, d6, d7⟩ := (hal'.below hb1 hs1).all0)
      go_ret
      exact ⟨by first | rfl | simp, hwa.trans (hb1.mono hwa.size)⟩
    · by_cases h3 : κ = 3
      · subst h3
        have hr : plainV 3 b b' i i' f f' t t' ty ty' = (sameF f f') := rfl
        rw [hr]
        clear hr
        go_enter Tryd.func76, Tryd.ntmps76
        go_wp2_with (first | (go_at_call 75; refine (K1 _).mono ?_; rintro e w1 ⟨rfl, hb1⟩; obtain ⟨c0, c1, c2, c3, c4, c5, c6, c7⟩ := (hal.below hb1 hs0).all0; obtain ⟨d0, d1, d2, d3, d4, d5, d6, d7⟩ := (hal'.below hb1 hs1).all0) | (go_at_call 107; refine (HS _).mono ?_; rintro e w2 ⟨rfl, rfl⟩))
        go_ret
        exact ⟨by first | rfl | simp, hwa.trans (hb1.mono hwa.size)⟩
      · by_cases h4 : κ = 4
        · subst h4
          have hr : plainV 4 b b' i i' f f' t t' ty ty' = (t.toList == t'.toList) := rfl
          rw [hr]
          clear hr
          cases hq : (t.toList == t'.toList)
          all_goals
            go_enter Tryd.func76, Tryd.ntmps76
            go_wp2_with (go_at_call 75; refine (K1 _).mono ?_; rintro e w1 ⟨rfl, hb1⟩; obtain ⟨c0, c1, c2, c3, c4, c5, c6, c7⟩ := (hal.below hb1 hs0).all0; obtain ⟨d0, d1, d2, d3, d4, d5, d6, d7⟩ := (hal'.below hb1 hs1).all0)
            go_ret
            exact ⟨by first | rfl | simp, hwa.trans (hb1.mono hwa.size)⟩
        · by_cases h7 : κ = 7
          · subst h7
            have hr : plainV 7 b b' i i' f f' t t' ty ty' = (ty.toList == ty'.toList && t.toList == t'.toList) := rfl
            rw [hr]
            clear hr
            cases hq : (ty.toList == ty'.toList)
            · rw [Bool.false_and]
              go_enter Tryd.func76, Tryd.ntmps76
              go_wp2_with (go_at_call 75; refine (K1 _).mono ?_; rintro e w1 ⟨rfl, hb1⟩; obtain ⟨c0, c1, c2, c3, c4, c5, c6, c7⟩ := (hal.below hb1 hs0).all0; obtain ⟨d0, d1, d2, d3, d4, d5, d6, d7⟩ := (hal'.below hb1 hs1).all0)
              go_ret
              exact ⟨by first | rfl | simp, hwa.trans (hb1.mono hwa.size)⟩
            · rw [Bool.true_and]
              cases hq2 : (t.toList == t'.toList)
              all_goals
                go_enter Tryd.func76, Tryd.ntmps76
                go_wp2_with (go_at_call 75; refine (K1 _).mono ?_; rintro e w1 ⟨rfl, hb1⟩; obtain ⟨c0, c1, c2, c3, c4, c5, c6, c7⟩ := (hal.below hb1 hs0).all0; obtain ⟨d0, d1, d2, d3, d4, d5, d6, d7⟩ := (hal'.below hb1 hs1).all0)
                go_ret
                exact ⟨by first | rfl | simp, hwa.trans (hb1.mono hwa.size)⟩
          · have hr : plainV κ b b' i i' f f' t t' ty ty' = true := by simp [plainV, h1, h2, h3, h4, h7]
            rw [hr]
            clear hr
            go_enter Tryd.func76, Tryd.ntmps76
            go_wp2_with (go_at_call 75; refine (K1 _).mono ?_; rintro e w1 ⟨rfl, hb1⟩; obtain ⟨c0, c1, c2, c3, c4, c5, c6, c7⟩ := (hal.below hb1 hs0).all0; obtain ⟨d0, d1, d2, d3, d4, d5, d6, d7⟩ := (hal'.below hb1 hs1).all0)
            go_ret
            exact ⟨by first | rfl | simp, hwa.trans (hb1.mono hwa.size)⟩
end Go.Proofs.YtnmnmkdmnohbmaaDoor
