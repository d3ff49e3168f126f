/- Helper text: walks over SameFloat and kind of the reference, IsNaN and Same of the program. Conditions: none. -/
import Derived.Test.YtnmnmkdmnohbmaaDoorVal
import Derived.Test.YtnmnmkdmnohbmaaDoorFloat
namespace Go.Proofs.YtnmnmkdmnohbmaaDoor
open Go.RowKit

theorem refSameFloat_any (x y : Nat) (hx : x < 18446744073709551616) (hy : y < 18446744073709551616) (w : World) :
    Calls Tryd.prog 58 #[.float .f64 x, .float .f64 y] w (RetS (.bool (sameF x y)) w) := by
  have o1 : ∀ u v, (FloatKind.f64.format.order u v == some Ordering.eq) = feq u v := fun _ _ => rfl
  have o2 : ∀ u v, (FloatKind.f64.format.order u v != some Ordering.eq) = !feq u v := fun _ _ => rfl
  have ex : feq x x = !fnan x := feq_self x
  have ey : feq y y = !fnan y := feq_self y
  have zx : feq x 0 = fzero x := feq_zero x
  have zy : feq y 0 = fzero y := feq_zero y
  cases nx : fnan x
  · cases ny : fnan y
    · rw [nx] at ex
      rw [ny] at ey
      cases fx : fzero x
      · rw [fx] at zx
        have hs : feq x y = sameF x y := sameF_of_feq hx hy nx ny (by rw [fx]; rfl)
        have HS := Lib.hid hs
        clear hs hx hy nx ny fx zy
        go_enter Tryd.func58, Tryd.ntmps58
        go_wp2
        go_ret
        exact ⟨ret_eq (by rw [← HS.out]; rfl), rfl⟩
      · cases fy : fzero y
        · rw [fx] at zx
          rw [fy] at zy
          have hs : feq x y = sameF x y := sameF_of_feq hx hy nx ny (by rw [fy]; simp)
          have HS := Lib.hid hs
          clear hs hx hy nx ny fx fy
          go_enter Tryd.func58, Tryd.ntmps58
          go_wp2
          go_ret
          exact ⟨ret_eq (by rw [← HS.out]; rfl), rfl⟩
        · have hs : (feq (finf (fneg x)) (finf (fneg y))) = sameF x y := by rw [feq_finf, sameF_zero hx hy fx fy]
          have d1 : FloatKind.f64.format.div 4607182418800017408 x = some (finf (fneg x)) := div_zero fx
          have d2 : FloatKind.f64.format.div 4607182418800017408 y = some (finf (fneg y)) := div_zero fy
          rw [fx] at zx
          rw [fy] at zy
          have HS := Lib.hid hs
          clear hs hx hy nx ny fx fy
          generalize finf (fneg x) = u at *
          generalize finf (fneg y) = v at *
          have q1 : ∀ wx, (binOp BinOp.quo 23 (.float .f64 4607182418800017408) (.float .f64 x)).run Tryd.prog wx = .ok (.float .f64 u) wx := fun wx => run_float_arith wx .quo _ .f64 _ _ u d1
          have q2 : ∀ wx, (binOp BinOp.quo 23 (.float .f64 4607182418800017408) (.float .f64 y)).run Tryd.prog wx = .ok (.float .f64 v) wx := fun wx => run_float_arith wx .quo _ .f64 _ _ v d2
          clear d1 d2
          go_enter Tryd.func58, Tryd.ntmps58
          go_wp2
          go_ret
          exact ⟨ret_eq (by rw [← HS.out]; rfl), rfl⟩
    · rw [nx] at ex
      rw [ny] at ey
      have hs : sameF x y = false := by simp [sameF, nx, ny]
      have HS := Lib.hid hs
      clear hs hx hy nx ny
      go_enter Tryd.func58, Tryd.ntmps58
      go_wp2
      go_ret
      exact ⟨ret_eq (by rw [HS.out]; rfl), rfl⟩
  · rw [nx] at ex
    have hs : sameF x y = fnan y := by simp [sameF, nx]
    have HS := Lib.hid hs
    clear hs hx hy nx
    generalize fnan y = ny at *
    cases ny
    all_goals
      go_enter Tryd.func58, Tryd.ntmps58
      go_wp2
      go_ret
      exact ⟨ret_eq (by rw [HS.out]; rfl), rfl⟩

theorem refkind_any (k : Int) (b : Bool) (i : Int) (f : Nat) (t ty : ByteArray) (p : Option Addr) (n c : Nat) (q : Option Addr) (m d : Nat) (w : World) :
    Calls Tryd.prog 86 #[.agg (vcells k b i f t ty p n c q m d)] w (RetB (.int .i64 (kd k)) w) := by
  by_cases h1 : k < 0
  · have hk : kd k = 0 := by simp [kd, h1]
    rw [hk]
    clear hk
    go_enter Tryd.func86, Tryd.ntmps86
    go_wp2
    go_ret
    exact ⟨rfl, (Below.refl _ _).alloc (Nat.le_refl _) _⟩
  · by_cases h2 : 7 < k
    · have hk : kd k = 0 := by simp [kd, h2]
      rw [hk]
      clear hk
      go_enter Tryd.func86, Tryd.ntmps86
      go_wp2
      go_ret
      exact ⟨rfl, (Below.refl _ _).alloc (Nat.le_refl _) _⟩
    · have hk : kd k = k := by simp [kd, h1, h2]
      rw [hk]
      clear hk
      go_enter Tryd.func86, Tryd.ntmps86
      go_wp2
      go_ret
      exact ⟨rfl, (Below.refl _ _).alloc (Nat.le_refl _) _⟩
end Go.Proofs.YtnmnmkdmnohbmaaDoor
