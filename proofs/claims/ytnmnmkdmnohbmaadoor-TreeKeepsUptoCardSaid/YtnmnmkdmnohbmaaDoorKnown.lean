/- Helper text: the walk over known: the fixed facts hold. Conditions: none. -/
import Derived.Test.YtnmnmkdmnohbmaaDoorSame
import Derived.Test.YtnmnmkdmnohbmaaDoorTurn
import Derived.Test.YtnmnmkdmnohbmaaDoorDepth
import Derived.Test.YtnmnmkdmnohbmaaDoorTwo
namespace Go.Proofs.YtnmnmkdmnohbmaaDoor
open Go.RowKit
attribute [local go_sem] run_store_float

mutual
theorem eqV_refl : ∀ v : V, eqV v v = true
  | .mk k b i f t ty its fs => by
    rw [eqV, if_pos rfl]
    split
    · rw [eqVs_refl its]; simp
    · split
      · rw [eqFs_refl fs]; simp
      · exact plainV_refl _ _ _ _ _ _
theorem eqVs_refl : ∀ l : List V, eqVs l l = true
  | [] => by rw [eqVs]; simp
  | v :: r => by rw [eqVs, eqV_refl v, eqVs_refl r]; rfl
theorem eqFs_refl : ∀ l : List (ByteArray × V), eqFs l l = true
  | [] => by rw [eqFs]; simp
  | x :: r => by rw [eqFs, eqV_refl x.2, eqFs_refl r]; simp
end

theorem countP_map_same {α : Type} (p : α → Bool) (f : α → α) (h : ∀ x, p (f x) = p x) : ∀ l : List α, (l.map f).countP p = l.countP p
  | [] => rfl
  | x :: r => by simp only [List.map_cons, List.countP_cons, h, countP_map_same p f h r]

mutual
theorem same_turn : ∀ v : V, sameV v (turnV v) = true
  | .mk k b i f t ty its fs => by
    have h1 := same_turnVs its
    have h2 := same_turnFs fs
    rw [turnV, sameV_mk, if_pos rfl]
    split
    · rw [h1]; simp [turnVs_map]
    · split
      · rw [Bool.and_eq_true]
        refine ⟨by simp [turnFs_map], ?_⟩
        rw [greedy_iff memS (fun _ => True) (fun x _ => by simp [memS, sameV_refl]) (fun x y _ _ h => by
            simp only [memS, Bool.and_eq_true, beq_iff_eq] at h ⊢
            exact ⟨h.1.symm, by rw [sameV_symm]; exact h.2⟩) (fun x y z _ _ _ h h' => by
            simp only [memS, Bool.and_eq_true, beq_iff_eq] at h h' ⊢
            exact ⟨h.1.trans h'.1, sameV_trans h.2 h'.2⟩) _ _ (fun _ _ => trivial) (fun _ _ => trivial)]
        intro z _
        rw [List.countP_reverse]
        exact Nat.le_of_eq (h2 z)
      · exact plainV_refl _ _ _ _ _ _
theorem same_turnVs : ∀ l : List V, sameVs l (turnVs l) = true
  | [] => by rw [sameVs]; simp
  | v :: r => by rw [turnVs, sameVs, same_turn v, same_turnVs r]; rfl
theorem same_turnFs : ∀ (l : List (ByteArray × V)) (z : ByteArray × V), l.countP (memS z) = (turnFs l).countP (memS z)
  | [], _ => by rw [turnFs]
  | x :: r, z => by
    have h : memS z (x.1, turnV x.2) = memS z x := by
      simp only [memS]
      rw [sameV_symm z.2 (turnV x.2), sameV_symm z.2 x.2, sameV_left z.2 (same_turn x.2)]
    rw [turnFs, List.countP_cons, List.countP_cons, h, same_turnFs r z]
end

theorem cnt_two : cntV twoV = 6 := by rfl
theorem dep_two : depV twoV = 3 := by rfl
theorem sz_two : szV twoV ≤ 100 := by decide
theorem ne_two : eqV twoV (turnV twoV) = false := by
  simp [twoV, turnV, turnFs, turnVs, eqV, eqFs, kd, ByteArray.toList_eq]

theorem nm_two : nmV twoV := by
  simp [twoV, listV, textV, numV, innerV, V0, nmV, nmVs, nmFs, maxLen, ByteArray.size]
theorem nm_two' : nmV (turnV twoV) := by
  simp [twoV, listV, textV, numV, innerV, V0, turnV, turnVs, turnFs, nmV, nmVs, nmFs, maxLen, ByteArray.size]

theorem turned_is (v : V) (cs : Array Value) (w : World) (hv : IsV w.heap.size w v cs) (hm : szV v ≤ 1000000) :
    Calls Tryd.prog 73 #[.agg cs] w (fun e w' => ∃ cs', e = .returned (.agg cs') ∧ IsV w'.heap.size w' (turnV v) cs' ∧ Below w.heap.size w w') :=
  (turned_any _ v (Nat.le_refl _) cs w hv hm).mono fun _ _ ⟨cs', _, he, ho, _, hl, hb⟩ => ⟨cs', he, ho.isV (fun y hy => (hl y hy).2), hb⟩

set_option maxRecDepth 100000 in
set_option maxHeartbeats 2000000 in
theorem known_any (w : World) : Calls Tryd.prog 32 #[] w (RetB (.bool true) w) := by
  have E1 : ∀ cs cs' w, IsV w.heap.size w twoV cs → IsV w.heap.size w twoV cs' → Calls Tryd.prog 34 #[.agg cs, .agg cs'] w (RetB (.bool true) w) := fun cs cs' w h h' => by
    have := Equal_any _ twoV (Nat.le_refl _) twoV cs cs' w h h'
    rwa [eqV_refl] at this
  have E2 : ∀ cs cs' w, IsV w.heap.size w twoV cs → IsV w.heap.size w (turnV twoV) cs' → Calls Tryd.prog 34 #[.agg cs, .agg cs'] w (RetB (.bool false) w) := fun cs cs' w h h' => by
    have := Equal_any _ twoV (Nat.le_refl _) (turnV twoV) cs cs' w h h'
    rwa [ne_two] at this
  have E3 : ∀ cs cs' w, IsV w.heap.size w twoV cs → IsV w.heap.size w (turnV twoV) cs' → Calls Tryd.prog 42 #[.agg cs, .agg cs'] w (RetB (.bool true) w) := fun cs cs' w h h' => by
    have := Same_any _ twoV (Nat.le_refl _) nm_two (turnV twoV) nm_two' cs cs' w h h'
    rwa [same_turn] at this
  have E4 : ∀ cs w, IsV w.heap.size w twoV cs → Calls Tryd.prog 35 #[.agg cs] w (RetB (.int .i64 6) w) := fun cs w h => by
    have := Count_any _ twoV (Nat.le_refl _) cs w h (by have := sz_two; omega)
    rwa [cnt_two] at this
  have E5 : ∀ cs w, IsV w.heap.size w twoV cs → Calls Tryd.prog 45 #[.agg cs] w (RetB (.int .i64 3) w) := fun cs w h => by
    have := Depth_any _ twoV (Nat.le_refl _) cs w h (by have := sz_two; omega)
    rwa [dep_two] at this
  have T : ∀ cs w, IsV w.heap.size w twoV cs → Calls Tryd.prog 73 #[.agg cs] w (fun e w' => ∃ cs', e = .returned (.agg cs') ∧ IsV w'.heap.size w' (turnV twoV) cs' ∧ Below w.heap.size w w') := fun cs w h => turned_is twoV cs w h (by have := sz_two; omega)
  replace E1 := Lib.hid E1
  replace E2 := Lib.hid E2
  replace E3 := Lib.hid E3
  replace E4 := Lib.hid E4
  replace E5 := Lib.hid E5
  replace T := Lib.hid T
  go_enter Tryd.func32, Tryd.ntmps32
  have tk := trivial
  go_wp2_with (go_at_call 72; clear tk; refine (two_any _).mono ?_; rintro e w1 ⟨c1, rfl, vc1, b1⟩)
  have tk := trivial
  go_wp2_with (go_at_call 72; clear tk; refine (two_any _).mono ?_; rintro e w2 ⟨c2, rfl, vc2, b2⟩; replace vc1 := vc1.on b2)
  have tk := trivial
  go_wp2_with (go_at_call 34; clear tk; refine (E1.out _ _ _ vc1 vc2).mono ?_; rintro e w3 ⟨rfl, b3⟩)
  clear vc1 vc2
  have tk := trivial
  go_wp2_with (go_at_call 72; clear tk; refine (two_any _).mono ?_; rintro e w4 ⟨c3, rfl, vc3, b4⟩)
  have tk := trivial
  go_wp2_with (go_at_call 72; clear tk; refine (two_any _).mono ?_; rintro e w5 ⟨c4, rfl, vc4, b5⟩; replace vc3 := vc3.on b5)
  have tk := trivial
  go_wp2_with (go_at_call 73; clear tk; refine (T.out _ _ vc4).mono ?_; rintro e w6 ⟨c5, rfl, vc5, b6⟩; replace vc3 := vc3.on b6; replace vc4 := vc4.on b6)
  have tk := trivial
  go_wp2_with (go_at_call 34; clear tk; refine (E2.out _ _ _ vc3 vc5).mono ?_; rintro e w7 ⟨rfl, b7⟩)
  clear vc3 vc4 vc5
  have tk := trivial
  go_wp2_with (go_at_call 72; clear tk; refine (two_any _).mono ?_; rintro e w8 ⟨c6, rfl, vc6, b8⟩)
  have tk := trivial
  go_wp2_with (go_at_call 72; clear tk; refine (two_any _).mono ?_; rintro e w9 ⟨c7, rfl, vc7, b9⟩; replace vc6 := vc6.on b9)
  have tk := trivial
  go_wp2_with (go_at_call 73; clear tk; refine (T.out _ _ vc7).mono ?_; rintro e w10 ⟨c8, rfl, vc8, b10⟩; replace vc6 := vc6.on b10; replace vc7 := vc7.on b10)
  have tk := trivial
  go_wp2_with (go_at_call 42; clear tk; refine (E3.out _ _ _ vc6 vc8).mono ?_; rintro e w11 ⟨rfl, b11⟩)
  clear vc6 vc7 vc8
  have tk := trivial
  go_wp2_with (go_at_call 72; clear tk; refine (two_any _).mono ?_; rintro e w12 ⟨c9, rfl, vc9, b12⟩)
  have tk := trivial
  go_wp2_with (go_at_call 35; clear tk; refine (E4.out _ _ vc9).mono ?_; rintro e w13 ⟨rfl, b13⟩)
  clear vc9
  have tk := trivial
  go_wp2_with (go_at_call 72; clear tk; refine (two_any _).mono ?_; rintro e w14 ⟨c10, rfl, vc10, b14⟩)
  have tk := trivial
  go_wp2_with (go_at_call 45; clear tk; refine (E5.out _ _ vc10).mono ?_; rintro e w15 ⟨rfl, b15⟩)
  clear vc10
  go_ret
  have b2 := b1.trans (b2.mono b1.size)
  have b3 := b2.trans (b3.mono b2.size)
  have b4 := b3.trans (b4.mono b3.size)
  have b5 := b4.trans (b5.mono b4.size)
  have b6 := b5.trans (b6.mono b5.size)
  have b7 := b6.trans (b7.mono b6.size)
  have b8 := b7.trans (b8.mono b7.size)
  have b9 := b8.trans (b9.mono b8.size)
  have b10 := b9.trans (b10.mono b9.size)
  have b11 := b10.trans (b11.mono b10.size)
  have b12 := b11.trans (b12.mono b11.size)
  have b13 := b12.trans (b13.mono b12.size)
  have b14 := b13.trans (b14.mono b13.size)
  have b15 := b14.trans (b15.mono b14.size)
  exact ⟨rfl, b15⟩
end Go.Proofs.YtnmnmkdmnohbmaaDoor
