/- Plain law: what is equal is the same; the order of members makes no difference to the count and the depth. Conditions: none. -/
import Derived.Test.YtnmnmkdmnohbmaaKnown
import Derived.Test.YtnmnmkdmnohbmaaRefCount
namespace Go.Proofs.Ytnmnmkdmnohbmaa
open Go.RowKit

mutual
theorem eq_same : ∀ u v : V, eqV u v = true → sameV u v = true
  | .mk k b i f t ty its fs, .mk k' b' i' f' t' ty' its' fs', h => by
    rw [eqV] at h
    rw [sameV_mk]
    split at h
    · rename_i hk
      rw [if_pos hk]
      split at h
      · rename_i h5
        rw [if_pos h5]
        rw [Bool.and_eq_true] at h ⊢
        exact ⟨h.1, eq_sameVs its its' h.2⟩
      · rename_i h5
        rw [if_neg h5]
        split at h
        · rename_i h6
          rw [if_pos h6]
          rw [Bool.and_eq_true] at h ⊢
          refine ⟨h.1, ?_⟩
          rw [greedy_iff memS (fun _ => True) (fun x _ => by simp [memS, sameV_refl]) (fun x y _ _ h => by
            simp only [memS, Bool.and_eq_true, beq_iff_eq] at h ⊢
            exact ⟨h.1.symm, by rw [sameV_symm]; exact h.2⟩) (fun x y z _ _ _ h h' => by
            simp only [memS, Bool.and_eq_true, beq_iff_eq] at h h' ⊢
            exact ⟨h.1.trans h'.1, sameV_trans h.2 h'.2⟩) _ _ (fun _ _ => trivial) (fun _ _ => trivial)]
          intro z _
          exact Nat.le_of_eq (eq_sameFs fs fs' (by simpa using h.1) h.2 z)
        · rename_i h6
          rw [if_neg h6]
          exact h
    · cases h
termination_by structural u => u
theorem eq_sameVs : ∀ l m : List V, eqVs l m = true → sameVs l m = true
  | [], m, _ => by rw [sameVs]; simp
  | v :: r, [], _ => by rw [sameVs]; simp
  | v :: r, v' :: r', h => by
    rw [eqVs, Bool.and_eq_true] at h
    rw [sameVs, eq_same v v' h.1, eq_sameVs r r' h.2]
    rfl
termination_by structural l => l
theorem eq_sameFs : ∀ (l m : List (ByteArray × V)), l.length = m.length → eqFs l m = true → ∀ z, l.countP (memS z) = m.countP (memS z)
  | [], [], _, _, _ => rfl
  | x :: r, x' :: r', hl, h, z => by
    rw [eqFs, Bool.and_eq_true, Bool.and_eq_true] at h
    have hs := eq_same x.2 x'.2 h.1.2
    have hm : memS z x = memS z x' := by
      simp only [memS]
      rw [beq_iff_eq.1 h.1.1, sameV_symm z.2 x.2, sameV_symm z.2 x'.2, sameV_left z.2 hs]
    rw [List.countP_cons, List.countP_cons, hm, eq_sameFs r r' (by simpa using hl) h.2 z]
  | [], _ :: _, hl, _, _ => by simp at hl
  | _ :: _, [], hl, _, _ => by simp at hl
termination_by structural l => l
end

theorem cntFs_app : ∀ l m : List (ByteArray × V), cntFs (l ++ m) = cntFs l + cntFs m
  | [], m => by rw [List.nil_append]; simp only [cntFs]; omega
  | x :: r, m => by rw [List.cons_append]; simp only [cntFs, cntFs_app r m]; omega
theorem cntFs_rev : ∀ l : List (ByteArray × V), cntFs l.reverse = cntFs l
  | [] => rfl
  | x :: r => by rw [List.reverse_cons, cntFs_app, cntFs_rev r]; simp only [cntFs]; omega
theorem depFs_app : ∀ l m : List (ByteArray × V), depFs (l ++ m) = max (depFs l) (depFs m)
  | [], m => by rw [List.nil_append]; simp only [depFs]; omega
  | x :: r, m => by rw [List.cons_append]; simp only [depFs, depFs_app r m]; omega
theorem depFs_rev : ∀ l : List (ByteArray × V), depFs l.reverse = depFs l
  | [] => rfl
  | x :: r => by rw [List.reverse_cons, depFs_app, depFs_rev r]; simp only [depFs]; omega

mutual
theorem cnt_turn : ∀ v : V, cntV (turnV v) = cntV v
  | .mk k b i f t ty its fs => by rw [turnV]; simp only [cntV, cntFs_rev, cnt_turnVs its, cnt_turnFs fs]
theorem cnt_turnVs : ∀ l : List V, cntVs (turnVs l) = cntVs l
  | [] => by rw [turnVs]
  | v :: r => by rw [turnVs]; simp only [cntVs, cnt_turn v, cnt_turnVs r]
theorem cnt_turnFs : ∀ l : List (ByteArray × V), cntFs (turnFs l) = cntFs l
  | [] => by rw [turnFs]
  | x :: r => by rw [turnFs]; simp only [cntFs, cnt_turn x.2, cnt_turnFs r]
end

mutual
theorem dep_turn : ∀ v : V, depV (turnV v) = depV v
  | .mk k b i f t ty its fs => by rw [turnV]; simp only [depV, depFs_rev, dep_turnVs its, dep_turnFs fs]
theorem dep_turnVs : ∀ l : List V, depVs (turnVs l) = depVs l
  | [] => by rw [turnVs]
  | v :: r => by rw [turnVs]; simp only [depVs, dep_turn v, dep_turnVs r]
theorem dep_turnFs : ∀ l : List (ByteArray × V), depFs (turnFs l) = depFs l
  | [] => by rw [turnFs]
  | x :: r => by rw [turnFs]; simp only [depFs, dep_turn x.2, dep_turnFs r]
end
end Go.Proofs.Ytnmnmkdmnohbmaa
