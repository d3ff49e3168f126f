/- Helper text: the closed calls of the statements on results: fixed, built, Type of S. Conditions: none. -/
import Derived.Test.YtldjbgklmeigmaaGreatDoorLeaf
import Derived.Test.YtldjbgklmeigmaaGreatDoorEvPC
import Derived.Test.YtldjbgklmeigmaaGreatDoorK20
import Derived.Test.YtldjbgklmeigmaaGreatDoorKT
namespace Go.Proofs.YtldjbgklmeigmaaGreatDoor
open Go Go.RowKit Go.Proofs.YtldjbgklmeigmaaGreatDoor.Ev

theorem fixed_any (w : World) : Calls Tryz.prog 5 #[] w (RetB (.bool true) w) := by
  have h := read_call k20_ok (H := .lf) rfl rfl (stand0 Tryz.prog (Nat.le_of_ble_eq_true (by kernel_rfl)) w) (us := []) rfl
  refine h.mono ?_
  rintro e w' ⟨τ, u, _, hu, rfl, hb, _⟩
  have : u = .bool true := (Option.some.inj hu).symm
  exact ⟨by rw [this], hb⟩

/-- The bytes of the schema. -/
@[reducible] def sdlB : List Nat := [116, 121, 112, 101, 32, 81, 117, 101, 114, 121, 123, 97, 58, 73, 110, 116, 125, 115, 99, 97, 108, 97, 114, 32, 83]
def BuiltPost (b : Nat) (w : World) (e : Ending) (w' : World) : Prop := ∃ tv rv, e = .returned (.tuple #[tv, rv, .bool true]) ∧ Below b w w' ∧ TypeOk tv w'
theorem type_ok {σ : Map} {w : World} (h : Stand Tryz.prog σ kT.x k18_K w) {tv : Value} (ht : conc σ (.ptr (nm 5090) 0) = some tv) : TypeOk tv w := fun w' hb => by
  have h1 := h.on (w' := w') (fun b hlt => hb.block b hlt)
  have hu : concL σ kT.args = some [tv, .string ⟨#[83]⟩] := by
    show (conc σ (.ptr (nm 5090) 0)).bind _ = _
    rw [ht]
    rfl
  refine (read_call kT_ok (H := k18_K) rfl (by kernel_rfl) h1 hu).mono ?_
  rintro e w2 ⟨τ, u, _, hv, rfl, hb2, _⟩
  have : u = .tuple #[.agg sysS, .bool true] := by
    have e1 : conc τ kT.v = some (.tuple #[.agg sysS, .bool true]) := rfl
    rw [e1] at hv
    exact (Option.some.inj hv).symm
  exact ⟨by rw [this], hb2⟩
theorem built_any (w : World) (b : Nat) (hb : w.heap[b]? = some (.cells (sdlB.map fun n => Value.int .u8 (Int.ofNat n)).toArray 5 (25, 26))) :
    Calls Tryz.prog 12 #[.slice (some ⟨b, 0, none⟩) 25 25] w (BuiltPost b w) := by
  have hlt : b < w.heap.size := (Array.getElem?_eq_some_iff.1 hb).1
  have h0 := stand0 Tryz.prog (x := nm 400) (Nat.le_of_ble_eq_true (by kernel_rfl)) w
  have hst := stand1 h0 (s := ⟨b, 0, 25⟩) (o := .cells 5 1 false 25 (rw_ (sdlB.map fun n => [AV.int .u8 (.ofNat n)]))) (by
    refine ⟨_, 25, 26, hb, .inl (by simp), ⟨by simp, by simp⟩, fun i l hi hl => ?_⟩
    have key : ∀ i, i < 25 → PT.get (Ps.of i) (rw_ (sdlB.map fun n => [AV.int .u8 (.ofNat n)])) = (sdlB.map fun n => [AV.int .u8 (.ofNat n)])[i]? := by
      have : ∃ t, layRow (sdlB.map fun n => [AV.int .u8 (.ofNat n)]) 0 .lf = some t := ⟨_, rfl⟩
      obtain ⟨t, ht⟩ := this
      intro i hi
      have h1 := layRow_get _ 0 _ _ ht i
      rw [if_pos ⟨by omega, by simpa using hi⟩, Nat.sub_zero] at h1
      unfold rw_
      rw [ht]
      exact h1
    rw [key i hi, List.getElem?_map] at hl
    cases hn : sdlB[i]? with
    | none => rw [hn] at hl; cases hl
    | some n =>
      rw [hn] at hl
      cases hl
      refine ⟨rfl, fun j a ha => ?_⟩
      match j, ha with
      | 0, ha =>
        cases ha
        refine ⟨.int .u8 (Int.ofNat n), rfl, ?_⟩
        simp only [List.getElem?_toArray, List.getElem?_map]
        rw [show 0 + i * 1 + 0 = i by omega, hn]
        rfl
      | j + 1, ha => simp at ha)
  have hσ : (Map.upd (sig0 Tryz.prog) (nm 400) ⟨b, 0, 25⟩) (nm 400) = some ⟨b, 0, 25⟩ := Map.upd_same _ _ _
  have hH : k18.H = PT.put (some (.cells 5 1 false 25 (rw_ (sdlB.map fun n => [AV.int .u8 (.ofNat n)])))) (nm 400) .lf := by kernel_rfl
  have hx : k18.x = (nm 400).succ := by kernel_rfl
  have hu : concL (Map.upd (sig0 Tryz.prog) (nm 400) ⟨b, 0, 25⟩) k18.args = some [.slice (some ⟨b, 0, none⟩) 25 25] := by
    show (conc _ (.slc (nm 400) 0 25 (.known 25))).bind _ = _
    simp only [conc, hσ]
    rfl
  refine (own_call k18_ok (σ := Map.upd (sig0 Tryz.prog) (nm 400) ⟨b, 0, 25⟩) (by rw [hH, hx]; exact hst) hu).mono ?_
  rintro e w' ⟨τ, u, _, hv, rfl, q1, q2, q3, q4, q5, q6⟩
  have hbel : Below b w w' := ⟨q1, q2, q3, q4, fun y hy => q5 y (by omega) (fun n o s hn _ hs => by
    rw [hH, PT.get_put, PT.get_lf] at hn
    split at hn
    · rename_i he
      rw [he, hσ] at hs
      cases hs
      simp only
      omega
    · cases hn)⟩
  have hvt : ∃ tv rv, conc τ (.ptr (nm 5090) 0) = some tv ∧ u = .tuple #[tv, rv, .bool true] := by
    have e1 : conc τ k18.v = (concL τ [.ptr (nm 5090) 0, (.ptr (nm 6315) 0), .bool true]).map fun x => .tuple x.toArray := rfl
    rw [e1] at hv
    cases h1 : conc τ (.ptr (nm 5090) 0) with
    | none => simp [concL, h1] at hv
    | some tv =>
      cases h2 : conc τ (.ptr (nm 6315) 0) with
      | none => simp [concL, h1, h2] at hv
      | some rv =>
        have e2 : (concL τ [.ptr (nm 5090) 0, (.ptr (nm 6315) 0), .bool true]).map (fun x => Value.tuple x.toArray) = some (.tuple #[tv, rv, .bool true]) := by
          show (((conc τ (.ptr (nm 5090) 0)).bind fun x => ((conc τ (.ptr (nm 6315) 0)).bind fun y => (some [Value.bool true]).map (y :: ·)).map (x :: ·)).map fun x => Value.tuple x.toArray) = _
          rw [h1, h2]
          rfl
        rw [e2] at hv
        exact ⟨tv, rv, rfl, (Option.some.inj hv).symm⟩
  obtain ⟨tv, rv, ht, rfl⟩ := hvt
  exact ⟨tv, rv, rfl, hbel, type_ok q6 ht⟩
end Go.Proofs.YtldjbgklmeigmaaGreatDoor
