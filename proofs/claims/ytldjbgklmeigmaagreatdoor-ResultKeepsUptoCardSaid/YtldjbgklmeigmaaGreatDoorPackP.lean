/- Several texts in one: Helper text: Sound of the one value of which fixed asks it. Helper text: a call, run by hand. Conditions: none. -/
import Derived.Test.YtldjbgklmeigmaaGreatDoorPackO
import Derived.Test.YtldjbgklmeigmaaGreatDoorEvPC
import Derived.Test.YtldjbgklmeigmaaGreatDoorKD
set_option linter.unusedVariables false
set_option linter.unusedSimpArgs false
namespace Go.Proofs.YtldjbgklmeigmaaGreatDoor
open Go Go.RowKit Go.Proofs.YtldjbgklmeigmaaGreatDoor.Ev

theorem soundK_ok : ChunkOk Tryz.prog k19 := by
  refine ⟨by kernel_rfl, ⟨Nat.le_refl _, fun W Fr σ w us hr hu => ?_⟩, by kernel_rfl⟩
  have hargs : k19.args = [.agg [.int .i64 (.ofNat 5), .bool false, .int .i64 (.ofNat 0), .flt .f64 0, .str 0 0, .str 0 0, .slc (nm 6826) 0 1 (.known 1), .nils 0 0]] := rfl
  rw [hargs] at hu
  cases hn : σ (nm 6826) with
  | none => simp [concL, conc, hn] at hu
  | some s =>
    have hu' : us = [.agg (vcells 5 false 0 0 ⟨#[]⟩ ⟨#[]⟩ (some ⟨s.block, s.off + 0, none⟩) 1 1 none 0 0)] := by
      have : concL σ [.agg [.int .i64 (.ofNat 5), .bool false, .int .i64 (.ofNat 0), .flt .f64 0, .str 0 0, .str 0 0, .slc (nm 6826) 0 1 (.known 1), .nils 0 0]] = some [.agg (vcells 5 false 0 0 ⟨#[]⟩ ⟨#[]⟩ (some ⟨s.block, s.off + 0, none⟩) 1 1 none 0 0)] := by
        simp [concL, conc, hn, dec]
      rw [this] at hu
      exact (Option.some.inj hu).symm
    subst hu'
    have hH : PT.get (nm 6826) k19.H = some (.cells 34 8 false 1 (rw_ [[.int .i64 (.ofNat 1), .bool true, .int .i64 (.ofNat 0), .flt .f64 0, .str 0 0, .str 0 0, .nils 0 0, .nils 0 0]])) := by kernel_rfl
    obtain ⟨c, lo, hi, hh, _, ⟨_, hcs⟩, hcell⟩ := hr.obj _ _ s hH hn
    have hrow := hcell 0 [.int .i64 (.ofNat 1), .bool true, .int .i64 (.ofNat 0), .flt .f64 0, .str 0 0, .str 0 0, .nils 0 0, .nils 0 0] (by omega) (by kernel_rfl)
    have hlt : s.block < w.heap.size := (Array.getElem?_eq_some_iff.1 hh).1
    have hcells : CellsAt w s.block (s.off + 0) (vcells 1 true 0 0 ⟨#[]⟩ ⟨#[]⟩ none 0 0 none 0 0) := fun j x hx => by
      have hj : j < 8 := (Array.getElem?_eq_some_iff.1 hx).1
      have get : ∀ (a : AV) (v : Value), [AV.int .i64 (.ofNat 1), .bool true, .int .i64 (.ofNat 0), .flt .f64 0, .str 0 0, .str 0 0, .nils 0 0, .nils 0 0][j]? = some a → conc σ a = some v → w.cell? ⟨s.block, s.off + 0 + j, none⟩ = some v := fun a v ha hv => by
        obtain ⟨v', e1, e2⟩ := hrow.2 j a ha
        rw [hv] at e1
        cases e1
        simp only [World.cell?, hh, Option.isSome_none, Bool.false_eq_true, if_false]
        rw [show s.off + 0 + j = s.off + 0 * 8 + j by omega]
        exact e2
      match j, hx with
      | 0, hx => cases hx; exact get _ _ rfl rfl
      | 1, hx => cases hx; exact get _ _ rfl rfl
      | 2, hx => cases hx; exact get _ _ rfl rfl
      | 3, hx => cases hx; exact get _ _ rfl rfl
      | 4, hx => cases hx; exact get _ _ rfl rfl
      | 5, hx => cases hx; exact get _ _ rfl rfl
      | 6, hx => cases hx; exact get _ _ rfl rfl
      | 7, hx => cases hx; exact get _ _ rfl rfl
      | j + 8, hx => omega
    have hv : IsV w.heap.size w (.mk 5 false 0 0 ⟨#[]⟩ ⟨#[]⟩ [.mk 1 true 0 0 ⟨#[]⟩ ⟨#[]⟩ [] []] []) (vcells 5 false 0 0 ⟨#[]⟩ ⟨#[]⟩ (some ⟨s.block, s.off + 0, none⟩) 1 1 none 0 0) :=
      ⟨_, _, _, _, rfl, .inr ⟨s.block, s.off + 0, rfl, hlt, ⟨_, hcells, ⟨none, 0, none, 0, rfl, .inl rfl, .inl rfl, by simp [lenMax], by simp [lenMax]⟩⟩, trivial⟩, .inl rfl, by simp [lenMax], by simp [lenMax]⟩
    have hE : sndV (.mk 5 false 0 0 ⟨#[]⟩ ⟨#[]⟩ [.mk 1 true 0 0 ⟨#[]⟩ ⟨#[]⟩ [] []] []) = ([], 0) := by
      have h1 : sndV (.mk 1 true 0 0 ⟨#[]⟩ ⟨#[]⟩ [] []) = ([], 0) := by
        rw [sndV_bad, if_neg (by rw [ownF_eq]; simp [kd])]
        simp [kidsV, bad, kd, itemKids, fieldKids]
      rw [sndV_bad, if_neg (by rw [ownF_eq]; simp [kd])]
      simp [kidsV, itemKids, bad, h1, kd]
    have hcall := Sound_any _ _ (Nat.le_refl _) _ w hv (by simp [szV, szV.szVs, szV.szFs]) (by simp [shV, shVs, shFs]; decide) (.inl (by simp [NoT, NoTs, NoTf]))
    refine hcall.mono ?_
    rintro e w' ⟨sv, rfl, ⟨_, hnil⟩, hb⟩
    have hsv := hnil (by rw [hE])
    refine ⟨σ, _, FExt.refl _ _, ?_, ?_, rfl⟩
    · exact ⟨hr.glob, hr.low, hr.fresh, hr.hfresh, fun n o t e ht => (hr.obj n o t e ht).of_block (hb.block _ (obj_lt hr e ht)), hr.inj, hr.own, Nat.le_trans hr.size hb.size, hr.frlt, fun b hb' => (hb.block b (Nat.lt_of_lt_of_le (hr.frlt b hb') hr.size)).trans (hr.frame b hb'), hb.os.trans hr.os, hb.tape.trans hr.tape, hb.output.trans hr.output⟩
    · rw [hE, hsv]; rfl
end Go.Proofs.YtldjbgklmeigmaaGreatDoor

namespace Go.Proofs.YtldjbgklmeigmaaGreatDoor.Ev
open Go
theorem k19_ok : ChunkOk Tryz.prog k19 := Go.Proofs.YtldjbgklmeigmaaGreatDoor.soundK_ok
end Go.Proofs.YtldjbgklmeigmaaGreatDoor.Ev
