/- Helper text: the walk over Leaf at the scalar S of the fixed schema. Conditions: none. -/
import Derived.Test.YtldjbgklmeigmaaGreatDoorPackO
import Derived.Test.YtldjbgklmeigmaaGreatDoorBare
namespace Go.Proofs.YtldjbgklmeigmaaGreatDoor
open Go Go.RowKit
attribute [local go_sem] run_store_float

/-- What Type answers of S. -/
@[reducible] def sysS : Array Value := #[.int .i64 2, .bool false, .bool false, .bool false, .string ⟨#[]⟩, .string ⟨#[83]⟩, .slice none 0 0, .slice none 0 0, .slice none 0 0, .slice none 0 0, .slice none 0 0, .slice none 0 0, .slice none 0 0, .bool false, .slice none 0 0, .int .i64 1, .int .i64 25]
def TypePost (w : World) (e : Ending) (w' : World) : Prop := e = .returned (.tuple #[.agg sysS, .bool true]) ∧ Below w.heap.size w w'
/-- The type system's Type answers of S, now and later. -/
def TypeOk (tv : Value) (w : World) : Prop := ∀ w', Below w.heap.size w w' → Calls Tryz.prog 28 #[tv, .string ⟨#[83]⟩] w' (TypePost w')
theorem TypeOk.on {tv : Value} {w w' : World} (h : TypeOk tv w) (hb : Below w.heap.size w w') : TypeOk tv w' := fun w2 h2 => h w2 (hb.trans (h2.mono hb.size))

theorem setRow_same {w : World} {g : Nat} {cs : Array Value} {t : TypeId} (h : w.heap[g]? = some (.cells cs t (0, 0))) : w.setRow g cs = w := by
  have key : ∀ f : Obj → Obj, f (.cells cs t (0, 0)) = .cells cs t (0, 0) → w.heap.modify g f = w.heap := fun f hf => by
    apply Array.ext
    · simp
    · intro i h1 h2
      rw [Array.getElem_modify]
      split
      · rename_i hi
        subst hi
        rw [Array.getElem?_eq_getElem h2] at h
        rw [Option.some.inj h]
        exact hf
      · rfl
  unfold World.setRow
  rw [key _ rfl]
@[reducible] def Vz : V := .mk 0 false 0 0 ⟨#[]⟩ ⟨#[]⟩ [] []
def leafE : V → Int
  | .mk k b i f t ty its fs => if k ≤ 0 ∨ 7 < k then 0 else if k = 7 ∨ (sndV (.mk k b i f t ty its fs)).2 ≠ 0 then 252 else 0
def leafV : V → V
  | .mk k b i f t ty its fs => if k ≤ 0 ∨ 7 < k then Vz else if k = 7 ∨ (sndV (.mk k b i f t ty its fs)).2 ≠ 0 then Vz else bareV (.mk k b i f t ty its fs)
def LeafPost (v : V) (w : World) (e : Ending) (w' : World) : Prop :=
  ∃ cs bs, e = .returned (.tuple #[.agg cs, .int .i64 (leafE v)]) ∧ OwnV w' (leafV v) cs bs ∧ bs.Nodup ∧ (∀ x ∈ bs, w.heap.size ≤ x ∧ x < w'.heap.size) ∧ Below w.heap.size w w'
theorem ownVz (w : World) : OwnV w Vz (vcells 0 false 0 0 ⟨#[]⟩ ⟨#[]⟩ none 0 0 none 0 0) [] := ⟨none, 0, none, 0, [], [], rfl, rfl, by simp [lenMax], by simp [lenMax], .inl ⟨rfl, rfl, rfl, rfl⟩, .inl ⟨rfl, rfl, rfl, rfl⟩⟩

set_option maxRecDepth 100000 in
set_option maxHeartbeats 4000000 in
theorem Leaf_any (tv : Value) (v : V) (cs : Array Value) (w : World) (hT : TypeOk tv w) (hv : IsV w.heap.size w v cs) (hm : szV v ≤ 1000000) (hs : shV v) (hU : TabsIn w) :
    Calls Tryz.prog 9 #[tv, .string ⟨#[83]⟩, .agg cs] w (LeafPost v w) := by
  obtain ⟨k, b, i, f, t, ty, its, fs⟩ := v
  have HV := Lib.hid hv
  obtain ⟨p, c, q, d, rfl, _, _, l1, l2⟩ := hv
  have HM := Lib.hid hm
  have HS := Lib.hid hs
  have HU := Lib.hid hU
  have HT := Lib.hid hT
  clear hm hs hU hT l1 l2
  go_enter Tryz.func9, Tryz.ntmps9
  go_upto_region 1 with (fail)
  obtain ⟨wa, hW⟩ : ∃ wa, (w.alloc (.cells (vcells k b i f t ty p its.length c q fs.length d) 34)).alloc (.cells (vcells 0 false 0 0 ⟨#[]⟩ ⟨#[]⟩ none 0 0 none 0 0) 34) = wa := ⟨_, rfl⟩
  have hba : Below w.heap.size w wa := by rw [← hW]; exact ((Below.refl _ _).alloc (Nat.le_refl _) _).alloc (by simp) _
  have hsa : wa.heap.size = w.heap.size + 1 + 1 := by rw [← hW]; simp
  have h0 : wa.heap[w.heap.size]? = some (.cells (vcells k b i f t ty p its.length c q fs.length d) 34 (0, 0)) := by rw [← hW]; exact heap_old (heap_new _ _) _
  have h1 : wa.heap[w.heap.size + 1]? = some (.cells (vcells 0 false 0 0 ⟨#[]⟩ ⟨#[]⟩ none 0 0 none 0 0) 34 (0, 0)) := by
    rw [← hW]; have := heap_new (w.alloc (.cells (vcells k b i f t ty p its.length c q fs.length d) 34)) (.cells (vcells 0 false 0 0 ⟨#[]⟩ ⟨#[]⟩ none 0 0 none 0 0) 34); rwa [World.size_alloc] at this
  rw [hW]
  clear hW
  have HBA := Lib.hid hba
  have HSA := Lib.hid hsa
  have H0 := Lib.hid h0
  have H1 := Lib.hid h1
  clear hba hsa h0 h1
  -- Type
  have HTY : Hid (Calls Tryz.prog 28 #[tv, .string ⟨#[83]⟩] wa (TypePost wa)) := Lib.hid (HT.out wa HBA.out)
  unfold TypePost at HTY
  go_upto_region 2 with (go_at_call 28; refine HTY.out.mono ?_; rintro e w1 ⟨rfl, hb1⟩; have HB1 := Lib.hid hb1; clear hb1)
  obtain ⟨w2, hW⟩ : ∃ w2, w1.alloc (.cells sysS 71) = w2 := ⟨_, rfl⟩
  have hb2 : Below w1.heap.size w1 w2 := by rw [← hW]; exact (Below.refl _ _).alloc (Nat.le_refl _) _
  have hs2 : w2.heap.size = w1.heap.size + 1 := by rw [← hW]; simp
  have hd : w2.heap[w1.heap.size]? = some (.cells sysS 71 (0, 0)) := by rw [← hW]; exact heap_new _ _
  have e2 : w1.alloc (.cells sysS 71) = w2 := hW
  clear hW
  rw [e2]
  clear e2
  have d0 : w2.cell? ⟨w1.heap.size, 0, none⟩ = some (.int .i64 2) := by simp [World.cell?, hd]
  have hb12 := HB1.out.trans (hb2.mono HB1.out.size)
  have HB2 := Lib.hid (HBA.out.trans (hb12.mono HBA.out.size))
  have HC2 : Hid (CellsAt w2 w.heap.size 0 (vcells k b i f t ty p its.length c q fs.length d)) := Lib.hid (by
    have : w2.heap[w.heap.size]? = _ := (hb12.block _ (by have := HSA.out; omega)).trans H0.out
    intro m x hx; rw [Nat.zero_add]; simp only [World.cell?, this]; exact hx)
  have H12 : Hid (w2.heap[w.heap.size + 1]? = some (.cells (vcells 0 false 0 0 ⟨#[]⟩ ⟨#[]⟩ none 0 0 none 0 0) 34 (0, 0))) := Lib.hid ((hb12.block _ (by have := HSA.out; omega)).trans H1.out)
  have hlt2 : w.heap.size + 1 < w2.heap.size := by have := HSA.out; have := hb12.size; omega
  have hlt1 : w1.heap.size < w2.heap.size := by omega
  clear hd hb2 hs2 hb12
  obtain ⟨a0, a1, a2, a3, a4, a5, a6, a7⟩ := HC2.out.all0
  by_cases hk : k ≤ 0 ∨ 7 < k
  · have hpost : LeafPost (.mk k b i f t ty its fs) w (.returned (.tuple #[.agg (vcells 0 false 0 0 ⟨#[]⟩ ⟨#[]⟩ none 0 0 none 0 0), .int .i64 0])) w2 :=
      ⟨_, [], by rw [leafE, if_pos hk], by rw [leafV, if_pos hk]; exact ownVz w2, List.nodup_nil, by simp, HB2.out⟩
    have HP := Lib.hid hpost
    have hz : w2.setRow (w.heap.size + 1) (vcells 0 false 0 0 ⟨#[]⟩ ⟨#[]⟩ none 0 0 none 0 0) = w2 := setRow_same H12.out
    have HZ := Lib.hid hz
    obtain ⟨r0, r1, r2, r3, r4, r5, r6, r7⟩ := (show CellsAt w2 (w.heap.size + 1) 0 (vcells 0 false 0 0 ⟨#[]⟩ ⟨#[]⟩ none 0 0 none 0 0) by intro m x hx; rw [Nat.zero_add]; simp only [World.cell?, H12.out]; exact hx).all0
    clear hpost hz
    have hkd : (decide (k ≤ 0) || decide (7 < k)) = true := by simpa using hk
    by_cases hk0 : k ≤ 0
    · clear hk hkd
      go_upto_region 5 with (fail)
      go_step
      refine wpList_plain rfl (fun K hK => ?_)
      go_step
      refine hK _ _ ?_
      clear hK K
      refine wpList_plain rfl (fun K hK => ?_)
      refine wp_store_row (P := Tryz.prog) 34 (.tmp 6) (.tmp 41) rfl (w.heap.size + 1) (vcells 0 false 0 0 ⟨#[]⟩ ⟨#[]⟩ none 0 0 none 0 0) rfl rfl 34 _ H12.out (by kernel_rfl) rfl (vcells_one ..) ?_
      refine hK _ _ ?_
      clear hK K
      rw [HZ.out]
      go_wp2_with fail
      exact bodyPost_ret (v := .tuple #[.agg (vcells 0 false 0 0 ⟨#[]⟩ ⟨#[]⟩ none 0 0 none 0 0), .int .i64 0]) (by simp [results, Tryz.results9, go_sem, r0, r1, r2, r3, r4, r5, r6, r7]) rfl HP.out
    · have hk7 : 7 < k := by omega
      clear hk hkd
      go_upto_region 5 with (fail)
      go_step
      refine wpList_plain rfl (fun K hK => ?_)
      go_step
      refine hK _ _ ?_
      clear hK K
      refine wpList_plain rfl (fun K hK => ?_)
      refine wp_store_row (P := Tryz.prog) 34 (.tmp 6) (.tmp 41) rfl (w.heap.size + 1) (vcells 0 false 0 0 ⟨#[]⟩ ⟨#[]⟩ none 0 0 none 0 0) rfl rfl 34 _ H12.out (by kernel_rfl) rfl (vcells_one ..) ?_
      refine hK _ _ ?_
      clear hK K
      rw [HZ.out]
      go_wp2_with fail
      exact bodyPost_ret (v := .tuple #[.agg (vcells 0 false 0 0 ⟨#[]⟩ ⟨#[]⟩ none 0 0 none 0 0), .int .i64 0]) (by simp [results, Tryz.results9, go_sem, r0, r1, r2, r3, r4, r5, r6, r7]) rfl HP.out
  · have hk0 : ¬ k ≤ 0 := fun h => hk (.inl h)
    have hk7 : ¬ 7 < k := fun h => hk (.inr h)
    have HK : Hid (¬ (k ≤ 0 ∨ 7 < k)) := Lib.hid hk
    clear hk
    go_upto_block 0 with (fail)
    obtain ⟨w3, hW⟩ : ∃ w3, w2.alloc (.cells (vcells 0 false 0 0 ⟨#[]⟩ ⟨#[]⟩ none 0 0 none 0 0) 34) = w3 := ⟨_, rfl⟩
    have hb3 : Below w2.heap.size w2 w3 := by rw [← hW]; exact (Below.refl _ _).alloc (Nat.le_refl _) _
    have hs3 : w3.heap.size = w2.heap.size + 1 := by rw [← hW]; simp
    have hf : w3.heap[w2.heap.size]? = some (.cells (vcells 0 false 0 0 ⟨#[]⟩ ⟨#[]⟩ none 0 0 none 0 0) 34 (0, 0)) := by rw [← hW]; exact heap_new _ _
    have e3 : w2.alloc (.cells (vcells 0 false 0 0 ⟨#[]⟩ ⟨#[]⟩ none 0 0 none 0 0) 34) = w3 := hW
    clear hW
    rw [e3]
    clear e3
    have HC3 : Hid (CellsAt w3 w.heap.size 0 (vcells k b i f t ty p its.length c q fs.length d)) := Lib.hid (HC2.out.below hb3 (by omega))
    have H13 : Hid (w3.heap[w.heap.size + 1]? = some (.cells (vcells 0 false 0 0 ⟨#[]⟩ ⟨#[]⟩ none 0 0 none 0 0) 34 (0, 0))) := Lib.hid ((hb3.block _ hlt2).trans H12.out)
    have HF3 := Lib.hid hf
    have HB3 := Lib.hid (HB2.out.trans (hb3.mono HB2.out.size))
    have hd3 : w3.cell? ⟨w1.heap.size, 0, none⟩ = some (.int .i64 2) := (hb3.cell (p := ⟨w1.heap.size, 0, none⟩) hlt1).trans d0
    have HL3 : Hid (w.heap.size + 1 < w2.heap.size ∧ w3.heap.size = w2.heap.size + 1) := Lib.hid ⟨hlt2, hs3⟩
    clear a0 a1 a2 a3 a4 a5 a6 a7 d0 hf hb3 hs3 HC2 H12 hlt2 hlt1 HB2
    obtain ⟨a0, a1, a2, a3, a4, a5, a6, a7⟩ := HC3.out.all0
    go_cut [10, 11] (fun s10 s11 wx => s10 = .pointer (some ⟨w2.heap.size, 0, none⟩) ∧ s11 = .bool (decide (leafE (.mk k b i f t ty its fs) = 0)) ∧ Hid (Below w.heap.size w wx) ∧ Hid (wx.heap[w.heap.size + 1]? = some (.cells (vcells 0 false 0 0 ⟨#[]⟩ ⟨#[]⟩ none 0 0 none 0 0) 34 (0, 0))) ∧
      Hid (w2.heap.size < wx.heap.size) ∧ ∃ cs bs, Hid (wx.heap[w2.heap.size]? = some (.cells cs 34 (0, 0))) ∧ Hid (cs.size = 8) ∧ Hid (leafE (.mk k b i f t ty its fs) = 0 → OwnV wx (leafV (.mk k b i f t ty its fs)) cs bs ∧ bs.Nodup ∧ ∀ x ∈ bs, w.heap.size + 1 < x ∧ x < wx.heap.size ∧ x ≠ w2.heap.size))
    case first =>
      by_cases k7 : k = 7
      · subst k7
        have hE : Hid (leafE (.mk 7 b i f t ty its fs) = 252) := Lib.hid (by simp [leafE])
        go_wp2_with fail
        go_meet
        refine ⟨rfl, by rw [hE.out]; rfl, HB3, H13, Lib.hid (by have := HL3.out; omega), _, [], HF3, Lib.hid rfl, Lib.hid (fun h => by rw [hE.out] at h; cases h)⟩
      · have k7' : (k == 7) = false := beq_eq_false_iff_ne.2 k7
        have HE : Hid (leafE (.mk k b i f t ty its fs) = if (sndV (.mk k b i f t ty its fs)).2 = 0 then 0 else 252) := Lib.hid (by
          have := HK.out
          simp only [leafE, this, if_false, k7, false_or]
          by_cases h : (sndV (.mk k b i f t ty its fs)).2 = 0 <;> simp [h])
        have HVV : Hid ((sndV (.mk k b i f t ty its fs)).2 = 0 → leafV (.mk k b i f t ty its fs) = bareV (.mk k b i f t ty its fs)) := Lib.hid (fun h => by
          have := HK.out
          simp only [leafV, this, if_false, k7, false_or, h, ne_eq, not_true_eq_false])
        have HSN : Hid (∀ w', Below w3.heap.size w3 w' → Calls Tryz.prog 37 #[.agg (vcells k b i f t ty p its.length c q fs.length d)] w' (SndP (.mk k b i f t ty its fs) w')) := Lib.hid (fun w' h =>
          Sound_any _ _ (Nat.le_refl _) _ _ (HV.out.on (HB3.out.trans (h.mono HB3.out.size))) HM.out HS.out (.inr (HU.out.on (HB3.out.trans (h.mono HB3.out.size)))))
        have HBR : Hid (∀ w', Below w3.heap.size w3 w' → Calls Tryz.prog 38 #[.agg (vcells k b i f t ty p its.length c q fs.length d)] w' (CopyPost (bareV (.mk k b i f t ty its fs)) w')) := Lib.hid (fun w' h =>
          rbare_any _ _ (Nat.le_refl _) _ _ (HV.out.on (HB3.out.trans (h.mono HB3.out.size))) HM.out)
        unfold SndP at HSN
        unfold CopyPost at HBR
        generalize hsE : (sndV (.mk k b i f t ty its fs)).2 = E at *
        clear hsE
        go_upto_region 8 with (go_at_call 37; refine (HSN.out _ (Below.refl _ _)).mono ?_; rintro e w4 ⟨sv, rfl, _, hb4⟩; have HB4 := Lib.hid hb4; clear hb4)
        clear a0 a1 a2 a3 a4 a5 a6 a7
        obtain ⟨a0, a1, a2, a3, a4, a5, a6, a7⟩ := (HC3.out.below HB4.out (by have := HL3.out; omega)).all0
        go_step
        refine wpList_plain rfl (fun K hK => ?_)
        go_step
        refine hK _ _ ?_
        clear hK K
        clear a0 a1 a2 a3 a4 a5 a6 a7
        refine wpList_plain rfl (fun K hK => ?_)
        go_step
        refine (HBR.out _ HB4.out).mono ?_
        rintro e w5 ⟨cs5, bs5, rfl, hown5, hnod5, hlow5, hb5⟩
        refine hK _ _ ?_
        clear hK K
        iterate 2
          refine wpList_plain rfl (fun K hK => ?_)
          go_step
          refine hK _ _ ?_
          clear hK K
        have hb35 := HB4.out.trans (hb5.mono HB4.out.size)
        obtain ⟨yk, yb, yi, yf, yt, yty, yits, yfs, hy⟩ : ∃ yk yb yi yf yt yty yits yfs, bareV (.mk k b i f t ty its fs) = V.mk yk yb yi yf yt yty yits yfs := ⟨_, _, _, _, _, _, _, _, by rw [bareV]⟩
        have hown5' := hown5
        rw [hy] at hown5'
        obtain ⟨p', c', q', d', bI, bF, rfl, _⟩ := hown5'
        have hF5 := (hb35.block w2.heap.size (by have := HL3.out; omega)).trans HF3.out
        refine wpList_plain rfl (fun K hK => ?_)
        refine wp_store_row (P := Tryz.prog) 34 (.tmp 10) (.tmp 49) rfl w2.heap.size (vcells yk yb yi yf yt yty p' yits.length c' q' yfs.length d') rfl rfl 34 _ hF5 (by kernel_rfl) rfl (vcells_one ..) ?_
        refine hK _ _ ?_
        clear hK K
        have hn6 := setRow_heap w5 w2.heap.size _ (vcells yk yb yi yf yt yty p' yits.length c' q' yfs.length d') _ _ hF5
        have hlow6 : ∀ x ∈ bs5, w4.heap.size ≤ x := fun x hx => (hlow5 x hx).1
        have hk6 : Kept bs5 w5 (w5.setRow w2.heap.size (vcells yk yb yi yf yt yty p' yits.length c' q' yfs.length d')) := Kept.setRow (fun _ _ => rfl) (fun h => by have := hlow6 _ h; have := HB4.out.size; have := HL3.out; omega) _
        have hb6 : Below w.heap.size w (w5.setRow w2.heap.size (vcells yk yb yi yf yt yty p' yits.length c' q' yfs.length d')) := below_setRow (HB3.out.trans (hb35.mono HB3.out.size)) (by have := HL3.out; omega) _
        have h16 : (w5.setRow w2.heap.size (vcells yk yb yi yf yt yty p' yits.length c' q' yfs.length d')).heap[w.heap.size + 1]? = some (.cells (vcells 0 false 0 0 ⟨#[]⟩ ⟨#[]⟩ none 0 0 none 0 0) 34 (0, 0)) := by
          rw [setRow_other _ _ _ _ (by have := HL3.out; omega), hb35.block _ (by have := HL3.out; omega)]
          exact H13.out
        have hs6 := setRow_size w5 w2.heap.size (vcells yk yb yi yf yt yty p' yits.length c' q' yfs.length d')
        generalize w5.setRow w2.heap.size (vcells yk yb yi yf yt yty p' yits.length c' q' yfs.length d') = w6 at *
        have HPP : Hid (E = 0 → OwnV w6 (leafV (.mk k b i f t ty its fs)) (vcells yk yb yi yf yt yty p' yits.length c' q' yfs.length d') bs5 ∧ bs5.Nodup ∧ ∀ x ∈ bs5, w.heap.size + 1 < x ∧ x < w6.heap.size ∧ x ≠ w2.heap.size) := Lib.hid (fun h => by
          rw [HVV.out h]
          exact ⟨hown5.kept hk6, hnod5, fun x hx => by have := hlow6 x hx; have := (hlow5 x hx).2; have := HB4.out.size; have := HL3.out; omega⟩)
        have HN6 := Lib.hid hn6
        have HB6 := Lib.hid hb6
        have H16 := Lib.hid h16
        have HS6 : Hid (w2.heap.size < w6.heap.size) := Lib.hid (by have := hb35.size; have := HL3.out; omega)
        clear hn6 hk6 hb6 h16 hs6 hown5 hnod5 hlow5 hlow6 hb35 hb5 hF5 hy
        go_wp2_with fail
        go_meet
        refine ⟨rfl, ?_, HB6, H16, HS6, _, bs5, HN6, Lib.hid rfl, Lib.hid (fun h => HPP.out ?_)⟩
        · rw [HE.out]
          by_cases h : E = 0 <;> simp [h]
        · rw [HE.out] at h
          by_cases h' : E = 0
          · exact h'
          · simp [h'] at h
    case rest =>
      obtain ⟨rfl, rfl, HBx, H1x, HLx, cs, bs, HFx, HCx, HOx⟩ := hcut
      clear a0 a1 a2 a3 a4 a5 a6 a7
      by_cases hE : leafE (.mk k b i f t ty its fs) = 0
      · have hE' : decide (leafE (.mk k b i f t ty its fs) = 0) = true := by simp [hE]
        obtain ⟨ho, hn, hl⟩ := HOx.out hE
        obtain ⟨yk, yb, yi, yf, yt, yty, yits, yfs, hy⟩ : ∃ yk yb yi yf yt yty yits yfs, leafV (.mk k b i f t ty its fs) = V.mk yk yb yi yf yt yty yits yfs := by
          generalize leafV (.mk k b i f t ty its fs) = z
          obtain ⟨_, _, _, _, _, _, _, _⟩ := z
          exact ⟨_, _, _, _, _, _, _, _, rfl⟩
        have ho' := ho
        rw [hy] at ho'
        obtain ⟨p', c', q', d', bI, bF, rfl, _⟩ := ho'
        obtain ⟨e0, e1, e2, e3, e4, e5, e6, e7⟩ := (show CellsAt wc w2.heap.size 0 (vcells yk yb yi yf yt yty p' yits.length c' q' yfs.length d') by intro m x hx; rw [Nat.zero_add]; simp only [World.cell?, HFx.out]; exact hx).all0
        have HEE := Lib.hid hE
        have HO := Lib.hid ho
        have HN := Lib.hid hn
        have HL := Lib.hid hl
        clear hE ho hn hl hy HOx
        go_upto_region 26 with (fail)
        go_step
        refine wpList_plain rfl (fun K hK => ?_)
        go_step
        refine hK _ _ ?_
        clear hK K
        refine wpList_plain rfl (fun K hK => ?_)
        refine wp_store_row (P := Tryz.prog) 34 (.tmp 6) (.tmp 122) rfl (w.heap.size + 1) (vcells yk yb yi yf yt yty p' yits.length c' q' yfs.length d') rfl rfl 34 _ H1x.out (by kernel_rfl) rfl (vcells_one ..) ?_
        refine hK _ _ ?_
        clear hK K e0 e1 e2 e3 e4 e5 e6 e7
        have hnew := setRow_heap wc (w.heap.size + 1) _ (vcells yk yb yi yf yt yty p' yits.length c' q' yfs.length d') _ _ H1x.out
        have hk1 : Kept bs wc (wc.setRow (w.heap.size + 1) (vcells yk yb yi yf yt yty p' yits.length c' q' yfs.length d')) := Kept.setRow (fun _ _ => rfl) (fun h => by have := (HL.out _ h).1; omega) _
        have hbz : Below w.heap.size w (wc.setRow (w.heap.size + 1) (vcells yk yb yi yf yt yty p' yits.length c' q' yfs.length d')) := below_setRow HBx.out (by omega) _
        have hsz := setRow_size wc (w.heap.size + 1) (vcells yk yb yi yf yt yty p' yits.length c' q' yfs.length d')
        generalize wc.setRow (w.heap.size + 1) (vcells yk yb yi yf yt yty p' yits.length c' q' yfs.length d') = wz at *
        obtain ⟨r0, r1, r2, r3, r4, r5, r6, r7⟩ := (show CellsAt wz (w.heap.size + 1) 0 (vcells yk yb yi yf yt yty p' yits.length c' q' yfs.length d') by intro m x hx; rw [Nat.zero_add]; simp only [World.cell?, hnew]; exact hx).all0
        have hpost : LeafPost (.mk k b i f t ty its fs) w (.returned (.tuple #[.agg (vcells yk yb yi yf yt yty p' yits.length c' q' yfs.length d'), .int .i64 0])) wz :=
          ⟨_, bs, by rw [HEE.out], HO.out.kept hk1, HN.out, fun x hx => by have := HL.out x hx; omega, hbz⟩
        have HP := Lib.hid hpost
        clear hpost hnew hk1 hbz
        go_wp2_with fail
        exact bodyPost_ret (v := .tuple #[.agg (vcells yk yb yi yf yt yty p' yits.length c' q' yfs.length d'), .int .i64 0]) (by simp [results, Tryz.results9, go_sem, r0, r1, r2, r3, r4, r5, r6, r7]) rfl HP.out
      · have hE' : decide (leafE (.mk k b i f t ty its fs) = 0) = false := by simp [hE]
        have HEE : Hid (leafE (.mk k b i f t ty its fs) = 252 ∧ leafV (.mk k b i f t ty its fs) = Vz) := Lib.hid (by
          have h9 := HK.out
          simp only [leafE, leafV, h9, if_false] at hE ⊢
          by_cases h : k = 7 ∨ (sndV (.mk k b i f t ty its fs)).2 ≠ 0
          · simp [h]
          · simp [h] at hE)
        have hpost : LeafPost (.mk k b i f t ty its fs) w (.returned (.tuple #[.agg (vcells 0 false 0 0 ⟨#[]⟩ ⟨#[]⟩ none 0 0 none 0 0), .int .i64 252])) wc :=
          ⟨_, [], by rw [HEE.out.1], by rw [HEE.out.2]; exact ownVz wc, List.nodup_nil, by simp, HBx.out⟩
        have HP := Lib.hid hpost
        have HZ : Hid (wc.setRow (w.heap.size + 1) (vcells 0 false 0 0 ⟨#[]⟩ ⟨#[]⟩ none 0 0 none 0 0) = wc) := Lib.hid (setRow_same H1x.out)
        obtain ⟨r0, r1, r2, r3, r4, r5, r6, r7⟩ := (show CellsAt wc (w.heap.size + 1) 0 (vcells 0 false 0 0 ⟨#[]⟩ ⟨#[]⟩ none 0 0 none 0 0) by intro m x hx; rw [Nat.zero_add]; simp only [World.cell?, H1x.out]; exact hx).all0
        clear hpost hE HOx
        go_upto_region 25 with (fail)
        go_step
        refine wpList_plain rfl (fun K hK => ?_)
        go_step
        refine hK _ _ ?_
        clear hK K
        refine wpList_plain rfl (fun K hK => ?_)
        refine wp_store_row (P := Tryz.prog) 34 (.tmp 6) (.tmp 121) rfl (w.heap.size + 1) (vcells 0 false 0 0 ⟨#[]⟩ ⟨#[]⟩ none 0 0 none 0 0) rfl rfl 34 _ H1x.out (by kernel_rfl) rfl (vcells_one ..) ?_
        refine hK _ _ ?_
        clear hK K
        rw [HZ.out]
        go_wp2_with fail
        exact bodyPost_ret (v := .tuple #[.agg (vcells 0 false 0 0 ⟨#[]⟩ ⟨#[]⟩ none 0 0 none 0 0), .int .i64 252]) (by simp [results, Tryz.results9, go_sem, r0, r1, r2, r3, r4, r5, r6, r7]) rfl HP.out
end Go.Proofs.YtldjbgklmeigmaaGreatDoor
