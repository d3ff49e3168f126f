/- tree.PathRead: what it answers. Conditions: none. -/
import Derived.Test.YtnmnmkdmnohbmaaDoorPathRead
import Derived.Test.YtnmnmkdmnohbmaaDoorPackB
namespace Go.Proofs.YtnmnmkdmnohbmaaDoor
open Go.RowKit
attribute [local go_sem] St.cells

/-- What a reading of a path's text answers. -/
def ReadP (s : ByteArray) (w : World) (e : Ending) (w' : World) : Prop :=
  ∃ (p : Option Addr) (l : List St) (c : Nat) (b : Bool), e = .returned (.tuple #[.slice p l.length c, .bool b]) ∧ (b = true → readL s.data.toList = some l) ∧ (b = false → readL s.data.toList = none ∧ l = []) ∧
    StepsAt w'.heap.size w' p l ∧ l.length ≤ c ∧ c ≤ maxLen ∧ Below w.heap.size w w'

def flatS (l : List St) : List Value := l.flatMap (fun s => s.cells.toList)
theorem flatS_len : ∀ l : List St, (flatS l).length = l.length * 3
  | [] => rfl
  | s :: l => by
    have : flatS (s :: l) = s.cells.toList ++ flatS l := by simp [flatS]
    rw [this, List.length_append, flatS_len l]
    simp [St.cells]
    omega
theorem flatS_at : ∀ {l : List St} {i : Nat} {s : St}, l[i]? = some s → (flatS l)[i * 3]? = some (.string s.nm) ∧ (flatS l)[i * 3 + 1]? = some (.int .i64 s.ix) ∧ (flatS l)[i * 3 + 2]? = some (.bool s.it)
  | [], i, s, h => by simp at h
  | x :: l, 0, s, h => by
    cases h
    have : flatS (x :: l) = x.cells.toList ++ flatS l := by simp [flatS]
    rw [this]
    exact ⟨rfl, rfl, rfl⟩
  | x :: l, i + 1, s, h => by
    have e : flatS (x :: l) = x.cells.toList ++ flatS l := by simp [flatS]
    have h2 := flatS_at (l := l) (i := i) (s := s) (by simpa using h)
    have hl : x.cells.toList.length = 3 := rfl
    rw [e, List.getElem?_append_right (by omega), List.getElem?_append_right (by omega), List.getElem?_append_right (by omega), hl]
    rw [show (i + 1) * 3 - 3 = i * 3 by omega, show (i + 1) * 3 + 1 - 3 = i * 3 + 1 by omega, show (i + 1) * 3 + 2 - 3 = i * 3 + 2 by omega]
    exact h2

/-- A row of steps is a path. -/
theorem row_steps {w : World} {B : Nat} {sv : Value} {l : List St} (h : w.ownsRow B 34 3 sv l.length (flatS l)) :
    ∃ p c, sv = .slice p l.length c ∧ l.length ≤ c ∧ c ≤ maxLen ∧ StepsAt w.heap.size w p l := by
  rcases h.2 with ⟨rfl, h0⟩ | ⟨g, cap, cur, rfl, hbg, hg, hnc, hcm, hcs, htake⟩
  · have : l = [] := List.eq_nil_of_length_eq_zero h0
    subst this
    exact ⟨none, 0, rfl, Nat.le_refl _, by decide, .inl rfl⟩
  · refine ⟨some ⟨g, 0, none⟩, cap, rfl, hnc, hcm, .inr ⟨g, 0, rfl, (h.lt g rfl).2, fun i s hs => ?_⟩⟩
    have hc := h.cells (g := g) rfl
    obtain ⟨f0, f1, f2⟩ := flatS_at hs
    have a0 := hc _ _ f0
    have a1 := hc _ _ f1
    have a2 := hc _ _ f2
    rw [addr_add1] at a0 a1 a2
    exact ⟨a0, by rw [Nat.add_assoc]; exact a1, by rw [Nat.add_assoc]; exact a2⟩

/-- A step's own cells in a block. -/
theorem step_reads {w : World} {g : Nat} {x : St} {e : TypeId} {f : Nat × Nat} (h : w.heap[g]? = some (.cells x.cells e f)) :
    w.cell? ⟨g, 0, none⟩ = some (.string x.nm) ∧ w.cell? ⟨g, 1, none⟩ = some (.int .i64 x.ix) ∧ w.cell? ⟨g, 2, none⟩ = some (.bool x.it) :=
  ⟨by simp [World.cell?, h, St.cells], by simp [World.cell?, h, St.cells], by simp [World.cell?, h, St.cells]⟩

def IntIn (g : Nat) (w : World) : Prop := ∃ m : Int, w.cell? ⟨g, 0, none⟩ = some (.int .i64 m)
theorem IntIn.on {g : Nat} {w w' : World} (h : IntIn g w) (hb : Below w.heap.size w w') : IntIn g w' := by
  obtain ⟨m, h⟩ := h
  exact ⟨m, (hb.cell (p := ⟨g, 0, none⟩) (World.block_lt_of_cell? w _ h)).trans h⟩

/-- What the world must hold for a reading. -/
structure RdW (w : World) : Prop where
  e1 : ErrIn 5 w
  e2 : ErrIn 6 w
  mx : IntIn 0 w
  tab : Lib.TabIs Tryd.prog w "internal/strconv.uint64pow10" .u64 Lib.pow10Tab
theorem RdW.on {w w' : World} (h : RdW w) (hb : Below w.heap.size w w') : RdW w' := ⟨h.e1.on hb, h.e2.on hb, h.mx.on hb, Lib.tabBelow_of_tabIs h.tab w' hb⟩

/-- strings.Split at a slash. -/
theorem Split_any (s : ByteArray) (hs : s.size ≤ 16777216) (w : World) (h : IntIn 0 w) :
    Calls Tryd.prog 89 #[.string s, .string ⟨#[47]⟩] w (fun e w' => ∃ ps : List ByteArray, e = .returned (.slice (some ⟨w.heap.size, 0, none⟩) ps.length ps.length) ∧ ps.map (·.data.toList) = splitS s.data.toList ∧ w' = w.alloc (.cells (ps.map Value.string).toArray 9)) := by
  obtain ⟨m, h⟩ := h
  refine (Tryd.strings_Split s ⟨#[47]⟩ m w (by omega) h (by decide)).mono ?_
  rintro e w' ⟨rfl, rfl⟩
  have hl := Lib.splitB_all ⟨#[47]⟩ (by decide) 0 (Lib.countB s ⟨#[47]⟩) s rfl
  exact ⟨Lib.splitB ⟨#[47]⟩ 0 (Lib.countB s ⟨#[47]⟩) s, by rw [hl], by rw [Lib.splitB_data]; exact splitK_splitS _, rfl⟩

set_option maxRecDepth 100000 in
set_option maxHeartbeats 4000000 in
theorem PathRead_any (s : ByteArray) (hs : s.size ≤ 16777216) (w : World) (hw : RdW w) :
    Calls Tryd.prog 47 #[.string s] w (ReadP s w) := by
  by_cases h0 : s.size = 0
  · obtain rfl := ba_nil h0
    go_enter Tryd.func47, Tryd.ntmps47
    go_wp2
    all_goals go_ret2
    exact ⟨none, [], 0, true, rfl, fun _ => rfl, (fun h => by cases h), .inl rfl, Nat.le_refl _, by decide, Below.refl _ _⟩
  · have h1 : 0 < s.size := by omega
    obtain ⟨r, e⟩ := ba_head h1
    have hne : ¬ s.toList = [] := by rw [ByteArray.toList_eq, e]; simp
    have hie : s.toList.isEmpty = false := by
      cases h : s.toList with
      | nil => exact absurd h hne
      | cons _ _ => rfl
    obtain ⟨b, hb⟩ : ∃ b, s[0] = b := ⟨_, rfl⟩
    rw [hb] at e
    have E := Lib.hid e
    clear e
    by_cases g1 : (b.toNat : Int) = 47
    · go_enter Tryd.func47, Tryd.ntmps47
      go_wp2_with fail
      have GB : Hid (b = 47) := Lib.hid (byte_num (k := 47) g1 (by omega))
      obtain ⟨tl, htl⟩ : ∃ tl : ByteArray, s.extract 1 s.size = tl := ⟨_, rfl⟩
      have HTL : Hid (s.data.toList = 47 :: tl.data.toList) := Lib.hid (by rw [← htl, Lib.extract_to_end, E.out, GB.out]; rfl)
      have htls : tl.size ≤ 16777216 := by
        have h1 := congrArg List.length HTL.out
        rw [ba_len, List.length_cons, ba_len] at h1
        omega
      rw [htl]
      clear htl
      refine (Split_any tl htls w hw.mx).mono ?_
      rintro e W1 ⟨ps, rfl, hps, hW1⟩
      have HPS := Lib.hid hps
      have HW := Lib.hid hw
      have HB1 : Hid (Below w.heap.size w W1) := Lib.hid (by rw [hW1]; exact (Below.refl _ _).alloc (Nat.le_refl _) _)
      have HS1 : Hid (W1.heap.size = w.heap.size + 1) := Lib.hid (by rw [hW1]; simp)
      have HG1 : Hid (W1.heap[w.heap.size]? = some (.cells (ps.map Value.string).toArray 9 (0, 0))) := Lib.hid (by rw [hW1]; exact heap_new w _)
      have HSL : Hid (sumLen (ps.map (·.data.toList)) ≤ 16777217) := Lib.hid (by
        rw [hps, splitS_len, ba_len]
        omega)
      have hpl : ps.length ≤ 16777217 := by
        have h1 := HSL.out
        have h2 : ∀ l : List (List UInt8), l.length ≤ sumLen l := by
          intro l
          induction l with
          | nil => simp
          | cons p l ih => simp only [sumLen, List.map_cons, List.sum_cons, List.length_cons] at ih ⊢; omega
        have h3 := h2 (ps.map (·.data.toList))
        rw [List.length_map] at h3
        omega
      have HRL : Hid (readL s.data.toList = match piecesL (ps.map (·.data.toList)) with | none => none | some p => if pathT p = s.data.toList then some p else none) := Lib.hid (by
        rw [hps, HTL.out]
        unfold readL
        dsimp only
        rw [if_pos rfl]
        rfl)
      clear hW1 hps hw hie hne
      go_wp2_with fail
      go_loopw [4, 18] (fun sv iv wr => ∃ k : Nat, k ≤ ps.length ∧ iv = .int .i64 k ∧ ∃ d : List St, d.length = k ∧ Hid (piecesL ((ps.map (·.data.toList)).take k) = some d) ∧ Hid (wr.ownsRow W1.heap.size 34 3 sv d.length (flatS d)) ∧ Hid (Below W1.heap.size W1 wr)) (fun _ iv _ => ps.length - (intOf iv).toNat)
      case atStart => exact ⟨0, Nat.zero_le _, rfl, [], rfl, Lib.hid rfl, Lib.hid (World.ownsRow_nil _ _ _ _), Lib.hid (Below.refl _ _)⟩
      case round =>
        obtain ⟨k, hk, rfl, d, hd, HD, HR, HBW⟩ := hrel
        have HBB : Hid (Below w.heap.size w wr) := Lib.hid (HB1.out.trans (HBW.out.mono (by have := HS1.out; omega)))
        have hsz : w.heap.size < wr.heap.size := by have := HBW.out.size; have := HS1.out; omega
        by_cases h2 : k < ps.length
        · obtain ⟨x, hx⟩ : ∃ x, ps[k]? = some x := ⟨ps[k], by simp [h2]⟩
          have hgr : wr.heap[w.heap.size]? = some (.cells (ps.map Value.string).toArray 9 (0, 0)) := (HBW.out.block _ (by have := HS1.out; omega)).trans HG1.out
          have cx : wr.cell? ⟨w.heap.size, k, none⟩ = some (.string x) := by simp [World.cell?, hgr, hx]
          have HX : Hid ((ps.map (·.data.toList))[k]? = some x.data.toList) := Lib.hid (by simp [hx])
          have hxs : x.size ≤ 16777216 := by
            have h1 := HSL.out
            have h3 : ∀ (l : List (List UInt8)) (p : List UInt8), p ∈ l → p.length + 1 ≤ sumLen l := by
              intro l
              induction l with
              | nil => intro p hp; cases hp
              | cons q l ih =>
                intro p hp
                have e : sumLen (q :: l) = (q.length + 1) + sumLen l := by simp [sumLen]
                rw [e]
                rcases List.mem_cons.1 hp with rfl | hp
                · omega
                · have := ih p hp; omega
            have := h3 _ _ (List.mem_of_getElem? HX.out)
            rw [ba_len] at this
            omega
          have HC := Lib.hid (piece_any x hxs wr (HW.out.e1.on HBB.out) (HW.out.e2.on HBB.out))
          clear hx hgr hxs
          go_wp2_with fail
          refine HC.out.mono ?_
          rintro e w4 ⟨⟨yn, yi, yt⟩, bb, rfl, hyes, hno, hb4⟩
          have HB4 := Lib.hid hb4
          cases bb
          · have HNO : Hid (readL s.data.toList = none) := Lib.hid (by rw [HRL.out, pieces_none HX.out (hno rfl)])
            clear hyes hno
            go_wp2
            go_ret2
            exact ⟨none, [], 0, false, rfl, (fun h => by cases h), fun _ => ⟨HNO.out, rfl⟩, .inl rfl, Nat.le_refl _, by decide, (HBB.out.trans (hb4.mono HBB.out.size)).alloc (by have := hb4.size; omega) _⟩
          · have HYES := Lib.hid (hyes rfl)
            clear hyes hno hb4
            obtain ⟨W5, hW5⟩ : ∃ W5, w4.alloc (.cells #[.string yn, .int .i64 yi, .bool yt] 34) = W5 := ⟨_, rfl⟩
            have hb5 : Below w4.heap.size w4 W5 := by rw [← hW5]; exact (Below.refl _ _).alloc (Nat.le_refl _) _
            have hg5 : W5.heap[w4.heap.size]? = some (.cells (St.mk yn yi yt).cells 34 (0, 0)) := by rw [← hW5]; exact heap_new w4 _
            have hs5 : w4.heap.size < W5.heap.size := by rw [← hW5]; simp
            obtain ⟨a0, a1, a2⟩ := step_reads hg5
            dsimp only at a0 a1 a2
            have HB5 : Hid (Below wr.heap.size wr W5) := Lib.hid (HB4.out.trans (hb5.mono HB4.out.size))
            clear hb5 hg5
            go_upto_region 12 with (fail)
            try rw [hW5]
            clear hW5
            go_step
            iterate 3
              refine wpList_plain rfl (fun K hK => ?_)
              go_step
              refine hK _ _ ?_
              clear hK K
            obtain ⟨W6, hW6⟩ : ∃ W6, W5.alloc (.cells #[.string yn, .int .i64 yi, .bool yt] 34) = W6 := ⟨_, rfl⟩
            have hb6 : Below W5.heap.size W5 W6 := by rw [← hW6]; exact (Below.refl _ _).alloc (Nat.le_refl _) _
            have hg6 : W6.heap[W5.heap.size]? = some (.cells (St.mk yn yi yt).cells 34 (0, 0)) := by rw [← hW6]; exact heap_new W5 _
            obtain ⟨n0, n1, n2⟩ := step_reads hg6
            dsimp only at n0 n1 n2
            try rw [hW6]
            clear hW6
            have hb16 : Below wr.heap.size wr W6 := HB5.out.trans (hb6.mono HB5.out.size)
            refine wpList_plain rfl (fun K hK => ?_)
            have HG3 := HR.out.kept (grown_b hb16 none) (by cases u4.ownBlock <;> simp)
            refine wp_append_1 (P := Tryd.prog) W6 (.tmp 29) (.tmp 31) 29 rfl W1.heap.size 34 (.agg #[.string ⟨#[]⟩, .int .i64 0, .bool false]) 3 32 Tryd.underlying29 (by kernel_rfl) rfl (by decide) u4 d.length _ rfl HG3 ⟨W5.heap.size, 0, none⟩ 1 1 [.string yn, .int .i64 yi, .bool yt] rfl (by decide) rfl ?c1 ?c2 ?c3 ?c4 ?c5 ?_
            case c1 =>
              intro m v hv
              rw [addr_add1, Nat.zero_add]
              match m, hv with
              | 0, hv => cases hv; exact n0
              | 1, hv => cases hv; exact n1
              | 2, hv => cases hv; exact n2
              | m + 3, hv => simp at hv
            case c2 => intro v hv; simp at hv; rcases hv with rfl | rfl | rfl <;> rfl
            case c3 => unfold maxLen; omega
            case c4 => omega
            case c5 => have := HBW.out.size; have := hb16.size; omega
            intro v' w' hrow hgr hv'
            refine hK _ _ ?_
            clear hK K
            have HROW : Hid (w'.ownsRow W1.heap.size 34 3 v' (d ++ [St.mk yn yi yt]).length (flatS (d ++ [St.mk yn yi yt]))) := Lib.hid (by
              have e : flatS (d ++ [St.mk yn yi yt]) = flatS d ++ [.string yn, .int .i64 yi, .bool yt] := by simp [flatS, St.cells]
              rw [List.length_append, e]
              exact hrow)
            have HBN : Hid (Below W1.heap.size W1 w') := Lib.hid ((HBW.out.trans (hb16.mono HBW.out.size)).grown hgr (by have := HBW.out.size; have := hb16.size; omega) (fun y hy => (HG3.lt y hy).1))
            clear hrow hgr hv' HG3 hb16 hb6 hg6 n0 n1 n2 a0 a1 a2 hs5
            go_wp2
            go_roundw
            case rel => exact ⟨k + 1, by omega, by go_num, d ++ [St.mk yn yi yt], by simp [hd], Lib.hid (pieces_snoc HX.out HD.out HYES.out), HROW, HBN⟩
            case measure => simp [intOf]; omega
        · have HALL : Hid (piecesL (ps.map (·.data.toList)) = some d) := Lib.hid (by
            have h1 := HD.out
            rwa [List.take_of_length_le (by rw [List.length_map]; omega)] at h1)
          obtain ⟨p, c, rfl, hpc, hcm, hst⟩ := row_steps HR.out
          have hpn := pieces_len HALL.out
          have hpk := pieces_ok HALL.out
          have HST := Lib.hid hst
          have HPC := Lib.hid hpc
          have HCM := Lib.hid hcm
          have HC := Lib.hid (PathText_any d p c wr hst (by unfold maxLen; omega) (fun x hx => (hpk x hx).2) (by have := hpn.1; have := HSL.out; omega) (fun x hx => by have h1 := hpn.2.1 x hx; rw [ba_len] at h1; have := HSL.out; unfold maxLen; omega) (HW.out.on HBB.out).tab)
          obtain ⟨tx, htx⟩ : ∃ tx : ByteArray, (⟨(pathT d).toArray⟩ : ByteArray) = tx := ⟨_, rfl⟩
          have HTX : Hid (tx.data.toList = pathT d) := Lib.hid (by rw [← htx])
          rw [htx, hd] at HC
          clear hpn hpk hst hpc hcm htx
          by_cases he : pathT d = s.data.toList
          · have HY : Hid (readL s.data.toList = some d) := Lib.hid (by rw [HRL.out, HALL.out]; dsimp only; rw [if_pos he])
            have he2 : (tx.toList == s.toList) = true := by rw [ByteArray.toList_eq, ByteArray.toList_eq, HTX.out, he, beq_self_eq_true]
            have he3 : tx.toList = s.toList := beq_iff_eq.1 he2
            clear he
            go_wp2_with (go_at_call 38; refine HC.out.mono ?_; rintro e w4 ⟨rfl, hb4⟩; have HB4 := Lib.hid hb4; clear hb4)
            go_ret2
            exact ⟨p, d, c, true, by rw [hd]; rfl, fun _ => HY.out, (fun h => by cases h), HST.out.on HB4.out, HPC.out, HCM.out, HBB.out.trans (HB4.out.mono HBB.out.size)⟩
          · have HN : Hid (readL s.data.toList = none) := Lib.hid (by rw [HRL.out, HALL.out]; dsimp only; rw [if_neg he])
            have he2 : (tx.toList == s.toList) = false := by rw [ByteArray.toList_eq, ByteArray.toList_eq, HTX.out]; exact beq_eq_false_iff_ne.2 he
            have he3 : ¬ tx.toList = s.toList := beq_eq_false_iff_ne.1 he2
            clear he
            go_wp2_with (go_at_call 38; refine HC.out.mono ?_; rintro e w4 ⟨rfl, hb4⟩; have HB4 := Lib.hid hb4; clear hb4)
            go_ret2
            exact ⟨none, [], 0, false, rfl, (fun h => by cases h), fun _ => ⟨HN.out, rfl⟩, .inl rfl, Nat.le_refl _, by decide, HBB.out.trans (HB4.out.mono HBB.out.size)⟩
    · have g1' : ((b.toNat : Int) != 47) = true := by simp [g1]
      have HN : Hid (readL s.data.toList = none) := Lib.hid (readL_head E.out (fun e => g1 (by rw [e]; rfl)))
      go_enter Tryd.func47, Tryd.ntmps47
      go_wp2
      all_goals go_ret2
      exact ⟨none, [], 0, false, rfl, (fun h => by cases h), fun _ => ⟨HN.out, rfl⟩, .inl rfl, Nat.le_refl _, by decide, Below.refl _ _⟩
end Go.Proofs.YtnmnmkdmnohbmaaDoor
