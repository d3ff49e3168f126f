/- The reference's sort: merged, two halves at a time, each once. Conditions: none. -/
import Derived.Test.YtnmnmkdmnohbmaaFltCopy
namespace Go.Proofs.Ytnmnmkdmnohbmaa
open Go.RowKit

/-- Two rising lists merged; what is alike once. -/
def mrg {α : Type} (c : α → α → Int) : List α → List α → List α
  | [], b => b
  | x :: a, [] => x :: a
  | x :: a, y :: b => if c x y < 0 then x :: mrg c a (y :: b) else if c x y = 0 then x :: mrg c a b else y :: mrg c (x :: a) b
termination_by a b => a.length + b.length

def ordL {α : Type} (c : α → α → Int) : Nat → List α → List α
  | 0, l => l
  | n + 1, l => if l.length < 2 then l else mrg c (ordL c n (l.take (l.length / 2))) (ordL c n (l.drop (l.length / 2)))

theorem mrg_nil {α : Type} (c : α → α → Int) (a : List α) : mrg c a [] = a := by cases a <;> simp [mrg]

theorem mrg_len {α : Type} (c : α → α → Int) : ∀ a b : List α, (mrg c a b).length ≤ a.length + b.length
  | [], b => by simp [mrg]
  | x :: a, [] => by simp [mrg]
  | x :: a, y :: b => by
    rw [mrg]
    split
    · have := mrg_len c a (y :: b); simp only [List.length_cons] at this ⊢; omega
    · split
      · have := mrg_len c a b; simp only [List.length_cons] at this ⊢; omega
      · have := mrg_len c (x :: a) b; simp only [List.length_cons] at this ⊢; omega
termination_by a b => a.length + b.length

theorem mrg_mem {α : Type} (c : α → α → Int) : ∀ (a b : List α) (z : α), z ∈ mrg c a b → z ∈ a ∨ z ∈ b
  | [], b, z, h => by rw [mrg] at h; exact .inr h
  | x :: a, [], z, h => by rw [mrg] at h; exact .inl h
  | x :: a, y :: b, z, h => by
    rw [mrg] at h
    split at h
    · rcases List.mem_cons.1 h with rfl | h
      · simp
      · have := mrg_mem c a (y :: b) z h; simp only [List.mem_cons] at this ⊢; rcases this with h | h | h <;> simp [h]
    · split at h
      · rcases List.mem_cons.1 h with rfl | h
        · simp
        · have := mrg_mem c a b z h; simp only [List.mem_cons] at this ⊢; rcases this with h | h <;> simp [h]
      · rcases List.mem_cons.1 h with rfl | h
        · simp
        · have := mrg_mem c (x :: a) b z h; simp only [List.mem_cons] at this ⊢; rcases this with (h | h) | h <;> simp [h]
termination_by a b => a.length + b.length

theorem ordL_len {α : Type} (c : α → α → Int) : ∀ (n : Nat) (l : List α), (ordL c n l).length ≤ l.length
  | 0, l => by rw [ordL]; omega
  | n + 1, l => by
    rw [ordL]
    split
    · omega
    · have h1 := ordL_len c n (l.take (l.length / 2))
      have h2 := ordL_len c n (l.drop (l.length / 2))
      have h3 := mrg_len c (ordL c n (l.take (l.length / 2))) (ordL c n (l.drop (l.length / 2)))
      simp only [List.length_take, List.length_drop] at h1 h2
      omega

theorem ordL_mem {α : Type} (c : α → α → Int) : ∀ (n : Nat) (l : List α) (z : α), z ∈ ordL c n l → z ∈ l
  | 0, l, z, h => by rwa [ordL] at h
  | n + 1, l, z, h => by
    rw [ordL] at h
    split at h
    · exact h
    · rcases mrg_mem c _ _ z h with h | h
      · exact List.mem_of_mem_take (ordL_mem c n _ z h)
      · exact List.mem_of_mem_drop (ordL_mem c n _ z h)

def fC (l : List LF) : List Value := l.flatMap (fun x => [.int .i64 x.f.k, x.pv, x.qv])
theorem fC_app (l s : List LF) : fC (l ++ s) = fC l ++ fC s := by simp [fC]
theorem fC_at : ∀ (l : List LF) (j : Nat) (s : LF), l[j]? = some s → (fC l)[j * 3]? = some (.int .i64 s.f.k) ∧ (fC l)[j * 3 + 1]? = some s.pv ∧ (fC l)[j * 3 + 2]? = some s.qv
  | [], _, _, h => by simp at h
  | a :: t, 0, r, h => by
    obtain rfl : a = r := by simpa using h
    exact ⟨rfl, rfl, rfl⟩
  | a :: t, j + 1, r, h => by
    have := fC_at t j r (by simpa using h)
    rw [show (j + 1) * 3 = j * 3 + 3 by omega]
    exact this

theorem fsAt_row {w : World} {B : Nat} {v : Value} {l : List LF} (h : w.ownsRow B 91 3 v l.length (fC l)) (hl : ∀ x ∈ l, LOk w.heap.size w x) : ∃ p c, v = .slice p l.length c ∧ FsAt w.heap.size w p l := by
  by_cases h0 : 0 < l.length
  · obtain ⟨g, cap, rfl, hb, hg, hc⟩ := rowAt1 h h0
    refine ⟨_, _, rfl, .inr ⟨g, 0, rfl, hg, fun i s hs => ?_⟩, hl⟩
    obtain ⟨h1, h2, h3⟩ := fC_at l i s hs
    rw [Nat.zero_add]
    exact ⟨hc _ _ h1, hc _ _ h2, hc _ _ h3⟩
  · obtain ⟨p, c, rfl⟩ := row_shape h
    exact ⟨p, c, rfl, .inl (List.length_eq_zero_iff.1 (by omega)), hl⟩

theorem FsAt.take {B : Nat} {w : World} {p : Option Addr} {l : List LF} (h : FsAt B w p l) (n : Nat) : FsAt B w p (l.take n) := by
  refine ⟨?_, fun x hx => h.2 x (List.mem_of_mem_take hx)⟩
  rcases h.1 with h | ⟨b, o, rfl, hB, hc⟩
  · exact .inl (by rw [h]; simp)
  · refine .inr ⟨b, o, rfl, hB, fun i x hx => hc i x ?_⟩
    rw [List.getElem?_take] at hx
    split at hx
    · exact hx
    · cases hx
theorem FsAt.drop {B : Nat} {w : World} {b o : Nat} {l : List LF} (h : FsAt B w (some ⟨b, o, none⟩) l) (n : Nat) : FsAt B w (some ⟨b, o + n * 3, none⟩) (l.drop n) := by
  refine ⟨?_, fun x hx => h.2 x (List.mem_of_mem_drop hx)⟩
  rcases h.1 with h | ⟨b', o', e, hB, hc⟩
  · exact .inl (by rw [h]; simp)
  · cases e
    refine .inr ⟨_, _, rfl, hB, fun i x hx => ?_⟩
    rw [List.getElem?_drop] at hx
    have := hc (n + i) x hx
    rw [show o + n * 3 + i * 3 = o + (n + i) * 3 by omega]
    exact this

abbrev cF (x y : LF) : Int := cmpF x.f y.f

theorem LOk.one {B : Nat} {w : World} {x : LF} (h : LOk B w x) : x.pv.oneCell' = true ∧ x.qv.oneCell' = true := by
  obtain ⟨⟨p, c, h1, _⟩, q, d, h2, _⟩ := h
  rw [h1, h2]
  exact ⟨rfl, rfl⟩

/-- What a slice of faults gives at a place. -/
theorem FsAt.get {B : Nat} {w : World} {p : Option Addr} {l : List LF} (h : FsAt B w p l) {i : Nat} {x : LF} (hx : l[i]? = some x) :
    ∃ b o, p = some ⟨b, o, none⟩ ∧ b < B ∧ w.cell? ⟨b, o + i * 3, none⟩ = some (.int .i64 x.f.k) ∧ w.cell? ⟨b, o + i * 3 + 1, none⟩ = some x.pv ∧ w.cell? ⟨b, o + i * 3 + 2, none⟩ = some x.qv ∧ LOk B w x := by
  rcases h.1 with h0 | ⟨b, o, e, hB, hc⟩
  · subst h0; simp at hx
  · obtain ⟨h1, h2, h3⟩ := hc i x hx
    exact ⟨b, o, e, hB, h1, h2, h3, h.2 x (List.mem_of_getElem? hx)⟩

theorem mrg_lt {α : Type} {c : α → α → Int} {a b : List α} {i j : Nat} {x y : α} (hx : a[i]? = some x) (hy : b[j]? = some y) (h : c x y < 0) : mrg c (a.drop i) (b.drop j) = x :: mrg c (a.drop (i + 1)) (b.drop j) := by
  rw [drop_some hx, drop_some hy, mrg, if_pos h]
theorem mrg_eq {α : Type} {c : α → α → Int} {a b : List α} {i j : Nat} {x y : α} (hx : a[i]? = some x) (hy : b[j]? = some y) (h : c x y = 0) : mrg c (a.drop i) (b.drop j) = x :: mrg c (a.drop (i + 1)) (b.drop (j + 1)) := by
  rw [drop_some hx, drop_some hy, mrg, if_neg (by omega), if_pos h]
theorem mrg_gt {α : Type} {c : α → α → Int} {a b : List α} {i j : Nat} {x y : α} (hx : a[i]? = some x) (hy : b[j]? = some y) (h : 0 < c x y) : mrg c (a.drop i) (b.drop j) = y :: mrg c (a.drop i) (b.drop (j + 1)) := by
  rw [drop_some hx, drop_some hy, mrg, if_neg (by omega), if_neg (by omega)]
theorem mrg_left {α : Type} {c : α → α → Int} {a b : List α} {i j : Nat} {x : α} (hx : a[i]? = some x) (hj : b.length ≤ j) : mrg c (a.drop i) (b.drop j) = x :: mrg c (a.drop (i + 1)) (b.drop j) := by
  rw [List.drop_eq_nil_iff.2 hj, mrg_nil, mrg_nil, drop_some hx]
theorem mrg_right {α : Type} {c : α → α → Int} {a b : List α} {i j : Nat} {y : α} (hi : a.length ≤ i) (hy : b[j]? = some y) : mrg c (a.drop i) (b.drop j) = y :: mrg c (a.drop i) (b.drop (j + 1)) := by
  rw [List.drop_eq_nil_iff.2 hi, mrg, mrg, drop_some hy]

set_option maxRecDepth 100000 in
set_option maxHeartbeats 8000000 in
theorem ordered_any : ∀ (N : Nat) (l : List LF), l.length ≤ N → l.length ≤ big → ∀ (p : Option Addr) (c : Nat) (w : World), l.length ≤ c → FsAt w.heap.size w p l →
    Calls Try.prog 81 #[.slice p l.length c] w (fun e w' => ∃ p' c', e = .returned (.slice p' (ordL cF N l).length c') ∧ FsAt w'.heap.size w' p' (ordL cF N l) ∧ Below w.heap.size w w') := by
  intro N
  induction N with
  | zero =>
    intro l hN _ p c w hc hF
    obtain rfl : l = [] := List.length_eq_zero_iff.1 (by omega)
    have HF := Lib.hid hF
    clear hF
    go_enter Try.func81, Try.ntmps81
    go_wp2
    go_ret
    exact ⟨p, c, rfl, HF.out, Below.refl _ _⟩
  | succ N ih =>
    intro l hN hbig p c w hc hF
    unfold big at hbig
    by_cases h2 : l.length < 2
    · have e : ordL cF (N + 1) l = l := by rw [ordL, if_pos h2]
      rw [e]
      have HF := Lib.hid hF
      clear hF ih e
      have hd : decide ((l.length : Int) < 2) = true := decide_eq_true (by omega)
      go_enter Try.func81, Try.ntmps81
      go_wp2
      go_ret
      exact ⟨p, c, rfl, HF.out, Below.refl _ _⟩
    · have e : ordL cF (N + 1) l = mrg cF (ordL cF N (l.take (l.length / 2))) (ordL cF N (l.drop (l.length / 2))) := by rw [ordL, if_neg h2]
      rw [e]
      clear e
      obtain ⟨b, o, rfl⟩ : ∃ b o, p = some ⟨b, o, none⟩ := by
        rcases hF.1 with h | ⟨b, o, rfl, _⟩
        · rw [h] at h2; simp at h2
        · exact ⟨b, o, rfl⟩
      have C1 : Hid (∀ W, Below w.heap.size w W → Calls Try.prog 81 #[.slice (some ⟨b, o, none⟩) (l.length / 2) c] W (fun e w' => ∃ p' c', e = .returned (.slice p' (ordL cF N (l.take (l.length / 2))).length c') ∧ FsAt w'.heap.size w' p' (ordL cF N (l.take (l.length / 2))) ∧ Below W.heap.size W w')) := Lib.hid (fun W h => by
        have := ih (l.take (l.length / 2)) (by rw [List.length_take]; omega) (by rw [List.length_take]; unfold big; omega) (some ⟨b, o, none⟩) c W (by rw [List.length_take]; omega) (((hF.below h).up h.size).take _)
        rwa [show (l.take (l.length / 2)).length = l.length / 2 by rw [List.length_take]; omega] at this)
      have C2 : Hid (∀ W, Below w.heap.size w W → Calls Try.prog 81 #[.slice (some ⟨b, o + l.length / 2 * 3, none⟩) (l.length - l.length / 2) (c - l.length / 2)] W (fun e w' => ∃ p' c', e = .returned (.slice p' (ordL cF N (l.drop (l.length / 2))).length c') ∧ FsAt w'.heap.size w' p' (ordL cF N (l.drop (l.length / 2))) ∧ Below W.heap.size W w')) := Lib.hid (fun W h => by
        have := ih (l.drop (l.length / 2)) (by rw [List.length_drop]; omega) (by rw [List.length_drop]; unfold big; omega) (some ⟨b, o + l.length / 2 * 3, none⟩) (c - l.length / 2) W (by rw [List.length_drop]; omega) (((hF.below h).up h.size).drop _)
        rwa [List.length_drop] at this)
      have la := ordL_len cF N (l.take (l.length / 2))
      have lb := ordL_len cF N (l.drop (l.length / 2))
      rw [List.length_take] at la
      rw [List.length_drop] at lb
      clear hF ih
      generalize ordL cF N (l.take (l.length / 2)) = A at *
      generalize ordL cF N (l.drop (l.length / 2)) = Bl at *
      generalize hh : l.length / 2 = h at *
      generalize hn : l.length = n at *
      have HH := Lib.hid hh
      have HN := Lib.hid hn
      clear hh hn
      have tk1 := trivial
      have tk2 := trivial
      go_enter Try.func81, Try.ntmps81
      go_upto_region 4 with (fail)
      have hcast : ((n : Int) / 2) = (h : Int) := by have := HH.out; omega
      have hhn : h ≤ n := by have := HH.out; omega
      have hhc : h ≤ c := by omega
      rw [hcast]
      clear hcast
      have hce : ¬ c = h := by have := HH.out; omega
      have hce2 : ¬ h = c := by have := HH.out; omega
      have hce3 : ¬ c ≤ h := by have := HH.out; omega
      go_upto_region 6 with (go_at_call 81; first
        | (clear tk1; refine (C1.out _ (Below.refl _ _)).mono ?_; rintro e w1 ⟨pa, ca, rfl, hA, hb1⟩; have HA := Lib.hid hA; have HB1 := Lib.hid hb1; clear hA hb1)
        | (clear tk2; refine (C2.out _ HB1.out).mono ?_; rintro e w2 ⟨pb, cb, rfl, hB, hb2⟩; have HB := Lib.hid hB; have HB2 := Lib.hid hb2; clear hB hb2))
      obtain ⟨i0, hi, hz0, hz1, hz2⟩ := info_parts (show (Try.prog.info? 91).map (fun i => (i.zero, i.size, i.bytes)) = some (some (.agg #[.int .i64 0, .slice none 0 0, .slice none 0 0]), 3, 56) by kernel_rfl)
      go_step
      iterate 2
        refine wpList_plain rfl (fun K hK => ?_)
        go_step
        refine hK _ _ ?_
        clear hK K
      refine wpList_make_own (P := Try.prog) w2 rfl (.const (.int .i64 0)) (.tmp 26) 85 rfl w2.heap.size 91 i0 _ 3 Try.underlying85 hi hz0 hz1 .i64 .i64 _ n rfl rfl rfl (by rw [hz2]; omega) (by unfold maxLen; omega) (Nat.le_refl _) ?_
      intro W0 hrow hgr
      have hb3 : Below w2.heap.size w2 W0 := ⟨hgr.os, hgr.tape, hgr.output, hgr.size, fun k hk => hgr.block k hk (by simp)⟩
      have HROW := Lib.hid hrow
      have HSZ := Lib.hid hb3.size
      have HFA : Hid (FsAt w2.heap.size W0 pa A) := Lib.hid (((HA.out.below HB2.out).up HB2.out.size).below hb3)
      have HFB : Hid (FsAt w2.heap.size W0 pb Bl) := Lib.hid (HB.out.below hb3)
      have HSW : Hid (w.heap.size ≤ w2.heap.size) := Lib.hid (Nat.le_trans HB1.out.size HB2.out.size)
      have HBW0 : Hid (Below w.heap.size w W0) := Lib.hid (HB1.out.trans ((HB2.out.trans (hb3.mono HB2.out.size)).mono HB1.out.size))
      clear hrow hgr hb3 hi hz0 hz1 hz2 HA HB HB1 HB2 C1 C2 hce hce2 hce3 hhc hhn
      go_wp2
      go_loopw [6, 7, 8] (fun s6 s7 s8 wr => ∃ i j : Nat, i ≤ A.length ∧ j ≤ Bl.length ∧ s7 = .int .i64 i ∧ s8 = .int .i64 j ∧ ∃ r sp sc, s6 = .slice sp (List.length r) sc ∧ Hid (wr.ownsRow w2.heap.size 91 3 (.slice sp (List.length r) sc) (List.length r) (fC r)) ∧ Hid (r ++ mrg cF (A.drop i) (Bl.drop j) = mrg cF A Bl) ∧ Hid (Below w2.heap.size W0 wr)) (fun _ s7 s8 _ => (A.length - (intOf s7).toNat) + (Bl.length - (intOf s8).toNat))
      case atStart => exact ⟨0, 0, by omega, by omega, rfl, rfl, [], some ⟨w2.heap.size, 0, none⟩, n, rfl, HROW, Lib.hid rfl, Lib.hid (Below.refl _ _)⟩
      case round =>
        obtain ⟨i, j, hil, hjl, rfl, rfl, r, sp, sc, rfl, HOwr, hM, HBwr⟩ := hrel
        have hlr : Hid (r.length ≤ n) := Lib.hid (by
          have h1 := congrArg List.length hM.out
          rw [List.length_append] at h1
          have h2 := mrg_len cF A Bl
          have := HH.out
          omega)
        by_cases hi : i < A.length
        · obtain ⟨x, hx⟩ : ∃ x, A[i]? = some x := ⟨A[i], by simp [hi]⟩
          obtain ⟨ba, oa, rfl, hBa, a1, a2, a3, okx⟩ := (HFA.out.below HBwr.out).get hx
          have HXk := Lib.hid hx
          have Hxo := Lib.hid okx.one
          have hwa : ba < wr.heap.size := by have := HBwr.out.size; have := HSZ.out; omega
          by_cases hj : j < Bl.length
          · obtain ⟨y, hy⟩ : ∃ y, Bl[j]? = some y := ⟨Bl[j], by simp [hj]⟩
            obtain ⟨bb, ob, rfl, hBb, b1, b2, b3, oky⟩ := (HFB.out.below HBwr.out).get hy
            have HYk := Lib.hid hy
            have Hyo := Lib.hid oky.one
            have hwb : bb < wr.heap.size := by have := HBwr.out.size; have := HSZ.out; omega
            have C1 : Hid (∀ W, Below wr.heap.size wr W → Calls Try.prog 90 #[.agg x.cells, .agg y.cells] W (RetB (.int .i64 (cmpF x.f y.f)) W)) := Lib.hid (fun W h => CompareFault_any x y w2.heap.size W (okx.below (h.mono (by have := HBwr.out.size; have := HSZ.out; omega))) (oky.below (h.mono (by have := HBwr.out.size; have := HSZ.out; omega))) (by have := h.size; have := HBwr.out.size; have := HSZ.out; omega))
            obtain ⟨⟨xk, xpos, xpath⟩, xp, xq⟩ := x
            obtain ⟨⟨yk, ypos, ypath⟩, yp, yq⟩ := y
            dsimp only at a1 a2 a3 b1 b2 b3 Hxo Hyo
            dsimp only [LF.cells] at C1
            obtain ⟨cc, hcc⟩ : ∃ cc, cmpF ⟨xk, xpos, xpath⟩ ⟨yk, ypos, ypath⟩ = cc := ⟨_, rfl⟩
            rw [hcc] at C1
            have HCC : Hid (cF ⟨⟨xk, xpos, xpath⟩, xp, xq⟩ ⟨⟨yk, ypos, ypath⟩, yp, yq⟩ = cc) := Lib.hid hcc
            have HA0 := Lib.hid (show (ba < w2.heap.size ∧ bb < w2.heap.size) from ⟨hBa, hBb⟩)
            clear hx hy okx oky hcc hBa hBb
            go_upto_region 14 with (fail)
            refine wp_region_plan_below 8 [(0, [0, 1, 2, 3, 4, 5, 6, 7]), (2, [8, 9])] (by kernel_rfl) (by kernel_rfl) (fun _ _ _ _ h => h) ?_
            simp only [wpSegs, pickOps, List.getElem?_toArray, List.getElem?_cons_zero, List.getElem?_cons_succ]
            have kc := cell_cls wr
            iterate 8 (go_big_quiet_step (fail))
            refine wpQuiet_nil ?_
            clear kc
            refine wpList_plain rfl (fun K hK => ?_)
            go_step
            refine (C1.out _ (Below.drew (Below.refl _ _))).mono ?_
            rintro e w4 ⟨rfl, hb4⟩
            refine hK _ _ ?_
            clear hK K
            have hb4' : Below wr.heap.size wr w4 := (Below.drew (Below.refl _ _)).trans hb4
            have a1 := (hb4'.cell (p := ⟨ba, oa + i * 3, none⟩) hwa).trans a1
            have a2 := (hb4'.cell (p := ⟨ba, oa + i * 3 + 1, none⟩) hwa).trans a2
            have a3 := (hb4'.cell (p := ⟨ba, oa + i * 3 + 2, none⟩) hwa).trans a3
            have b1 := (hb4'.cell (p := ⟨bb, ob + j * 3, none⟩) hwb).trans b1
            have b2 := (hb4'.cell (p := ⟨bb, ob + j * 3 + 1, none⟩) hwb).trans b2
            have b3 := (hb4'.cell (p := ⟨bb, ob + j * 3 + 2, none⟩) hwb).trans b3
            have HOw4 := Lib.hid (HOwr.out.kept (grown_ofb hb4' none) (by cases (Value.slice sp r.length sc).ownBlock <;> simp))
            have HBw4 := Lib.hid (HBwr.out.trans (hb4'.mono (by have := HBwr.out.size; have := HSZ.out; omega)))
            clear hb4 hb4' C1 HOwr HBwr
            by_cases hlt : cc < 0
            · have d1 : decide (cc ≤ 0) = true := decide_eq_true (by omega)
              have d2 : decide (cc = 0) = false := decide_eq_false (by omega)
              have d3 : (cc == 0) = false := by simp; omega
              go_upto_region 16 with (fail)
              go_step
              iterate 5
                refine wpList_plain rfl (fun K hK => ?_)
                go_step
                refine hK _ _ ?_
                clear hK K
              refine wpList_plain rfl (fun K hK => ?_)
              go_step
              refine hK _ _ ?_
              clear hK K
              obtain ⟨W3, hW⟩ : ∃ W3, w4.alloc (.cells #[.int .i64 xk, xp, xq] 91) = W3 := ⟨_, rfl⟩
              have hb3 : Below w4.heap.size w4 W3 := by rw [← hW]; exact (Below.refl w4.heap.size w4).alloc (Nat.le_refl _) _
              have hnew : CellsAt W3 w4.heap.size 0 #[.int .i64 xk, xp, xq] := by rw [← hW]; exact cellsAt_alloc w4 _ _ (0, 0)
              rw [hW]
              clear hW
              have HG3 := HOw4.out.kept (grown_ofb hb3 none) (by cases (Value.slice sp r.length sc).ownBlock <;> simp)
              refine wpList_plain rfl (fun K hK => ?_)
              refine wp_append_x (P := Try.prog) W3 (.tmp 57) (.tmp 62) 85 rfl w2.heap.size 91 (.agg #[.int .i64 0, .slice none 0 0, .slice none 0 0]) 3 56 Try.underlying85 (by kernel_rfl) rfl (by decide) (.slice sp r.length sc) r.length _ rfl HG3 ⟨w4.heap.size, 0, none⟩ 1 1 [.int .i64 xk, xp, xq] rfl (by decide) rfl ?c1 ?c2 ?c3 ?c4 ?c5 ?_
              case c1 =>
                intro m u hu
                have := hnew m u (by simpa using hu)
                rw [addr_add]
                exact this
              case c2 => intro u hu; simp at hu; rcases hu with rfl | rfl | rfl <;> first | rfl | exact Hxo.out.1 | exact Hxo.out.2
              case c3 => unfold maxLen; have := hlr.out; omega
              case c4 => have := hlr.out; omega
              case c5 => have := hb3.size; have := HBw4.out.size; have := HSZ.out; omega
              intro v' w' hrow hgr _
              refine hK _ _ ?_
              clear hK K
              have hbw' : Below w2.heap.size W0 w' := (HBw4.out.trans (hb3.mono (by have := HBw4.out.size; have := HSZ.out; omega))).grown hgr (by have := hb3.size; have := HBw4.out.size; have := HSZ.out; omega) (fun y hy => (HG3.lt y hy).1)
              obtain ⟨g', cap', rfl⟩ : ∃ g' cap', v' = .slice (some ⟨g', 0, none⟩) (r.length + 1) cap' := by
                rcases hrow.2 with ⟨_, h⟩ | ⟨g', cap', cur, h, _⟩
                · omega
                · exact ⟨g', cap', h⟩
              have HRW := Lib.hid hrow
              have HBW := Lib.hid hbw'
              clear hrow hbw' hgr HG3 hb3 hnew
              go_wp2
              go_roundw
              case rel =>
                refine ⟨i + 1, j, by omega, by omega, by first | rfl | go_num, by first | rfl | go_num, r ++ [⟨⟨xk, xpos, xpath⟩, xp, xq⟩], some ⟨g', 0, none⟩, cap', by rw [List.length_append]; rfl, Lib.hid ?_, Lib.hid ?_, HBW⟩
                · have h := HRW.out
                  rw [List.length_append, fC_app]
                  exact h
                · rw [List.append_assoc, ← hM.out, mrg_lt HXk.out HYk.out (by rw [HCC.out]; exact hlt)]
                  rfl
              case measure => simp [intOf]; omega
            · by_cases heq : cc = 0
              · subst heq
                go_upto_region 16 with (fail)
                go_step
                iterate 5
                  refine wpList_plain rfl (fun K hK => ?_)
                  go_step
                  refine hK _ _ ?_
                  clear hK K
                refine wpList_plain rfl (fun K hK => ?_)
                go_step
                refine hK _ _ ?_
                clear hK K
                obtain ⟨W3, hW⟩ : ∃ W3, w4.alloc (.cells #[.int .i64 xk, xp, xq] 91) = W3 := ⟨_, rfl⟩
                have hb3 : Below w4.heap.size w4 W3 := by rw [← hW]; exact (Below.refl w4.heap.size w4).alloc (Nat.le_refl _) _
                have hnew : CellsAt W3 w4.heap.size 0 #[.int .i64 xk, xp, xq] := by rw [← hW]; exact cellsAt_alloc w4 _ _ (0, 0)
                rw [hW]
                clear hW
                have HG3 := HOw4.out.kept (grown_ofb hb3 none) (by cases (Value.slice sp r.length sc).ownBlock <;> simp)
                refine wpList_plain rfl (fun K hK => ?_)
                refine wp_append_x (P := Try.prog) W3 (.tmp 57) (.tmp 62) 85 rfl w2.heap.size 91 (.agg #[.int .i64 0, .slice none 0 0, .slice none 0 0]) 3 56 Try.underlying85 (by kernel_rfl) rfl (by decide) (.slice sp r.length sc) r.length _ rfl HG3 ⟨w4.heap.size, 0, none⟩ 1 1 [.int .i64 xk, xp, xq] rfl (by decide) rfl ?c1 ?c2 ?c3 ?c4 ?c5 ?_
                case c1 =>
                  intro m u hu
                  have := hnew m u (by simpa using hu)
                  rw [addr_add]
                  exact this
                case c2 => intro u hu; simp at hu; rcases hu with rfl | rfl | rfl <;> first | rfl | exact Hxo.out.1 | exact Hxo.out.2
                case c3 => unfold maxLen; have := hlr.out; omega
                case c4 => have := hlr.out; omega
                case c5 => have := hb3.size; have := HBw4.out.size; have := HSZ.out; omega
                intro v' w' hrow hgr _
                refine hK _ _ ?_
                clear hK K
                have hbw' : Below w2.heap.size W0 w' := (HBw4.out.trans (hb3.mono (by have := HBw4.out.size; have := HSZ.out; omega))).grown hgr (by have := hb3.size; have := HBw4.out.size; have := HSZ.out; omega) (fun y hy => (HG3.lt y hy).1)
                obtain ⟨g', cap', rfl⟩ : ∃ g' cap', v' = .slice (some ⟨g', 0, none⟩) (r.length + 1) cap' := by
                  rcases hrow.2 with ⟨_, h⟩ | ⟨g', cap', cur, h, _⟩
                  · omega
                  · exact ⟨g', cap', h⟩
                have HRW := Lib.hid hrow
                have HBW := Lib.hid hbw'
                clear hrow hbw' hgr HG3 hb3 hnew
                go_wp2
                go_roundw
                case rel =>
                  refine ⟨i + 1, j + 1, by omega, by omega, by first | rfl | go_num, by first | rfl | go_num, r ++ [⟨⟨xk, xpos, xpath⟩, xp, xq⟩], some ⟨g', 0, none⟩, cap', by rw [List.length_append]; rfl, Lib.hid ?_, Lib.hid ?_, HBW⟩
                  · have h := HRW.out
                    rw [List.length_append, fC_app]
                    exact h
                  · rw [List.append_assoc, ← hM.out, mrg_eq HXk.out HYk.out HCC.out]
                    rfl
                case measure => simp [intOf]; omega
              · have d1 : decide (cc ≤ 0) = false := decide_eq_false (by omega)
                go_upto_region 20 with (fail)
                go_step
                iterate 5
                  refine wpList_plain rfl (fun K hK => ?_)
                  go_step
                  refine hK _ _ ?_
                  clear hK K
                refine wpList_plain rfl (fun K hK => ?_)
                go_step
                refine hK _ _ ?_
                clear hK K
                obtain ⟨W3, hW⟩ : ∃ W3, w4.alloc (.cells #[.int .i64 yk, yp, yq] 91) = W3 := ⟨_, rfl⟩
                have hb3 : Below w4.heap.size w4 W3 := by rw [← hW]; exact (Below.refl w4.heap.size w4).alloc (Nat.le_refl _) _
                have hnew : CellsAt W3 w4.heap.size 0 #[.int .i64 yk, yp, yq] := by rw [← hW]; exact cellsAt_alloc w4 _ _ (0, 0)
                rw [hW]
                clear hW
                have HG3 := HOw4.out.kept (grown_ofb hb3 none) (by cases (Value.slice sp r.length sc).ownBlock <;> simp)
                refine wpList_plain rfl (fun K hK => ?_)
                refine wp_append_x (P := Try.prog) W3 (.tmp 70) (.tmp 75) 85 rfl w2.heap.size 91 (.agg #[.int .i64 0, .slice none 0 0, .slice none 0 0]) 3 56 Try.underlying85 (by kernel_rfl) rfl (by decide) (.slice sp r.length sc) r.length _ rfl HG3 ⟨w4.heap.size, 0, none⟩ 1 1 [.int .i64 yk, yp, yq] rfl (by decide) rfl ?c1 ?c2 ?c3 ?c4 ?c5 ?_
                case c1 =>
                  intro m u hu
                  have := hnew m u (by simpa using hu)
                  rw [addr_add]
                  exact this
                case c2 => intro u hu; simp at hu; rcases hu with rfl | rfl | rfl <;> first | rfl | exact Hyo.out.1 | exact Hyo.out.2
                case c3 => unfold maxLen; have := hlr.out; omega
                case c4 => have := hlr.out; omega
                case c5 => have := hb3.size; have := HBw4.out.size; have := HSZ.out; omega
                intro v' w' hrow hgr _
                refine hK _ _ ?_
                clear hK K
                have hbw' : Below w2.heap.size W0 w' := (HBw4.out.trans (hb3.mono (by have := HBw4.out.size; have := HSZ.out; omega))).grown hgr (by have := hb3.size; have := HBw4.out.size; have := HSZ.out; omega) (fun y hy => (HG3.lt y hy).1)
                obtain ⟨g', cap', rfl⟩ : ∃ g' cap', v' = .slice (some ⟨g', 0, none⟩) (r.length + 1) cap' := by
                  rcases hrow.2 with ⟨_, h⟩ | ⟨g', cap', cur, h, _⟩
                  · omega
                  · exact ⟨g', cap', h⟩
                have HRW := Lib.hid hrow
                have HBW := Lib.hid hbw'
                clear hrow hbw' hgr HG3 hb3 hnew
                go_wp2
                go_roundw
                case rel =>
                  refine ⟨i, j + 1, by omega, by omega, by first | rfl | go_num, by first | rfl | go_num, r ++ [⟨⟨yk, ypos, ypath⟩, yp, yq⟩], some ⟨g', 0, none⟩, cap', by rw [List.length_append]; rfl, Lib.hid ?_, Lib.hid ?_, HBW⟩
                  · have h := HRW.out
                    rw [List.length_append, fC_app]
                    exact h
                  · rw [List.append_assoc, ← hM.out, mrg_gt HXk.out HYk.out (by rw [HCC.out]; omega)]
                    rfl
                case measure => simp [intOf]; omega
          · obtain ⟨⟨xk, xpos, xpath⟩, xp, xq⟩ := x
            dsimp only at a1 a2 a3 Hxo
            clear hx okx
            go_upto_region 16 with (fail)
            go_step
            iterate 5
              refine wpList_plain rfl (fun K hK => ?_)
              go_step
              refine hK _ _ ?_
              clear hK K
            refine wpList_plain rfl (fun K hK => ?_)
            go_step
            refine hK _ _ ?_
            clear hK K
            obtain ⟨W3, hW⟩ : ∃ W3, wr.alloc (.cells #[.int .i64 xk, xp, xq] 91) = W3 := ⟨_, rfl⟩
            have hb3 : Below wr.heap.size wr W3 := by rw [← hW]; exact (Below.refl wr.heap.size wr).alloc (Nat.le_refl _) _
            have hnew : CellsAt W3 wr.heap.size 0 #[.int .i64 xk, xp, xq] := by rw [← hW]; exact cellsAt_alloc wr _ _ (0, 0)
            rw [hW]
            clear hW
            have HG3 := HOwr.out.kept (grown_ofb hb3 none) (by cases (Value.slice sp r.length sc).ownBlock <;> simp)
            refine wpList_plain rfl (fun K hK => ?_)
            refine wp_append_x (P := Try.prog) W3 (.tmp 57) (.tmp 62) 85 rfl w2.heap.size 91 (.agg #[.int .i64 0, .slice none 0 0, .slice none 0 0]) 3 56 Try.underlying85 (by kernel_rfl) rfl (by decide) (.slice sp r.length sc) r.length _ rfl HG3 ⟨wr.heap.size, 0, none⟩ 1 1 [.int .i64 xk, xp, xq] rfl (by decide) rfl ?c1 ?c2 ?c3 ?c4 ?c5 ?_
            case c1 =>
              intro m u hu
              have := hnew m u (by simpa using hu)
              rw [addr_add]
              exact this
            case c2 => intro u hu; simp at hu; rcases hu with rfl | rfl | rfl <;> first | rfl | exact Hxo.out.1 | exact Hxo.out.2
            case c3 => unfold maxLen; have := hlr.out; omega
            case c4 => have := hlr.out; omega
            case c5 => have := hb3.size; have := HBwr.out.size; have := HSZ.out; omega
            intro v' w' hrow hgr _
            refine hK _ _ ?_
            clear hK K
            have hbw' : Below w2.heap.size W0 w' := (HBwr.out.trans (hb3.mono (by have := HBwr.out.size; have := HSZ.out; omega))).grown hgr (by have := hb3.size; have := HBwr.out.size; have := HSZ.out; omega) (fun y hy => (HG3.lt y hy).1)
            obtain ⟨g', cap', rfl⟩ : ∃ g' cap', v' = .slice (some ⟨g', 0, none⟩) (r.length + 1) cap' := by
              rcases hrow.2 with ⟨_, h⟩ | ⟨g', cap', cur, h, _⟩
              · omega
              · exact ⟨g', cap', h⟩
            have HRW := Lib.hid hrow
            have HBW := Lib.hid hbw'
            clear hrow hbw' hgr HG3 hb3 hnew
            go_wp2
            go_roundw
            case rel =>
              refine ⟨i + 1, j, by omega, by omega, by first | rfl | go_num, by first | rfl | go_num, r ++ [⟨⟨xk, xpos, xpath⟩, xp, xq⟩], some ⟨g', 0, none⟩, cap', by rw [List.length_append]; rfl, Lib.hid ?_, Lib.hid ?_, HBW⟩
              · have h := HRW.out
                rw [List.length_append, fC_app]
                exact h
              · rw [List.append_assoc, ← hM.out, mrg_left HXk.out (by omega)]
                rfl
            case measure => simp [intOf]; omega
        · by_cases hj : j < Bl.length
          · obtain ⟨y, hy⟩ : ∃ y, Bl[j]? = some y := ⟨Bl[j], by simp [hj]⟩
            obtain ⟨bb, ob, rfl, hBb, b1, b2, b3, oky⟩ := (HFB.out.below HBwr.out).get hy
            have HYk := Lib.hid hy
            have Hyo := Lib.hid oky.one
            have hwb : bb < wr.heap.size := by have := HBwr.out.size; have := HSZ.out; omega
            obtain ⟨⟨yk, ypos, ypath⟩, yp, yq⟩ := y
            dsimp only at b1 b2 b3 Hyo
            clear hy oky
            go_upto_region 20 with (fail)
            go_step
            iterate 5
              refine wpList_plain rfl (fun K hK => ?_)
              go_step
              refine hK _ _ ?_
              clear hK K
            refine wpList_plain rfl (fun K hK => ?_)
            go_step
            refine hK _ _ ?_
            clear hK K
            obtain ⟨W3, hW⟩ : ∃ W3, wr.alloc (.cells #[.int .i64 yk, yp, yq] 91) = W3 := ⟨_, rfl⟩
            have hb3 : Below wr.heap.size wr W3 := by rw [← hW]; exact (Below.refl wr.heap.size wr).alloc (Nat.le_refl _) _
            have hnew : CellsAt W3 wr.heap.size 0 #[.int .i64 yk, yp, yq] := by rw [← hW]; exact cellsAt_alloc wr _ _ (0, 0)
            rw [hW]
            clear hW
            have HG3 := HOwr.out.kept (grown_ofb hb3 none) (by cases (Value.slice sp r.length sc).ownBlock <;> simp)
            refine wpList_plain rfl (fun K hK => ?_)
            refine wp_append_x (P := Try.prog) W3 (.tmp 70) (.tmp 75) 85 rfl w2.heap.size 91 (.agg #[.int .i64 0, .slice none 0 0, .slice none 0 0]) 3 56 Try.underlying85 (by kernel_rfl) rfl (by decide) (.slice sp r.length sc) r.length _ rfl HG3 ⟨wr.heap.size, 0, none⟩ 1 1 [.int .i64 yk, yp, yq] rfl (by decide) rfl ?c1 ?c2 ?c3 ?c4 ?c5 ?_
            case c1 =>
              intro m u hu
              have := hnew m u (by simpa using hu)
              rw [addr_add]
              exact this
            case c2 => intro u hu; simp at hu; rcases hu with rfl | rfl | rfl <;> first | rfl | exact Hyo.out.1 | exact Hyo.out.2
            case c3 => unfold maxLen; have := hlr.out; omega
            case c4 => have := hlr.out; omega
            case c5 => have := hb3.size; have := HBwr.out.size; have := HSZ.out; omega
            intro v' w' hrow hgr _
            refine hK _ _ ?_
            clear hK K
            have hbw' : Below w2.heap.size W0 w' := (HBwr.out.trans (hb3.mono (by have := HBwr.out.size; have := HSZ.out; omega))).grown hgr (by have := hb3.size; have := HBwr.out.size; have := HSZ.out; omega) (fun y hy => (HG3.lt y hy).1)
            obtain ⟨g', cap', rfl⟩ : ∃ g' cap', v' = .slice (some ⟨g', 0, none⟩) (r.length + 1) cap' := by
              rcases hrow.2 with ⟨_, h⟩ | ⟨g', cap', cur, h, _⟩
              · omega
              · exact ⟨g', cap', h⟩
            have HRW := Lib.hid hrow
            have HBW := Lib.hid hbw'
            clear hrow hbw' hgr HG3 hb3 hnew
            go_wp2
            go_roundw
            case rel =>
              refine ⟨i, j + 1, by omega, by omega, by first | rfl | go_num, by first | rfl | go_num, r ++ [⟨⟨yk, ypos, ypath⟩, yp, yq⟩], some ⟨g', 0, none⟩, cap', by rw [List.length_append]; rfl, Lib.hid ?_, Lib.hid ?_, HBW⟩
              · have h := HRW.out
                rw [List.length_append, fC_app]
                exact h
              · rw [List.append_assoc, ← hM.out, mrg_right (by omega) HYk.out]
                rfl
            case measure => simp [intOf]; omega
          · have hrr : r = mrg cF A Bl := by
              have h := hM.out
              rw [List.drop_eq_nil_iff.2 (by omega : A.length ≤ i), List.drop_eq_nil_iff.2 (by omega : Bl.length ≤ j), mrg, List.append_nil] at h
              exact h
            have hfin : ∃ p' c', Value.slice sp r.length sc = .slice p' r.length c' ∧ FsAt wr.heap.size wr p' r := by
              have hm := HBwr.out.size
              have hz := HSZ.out
              exact fsAt_row HOwr.out (fun z hz' => by
                rw [hrr] at hz'
                rcases mrg_mem cF A Bl z hz' with h | h
                · exact (((HFA.out.2 z h).below HBwr.out).mono (by omega))
                · exact (((HFB.out.2 z h).below HBwr.out).mono (by omega)))
            have HRR := Lib.hid hrr
            have HFIN := Lib.hid hfin
            clear hrr hfin
            go_wp2
            go_ret
            obtain ⟨p', c', e1, hF⟩ := HFIN.out
            rw [← HRR.out]
            exact ⟨p', c', by rw [← e1]; rfl, hF, HBW0.out.trans (HBwr.out.mono HSW.out)⟩
end Go.Proofs.Ytnmnmkdmnohbmaa
