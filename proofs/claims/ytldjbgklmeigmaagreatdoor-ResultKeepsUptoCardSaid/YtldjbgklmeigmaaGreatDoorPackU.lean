/- Several texts in one: The parts of a value in their order, and which of them is the first with a fault: no program in sight. A row of parts in memory, each with its path's own row: what growth of the row leaves as it is. The reference's longer: a path and one more step, in new memory. The reference's parts: all parts of a value in their order, each with its path. The reference's Sound: the first flawed part, which is the program's first fault. Conditions: none. -/
import Derived.Test.YtldjbgklmeigmaaGreatDoorPackO
import Derived.Test.YtldjbgklmeigmaaGreatDoorPackG
import Derived.Laws.MakeOwn
import Derived.Test.YtldjbgklmeigmaaGreatDoorPackN
set_option linter.unusedVariables false
set_option linter.unusedSimpArgs false
namespace Go.Proofs.YtldjbgklmeigmaaGreatDoor
open Go Go.RowKit

mutual
/-- All parts in their order, with their paths. -/
def partsV : List St → V → List (List St × V)
  | path, .mk k b i f t ty its fs => (path, .mk k b i f t ty its fs) :: (if kd k = 5 then partsVs path its 0 else if kd k = 6 then partsFs path fs else [])
def partsVs : List St → List V → Nat → List (List St × V)
  | _, [], _ => []
  | path, v :: r, n => partsV (path ++ [⟨⟨#[]⟩, (n : Int), true⟩]) v ++ partsVs path r (n + 1)
def partsFs : List St → List (ByteArray × V) → List (List St × V)
  | _, [] => []
  | path, x :: r => partsV (path ++ [⟨x.1, 0, false⟩]) x.2 ++ partsFs path r
end
theorem partsVs_eq (path : List St) : ∀ (l : List V) (n : Nat), partsVs path l n = (itemKids l n).flatMap (fun x => partsV (path ++ [x.1]) x.2)
  | [], _ => by rw [partsVs]; rfl
  | v :: r, n => by rw [partsVs, itemKids, List.flatMap_cons, partsVs_eq path r (n + 1)]
theorem partsFs_eq (path : List St) : ∀ (l : List (ByteArray × V)), partsFs path l = (fieldKids l).flatMap (fun x => partsV (path ++ [x.1]) x.2)
  | [] => by rw [partsFs]; rfl
  | x :: r => by
    have e : fieldKids (x :: r) = (⟨x.1, 0, false⟩, x.2) :: fieldKids r := rfl
    rw [partsFs, e, List.flatMap_cons, partsFs_eq path r]
theorem partsV_eq (path : List St) (v : V) : partsV path v = (path, v) :: (kidsV v).flatMap (fun x => partsV (path ++ [x.1]) x.2) := by
  obtain ⟨k, b, i, f, t, ty, its, fs⟩ := v
  rw [partsV, kidsV, partsVs_eq, partsFs_eq]
  split
  · rfl
  · split <;> rfl

/-- The first part with a fault. -/
def firstF : List (List St × V) → List St × Int
  | [] => ([], 0)
  | x :: r => if ownF x.2 ≠ 0 then (x.1, ownF x.2) else firstF r
theorem firstF_append (b : List (List St × V)) : ∀ a : List (List St × V), firstF (a ++ b) = if (firstF a).2 ≠ 0 then firstF a else firstF b
  | [] => by rw [List.nil_append, firstF, if_neg (by simp)]
  | x :: r => by
    rw [List.cons_append, firstF, firstF, firstF_append b r]
    by_cases h : ownF x.2 ≠ 0
    · rw [if_pos h, if_pos h, if_pos h]
    · rw [if_neg h, if_neg h]
theorem firstF_parts : ∀ (N : Nat) (v : V), szV v ≤ N → ∀ path : List St, firstF (partsV path v) = if (sndV v).2 ≠ 0 then (path ++ (sndV v).1, (sndV v).2) else ([], 0) := by
  intro N
  induction N with
  | zero => intro v h; have := szV_pos v; omega
  | succ N ih =>
    intro v hN path
    rw [partsV_eq, firstF, sndV_bad]
    dsimp only
    by_cases h : ownF v ≠ 0
    · rw [if_pos h, if_pos h, if_pos h, List.append_nil]
    · rw [if_neg h, if_neg h]
      have hb : ∀ l : List (St × V), (∀ x ∈ l, szV x.2 + 1 ≤ szV v) → firstF (l.flatMap (fun x => partsV (path ++ [x.1]) x.2)) = if (bad l).2 ≠ 0 then (path ++ (bad l).1, (bad l).2) else ([], 0) := by
        intro l
        induction l with
        | nil => intro _; rw [List.flatMap_nil, firstF, bad, if_neg (by simp)]
        | cons x r ihl =>
          intro hl
          have h1 := hl x (by simp)
          rw [List.flatMap_cons, firstF_append, ih x.2 (by omega), ihl (fun y hy => hl y (List.mem_cons_of_mem _ hy)), bad]
          by_cases hx : (sndV x.2).2 ≠ 0
          · rw [if_pos hx, if_pos hx, if_pos hx, if_pos hx, List.append_assoc]
            rfl
          · rw [if_neg hx, if_neg hx, if_neg (by simp)]
      exact hb _ (fun x hx => isKid_size (s := x.1) (u := x.2) hx)
/-- What every part has, if a value has it and hands it on to its children. -/
theorem parts_all {p : V → Prop} (hk : ∀ v s u, p v → isKid v s u → p u) : ∀ (N : Nat) (v : V), szV v ≤ N → ∀ path : List St, p v → ∀ x ∈ partsV path v, p x.2 := by
  intro N
  induction N with
  | zero => intro v h; have := szV_pos v; omega
  | succ N ih =>
    intro v hN path hp x hx
    rw [partsV_eq, List.mem_cons] at hx
    rcases hx with rfl | hx
    · exact hp
    · rw [List.mem_flatMap] at hx
      obtain ⟨y, hy, hx⟩ := hx
      have h1 := isKid_size (s := y.1) (u := y.2) hy
      exact ih y.2 (by omega) _ (hk v y.1 y.2 hp hy) x hx
theorem kids_cnt (v : V) : 1 + ((kidsV v).map (fun x => cntV x.2)).sum = cntV v := by
  obtain ⟨k, b, i, f, t, ty, its, fs⟩ := v
  rw [cntV]
  simp only [kidsV]
  split
  · rw [itemKids_sum]
  · split
    · rw [fieldKids_sum]
    · rfl
theorem parts_len : ∀ (N : Nat) (v : V), szV v ≤ N → ∀ path : List St, (partsV path v).length = cntV v := by
  intro N
  induction N with
  | zero => intro v h; have := szV_pos v; omega
  | succ N ih =>
    intro v hN path
    rw [partsV_eq, List.length_cons, ← kids_cnt v]
    have hb : ∀ l : List (St × V), (∀ x ∈ l, szV x.2 + 1 ≤ szV v) → (l.flatMap (fun x => partsV (path ++ [x.1]) x.2)).length = (l.map (fun x => cntV x.2)).sum := by
      intro l
      induction l with
      | nil => intro _; rfl
      | cons x r ihl =>
        intro hl
        have h1 := hl x (by simp)
        rw [List.flatMap_cons, List.length_append, ih x.2 (by omega), ihl (fun y hy => hl y (List.mem_cons_of_mem _ hy))]
        rfl
    rw [hb _ (fun x hx => isKid_size (s := x.1) (u := x.2) hx)]
    omega
end Go.Proofs.YtldjbgklmeigmaaGreatDoor

namespace Go.Proofs.YtldjbgklmeigmaaGreatDoor
open Go Go.RowKit

/-- Rows of two types share no block. -/
theorem rows_apart {W : World} {B1 B2 : Nat} {e1 e2 : TypeId} {s1 s2 n1 n2 : Nat} {v1 v2 : Value} {xs1 xs2 : List Value} (h1 : W.ownsRow B1 e1 s1 v1 n1 xs1) (h2 : W.ownsRow B2 e2 s2 v2 n2 xs2) (ne : e1 ≠ e2) : v1.ownBlock = none ∨ v1.ownBlock ≠ v2.ownBlock := by
  rcases h1.2 with ⟨rfl, _⟩ | ⟨g, cap, cur, rfl, _, hb, _⟩
  · exact .inl rfl
  · rcases h2.2 with ⟨rfl, _⟩ | ⟨g2, cap2, cur2, rfl, _, hb2, _⟩
    · exact .inr (fun e => by cases e)
    · refine .inr (fun e => ?_)
      have e2 : some g = some g2 := e
      cases e2
      rw [hb] at hb2
      cases hb2
      exact ne rfl
/-- Two growths, one behind the other, where the second row is the first or new. -/
theorem grown_trans {w w1 w2 : World} {r r1 : Option Nat} (h1 : w.grownBy w1 r) (h2 : w1.grownBy w2 r1) (hl : r1 = r ∨ ∃ g, r1 = some g ∧ w.heap.size ≤ g) : w.grownBy w2 r := by
  refine ⟨h2.os.trans h1.os, h2.tape.trans h1.tape, h2.output.trans h1.output, Nat.le_trans h1.size h2.size, fun g hg hn => ?_⟩
  refine (h2.block g (Nat.lt_of_lt_of_le hg h1.size) (fun e => ?_)).trans (h1.block g hg hn)
  rcases hl with rfl | ⟨g', rfl, hg'⟩
  · exact hn e
  · cases e
    omega
theorem grown_below {B : Nat} {w w' : World} {r : Option Nat} (h : w.grownBy w' r) (hB : B ≤ w.heap.size) (hr : ∀ y, r = some y → B ≤ y) : Below B w w' := (Below.refl _ _).grown h hB hr

/-- Parts, each in nine cells. -/
def FitP (B : Nat) (w : World) : List (List St × V) → List Value → Prop
  | [], xs => xs = []
  | x :: r, xs => ∃ pv cs rest, xs = pv :: (cs.toList ++ rest) ∧ w.ownsRow B 161 3 pv x.1.length (flatS x.1) ∧ IsV B w x.2 cs ∧ FitP B w r rest
theorem FitP.append {B : Nat} {w : World} : ∀ {l r : List (List St × V)} {xs ys : List Value}, FitP B w l xs → FitP B w r ys → FitP B w (l ++ r) (xs ++ ys)
  | [], _, xs, ys, h, h2 => by
    obtain rfl : xs = [] := h
    exact h2
  | x :: l, r, xs, ys, h, h2 => by
    obtain ⟨pv, cs, rest, rfl, h3, h4, h5⟩ := h
    refine ⟨pv, cs, rest ++ ys, by simp, h3, h4, FitP.append h5 h2⟩
theorem FitP.len {B : Nat} {w : World} : ∀ {l : List (List St × V)} {xs : List Value}, FitP B w l xs → xs.length = l.length * 9
  | [], xs, h => by
    obtain rfl : xs = [] := h
    rfl
  | x :: l, xs, h => by
    obtain ⟨pv, cs, rest, rfl, h3, h4, h5⟩ := h
    have := h5.len
    have h8 := vcells8 h4
    simp only [List.length_cons, List.length_append, Array.length_toList]
    omega
/-- A world that grew, where the row that grew is no path's. -/
theorem FitP.kept {B : Nat} {w w' : World} {row : Option Nat} (hg : w.grownBy w' row) (hB : B ≤ w.heap.size) (hr : ∀ y, row = some y → B ≤ y ∧ ∃ (cur : Array Value) (T : TypeId), w.heap[y]? = some (.cells cur T (0, 0)) ∧ T ≠ 161) :
    ∀ {l : List (List St × V)} {xs : List Value}, FitP B w l xs → FitP B w' l xs
  | [], xs, h => h
  | x :: l, xs, h => by
    obtain ⟨pv, cs, rest, rfl, h3, h4, h5⟩ := h
    refine ⟨pv, cs, rest, rfl, h3.kept hg ?_, h4.below (grown_below hg hB (fun y hy => (hr y hy).1)) (Nat.le_refl _), h5.kept hg hB hr⟩
    rcases h3.2 with ⟨rfl, _⟩ | ⟨g, cap, cur, rfl, _, hb, _⟩
    · exact .inl rfl
    · refine .inr (fun e => ?_)
      obtain ⟨_, cur2, T, h6, h7⟩ := hr g e.symm
      rw [hb] at h6
      cases h6
      exact h7 rfl
theorem FitP.get {B : Nat} {w : World} : ∀ {l : List (List St × V)} {xs : List Value} {j : Nat} {x : List St × V}, FitP B w l xs → l[j]? = some x →
    ∃ pv cs, xs[j * 9]? = some pv ∧ (∀ m u, cs[m]? = some u → xs[j * 9 + 1 + m]? = some u) ∧ w.ownsRow B 161 3 pv x.1.length (flatS x.1) ∧ IsV B w x.2 cs
  | [], _, _, _, _, h => by simp at h
  | y :: l, xs, 0, x, h, hx => by
    obtain ⟨pv, cs, rest, rfl, h3, h4, h5⟩ := h
    simp only [List.getElem?_cons_zero, Option.some.injEq] at hx
    subst hx
    refine ⟨pv, cs, by simp, fun m u hu => ?_, h3, h4⟩
    have hm : m < cs.size := (Array.getElem?_eq_some_iff.1 hu).1
    have e : 0 * 9 + 1 + m = m + 1 := by omega
    rw [e, List.getElem?_cons_succ, List.getElem?_append_left (by simpa using hm)]
    simpa using hu
  | y :: l, xs, j + 1, x, h, hx => by
    obtain ⟨pv, cs, rest, rfl, h3, h4, h5⟩ := h
    rw [List.getElem?_cons_succ] at hx
    obtain ⟨pv2, cs2, h6, h7, h8, h9⟩ := h5.get hx
    have hs := vcells8 h4
    have hk : ∀ m, (pv :: (cs.toList ++ rest))[m + 9]? = rest[m]? := by
      intro m
      have e : m + 9 = (m + 8) + 1 := by omega
      rw [e, List.getElem?_cons_succ, List.getElem?_append_right (by simp [hs])]
      simp [hs]
    refine ⟨pv2, cs2, ?_, fun m u hu => ?_, h8, h9⟩
    · have e : (j + 1) * 9 = j * 9 + 9 := by omega
      rw [e, hk]
      exact h6
    · have e : (j + 1) * 9 + 1 + m = (j * 9 + 1 + m) + 9 := by omega
      rw [e, hk]
      exact h7 m u hu
end Go.Proofs.YtldjbgklmeigmaaGreatDoor

namespace Go.Proofs.YtldjbgklmeigmaaGreatDoor
open Go Go.RowKit
attribute [local go_sem] St.cells

set_option maxRecDepth 100000 in
set_option maxHeartbeats 4000000 in
theorem longer_any (l : List St) (s : St) (pv : Value) (B : Nat) (w : World) (hB : B ≤ w.heap.size) (hs : w.ownsRow B 161 3 pv l.length (flatS l)) (ll : l.length ≤ 4194304) :
    Calls Tryz.prog 166 #[pv, .agg s.cells] w (fun e w' => ∃ v, e = .returned v ∧ w'.ownsRow w.heap.size 161 3 v (l ++ [s]).length (flatS (l ++ [s])) ∧ Below w.heap.size w w') := by
  obtain ⟨p, c, rfl, _, _, hsa⟩ := row_steps hs
  have HS := Lib.hid hsa
  clear hs hsa
  obtain ⟨sn, si, sb⟩ := s
  dsimp only [St.cells]
  obtain ⟨i0, hi, hz0, hz1, hz2⟩ := info_parts (show (Tryz.prog.info? 161).map (fun i => (i.zero, i.size, i.bytes)) = some (some (.agg #[.string ⟨#[]⟩, .int .i64 0, .bool false]), 3, 32) by kernel_rfl)
  obtain ⟨W1, hW1⟩ : ∃ W, w.alloc (.cells #[.string sn, .int .i64 si, .bool sb] 161) = W := ⟨_, rfl⟩
  have hb1 : Below w.heap.size w W1 := by rw [← hW1]; exact (Below.refl _ _).alloc (Nat.le_refl _) _
  have hg1 : W1.heap[w.heap.size]? = some (.cells (St.mk sn si sb).cells 161 (0, 0)) := by rw [← hW1]; exact heap_new w _
  have hs1 : w.heap.size < W1.heap.size := by rw [← hW1]; simp
  obtain ⟨W2, hrun, hrow0, hgr0⟩ := run_makeSlice_owned (P := Tryz.prog) W1 W1.heap.size 55 161 i0 _ 3 Tryz.underlying55 hi hz0 hz1 .i64 .i64 (l.length + 1) (by omega) (by rw [hz2]; omega) (by unfold maxLen; omega) (Nat.le_refl _)
  push_cast at hrun
  have HRUN := Lib.hid hrun
  clear hrun
  go_enter Tryz.func166, Tryz.ntmps166
  go_upto_region 1 with (fail)
  go_step
  iterate 3
    refine wpList_plain rfl (fun K hK => ?_)
    go_step
    refine hK _ _ ?_
    clear hK K
  refine wpList_plain rfl (fun K hK => ?_)
  go_step
  rw [HRUN.out]
  simp only [Result.andThen_ok]
  first | (go_upon; refine hK _ _ ?_) | (refine hK _ _ ?_)
  clear hK K
  have hb2 : Below w.heap.size w W2 := hb1.trans (grown_below hgr0 (by omega) (fun y hy => by cases hy))
  have hg2 : W2.heap[w.heap.size]? = some (.cells (St.mk sn si sb).cells 161 (0, 0)) := (hgr0.block _ hs1 (fun e => by cases e)).trans hg1
  have hs2 : w.heap.size < W2.heap.size := Nat.lt_of_lt_of_le hs1 hgr0.size
  have hrow2 : W2.ownsRow (w.heap.size + 1) 161 3 (.slice (some ⟨W1.heap.size, 0, none⟩) 0 (l.length + 1)) ((l.take 0)).length (flatS (l.take 0)) := ownsRow_base hrow0 (by rw [← hW1]; simp)
  have HB2 := Lib.hid hb2
  have HG2 := Lib.hid hg2
  have HROW2 := Lib.hid hrow2
  clear hb2 hg2 hrow2 hrow0 hgr0 HRUN hb1 hg1 hs1 hz0 hz1 hz2 hi
  clear hW1
  clear i0
  go_wp2
  go_loopw [5, 6] (fun sv iv wr => ∃ k : Nat, k ≤ l.length ∧ iv = .int .i64 k ∧ Hid (wr.ownsRow (w.heap.size + 1) 161 3 sv (l.take k).length (flatS (l.take k))) ∧ Hid (Below w.heap.size w wr) ∧ Hid (wr.heap[w.heap.size]? = some (.cells (St.mk sn si sb).cells 161 (0, 0)))) (fun _ iv _ => l.length - (intOf iv).toNat)
  case atStart => exact ⟨0, Nat.zero_le _, rfl, HROW2, HB2, HG2⟩
  case round =>
    obtain ⟨k, hk, rfl, HR, HBW, HG⟩ := hrel
    have hbw : w.heap.size < wr.heap.size := (Array.getElem?_eq_some_iff.1 HG.out).1
    by_cases h1 : k < l.length
    · obtain ⟨x, hx⟩ : ∃ x, l[k]? = some x := ⟨l[k], by simp [h1]⟩
      rcases HS.out with h0 | ⟨b, o, rfl, hB', hc⟩
      · subst h0; simp at h1
      obtain ⟨c0, c1, c2⟩ := hc k x hx
      have c0 := (HBW.out.cell (p := ⟨b, o + k * 3, none⟩) hB').trans c0
      have c1 := (HBW.out.cell (p := ⟨b, o + k * 3 + 1, none⟩) hB').trans c1
      have c2 := (HBW.out.cell (p := ⟨b, o + k * 3 + 2, none⟩) hB').trans c2
      have hbb : b < wr.heap.size := Nat.lt_of_lt_of_le hB' HBW.out.size
      have HX := Lib.hid hx
      clear hc hx hB'
      obtain ⟨n, i, t⟩ := x
      dsimp only at c0 c1 c2
      have hll : (l.take k).length = k := by rw [List.length_take]; omega
      have HLL := Lib.hid hll
      clear hll
      go_upto_region 5 with (fail)
      go_step
      iterate 6
        refine wpList_plain rfl (fun K hK => ?_)
        go_step
        refine hK _ _ ?_
        clear hK K
      obtain ⟨W6, hW6⟩ : ∃ W6, wr.alloc (.cells #[.string n, .int .i64 i, .bool t] 161) = W6 := ⟨_, rfl⟩
      have hb6 : Below wr.heap.size wr W6 := by rw [← hW6]; exact (Below.refl _ _).alloc (Nat.le_refl _) _
      have hg6 : W6.heap[wr.heap.size]? = some (.cells (St.mk n i t).cells 161 (0, 0)) := by rw [← hW6]; exact heap_new wr _
      obtain ⟨n0, n1, n2⟩ := step_reads hg6
      dsimp only at n0 n1 n2
      try rw [hW6]
      clear hW6
      refine wpList_plain rfl (fun K hK => ?_)
      have HR2 := HR.out
      rw [HLL.out] at HR2
      have HG3 := HR2.kept (grown_b hb6 none) (by cases u5.ownBlock <;> simp)
      refine wp_append_1 (P := Tryz.prog) W6 (.tmp 17) (.tmp 22) 55 rfl (w.heap.size + 1) 161 (.agg #[.string ⟨#[]⟩, .int .i64 0, .bool false]) 3 32 Tryz.underlying55 (by kernel_rfl) rfl (by decide) u5 k _ rfl HG3 ⟨wr.heap.size, 0, none⟩ 1 1 [.string n, .int .i64 i, .bool t] rfl (by decide) rfl ?c1 ?c2 ?c3 ?c4 ?c5 ?_
      case c1 =>
        intro m v hv
        rw [addr_add1, Nat.zero_add]
        match m, hv with
        | 0, hv => cases hv; exact n0
        | 1, hv => cases hv; exact n1
        | 2, hv => cases hv; exact n2
        | m + 3, hv => simp at hv
      case c2 => intro v hv; simp at hv; rcases hv with rfl | rfl | rfl <;> rfl
      case c3 => unfold maxLen; omega
      case c4 => omega
      case c5 => have := HBW.out.size; have := hb6.size; omega
      intro v' w' hrow hgr hv'
      refine hK _ _ ?_
      clear hK K
      have HROW : Hid (w'.ownsRow (w.heap.size + 1) 161 3 v' (l.take (k + 1)).length (flatS (l.take (k + 1)))) := Lib.hid (by
        have e1 : l.take (k + 1) = l.take k ++ [St.mk n i t] := by rw [List.take_add_one, HX.out]; rfl
        have e : flatS (l.take k ++ [St.mk n i t]) = flatS (l.take k) ++ [.string n, .int .i64 i, .bool t] := by simp [flatS, St.cells]
        rw [e1, List.length_append, e, HLL.out]
        exact hrow)
      have HBN : Hid (Below w.heap.size w w') := Lib.hid ((HBW.out.trans (hb6.mono HBW.out.size)).grown hgr (by have := HBW.out.size; have := hb6.size; omega) (fun y hy => by have := (HG3.lt y hy).1; omega))
      have HGN : Hid (w'.heap[w.heap.size]? = some (.cells (St.mk sn si sb).cells 161 (0, 0))) := Lib.hid ((hgr.block _ (by have := hb6.size; omega) (fun e => by have := (HG3.lt _ e.symm).1; omega)).trans ((hb6.block _ hbw).trans HG.out))
      clear hrow hgr hv' HG3 hb6 hg6 n0 n1 n2 HR2 c0 c1 c2
      go_wp2
      go_roundw
      case rel => exact ⟨k + 1, by omega, by go_num, HROW, HBN, HGN⟩
      case measure => simp [intOf]; omega
    · have HALL : Hid (l.take k = l) := Lib.hid (List.take_of_length_le (by omega))
      have HR2 := HR.out
      rw [HALL.out] at HR2
      obtain ⟨b0, b1, b2⟩ := step_reads HG.out
      dsimp only at b0 b1 b2
      have HRR := Lib.hid HR2
      clear HR2
      go_upto_region 6 with (fail)
      go_step
      iterate 3
        refine wpList_plain rfl (fun K hK => ?_)
        go_step
        refine hK _ _ ?_
        clear hK K
      obtain ⟨W6, hW6⟩ : ∃ W6, wr.alloc (.cells #[.string sn, .int .i64 si, .bool sb] 161) = W6 := ⟨_, rfl⟩
      have hb6 : Below wr.heap.size wr W6 := by rw [← hW6]; exact (Below.refl _ _).alloc (Nat.le_refl _) _
      have hg6 : W6.heap[wr.heap.size]? = some (.cells (St.mk sn si sb).cells 161 (0, 0)) := by rw [← hW6]; exact heap_new wr _
      obtain ⟨n0, n1, n2⟩ := step_reads hg6
      dsimp only at n0 n1 n2
      try rw [hW6]
      clear hW6
      refine wpList_plain rfl (fun K hK => ?_)
      have HG3 := HRR.out.kept (grown_b hb6 none) (by cases u5.ownBlock <;> simp)
      refine wp_append_1 (P := Tryz.prog) W6 (.tmp 24) (.tmp 26) 55 rfl (w.heap.size + 1) 161 (.agg #[.string ⟨#[]⟩, .int .i64 0, .bool false]) 3 32 Tryz.underlying55 (by kernel_rfl) rfl (by decide) u5 l.length _ rfl HG3 ⟨wr.heap.size, 0, none⟩ 1 1 [.string sn, .int .i64 si, .bool sb] rfl (by decide) rfl ?e1 ?e2 ?e3 ?e4 ?e5 ?_
      case e1 =>
        intro m v hv
        rw [addr_add1, Nat.zero_add]
        match m, hv with
        | 0, hv => cases hv; exact n0
        | 1, hv => cases hv; exact n1
        | 2, hv => cases hv; exact n2
        | m + 3, hv => simp at hv
      case e2 => intro v hv; simp at hv; rcases hv with rfl | rfl | rfl <;> rfl
      case e3 => unfold maxLen; omega
      case e4 => omega
      case e5 => have := HBW.out.size; have := hb6.size; omega
      intro v' w' hrow hgr hv'
      refine hK _ _ ?_
      clear hK K
      have HROW : Hid (w'.ownsRow w.heap.size 161 3 v' (l ++ [St.mk sn si sb]).length (flatS (l ++ [St.mk sn si sb]))) := Lib.hid (by
        have e : flatS (l ++ [St.mk sn si sb]) = flatS l ++ [.string sn, .int .i64 si, .bool sb] := by simp [flatS, St.cells]
        rw [List.length_append, e]
        exact ownsRow_base hrow (by omega))
      have HBN : Hid (Below w.heap.size w w') := Lib.hid ((HBW.out.trans (hb6.mono HBW.out.size)).grown hgr (by have := HBW.out.size; have := hb6.size; omega) (fun y hy => by have := (HG3.lt y hy).1; omega))
      clear hrow hgr hv' HG3 hb6 hg6 n0 n1 n2 b0 b1 b2
      go_wp2
      go_ret
      exact ⟨v', rfl, HROW.out, HBN.out⟩
end Go.Proofs.YtldjbgklmeigmaaGreatDoor

namespace Go.Proofs.YtldjbgklmeigmaaGreatDoor
open Go Go.RowKit
attribute [local go_sem] run_store_float

/-- What parts answers. -/
def PartsP (B : Nat) (v : V) (path : List St) (ov : Value) (n : Nat) (xs : List Value) (w : World) (e : Ending) (w' : World) : Prop :=
  ∃ ov' new, e = .returned ov' ∧ FitP B w' (partsV path v) new ∧ w'.ownsRow B 114 9 ov' (n + cntV v) (xs ++ new) ∧ w.grownBy w' ov.ownBlock ∧ (ov'.ownBlock = ov.ownBlock ∨ ∃ g, ov'.ownBlock = some g ∧ w.heap.size ≤ g)

/-- The parts that are there behind j children. -/
def soFar (path : List St) (v : V) (j : Nat) : List (List St × V) := (path, v) :: ((kidsV v).take j).flatMap (fun x => partsV (path ++ [x.1]) x.2)
theorem soFar_next {path : List St} {v : V} {j : Nat} {x : St × V} (h : (kidsV v)[j]? = some x) : soFar path v (j + 1) = soFar path v j ++ partsV (path ++ [x.1]) x.2 := by
  unfold soFar
  rw [List.take_add_one, h, List.flatMap_append]
  simp
theorem soFar_all {path : List St} {v : V} {j : Nat} (h : (kidsV v).length ≤ j) : soFar path v j = partsV path v := by
  unfold soFar
  rw [List.take_of_length_le h, partsV_eq]
theorem soFar_len (path : List St) (v : V) (j : Nat) : (soFar path v j).length ≤ cntV v := by
  have e : partsV path v = soFar path v j ++ ((kidsV v).drop j).flatMap (fun x => partsV (path ++ [x.1]) x.2) := by
    rw [partsV_eq]
    unfold soFar
    rw [List.cons_append, ← List.flatMap_append, List.take_append_drop]
  have h := congrArg List.length e
  rw [parts_len _ v (Nat.le_refl _), List.length_append] at h
  omega
theorem rows_vals {B n₀ : Nat} {w w0 : World} {A : Option Addr} {cap : Nat} {sv : Value} {kids : List (St × V)} {css : List (Array Value)} (h : RowsAt B w sv (.slice A kids.length cap) kids css) (hf : Fit8 n₀ w0 kids css) :
    kids = [] ∨ ∃ g, A = some ⟨g, 0, none⟩ ∧ g < w.heap.size ∧ ∀ (j : Nat) cs, css[j]? = some cs → CellsAt w g (j * 8) cs := by
  obtain ⟨_, A', cap', e, h'⟩ := rows_open h hf
  cases e
  exact h'
theorem rows_steps {B : Nat} {w : World} {A : Option Addr} {cap : Nat} {vv : Value} {kids : List (St × V)} {css : List (Array Value)} (h : RowsAt B w (.slice A kids.length cap) vv kids css) : StepsAt w.heap.size w A (kids.map (·.1)) := by
  have e : kids.flatMap (fun x => x.1.cells.toList) = flatS (kids.map (·.1)) := by simp [flatS, List.flatMap_map]
  have h1 := h.1
  rw [e] at h1
  obtain ⟨p, c, hs, _, _, hst⟩ := row_steps (l := kids.map (·.1)) (sv := .slice A kids.length cap) (by rw [List.length_map]; exact h1)
  simp only [Value.slice.injEq] at hs
  obtain ⟨rfl, _, _⟩ := hs
  exact hst
theorem loc_trans {a b : Nat} {r r1 r2 : Option Nat} (h : r1 = r ∨ ∃ g, r1 = some g ∧ a ≤ g) (h2 : r2 = r1 ∨ ∃ g, r2 = some g ∧ b ≤ g) (hab : a ≤ b) : r2 = r ∨ ∃ g, r2 = some g ∧ a ≤ g := by
  rcases h2 with rfl | ⟨g, e, hg⟩
  · exact h
  · exact .inr ⟨g, e, Nat.le_trans hab hg⟩
theorem below_join {B : Nat} {w a b : World} (ha : Below B w a) (hb : Below B w b) (hs : a.heap.size ≤ b.heap.size) : Below B a b :=
  ⟨hb.os.trans ha.os.symm, hb.tape.trans ha.tape.symm, hb.output.trans ha.output.symm, hs, fun k hk => (hb.block k hk).trans (ha.block k hk).symm⟩
/-- Growth of a row of parts leaves the children's rows as they are. -/
theorem RowsAt.apart {B C n : Nat} {w w' : World} {sv vv ov : Value} {xs : List Value} {kids : List (St × V)} {css : List (Array Value)} (h : RowsAt B w sv vv kids css) (ho : w.ownsRow C 114 9 ov n xs) (hg : w.grownBy w' ov.ownBlock) : RowsAt B w' sv vv kids css :=
  ⟨h.1.kept hg (rows_apart h.1 ho (by decide)), h.2.1.kept hg (rows_apart h.2.1 ho (by decide)), h.2.2⟩
theorem FitP.apart {B C n : Nat} {w w' : World} {ov : Value} {xs ys : List Value} {l : List (List St × V)} (h : FitP B w l ys) (hB : B ≤ w.heap.size) (hC : B ≤ C) (ho : w.ownsRow C 114 9 ov n xs) (hg : w.grownBy w' ov.ownBlock) : FitP B w' l ys := by
  refine h.kept hg hB (fun y hy => ⟨Nat.le_trans hC (ho.lt y hy).1, ?_⟩)
  rcases ho.2 with ⟨rfl, _⟩ | ⟨g, cap, cur, rfl, _, hb, _⟩
  · cases hy
  · cases hy
    exact ⟨cur, _, hb, by decide⟩

set_option maxRecDepth 100000 in
set_option maxHeartbeats 4000000 in
theorem parts_any : ∀ (N : Nat) (v : V), szV v ≤ N → ∀ (cs : Array Value) (path : List St) (pv ov : Value) (n : Nat) (xs : List Value) (B : Nat) (w : World), B ≤ w.heap.size → IsV B w v cs → szV v ≤ 1000000 → path.length + szV v ≤ 1000001 → n + cntV v ≤ 1000000 →
    w.ownsRow B 161 3 pv path.length (flatS path) → w.ownsRow B 114 9 ov n xs →
    Calls Tryz.prog 93 #[.agg cs, pv, ov] w (PartsP B v path ov n xs w) := by
  intro N
  induction N with
  | zero => intro v hv; have := szV_pos v; omega
  | succ N ih =>
    intro v hN cs path pv ov n xs B w hB hv hm hpl hnc hpr hor
    have IH := Lib.hid ih
    have HN := Lib.hid hN
    have HV := Lib.hid hv
    have HPR := Lib.hid hpr
    have HOR := Lib.hid hor
    have hcn := kids_cnt v
    have HCN := Lib.hid hcn
    have hkid : ∀ (j : Nat) x, (kidsV v)[j]? = some x → szV x.2 + 1 ≤ szV v := fun j x hx => isKid_size (s := x.1) (List.mem_of_getElem? hx)
    have HKID := Lib.hid hkid
    have HPV := Lib.hid (partsV_eq path v)
    clear ih hN hcn hkid hor
    obtain ⟨pp, pc, rfl, _, _, hst⟩ := row_steps hpr
    have HST := Lib.hid hst
    clear hpr hst
    have hov : ∃ po co, ov = .slice po n co := by
      rcases HOR.out.2 with ⟨rfl, h0⟩ | ⟨g, cap, cur, rfl, _⟩
      · exact ⟨none, 0, by rw [h0]⟩
      · exact ⟨_, cap, rfl⟩
    obtain ⟨po, co, rfl⟩ := hov
    obtain ⟨k, b, i, f, t, ty, its, fs⟩ := v
    obtain ⟨p, c, q, d, rfl, _, _, _, _⟩ := hv
    obtain ⟨W0, hW0⟩ : ∃ W0, w.alloc (.cells (vcells k b i f t ty p its.length c q fs.length d) 34) = W0 := ⟨_, rfl⟩
    have hb0 : Below w.heap.size w W0 := by rw [← hW0]; exact (Below.refl _ _).alloc (Nat.le_refl _) _
    have hlt0 : w.heap.size < W0.heap.size := by rw [← hW0]; simp
    have hc0 : CellsAt W0 w.heap.size 0 (vcells k b i f t ty p its.length c q fs.length d) := by rw [← hW0]; exact cellsAt_alloc _ _ _ _
    have HC0 := Lib.hid hc0
    obtain ⟨a0, a1, a2, a3, a4, a5, a6, a7⟩ := hc0.all0
    have HB0 := Lib.hid hb0
    clear hc0 hb0
    go_enter Tryz.func93, Tryz.ntmps93
    go_upto_region 1 with (fail)
    go_step
    iterate 5
      refine wpList_plain rfl (fun K hK => ?_)
      go_step
      refine hK _ _ ?_
      clear hK K
    have HW0 := Lib.hid hW0
    clear hW0
    obtain ⟨W1, hW1⟩ : ∃ W1, W0.alloc (.cells #[.slice pp path.length pc, .int .i64 k, .bool b, .int .i64 i, .float .f64 f, .string t, .string ty, .slice p its.length c, .slice q fs.length d] 114) = W1 := ⟨_, rfl⟩
    have hb1 : Below W0.heap.size W0 W1 := by rw [← hW1]; exact (Below.refl _ _).alloc (Nat.le_refl _) _
    have hg1 : W1.heap[W0.heap.size]? = some (.cells #[.slice pp path.length pc, .int .i64 k, .bool b, .int .i64 i, .float .f64 f, .string t, .string ty, .slice p its.length c, .slice q fs.length d] 114 (0, 0)) := by rw [← hW1]; exact heap_new W0 _
    rw [hW1]
    clear hW1
    have HG1 := Lib.hid hg1
    have HB1 := Lib.hid (HB0.out.trans (hb1.mono HB0.out.size))
    have HW01 : Hid (W1.heap[w.heap.size]? = W0.heap[w.heap.size]?) := Lib.hid (hb1.block _ hlt0)
    have hs1 : W0.heap.size < W1.heap.size := (Array.getElem?_eq_some_iff.1 hg1).1
    clear hg1 hb1
    refine wpList_plain rfl (fun K hK => ?_)
    have HR1 := HOR.out.kept (grown_b HB1.out none) (by cases (Value.slice po n co).ownBlock <;> simp)
    refine wp_append_x (P := Tryz.prog) W1 (.tmp 11) (.tmp 15) 110 rfl B 114 (.agg #[.slice none 0 0, .int .i64 0, .bool false, .int .i64 0, .float .f64 0, .string ⟨#[]⟩, .string ⟨#[]⟩, .slice none 0 0, .slice none 0 0]) 9 136 Tryz.underlying110 (by kernel_rfl) rfl (by decide) _ n _ rfl HR1 ⟨W0.heap.size, 0, none⟩ 1 1 (.slice pp path.length pc :: (vcells k b i f t ty p its.length c q fs.length d).toList) rfl (by decide) rfl ?c1 ?c2 ?c3 ?c4 ?c5 ?_
    case c1 =>
      intro m u hu
      rw [addr_add]
      simp only [World.cell?, HG1.out]
      simpa using hu
    case c2 => intro u hu; simp at hu; rcases hu with rfl | rfl | rfl | rfl | rfl | rfl | rfl | rfl | rfl <;> rfl
    case c3 => unfold maxLen; omega
    case c4 => omega
    case c5 => have := HB1.out.size; omega
    intro ov1 W2 hov1 hgr1 hloc1
    refine hK _ _ ?_
    clear hK K
    have hgw2 : w.grownBy W2 (Value.slice po n co).ownBlock := grown_trans (grown_b HB1.out _) hgr1 (.inl rfl)
    have hbB2 : Below B w W2 := grown_below hgw2 hB (fun y hy => (HOR.out.lt y hy).1)
    have hl2 : ov1.ownBlock = (Value.slice po n co).ownBlock ∨ ∃ g, ov1.ownBlock = some g ∧ w.heap.size ≤ g := by
      rcases hloc1 with h | h
      · exact .inl h
      · exact .inr ⟨_, h, HB1.out.size⟩
    have hcb : CellsAt W2 w.heap.size 0 (vcells k b i f t ty p its.length c q fs.length d) := fun j x hx => by
      have h1 := HC0.out j x hx
      have hne : some w.heap.size ≠ (Value.slice po n co).ownBlock := fun e => by have := (HOR.out.lt _ e.symm).2; omega
      exact (World.cell?_of_block ((hgr1.block _ (by omega) hne).trans HW01.out)).trans h1
    have hrP : W2.ownsRow B 161 3 (.slice pp path.length pc) path.length (flatS path) := HPR.out.kept hgw2 (rows_apart HPR.out HOR.out (by decide))
    have hvB : IsV B W2 (.mk k b i f t ty its fs) (vcells k b i f t ty p its.length c q fs.length d) := HV.out.below hbB2 (Nat.le_refl _)
    have hF1 : FitP B W2 [(path, .mk k b i f t ty its fs)] (.slice pp path.length pc :: (vcells k b i f t ty p its.length c q fs.length d).toList) := ⟨_, _, [], by simp, hrP, hvB, rfl⟩
    obtain ⟨po1, co1, rfl⟩ : ∃ po co, ov1 = .slice po (n + 1) co := by
      rcases hov1.2 with ⟨rfl, h0⟩ | ⟨g, cap, cur, rfl, _⟩
      · omega
      · exact ⟨_, cap, rfl⟩
    have hB2 : B ≤ W2.heap.size := Nat.le_trans hB hgw2.size
    have KC := Lib.hid (refChildrenB_any _ _ W2 B hB2 hvB (Nat.le_trans hm (by decide)))
    unfold ChildPostB at KC
    have hlt2 : w.heap.size < W2.heap.size := Nat.lt_of_lt_of_le hlt0 (Nat.le_trans (Nat.le_of_lt hs1) hgr1.size)
    have HGW2 := Lib.hid hgw2
    have HBB2 := Lib.hid hbB2
    have HL2 := Lib.hid hl2
    have HL2' := Lib.hid hl2
    have HRP := Lib.hid hrP
    have HF1 := Lib.hid hF1
    have HOV1 := Lib.hid hov1
    have hsw2 : w.heap.size ≤ W2.heap.size := hgw2.size
    clear a0 a1 a2 a3 a4 a5 a6 a7
    obtain ⟨a0, a1, a2, a3, a4, a5, a6, a7⟩ := hcb.all0
    clear hgw2 hbB2 hl2 hcb hrP hvB hF1 hov1 hgr1 hloc1 HR1 hs1 hlt0
    have tk := trivial
    go_wp2_with (go_at_call 165; clear tk; refine KC.out.mono ?_; rintro e w3 ⟨sv, vv, css, rfl, hrows, hfit, hb3⟩)
    obtain ⟨⟨As, caps, rfl⟩, A, cap, rfl, hA0⟩ := rows_open hrows hfit
    clear hA0
    have HFIT := Lib.hid hfit
    have hss3 : W2.heap.size ≤ w3.heap.size := hb3.size
    have hg3 : w.grownBy w3 (Value.slice po n co).ownBlock := grown_trans HGW2.out (grown_b hb3 _) (.inl rfl)
    have hov3 : w3.ownsRow B 114 9 (.slice po1 (n + 1) co1) (n + (soFar path (.mk k b i f t ty its fs) 0).length) (xs ++ .slice pp path.length pc :: (vcells k b i f t ty p its.length c q fs.length d).toList) :=
      HOV1.out.kept (grown_b hb3 none) (by cases (Value.slice po1 (n + 1) co1).ownBlock <;> simp)
    have hF3 : FitP B w3 (soFar path (.mk k b i f t ty its fs) 0) (.slice pp path.length pc :: (vcells k b i f t ty p its.length c q fs.length d).toList) := HF1.out.apart hB2 (Nat.le_refl _) HOV1.out (grown_b hb3 _)
    have HG3 := Lib.hid hg3
    have HOV3 := Lib.hid hov3
    have HF3 := Lib.hid hF3
    have HROWS := Lib.hid hrows
    have hss : w.heap.size ≤ w3.heap.size := Nat.le_trans hsw2 hss3
    have hkl : (kidsV (.mk k b i f t ty its fs)).length ≤ 1000000 := by
      have h1 : ∀ l : List (St × V), l.length ≤ (l.map (fun x => cntV x.2)).sum := by
        intro l
        induction l with
        | nil => simp
        | cons x r ih =>
          have : 1 ≤ cntV x.2 := by obtain ⟨y1, y2⟩ := x; obtain ⟨k, b, i, f, t, ty, its, fs⟩ := y2; rw [cntV]; omega
          simp only [List.length_cons, List.map_cons, List.sum_cons]
          omega
      have := h1 (kidsV (.mk k b i f t ty its fs))
      have := HCN.out
      omega
    have HSL := Lib.hid (soFar_len path (.mk k b i f t ty its fs))
    have HSN := Lib.hid (fun (j : Nat) (x : St × V) (h : (kidsV (.mk k b i f t ty its fs))[j]? = some x) => soFar_next (path := path) h)
    have HSA := Lib.hid (fun (j : Nat) (h : (kidsV (.mk k b i f t ty its fs)).length ≤ j) => soFar_all (path := path) h)
    have HLEN := Lib.hid (parts_len _ (.mk k b i f t ty its fs) (Nat.le_refl _) path)
    have HPL := Lib.hid hpl
    have HNC := Lib.hid hnc
    have HM := Lib.hid hm
    clear hg3 hov3 hF3 hrows hfit hb3 HC0 HB0 HCN HPV a0 a1 a2 a3 a4 a5 a6 a7 HW0 HG1 HW01 HB1 HGW2 HL2 HRP HF1 HOV1 KC hpl hnc hm
    have HEND := Lib.hid (show ∀ (e : Ending) (w' : World), (∃ ov' new, e = .returned ov' ∧ FitP B w' (partsV path (.mk k b i f t ty its fs)) new ∧ w'.ownsRow B 114 9 ov' (n + cntV (.mk k b i f t ty its fs)) (xs ++ new) ∧ w.grownBy w' (Value.slice po n co).ownBlock ∧ (ov'.ownBlock = (Value.slice po n co).ownBlock ∨ ∃ g, ov'.ownBlock = some g ∧ w.heap.size ≤ g)) → PartsP B (.mk k b i f t ty its fs) path (Value.slice po n co) n xs w e w' from fun _ _ h => h)
    have L2 := Lib.hid HL2'.out
    generalize soFar path (.mk k b i f t ty its fs) = SF at *
    generalize partsV path (.mk k b i f t ty its fs) = PA at *
    generalize cntV (.mk k b i f t ty its fs) = CN at *
    generalize kidsV (.mk k b i f t ty its fs) = kids at *
    generalize szV (.mk k b i f t ty its fs) = SZ at *
    go_loopw [2, 9] (fun ov2 ii wr => ∃ j : Nat, j ≤ kids.length ∧ ii = .int .i64 j ∧ ∃ ovj new, ov2 = ovj ∧ Hid (FitP B wr (SF j) new) ∧ Hid (wr.ownsRow B 114 9 ovj (n + (SF j).length) (xs ++ new)) ∧ Hid (w.grownBy wr (Value.slice po n co).ownBlock) ∧ Hid (ovj.ownBlock = (Value.slice po n co).ownBlock ∨ ∃ g, ovj.ownBlock = some g ∧ w.heap.size ≤ g) ∧ Hid (RowsAt W2.heap.size wr (.slice As kids.length caps) (.slice A kids.length cap) kids css) ∧ w3.heap.size ≤ wr.heap.size) (fun _ ii _ => kids.length - (intOf ii).toNat)
    case atStart => exact ⟨0, by omega, rfl, _, _, rfl, HF3, HOV3, HG3, L2, HROWS, Nat.le_refl _⟩
    case round =>
      clear HF3 HOV3 HG3 HROWS
      obtain ⟨j, hj, rfl, ovj, new, rfl, HFj, HOj, HGj, HLj, HRj, hsj⟩ := hrel
      by_cases h1 : j < kids.length
      · obtain ⟨x, hx⟩ : ∃ x, kids[j]? = some x := ⟨kids[j], by simp [h1]⟩
        obtain ⟨csx, hcs, hvx⟩ := HFIT.out.get hx
        rcases rows_vals HRj.out HFIT.out with h0 | ⟨g, rfl, hg, hcells⟩
        · subst h0; simp at h1
        rcases rows_steps HRj.out with h0 | ⟨gs, os, rfl, hgs, hst⟩
        · simp at h0
          subst h0
          simp at h1
        have hcx := hcells j csx hcs
        obtain ⟨s0, s1, s2⟩ := hst j x.1 (by rw [List.getElem?_map, hx]; rfl)
        have hxN := HKID.out j x hx
        have hxs : szV x.2 ≤ N ∧ szV x.2 ≤ 1000000 := by have := HN.out; have := HM.out; omega
        have hBr : B ≤ wr.heap.size := Nat.le_trans hB HGj.out.size
        have hprw := HPR.out.kept HGj.out (rows_apart HPR.out HOR.out (by decide))
        have hbB : Below B w wr := grown_below HGj.out hB (fun y hy => (HOR.out.lt y hy).1)
        have hnx := HSN.out j x hx
        have hcx' := HSL.out (j + 1)
        rw [hnx, List.length_append, parts_len _ x.2 (Nat.le_refl _)] at hcx'
        have hvw : IsV B wr x.2 csx := hvx.below (below_join HBB2.out hbB (Nat.le_trans hss3 hsj)) (Nat.le_refl _)
        have HHL := Lib.hid (longer_any path x.1 (.slice pp path.length pc) B wr hBr hprw (by have := HPL.out; omega))
        have HLC := Lib.hid (show ∀ (w4 : World) (lv : Value), Below wr.heap.size wr w4 → w4.ownsRow wr.heap.size 161 3 lv (path ++ [x.1]).length (flatS (path ++ [x.1])) → Calls Tryz.prog 93 #[.agg csx, lv, u2] w4 (PartsP B x.2 (path ++ [x.1]) u2 (n + (SF j).length) (xs ++ new) w4) from fun w4 lv hb hl =>
          IH.out x.2 hxs.1 csx (path ++ [x.1]) lv u2 (n + (SF j).length) (xs ++ new) B w4 (Nat.le_trans hBr hb.size) (hvw.below (hb.mono hBr) (Nat.le_refl _)) hxs.2 (by rw [List.length_append]; have := HPL.out; simp only [List.length_singleton]; omega) (by have := HNC.out; omega) (ownsRow_base hl hBr) (HOj.out.kept (grown_b hb none) (by cases u2.ownBlock <;> simp)))
        have HPE : Hid (∀ (w4 w5 : World) (e : Ending), PartsP B x.2 (path ++ [x.1]) u2 (n + (SF j).length) (xs ++ new) w4 e w5 → ∃ ov' new', e = .returned ov' ∧ FitP B w5 (partsV (path ++ [x.1]) x.2) new' ∧ w5.ownsRow B 114 9 ov' (n + (SF j).length + cntV x.2) (xs ++ new ++ new') ∧ w4.grownBy w5 u2.ownBlock ∧ (ov'.ownBlock = u2.ownBlock ∨ ∃ g, ov'.ownBlock = some g ∧ w4.heap.size ≤ g)) := Lib.hid (fun _ _ _ h => h)
        have HNX := Lib.hid hnx
        have HBR := Lib.hid hBr
        have hLx : Hid ((partsV (path ++ [x.1]) x.2).length = cntV x.2) := Lib.hid (parts_len _ x.2 (Nat.le_refl _) _)
        clear hx hcs hcells hst hxN hxs hprw hbB hnx hcx' hBr
        obtain ⟨⟨sn, si, sb⟩, xk, xb, xi, xf, xt, xty, xits, xfs⟩ := x
        obtain ⟨xp, xc, xq, xd, rfl, _, _, _, _⟩ := hvx
        dsimp only [St.cells] at s0 s1 s2 HHL
        clear hvw
        generalize partsV (path ++ [St.mk sn si sb]) (V.mk xk xb xi xf xt xty xits xfs) = PX at *
        generalize cntV (V.mk xk xb xi xf xt xty xits xfs) = cx at *
        have HCX := Lib.hid hcx
        clear hcx
        go_wp2_with (first | (go_at_call 166; refine HHL.out.mono ?_; rintro e w4 ⟨lv, rfl, hlr, hb4⟩; obtain ⟨c0, c1, c2, c3, c4, c5, c6, c7⟩ := (HCX.out.below hb4 hg).all; have hg4 := Nat.lt_of_lt_of_le hg hb4.size; have HB4 := Lib.hid hb4; have HC := Lib.hid (HLC.out w4 lv hb4 hlr); clear hb4 hlr) | (go_at_call 93; refine HC.out.mono ?_; intro e w5 h5; obtain ⟨ov5, new5, rfl, hF5, hO5, hG5, hL5⟩ := HPE.out _ _ _ h5; clear h5))
        go_roundw
        case rel =>
          have hGw4 : wr.grownBy w4 none := grown_b HB4.out none
          have hFj4 : FitP B w4 (SF j) new := HFj.out.apart HBR.out (Nat.le_refl _) HOj.out (grown_b HB4.out _)
          have hOj4 : w4.ownsRow B 114 9 u2 (n + (SF j).length) (xs ++ new) := HOj.out.kept hGw4 (by cases u2.ownBlock <;> simp)
          have hB4 : B ≤ w4.heap.size := Nat.le_trans HBR.out HB4.out.size
          have hsw : w.heap.size ≤ w4.heap.size := Nat.le_trans HGj.out.size HB4.out.size
          have hRj4 : RowsAt W2.heap.size w4 _ _ kids css := HRj.out.kept HB4.out
          refine ⟨j + 1, by omega, by go_num, ov5, new ++ new5, rfl, Lib.hid ?_, Lib.hid ?_, Lib.hid ?_, Lib.hid ?_, Lib.hid (hRj4.apart hOj4 hG5), ?_⟩
          · rw [HNX.out]
            exact (hFj4.apart hB4 (Nat.le_refl _) hOj4 hG5).append hF5
          · rw [HNX.out, List.length_append, hLx.out, ← Nat.add_assoc, ← List.append_assoc]
            exact hO5
          · exact grown_trans (grown_trans HGj.out (grown_b HB4.out _) (.inl rfl)) hG5 HLj.out
          · exact loc_trans HLj.out hL5 hsw
          · have := HB4.out.size
            have := hG5.size
            omega
        case measure => simp [intOf]; omega
      · have hall := HSA.out j (by omega)
        have HF := HFj.out
        have HO := HOj.out
        rw [hall] at HF HO
        rw [HLEN.out] at HO
        go_wp2_with fail
        go_ret
        exact HEND.out _ _ ⟨_, new, rfl, HF, HO, HGj.out, HLj.out⟩
end Go.Proofs.YtldjbgklmeigmaaGreatDoor

namespace Go.Proofs.YtldjbgklmeigmaaGreatDoor
open Go Go.RowKit
attribute [local go_sem] run_store_float

theorem isV_cells {B : Nat} {w : World} {v : V} {cs : Array Value} (h : IsV B w v cs) : ∃ k b i f t ty p n c q m d, cs = vcells k b i f t ty p n c q m d := by
  obtain ⟨k, b, i, f, t, ty, its, fs⟩ := v
  obtain ⟨p, c, q, d, rfl, _⟩ := h
  exact ⟨_, _, _, _, _, _, _, _, _, _, _, _, rfl⟩
theorem firstF_none : ∀ {l : List (List St × V)}, (∀ y ∈ l, ownF y.2 = 0) → firstF l = ([], 0)
  | [], _ => rfl
  | x :: r, h => by rw [firstF, if_neg (by simp [h x (by simp)]), firstF_none (fun y hy => h y (List.mem_cons_of_mem _ hy))]
theorem firstF_at : ∀ {l r : List (List St × V)} {x : List St × V}, (∀ y ∈ l, ownF y.2 = 0) → ownF x.2 ≠ 0 → firstF (l ++ x :: r) = (x.1, ownF x.2)
  | [], _, x, _, h => by rw [List.nil_append, firstF, if_pos h]
  | y :: l, r, x, h, hx => by rw [List.cons_append, firstF, if_neg (by simp [h y (by simp)]), firstF_at (fun z hz => h z (List.mem_cons_of_mem _ hz)) hx]
theorem bad_zero : ∀ {l : List (St × V)}, (bad l).2 = 0 → bad l = ([], 0)
  | [], _ => rfl
  | x :: r, h => by
    rw [bad] at h ⊢
    split
    · rename_i hx
      rw [if_pos hx] at h
      exact (hx h).elim
    · rename_i hx
      rw [if_neg hx] at h
      exact bad_zero h
theorem snd_zero {v : V} (h : (sndV v).2 = 0) : sndV v = ([], 0) := by
  rw [sndV_bad] at h ⊢
  split
  · rename_i hx
    rw [if_pos hx] at h
    exact (hx h).elim
  · rename_i hx
    rw [if_neg hx] at h
    exact bad_zero h
/-- The first flawed part of all is where the program's Sound stops. -/
theorem firstF_snd (v : V) : firstF (partsV [] v) = sndV v := by
  rw [firstF_parts _ v (Nat.le_refl _)]
  split
  · rw [List.nil_append]
  · rename_i h
    rw [snd_zero (by simpa using h)]

set_option maxRecDepth 100000 in
theorem Parts_any (v : V) (cs : Array Value) (w : World) (hv : IsV w.heap.size w v cs) (hm : szV v ≤ 1000000) :
    Calls Tryz.prog 45 #[.agg cs] w (fun e w' => ∃ ov xs, e = .returned ov ∧ FitP w.heap.size w' (partsV [] v) xs ∧ w'.ownsRow w.heap.size 114 9 ov (cntV v) xs ∧ Below w.heap.size w w') := by
  have hc := cntV_le v
  have KC := Lib.hid (show ∀ (w1 : World), Below w.heap.size w w1 → Calls Tryz.prog 93 #[.agg cs, .slice none 0 0, .slice none 0 0] w1 (PartsP w.heap.size v [] (.slice none 0 0) 0 [] w1) from fun w1 hb =>
    parts_any _ v (Nat.le_refl _) cs [] (.slice none 0 0) (.slice none 0 0) 0 [] w.heap.size w1 hb.size (hv.below hb (Nat.le_refl _)) hm (by simp; omega) (by omega) (World.ownsRow_nil _ _ _ _) (World.ownsRow_nil _ _ _ _))
  obtain ⟨k, b, i, f, t, ty, p, n, c, q, m, d, rfl⟩ := isV_cells hv
  obtain ⟨W0, hW0⟩ : ∃ W0, w.alloc (.cells (vcells k b i f t ty p n c q m d) 34) = W0 := ⟨_, rfl⟩
  have hb0 : Below w.heap.size w W0 := by rw [← hW0]; exact (Below.refl _ _).alloc (Nat.le_refl _) _
  have hc0 : CellsAt W0 w.heap.size 0 (vcells k b i f t ty p n c q m d) := by rw [← hW0]; exact cellsAt_alloc _ _ _ _
  obtain ⟨a0, a1, a2, a3, a4, a5, a6, a7⟩ := hc0.all0
  have hlt : w.heap.size < W0.heap.size := by rw [← hW0]; simp
  have HB0 := Lib.hid hb0
  clear hb0 hc0
  have tk := trivial
  go_enter Tryz.func45, Tryz.ntmps45
  go_wp2_with (go_at_call 93; clear tk; refine (KC.out _ HB0.out).mono ?_; rintro e w1 ⟨ov, new, rfl, hF, hO, hG, hL⟩)
  go_ret
  refine ⟨ov, new, rfl, hF, by simpa using hO, HB0.out.trans ?_⟩
  exact grown_below hG HB0.out.size (fun y hy => by cases hy)

/-- What the reference's Sound answers. -/
def SndR (v : V) (w : World) (e : Ending) (w' : World) : Prop :=
  ∃ sv, e = .returned (.tuple #[sv, .int .i64 (sndV v).2]) ∧ w'.ownsRow w.heap.size 161 3 sv (sndV v).1.length (flatS (sndV v).1) ∧ Below w.heap.size w w'
set_option maxRecDepth 100000 in
set_option maxHeartbeats 4000000 in
theorem refSound_any (v : V) (cs : Array Value) (w : World) (hv : IsV w.heap.size w v cs) (hm : szV v ≤ 1000000) (hsh : shV v) :
    Calls Tryz.prog 18 #[.agg cs] w (SndR v w) := by
  have KP := Lib.hid (show ∀ (w1 : World), Below w.heap.size w w1 → _ from fun w1 hb => Parts_any v cs w1 (hv.on hb) hm)
  have hfs := firstF_snd v
  have hall := parts_all (p := shV) (fun v s u h hk => h.kid hk) _ v (Nat.le_refl _) [] hsh
  have hlen := parts_len _ v (Nat.le_refl _) []
  have hcl := cntV_le v
  have hc1 : 1 ≤ cntV v := by obtain ⟨k, b, i, f, t, ty, its, fs⟩ := v; rw [cntV]; omega
  have HFS := Lib.hid hfs
  have HALL := Lib.hid hall
  have HLEN := Lib.hid hlen
  clear hfs hall hlen hsh
  have HEND := Lib.hid (show ∀ (e : Ending) (w' : World), (∃ sv, e = .returned (.tuple #[sv, .int .i64 (sndV v).2]) ∧ w'.ownsRow w.heap.size 161 3 sv (sndV v).1.length (flatS (sndV v).1) ∧ Below w.heap.size w w') → SndR v w e w' from fun _ _ h => h)
  obtain ⟨k, b, i, f, t, ty, p, n, c, q, m, d, rfl⟩ := isV_cells hv
  clear hv
  obtain ⟨W0, hW0⟩ : ∃ W0, w.alloc (.cells (vcells k b i f t ty p n c q m d) 34) = W0 := ⟨_, rfl⟩
  have hb0 : Below w.heap.size w W0 := by rw [← hW0]; exact (Below.refl _ _).alloc (Nat.le_refl _) _
  have hc0 : CellsAt W0 w.heap.size 0 (vcells k b i f t ty p n c q m d) := by rw [← hW0]; exact cellsAt_alloc _ _ _ _
  obtain ⟨a0, a1, a2, a3, a4, a5, a6, a7⟩ := hc0.all0
  have hlt : w.heap.size < W0.heap.size := by rw [← hW0]; simp
  have HB0 := Lib.hid hb0
  clear hb0 hc0
  generalize partsV [] v = L at *
  generalize sndV v = S at *
  generalize cntV v = CN at *
  have tk := trivial
  go_enter Tryz.func18, Tryz.ntmps18
  go_wp2_with (go_at_call 45; clear tk; refine (KP.out _ HB0.out).mono ?_; rintro e w1 ⟨ov, xs, rfl, hF, hO, hb1⟩)
  obtain ⟨g, cap, rfl, hgl, hcell⟩ : ∃ g cap, ov = .slice (some ⟨g, 0, none⟩) CN cap ∧ g < w1.heap.size ∧ ∀ (j : Nat) u, xs[j]? = some u → w1.cell? ⟨g, j, none⟩ = some u := by
    rcases hO.2 with ⟨rfl, h0⟩ | ⟨g, cap, cur, rfl, _, hb, _⟩
    · omega
    · refine ⟨g, cap, rfl, (Array.getElem?_eq_some_iff.1 hb).1, fun j u hu => ?_⟩
      have := hO.cells (g := g) rfl j u hu
      rwa [addr_add, Nat.zero_add] at this
  have HBW := Lib.hid (HB0.out.trans (hb1.mono HB0.out.size))
  have HF := Lib.hid hF
  have HCELL := Lib.hid hcell
  have HCN : Hid (CN ≤ 1000000) := Lib.hid (by omega)
  have hsz : W0.heap.size ≤ w1.heap.size := hb1.size
  clear hF hO hb1 hcell a0 a1 a2 a3 a4 a5 a6 a7 hcl hm
  go_loopw [5] (fun ii wr => ∃ j : Nat, j ≤ CN ∧ ii = .int .i64 j ∧ Hid (∀ y ∈ L.take j, ownF y.2 = 0) ∧ Hid (Below w1.heap.size w1 wr)) (fun ii _ => CN - (intOf ii).toNat)
  case atStart => exact ⟨0, by omega, rfl, Lib.hid (by simp), Lib.hid (Below.refl _ _)⟩
  case round =>
    obtain ⟨j, hj, rfl, hz, hbel⟩ := hrel
    have hcn := HCN.out
    by_cases h1 : j < CN
    · have hjl : j < L.length := by have := HLEN.out; omega
      obtain ⟨x, hx⟩ : ∃ x, L[j]? = some x := ⟨L[j], by simp [hjl]⟩
      obtain ⟨pv, csx, hpv, hcx, hrow, hvx⟩ := HF.out.get hx
      have hp0 := (hbel.out.cell (p := ⟨g, j * 9, none⟩) hgl).trans (HCELL.out _ _ hpv)
      have hca : CellsAt wr g (j * 9 + 1) csx := fun m u hu => (hbel.out.cell (p := ⟨g, j * 9 + 1 + m, none⟩) hgl).trans (HCELL.out _ _ (hcx m u hu))
      have hgr : g < wr.heap.size := Nat.lt_of_lt_of_le hgl hbel.out.size
      have hshx := HALL.out x (List.mem_of_getElem? hx)
      have HX := Lib.hid hx
      obtain ⟨path, xk, xb, xi, xf, xt, xty, xits, xfs⟩ := x
      have hbw : Below W0.heap.size w1 wr := hbel.out.mono hsz
      have hvw : IsV wr.heap.size wr (.mk xk xb xi xf xt xty xits xfs) csx := hvx.below hbw (Nat.le_trans hsz hbel.out.size)
      rw [shV] at hshx
      have HC := Lib.hid (flaw_any xk xb xi xf xt xty xits xfs csx wr hvw hshx.1 hshx.2.1 (fun y hy => (hshx.2.2.2.mem hy).1))
      obtain ⟨xp, xc, xq, xd, rfl, _, _, _, _⟩ := hvx
      obtain ⟨c0, c1, c2, c3, c4, c5, c6, c7⟩ := hca.all
      have HROW := Lib.hid hrow
      dsimp only at HROW
      clear hcx hca hpv hx hrow hshx hvw hbw
      have HZ := Lib.hid (fun (h : ownF (.mk xk xb xi xf xt xty xits xfs) = 0) => show ∀ y ∈ L.take (j + 1), ownF y.2 = 0 from fun y hy => by
        rw [List.take_add_one, HX.out, List.mem_append] at hy
        rcases hy with hy | hy
        · exact hz.out y hy
        · simp only [Option.toList_some, List.mem_singleton] at hy
          subst hy
          exact h)
      have HST := Lib.hid (fun (h : ownF (.mk xk xb xi xf xt xty xits xfs) ≠ 0) => show S = (path, ownF (.mk xk xb xi xf xt xty xits xfs)) from by
        have e : L = L.take j ++ (path, .mk xk xb xi xf xt xty xits xfs) :: L.drop (j + 1) := by
          have := drop_some HX.out
          rw [← this, List.take_append_drop]
        rw [← HFS.out, e]
        exact firstF_at hz.out h)
      generalize ownF (.mk xk xb xi xf xt xty xits xfs) = E at *
      by_cases h2 : E = 0
      · subst h2
        have tk := trivial
        go_wp2_with (go_at_call 46; clear tk; refine HC.out.mono ?_; rintro e w2 ⟨rfl, hb2⟩)
        go_roundw
        case rel => exact ⟨j + 1, by omega, by go_num, Lib.hid (HZ.out (by trivial)), Lib.hid (hbel.out.trans (hb2.mono hbel.out.size))⟩
        case measure => simp [intOf]; omega
      · have h2' : (E != 0) = true := by simp [h2]
        have hS := HST.out h2
        have tk := trivial
        go_wp2_with (go_at_call 46; clear tk; refine HC.out.mono ?_; rintro e w2 ⟨rfl, hb2⟩; have hp2 := (hb2.cell (p := ⟨g, j * 9, none⟩) hgr).trans hp0; have hg2 := Nat.lt_of_lt_of_le hgr hb2.size)
        go_ret2
        subst hS
        have hb3 := hbel.out.trans (hb2.mono hbel.out.size)
        exact HEND.out _ _ ⟨pv, rfl, ownsRow_base (HROW.out.kept (grown_b hb3 none) (by cases pv.ownBlock <;> simp)) HB0.out.size, HBW.out.trans (hb3.mono (Nat.le_trans HB0.out.size hsz))⟩
    · have hS : S = ([], 0) := by
        rw [← HFS.out]
        refine firstF_none (fun y hy => hz.out y ?_)
        rw [List.take_of_length_le (by have := HLEN.out; omega)]
        exact hy
      go_wp2_with fail
      go_ret2
      subst hS
      exact HEND.out _ _ ⟨_, rfl, World.ownsRow_nil _ _ _ _, HBW.out.trans (hbel.out.mono (Nat.le_trans HB0.out.size hsz))⟩
end Go.Proofs.YtldjbgklmeigmaaGreatDoor
