/- Helper text: the children of a value, one after another: the walk over children. Conditions: none. -/
import Derived.Test.YtnmnmkdmnohbmaaDoorGroups
import Derived.Test.YtnmnmkdmnohbmaaDoorEqual
import Derived.RangeFuncNested
import Derived.RangeFuncBound
import Derived.RangeFuncCalls
import Derived.RangeFuncLeaves
import Derived.Shelf.Abstract
import Derived.Shelf.RegionOpen
import Derived.OwnWalkIn
import Derived.TacticsInMore
import Derived.LoopNIn
import Derived.LoopIn
namespace Go.Proofs.YtnmnmkdmnohbmaaDoor
open Go Go.RowKit Go.Shelf
attribute [local go_sem] run_store_float Oper.semAt_some

/-- The steps to the items. -/
def itemKids : List V → Nat → List (St × V)
  | [], _ => []
  | v :: r, i => (⟨⟨#[]⟩, (i : Int), true⟩, v) :: itemKids r (i + 1)
def fieldKids (fs : List (ByteArray × V)) : List (St × V) := fs.map (fun x => (⟨x.1, 0, false⟩, x.2))
/-- The children with their steps. -/
def kidsV : V → List (St × V)
  | .mk k _ _ _ _ _ its fs => if kd k = 5 then itemKids its 0 else if kd k = 6 then fieldKids fs else []

theorem itemKids_length : ∀ (l : List V) (i : Nat), (itemKids l i).length = l.length
  | [], _ => rfl
  | _ :: r, i => by simp [itemKids, itemKids_length r (i + 1)]
theorem itemKids_get : ∀ (l : List V) (i k : Nat) (x : V), l[k]? = some x → (itemKids l i)[k]? = some (⟨⟨#[]⟩, ((i + k : Nat) : Int), true⟩, x)
  | [], _, _, _, h => by simp at h
  | v :: r, i, 0, x, h => by obtain rfl : v = x := by simpa using h
                             simp [itemKids]
  | v :: r, i, k + 1, x, h => by
    have := itemKids_get r (i + 1) k x (by simpa using h)
    simp only [itemKids, List.getElem?_cons_succ]
    rw [this, show i + 1 + k = i + (k + 1) by omega]
theorem fieldKids_get (l : List (ByteArray × V)) (k : Nat) (x : ByteArray × V) (h : l[k]? = some x) : (fieldKids l)[k]? = some (⟨x.1, 0, false⟩, x.2) := by simp [fieldKids, h]

def isKid (v : V) (s : St) (u : V) : Prop := (s, u) ∈ kidsV v

theorem isKid_size {v : V} {s : St} {u : V} (h : isKid v s u) : szV u + 1 ≤ szV v := by
  unfold isKid at h
  obtain ⟨k, b, i, f, t, ty, its, fs⟩ := v
  have hi : ∀ (l : List V) (n : Nat), (s, u) ∈ itemKids l n → u ∈ l := by
    intro l
    induction l with
    | nil => intro n h; simp [itemKids] at h
    | cons v r ih =>
      intro n h
      simp only [itemKids, List.mem_cons, Prod.mk.injEq] at h
      rcases h with ⟨_, rfl⟩ | h
      · simp
      · exact List.mem_cons_of_mem _ (ih _ h)
  simp only [kidsV] at h
  simp only [szV]
  split at h
  · have := szVs_mem (hi _ _ h); omega
  · split at h
    · simp only [fieldKids, List.mem_map, Prod.mk.injEq] at h
      obtain ⟨x, hx, _, rfl⟩ := h
      have := szFs_mem hx
      omega
    · simp at h

/-- A child as it comes: its step, the value, its cells. -/
abbrev Kid (n₀ : Nat) (w : World) (v : V) := { x : St × V × Array Value // IsV n₀ w x.2.1 x.2.2 ∧ isKid v x.1 x.2.1 }
def Kid.sv {n₀ : Nat} {w : World} {v : V} (x : Kid n₀ w v) : St × V := (x.1.1, x.1.2.1)
def kidEnc (n₀ : Nat) (w : World) (v : V) (x : Kid n₀ w v) : Array Value := #[.agg x.1.1.cells, .agg x.1.2.2]

theorem alloc_abides {α : Type} {B : Nat} {J : List α → World → Prop} (hJ : AbidesFrom B J) {s : List α} {W W' : World} (h : J s W) (hb : Below W.heap.size W W') : J s W' := hJ s W W' none h (grown_of_below hb none) (fun r e => by cases e)

set_option maxRecDepth 100000 in
set_option maxHeartbeats 2000000 in
theorem kids_stops (n : Nat) (hn : 1 ≤ n) (n₀ Bv : Nat) (v : V) (cs : Array Value) (w : World) (hBv : Bv < w.heap.size) (hn₀ : n₀ ≤ w.heap.size) (hb : CellsAt w Bv 0 cs) (hv : IsV n₀ w v cs) :
    SeqStopsK Fence.wide n Tryd.prog 99 #[.pointer (some ⟨Bv, 0, none⟩)] (kidEnc n₀ w v) (Below n₀) (fun xs => xs.map Kid.sv = kidsV v) (fun pre => pre.map Kid.sv <+: kidsV v) (kidsV v).length w := by
  intro l J Jx W hW hJ hJx hY h0
  obtain ⟨k, b, i, f, t, ty, its, fs⟩ := v
  have hmemI : kd k = 5 → ∀ (j : Nat) x, (itemKids its 0)[j]? = some x → isKid (.mk k b i f t ty its fs) x.1 x.2 := fun h j x hx => by
    simp only [isKid, kidsV]
    rw [if_pos h]
    exact List.mem_of_getElem? hx
  have hmemF : kd k = 6 → ∀ (j : Nat) x, (fieldKids fs)[j]? = some x → isKid (.mk k b i f t ty its fs) x.1 x.2 := fun h j x hx => by
    simp only [isKid, kidsV]
    rw [if_neg (by omega), if_pos h]
    exact List.mem_of_getElem? hx
  have HMI := Lib.hid hmemI
  have HMF := Lib.hid hmemF
  clear hmemI hmemF
  have hv0 := hv
  obtain ⟨p, c, q, d, rfl, hi, hf, l1, l2⟩ := hv
  unfold lenMax at l1 l2
  have hbW := hb.below hW hBv
  obtain ⟨a0, a1, a2, a3, a4, a5, a6, a7⟩ := hbW.all0
  have K1 := kind_any k b i f t ty p its.length c q fs.length d
  have hkv : kidsV (.mk k b i f t ty its fs) = if kd k = 5 then itemKids its 0 else if kd k = 6 then fieldKids fs else [] := rfl
  rw [hkv] at hY ⊢
  have HI := Lib.hid hi
  have HF := Lib.hid hf
  have HJ := Lib.hid hJ
  have HJX := Lib.hid hJx
  have HY := Lib.hid hY
  have H0 := Lib.hid h0
  have HB := Lib.hid (hW.mono hn₀)
  clear hi hf hJ hJx hY h0 hv0 hkv
  generalize kd k = κ at *
  have hBW : Bv < W.heap.size := Nat.lt_of_lt_of_le hBv hW.size
  by_cases h5 : κ = 5
  · subst h5
    have HY := Lib.hid (by have := HY.out; rw [if_pos rfl] at this; exact this)
    rw [if_pos rfl]
    refine callsIn_of_wp Tryd.func99 rfl trivial ?_ rfl
    simp only [Tryd.ntmps99, List.size_toArray, List.length_cons, List.length_nil, Nat.reduceAdd, Nat.reduceSub, Array.replicate_succ, Array.replicate_zero, List.push_toArray, List.append_toArray, List.nil_append, List.cons_append]
    gi_wp2_with (refine ⟨trivial, ?_⟩; gi_at_call 75; refine (callsIn_wide.2 (K1 _)).mono ?_; rintro e w1 ⟨rfl, hb1⟩; obtain ⟨c0, c1, c2, c3, c4, c5, c6, c7⟩ := (hbW.below hb1 hBW).all0)
    have hJ1 := alloc_abides HJ.out H0.out hb1
    have HB1 := HB.out.trans (hb1.mono (by have := hW.size; omega))
    have HJ1 := Lib.hid hJ1
    clear c0 c1 c2 c3 c4 c5 c6 c7 a0 a1 a2 a3 a4 a5 a6 a7 hJ1
    gi_loopw [14] (fun ii wr => ∃ j : Nat, j ≤ its.length ∧ ii = .int .i64 j ∧ ∃ pre : List (Kid n₀ w (.mk k b i f t ty its fs)), Hid (pre.map Kid.sv = (itemKids its 0).take j) ∧ Hid (J pre wr) ∧ Below n₀ w wr) (fun ii _ => its.length - (intOf ii).toNat)
    case atStart => exact ⟨0, by omega, rfl, [], Lib.hid rfl, HJ1, HB1⟩
    case round =>
      clear hb1 HB1 HJ1
      obtain ⟨j, hj, rfl, pre, hpre, hJp, hbel⟩ := hrel
      by_cases h1 : j < its.length
      · obtain ⟨x, hx⟩ : ∃ x, its[j]? = some x := ⟨its[j], by simp [h1]⟩
        rcases HI.out with h0 | ⟨g, o, rfl, hg, hvs⟩
        · subst h0; simp at h1
        obtain ⟨csx, hcx, hvx⟩ := hvs.get hx
        have hcx := hcx.below hbel hg
        have hgr : g < wr.heap.size := Nat.lt_of_lt_of_le (Nat.lt_of_lt_of_le hg hn₀) hbel.size
        have hkid := itemKids_get its 0 j x hx
        rw [Nat.zero_add] at hkid
        have hisk := HMI.out (by simp) j _ hkid
        obtain ⟨xk, xb, xi, xf, xt, xty, xits, xfs⟩ := x
        have hvx0 := hvx
        obtain ⟨xp, xc, xq, xd, rfl, _, _, _, _⟩ := hvx
        obtain ⟨c0, c1, c2, c3, c4, c5, c6, c7⟩ := hcx.all
        have hlen : pre.length < (itemKids its 0).length := by
          have := congrArg List.length hpre.out
          rw [List.length_map, List.length_take] at this
          rw [itemKids_length] at this ⊢
          omega
        obtain ⟨W1, hW1⟩ : ∃ W1, wr.alloc (.cells (vcells xk xb xi xf xt xty xp xits.length xc xq xfs.length xd) 27) = W1 := ⟨_, rfl⟩
        have hb1 : Below wr.heap.size wr W1 := by rw [← hW1]; exact (Below.refl _ _).alloc (Nat.le_refl _) _
        obtain ⟨d0, d1, d2, d3, d4, d5, d6, d7⟩ := (show CellsAt W1 wr.heap.size 0 (vcells xk xb xi xf xt xty xp xits.length xc xq xfs.length xd) by rw [← hW1]; exact cellsAt_alloc _ _ _ _).all0
        have hJ1 := alloc_abides HJ.out hJp.out hb1
        obtain ⟨fn, tmps, assign, body, hy, hR⟩ := HY.out pre ⟨(⟨⟨#[]⟩, (j : Int), true⟩, .mk xk xb xi xf xt xty xits xfs, vcells xk xb xi xf xt xty xp xits.length xc xq xfs.length xd), hvx0, hisk⟩ W1 hJ1 hlen
        have HR := Lib.hid hR
        dsimp only [kidEnc, St.cells] at hy
        have HKID := Lib.hid hkid
        clear hR hvs hcx hkid hJ1 hx
        gi_wp2
        refine HR.out.mono ?_
        rintro e W3 (⟨rfl, hJ3, hk3⟩ | ⟨rfl, hJx3⟩)
        · have hbel3 := hbel.trans ((hb1.mono (by have := hbel.size; omega)).trans hk3)
          gi_wp2
          go_roundw
          case rel =>
            refine ⟨j + 1, by omega, by go_num, _, Lib.hid ?_, Lib.hid hJ3, hbel3⟩
            rw [List.map_append, hpre.out, List.take_add_one, HKID.out]
            simp [Kid.sv]
          case measure => simp [intOf]; omega
        · gi_wp2
          refine bodyPost_ret (results_none rfl _ _ _) rfl ?_
          refine ⟨⟨_, rfl⟩, .inr ⟨_, ?_, hJx3⟩⟩
          have h : (itemKids its 0).take (j + 1) <+: itemKids its 0 := List.take_prefix _ _
          rw [List.take_add_one, HKID.out, ← hpre.out] at h
          rw [List.map_append]
          simpa [Kid.sv] using h
      · have hall := hpre.out
        rw [List.take_of_length_le (by rw [itemKids_length]; omega)] at hall
        gi_wp2
        go_end0
        exact ⟨⟨_, rfl⟩, .inl ⟨_, hall, hJp.out⟩⟩
  · by_cases h6 : κ = 6
    · subst h6
      have HY := Lib.hid (by have := HY.out; rw [if_neg (by decide), if_pos rfl] at this; exact this)
      rw [if_neg (by decide), if_pos rfl]
      refine callsIn_of_wp Tryd.func99 rfl trivial ?_ rfl
      simp only [Tryd.ntmps99, List.size_toArray, List.length_cons, List.length_nil, Nat.reduceAdd, Nat.reduceSub, Array.replicate_succ, Array.replicate_zero, List.push_toArray, List.append_toArray, List.nil_append, List.cons_append]
      gi_wp2_with (refine ⟨trivial, ?_⟩; gi_at_call 75; refine (callsIn_wide.2 (K1 _)).mono ?_; rintro e w1 ⟨rfl, hb1⟩; obtain ⟨c0, c1, c2, c3, c4, c5, c6, c7⟩ := (hbW.below hb1 hBW).all0)
      have hJ1 := alloc_abides HJ.out H0.out hb1
      have HB1 := HB.out.trans (hb1.mono (by have := hW.size; omega))
      have HJ1 := Lib.hid hJ1
      clear c0 c1 c2 c3 c4 c5 c6 c7 a0 a1 a2 a3 a4 a5 a6 a7 hJ1
      gi_loopw [31] (fun ii wr => ∃ j : Nat, j ≤ fs.length ∧ ii = .int .i64 j ∧ ∃ pre : List (Kid n₀ w (.mk k b i f t ty its fs)), Hid (pre.map Kid.sv = (fieldKids fs).take j) ∧ Hid (J pre wr) ∧ Below n₀ w wr) (fun ii _ => fs.length - (intOf ii).toNat)
      case atStart => exact ⟨0, by omega, rfl, [], Lib.hid rfl, HJ1, HB1⟩
      case round =>
        clear hb1 HB1 HJ1
        obtain ⟨j, hj, rfl, pre, hpre, hJp, hbel⟩ := hrel
        by_cases h1 : j < fs.length
        · obtain ⟨x, hx⟩ : ∃ x, fs[j]? = some x := ⟨fs[j], by simp [h1]⟩
          rcases HF.out with h0 | ⟨g, o, rfl, hg, hvs⟩
          · subst h0; simp at h1
          obtain ⟨hnm, csx, hcx, hvx⟩ := hvs.get hx
          have hnm := (hbel.cell (p := ⟨g, _, none⟩) hg).trans hnm
          have hcx := hcx.below hbel hg
          have hgr : g < wr.heap.size := Nat.lt_of_lt_of_le (Nat.lt_of_lt_of_le hg hn₀) hbel.size
          have hkid := fieldKids_get fs j x hx
          have hisk := HMF.out (by simp) j _ hkid
          obtain ⟨xn, xk, xb, xi, xf, xt, xty, xits, xfs⟩ := x
          have hvx0 := hvx
          obtain ⟨xp, xc, xq, xd, rfl, _, _, _, _⟩ := hvx
          obtain ⟨c0, c1, c2, c3, c4, c5, c6, c7⟩ := hcx.all
          have hlen : pre.length < (fieldKids fs).length := by
            have := congrArg List.length hpre.out
            rw [List.length_map, List.length_take] at this
            simp only [fieldKids, List.length_map] at this ⊢
            omega
          obtain ⟨W1, hW1⟩ : ∃ W1, wr.alloc (.cells (mcells xn xk xb xi xf xt xty xp xits.length xc xq xfs.length xd) 79) = W1 := ⟨_, rfl⟩
          have hb1 : Below wr.heap.size wr W1 := by rw [← hW1]; exact (Below.refl _ _).alloc (Nat.le_refl _) _
          obtain ⟨d0, d1, d2, d3, d4, d5, d6, d7, d8⟩ := (show CellsAt W1 wr.heap.size 0 (mcells xn xk xb xi xf xt xty xp xits.length xc xq xfs.length xd) by rw [← hW1]; exact cellsAt_alloc _ _ _ _).all9
          have hJ1 := alloc_abides HJ.out hJp.out hb1
          obtain ⟨fn, tmps, assign, body, hy, hR⟩ := HY.out pre ⟨(⟨xn, 0, false⟩, .mk xk xb xi xf xt xty xits xfs, vcells xk xb xi xf xt xty xp xits.length xc xq xfs.length xd), hvx0, hisk⟩ W1 hJ1 hlen
          have HR := Lib.hid hR
          dsimp only [kidEnc, St.cells] at hy
          have HKID := Lib.hid hkid
          clear hR hvs hcx hkid hJ1 hx
          gi_wp2
          refine HR.out.mono ?_
          rintro e W3 (⟨rfl, hJ3, hk3⟩ | ⟨rfl, hJx3⟩)
          · have hbel3 := hbel.trans ((hb1.mono (by have := hbel.size; omega)).trans hk3)
            gi_wp2
            go_roundw
            case rel =>
              refine ⟨j + 1, by omega, by go_num, _, Lib.hid ?_, Lib.hid hJ3, hbel3⟩
              rw [List.map_append, hpre.out, List.take_add_one, HKID.out]
              simp [Kid.sv]
            case measure => simp [intOf]; omega
          · gi_wp2
            refine bodyPost_ret (results_none rfl _ _ _) rfl ?_
            refine ⟨⟨_, rfl⟩, .inr ⟨_, ?_, hJx3⟩⟩
            have h : (fieldKids fs).take (j + 1) <+: fieldKids fs := List.take_prefix _ _
            rw [List.take_add_one, HKID.out, ← hpre.out] at h
            rw [List.map_append]
            simpa [Kid.sv] using h
        · have hall := hpre.out
          rw [List.take_of_length_le (by simp only [fieldKids, List.length_map]; omega)] at hall
          gi_wp2
          go_end0
          exact ⟨⟨_, rfl⟩, .inl ⟨_, hall, hJp.out⟩⟩
    · have HY := Lib.hid (by have := HY.out; rw [if_neg h5, if_neg h6] at this; exact this)
      rw [if_neg h5, if_neg h6]
      refine callsIn_of_wp Tryd.func99 rfl trivial ?_ rfl
      simp only [Tryd.ntmps99, List.size_toArray, List.length_cons, List.length_nil, Nat.reduceAdd, Nat.reduceSub, Array.replicate_succ, Array.replicate_zero, List.push_toArray, List.append_toArray, List.nil_append, List.cons_append]
      gi_wp2_with (refine ⟨trivial, ?_⟩; gi_at_call 75; refine (callsIn_wide.2 (K1 _)).mono ?_; rintro e w1 ⟨rfl, hb1⟩; obtain ⟨c0, c1, c2, c3, c4, c5, c6, c7⟩ := (hbW.below hb1 hBW).all0)
      have hJ1 := alloc_abides HJ.out H0.out hb1
      go_end0
      exact ⟨⟨_, rfl⟩, .inl ⟨[], rfl, hJ1⟩⟩
end Go.Proofs.YtnmnmkdmnohbmaaDoor
