/- Several texts in one: Helper text: a map of lists of numbers, told by what each name finds; an element taken out of such a list. Helper text: the children of a value, one after another: the walk over children. Conditions: none. -/
import Derived.Test.YtldjbgklmeigmaaGreatDoorPackD
import Derived.Test.YtldjbgklmeigmaaGreatDoorPackE
import Derived.Maps.OwnRows
import Derived.Maps.Views
import Derived.ArgAppend
import Derived.RangeFuncNested
import Derived.RangeFuncBound
import Derived.RangeFuncCalls
import Derived.RangeFuncLeaves
import Derived.Shelf.Abstract
import Derived.Shelf.RegionOpen
import Derived.OwnWalkIn
import Derived.TacticsInMore
import Derived.LoopNIn
import Derived.LoopIn
namespace Go.Proofs.YtldjbgklmeigmaaGreatDoor
open Go Go.RowKit Go.Maps Go.ChangeShapes

def nkey (s : ByteArray) : Lit := .string s.data.toList

theorem nkey_eq {a b : ByteArray} : nkey a = nkey b ↔ a.toList = b.toList := by
  rw [ByteArray.toList_eq, ByteArray.toList_eq]
  simp [nkey]

def itemsD : DataW Unit → List (DataW Unit)
  | .slice es _ => es
  | _ => []

theorem itemsD_row {w : World} {base : Nat} {e : TypeId} {q : IntKind} {v : Value} {zs : List Int} (h : w.ownsInts base e q v zs) : itemsD (rowDatum q v zs) = lits q zs := by
  rcases h.datum (H := Unit) with ⟨h1, h2⟩ | h1
  · rw [h1, h2]; rfl
  · rw [h1]; rfl

/-- Has the member number j this name? -/
def named (bs : List (ByteArray × V)) (s : ByteArray) (j : Nat) : Bool := match bs[j]? with | some y => s.toList == y.1.toList | none => false

def idx (bs : List (ByteArray × V)) (free : List Nat) (s : ByteArray) : List Nat := free.filter (named bs s)

/-- At each name the map has the free members of that name, in order. -/
def GroupsIs (D : DataW Unit) (bs : List (ByteArray × V)) (free : List Nat) : Prop := IsMap D ∧ ∀ s, itemsD (D.atKey (nkey s) .nil) = lits .i64 ((idx bs free s).map (Nat.cast : Nat → Int))

theorem GroupsIs.start (bs : List (ByteArray × V)) : GroupsIs (.map []) bs [] := ⟨isMap_empty, fun _ => rfl⟩

theorem named_eq {bs : List (ByteArray × V)} {s t : ByteArray} (h : s.toList = t.toList) : named bs s = named bs t := by
  funext j; simp [named, h]

theorem GroupsIs.put {D : DataW Unit} {bs : List (ByteArray × V)} {free free' : List Nat} (h : GroupsIs D bs free) {w : World} {base : Nat} {e : TypeId} {v : Value} {zs : List Int} {s : ByteArray} (ho : w.ownsInts base e .i64 v zs)
    (h1 : zs = (idx bs free' s).map (Nat.cast : Nat → Int)) (h2 : ∀ t, s.toList ≠ t.toList → idx bs free' t = idx bs free t) : GroupsIs (D.put (nkey s) (rowDatum .i64 v zs)) bs free' := by
  refine ⟨h.1.put _ _, fun t => ?_⟩
  by_cases e : s.toList = t.toList
  · rw [← nkey_eq.2 e, atKey_put_same h.1 (show WideAt.IsKeyLit (nkey s) from (trivial : WideAt.IsKeyLit (.string s.data.toList))), itemsD_row ho, h1]
    unfold idx
    rw [named_eq e]
  · rw [atKey_put_other (fun hc => e (nkey_eq.1 hc).symm), h.2 t, h2 t e]

theorem grown_of_below {w w' : World} (h : Below w.heap.size w w') (row : Option Nat) : w.grownBy w' row := ⟨h.os, h.tape, h.output, h.size, fun k hk _ => h.block k hk⟩

end Go.Proofs.YtldjbgklmeigmaaGreatDoor

namespace Go.Proofs.YtldjbgklmeigmaaGreatDoor
open Go Go.RowKit Go.Shelf
attribute [local go_sem] run_store_float Oper.semAt_some

/-- The steps to the items. -/
def itemKids : List V → Nat → List (St × V)
  | [], _ => []
  | v :: r, i => (⟨⟨#[]⟩, (i : Int), true⟩, v) :: itemKids r (i + 1)
def fieldKids (fs : List (ByteArray × V)) : List (St × V) := fs.map (fun x => (⟨x.1, 0, false⟩, x.2))
/-- The children with their steps. -/
def kidsV : V → List (St × V)
  | .mk k _ _ _ _ _ its fs => if kd k = 5 then itemKids its 0 else if kd k = 6 then fieldKids fs else []

theorem itemKids_length : ∀ (l : List V) (i : Nat), (itemKids l i).length = l.length
  | [], _ => rfl
  | _ :: r, i => by simp [itemKids, itemKids_length r (i + 1)]
theorem itemKids_get : ∀ (l : List V) (i k : Nat) (x : V), l[k]? = some x → (itemKids l i)[k]? = some (⟨⟨#[]⟩, ((i + k : Nat) : Int), true⟩, x)
  | [], _, _, _, h => by simp at h
  | v :: r, i, 0, x, h => by obtain rfl : v = x := by simpa using h
                             simp [itemKids]
  | v :: r, i, k + 1, x, h => by
    have := itemKids_get r (i + 1) k x (by simpa using h)
    simp only [itemKids, List.getElem?_cons_succ]
    rw [this, show i + 1 + k = i + (k + 1) by omega]
theorem fieldKids_get (l : List (ByteArray × V)) (k : Nat) (x : ByteArray × V) (h : l[k]? = some x) : (fieldKids l)[k]? = some (⟨x.1, 0, false⟩, x.2) := by simp [fieldKids, h]

def isKid (v : V) (s : St) (u : V) : Prop := (s, u) ∈ kidsV v

theorem isKid_size {v : V} {s : St} {u : V} (h : isKid v s u) : szV u + 1 ≤ szV v := by
  unfold isKid at h
  obtain ⟨k, b, i, f, t, ty, its, fs⟩ := v
  have hi : ∀ (l : List V) (n : Nat), (s, u) ∈ itemKids l n → u ∈ l := by
    intro l
    induction l with
    | nil => intro n h; simp [itemKids] at h
    | cons v r ih =>
      intro n h
      simp only [itemKids, List.mem_cons, Prod.mk.injEq] at h
      rcases h with ⟨_, rfl⟩ | h
      · simp
      · exact List.mem_cons_of_mem _ (ih _ h)
  simp only [kidsV] at h
  simp only [szV]
  split at h
  · have := szVs_mem (hi _ _ h); omega
  · split at h
    · simp only [fieldKids, List.mem_map, Prod.mk.injEq] at h
      obtain ⟨x, hx, _, rfl⟩ := h
      have := szFs_mem hx
      omega
    · simp at h

/-- A child as it comes: its step, the value, its cells. -/
abbrev Kid (n₀ : Nat) (w : World) (v : V) := { x : St × V × Array Value // IsV n₀ w x.2.1 x.2.2 ∧ isKid v x.1 x.2.1 }
def Kid.sv {n₀ : Nat} {w : World} {v : V} (x : Kid n₀ w v) : St × V := (x.1.1, x.1.2.1)
def kidEnc (n₀ : Nat) (w : World) (v : V) (x : Kid n₀ w v) : Array Value := #[.agg x.1.1.cells, .agg x.1.2.2]

theorem alloc_abides {α : Type} {B : Nat} {J : List α → World → Prop} (hJ : AbidesFrom B J) {s : List α} {W W' : World} (h : J s W) (hb : Below W.heap.size W W') : J s W' := hJ s W W' none h (grown_of_below hb none) (fun r e => by cases e)

set_option maxRecDepth 100000 in
set_option maxHeartbeats 2000000 in
theorem kids_stops (n : Nat) (hn : 1 ≤ n) (n₀ Bv : Nat) (v : V) (cs : Array Value) (w : World) (hBv : Bv < w.heap.size) (hn₀ : n₀ ≤ w.heap.size) (hb : CellsAt w Bv 0 cs) (hv : IsV n₀ w v cs) :
    SeqStopsK Fence.wide n Tryz.prog 109 #[.pointer (some ⟨Bv, 0, none⟩)] (kidEnc n₀ w v) (Below n₀) (fun xs => xs.map Kid.sv = kidsV v) (fun pre => pre.map Kid.sv <+: kidsV v) (kidsV v).length w := by
  intro l J Jx W hW hJ hJx hY h0
  obtain ⟨k, b, i, f, t, ty, its, fs⟩ := v
  have hmemI : kd k = 5 → ∀ (j : Nat) x, (itemKids its 0)[j]? = some x → isKid (.mk k b i f t ty its fs) x.1 x.2 := fun h j x hx => by
    simp only [isKid, kidsV]
    rw [if_pos h]
    exact List.mem_of_getElem? hx
  have hmemF : kd k = 6 → ∀ (j : Nat) x, (fieldKids fs)[j]? = some x → isKid (.mk k b i f t ty its fs) x.1 x.2 := fun h j x hx => by
    simp only [isKid, kidsV]
    rw [if_neg (by omega), if_pos h]
    exact List.mem_of_getElem? hx
  have HMI := Lib.hid hmemI
  have HMF := Lib.hid hmemF
  clear hmemI hmemF
  have hv0 := hv
  obtain ⟨p, c, q, d, rfl, hi, hf, l1, l2⟩ := hv
  unfold lenMax at l1 l2
  have hbW := hb.below hW hBv
  obtain ⟨a0, a1, a2, a3, a4, a5, a6, a7⟩ := hbW.all0
  have K1 := kind_any k b i f t ty p its.length c q fs.length d
  have hkv : kidsV (.mk k b i f t ty its fs) = if kd k = 5 then itemKids its 0 else if kd k = 6 then fieldKids fs else [] := rfl
  rw [hkv] at hY ⊢
  have HI := Lib.hid hi
  have HF := Lib.hid hf
  have HJ := Lib.hid hJ
  have HJX := Lib.hid hJx
  have HY := Lib.hid hY
  have H0 := Lib.hid h0
  have HB := Lib.hid (hW.mono hn₀)
  clear hi hf hJ hJx hY h0 hv0 hkv
  generalize kd k = κ at *
  have hBW : Bv < W.heap.size := Nat.lt_of_lt_of_le hBv hW.size
  by_cases h5 : κ = 5
  · subst h5
    have HY := Lib.hid (by have := HY.out; rw [if_pos rfl] at this; exact this)
    rw [if_pos rfl]
    refine callsIn_of_wp Tryz.func109 rfl trivial ?_ rfl
    simp only [Tryz.ntmps109, List.size_toArray, List.length_cons, List.length_nil, Nat.reduceAdd, Nat.reduceSub, Array.replicate_succ, Array.replicate_zero, List.push_toArray, List.append_toArray, List.nil_append, List.cons_append]
    gi_wp2_with (refine ⟨trivial, ?_⟩; gi_at_call 108; refine (callsIn_wide.2 (K1 _)).mono ?_; rintro e w1 ⟨rfl, hb1⟩; obtain ⟨c0, c1, c2, c3, c4, c5, c6, c7⟩ := (hbW.below hb1 hBW).all0)
    have hJ1 := alloc_abides HJ.out H0.out hb1
    have HB1 := HB.out.trans (hb1.mono (by have := hW.size; omega))
    have HJ1 := Lib.hid hJ1
    clear c0 c1 c2 c3 c4 c5 c6 c7 a0 a1 a2 a3 a4 a5 a6 a7 hJ1
    gi_loopw [14] (fun ii wr => ∃ j : Nat, j ≤ its.length ∧ ii = .int .i64 j ∧ ∃ pre : List (Kid n₀ w (.mk k b i f t ty its fs)), Hid (pre.map Kid.sv = (itemKids its 0).take j) ∧ Hid (J pre wr) ∧ Below n₀ w wr) (fun ii _ => its.length - (intOf ii).toNat)
    case atStart => exact ⟨0, by omega, rfl, [], Lib.hid rfl, HJ1, HB1⟩
    case round =>
      clear hb1 HB1 HJ1
      obtain ⟨j, hj, rfl, pre, hpre, hJp, hbel⟩ := hrel
      by_cases h1 : j < its.length
      · obtain ⟨x, hx⟩ : ∃ x, its[j]? = some x := ⟨its[j], by simp [h1]⟩
        rcases HI.out with h0 | ⟨g, o, rfl, hg, hvs⟩
        · subst h0; simp at h1
        obtain ⟨csx, hcx, hvx⟩ := hvs.get hx
        have hcx := hcx.below hbel hg
        have hgr : g < wr.heap.size := Nat.lt_of_lt_of_le (Nat.lt_of_lt_of_le hg hn₀) hbel.size
        have hkid := itemKids_get its 0 j x hx
        rw [Nat.zero_add] at hkid
        have hisk := HMI.out (by simp) j _ hkid
        obtain ⟨xk, xb, xi, xf, xt, xty, xits, xfs⟩ := x
        have hvx0 := hvx
        obtain ⟨xp, xc, xq, xd, rfl, _, _, _, _⟩ := hvx
        obtain ⟨c0, c1, c2, c3, c4, c5, c6, c7⟩ := hcx.all
        have hlen : pre.length < (itemKids its 0).length := by
          have := congrArg List.length hpre.out
          rw [List.length_map, List.length_take] at this
          rw [itemKids_length] at this ⊢
          omega
        obtain ⟨W1, hW1⟩ : ∃ W1, wr.alloc (.cells (vcells xk xb xi xf xt xty xp xits.length xc xq xfs.length xd) 34) = W1 := ⟨_, rfl⟩
        have hb1 : Below wr.heap.size wr W1 := by rw [← hW1]; exact (Below.refl _ _).alloc (Nat.le_refl _) _
        obtain ⟨d0, d1, d2, d3, d4, d5, d6, d7⟩ := (show CellsAt W1 wr.heap.size 0 (vcells xk xb xi xf xt xty xp xits.length xc xq xfs.length xd) by rw [← hW1]; exact cellsAt_alloc _ _ _ _).all0
        have hJ1 := alloc_abides HJ.out hJp.out hb1
        obtain ⟨fn, tmps, assign, body, hy, hR⟩ := HY.out pre ⟨(⟨⟨#[]⟩, (j : Int), true⟩, .mk xk xb xi xf xt xty xits xfs, vcells xk xb xi xf xt xty xp xits.length xc xq xfs.length xd), hvx0, hisk⟩ W1 hJ1 hlen
        have HR := Lib.hid hR
        dsimp only [kidEnc, St.cells] at hy
        have HKID := Lib.hid hkid
        clear hR hvs hcx hkid hJ1 hx
        gi_wp2
        refine HR.out.mono ?_
        rintro e W3 (⟨rfl, hJ3, hk3⟩ | ⟨rfl, hJx3⟩)
        · have hbel3 := hbel.trans ((hb1.mono (by have := hbel.size; omega)).trans hk3)
          gi_wp2
          go_roundw
          case rel =>
            refine ⟨j + 1, by omega, by go_num, _, Lib.hid ?_, Lib.hid hJ3, hbel3⟩
            rw [List.map_append, hpre.out, List.take_add_one, HKID.out]
            simp [Kid.sv]
          case measure => simp [intOf]; omega
        · gi_wp2
          refine bodyPost_ret (results_none rfl _ _ _) rfl ?_
          refine ⟨⟨_, rfl⟩, .inr ⟨_, ?_, hJx3⟩⟩
          have h : (itemKids its 0).take (j + 1) <+: itemKids its 0 := List.take_prefix _ _
          rw [List.take_add_one, HKID.out, ← hpre.out] at h
          rw [List.map_append]
          simpa [Kid.sv] using h
      · have hall := hpre.out
        rw [List.take_of_length_le (by rw [itemKids_length]; omega)] at hall
        gi_wp2
        go_end0
        exact ⟨⟨_, rfl⟩, .inl ⟨_, hall, hJp.out⟩⟩
  · by_cases h6 : κ = 6
    · subst h6
      have HY := Lib.hid (by have := HY.out; rw [if_neg (by decide), if_pos rfl] at this; exact this)
      rw [if_neg (by decide), if_pos rfl]
      refine callsIn_of_wp Tryz.func109 rfl trivial ?_ rfl
      simp only [Tryz.ntmps109, List.size_toArray, List.length_cons, List.length_nil, Nat.reduceAdd, Nat.reduceSub, Array.replicate_succ, Array.replicate_zero, List.push_toArray, List.append_toArray, List.nil_append, List.cons_append]
      gi_wp2_with (refine ⟨trivial, ?_⟩; gi_at_call 108; refine (callsIn_wide.2 (K1 _)).mono ?_; rintro e w1 ⟨rfl, hb1⟩; obtain ⟨c0, c1, c2, c3, c4, c5, c6, c7⟩ := (hbW.below hb1 hBW).all0)
      have hJ1 := alloc_abides HJ.out H0.out hb1
      have HB1 := HB.out.trans (hb1.mono (by have := hW.size; omega))
      have HJ1 := Lib.hid hJ1
      clear c0 c1 c2 c3 c4 c5 c6 c7 a0 a1 a2 a3 a4 a5 a6 a7 hJ1
      gi_loopw [31] (fun ii wr => ∃ j : Nat, j ≤ fs.length ∧ ii = .int .i64 j ∧ ∃ pre : List (Kid n₀ w (.mk k b i f t ty its fs)), Hid (pre.map Kid.sv = (fieldKids fs).take j) ∧ Hid (J pre wr) ∧ Below n₀ w wr) (fun ii _ => fs.length - (intOf ii).toNat)
      case atStart => exact ⟨0, by omega, rfl, [], Lib.hid rfl, HJ1, HB1⟩
      case round =>
        clear hb1 HB1 HJ1
        obtain ⟨j, hj, rfl, pre, hpre, hJp, hbel⟩ := hrel
        by_cases h1 : j < fs.length
        · obtain ⟨x, hx⟩ : ∃ x, fs[j]? = some x := ⟨fs[j], by simp [h1]⟩
          rcases HF.out with h0 | ⟨g, o, rfl, hg, hvs⟩
          · subst h0; simp at h1
          obtain ⟨hnm, csx, hcx, hvx⟩ := hvs.get hx
          have hnm := (hbel.cell (p := ⟨g, _, none⟩) hg).trans hnm
          have hcx := hcx.below hbel hg
          have hgr : g < wr.heap.size := Nat.lt_of_lt_of_le (Nat.lt_of_lt_of_le hg hn₀) hbel.size
          have hkid := fieldKids_get fs j x hx
          have hisk := HMF.out (by simp) j _ hkid
          obtain ⟨xn, xk, xb, xi, xf, xt, xty, xits, xfs⟩ := x
          have hvx0 := hvx
          obtain ⟨xp, xc, xq, xd, rfl, _, _, _, _⟩ := hvx
          obtain ⟨c0, c1, c2, c3, c4, c5, c6, c7⟩ := hcx.all
          have hlen : pre.length < (fieldKids fs).length := by
            have := congrArg List.length hpre.out
            rw [List.length_map, List.length_take] at this
            simp only [fieldKids, List.length_map] at this ⊢
            omega
          obtain ⟨W1, hW1⟩ : ∃ W1, wr.alloc (.cells (mcells xn xk xb xi xf xt xty xp xits.length xc xq xfs.length xd) 58) = W1 := ⟨_, rfl⟩
          have hb1 : Below wr.heap.size wr W1 := by rw [← hW1]; exact (Below.refl _ _).alloc (Nat.le_refl _) _
          obtain ⟨d0, d1, d2, d3, d4, d5, d6, d7, d8⟩ := (show CellsAt W1 wr.heap.size 0 (mcells xn xk xb xi xf xt xty xp xits.length xc xq xfs.length xd) by rw [← hW1]; exact cellsAt_alloc _ _ _ _).all9
          have hJ1 := alloc_abides HJ.out hJp.out hb1
          obtain ⟨fn, tmps, assign, body, hy, hR⟩ := HY.out pre ⟨(⟨xn, 0, false⟩, .mk xk xb xi xf xt xty xits xfs, vcells xk xb xi xf xt xty xp xits.length xc xq xfs.length xd), hvx0, hisk⟩ W1 hJ1 hlen
          have HR := Lib.hid hR
          dsimp only [kidEnc, St.cells] at hy
          have HKID := Lib.hid hkid
          clear hR hvs hcx hkid hJ1 hx
          gi_wp2
          refine HR.out.mono ?_
          rintro e W3 (⟨rfl, hJ3, hk3⟩ | ⟨rfl, hJx3⟩)
          · have hbel3 := hbel.trans ((hb1.mono (by have := hbel.size; omega)).trans hk3)
            gi_wp2
            go_roundw
            case rel =>
              refine ⟨j + 1, by omega, by go_num, _, Lib.hid ?_, Lib.hid hJ3, hbel3⟩
              rw [List.map_append, hpre.out, List.take_add_one, HKID.out]
              simp [Kid.sv]
            case measure => simp [intOf]; omega
          · gi_wp2
            refine bodyPost_ret (results_none rfl _ _ _) rfl ?_
            refine ⟨⟨_, rfl⟩, .inr ⟨_, ?_, hJx3⟩⟩
            have h : (fieldKids fs).take (j + 1) <+: fieldKids fs := List.take_prefix _ _
            rw [List.take_add_one, HKID.out, ← hpre.out] at h
            rw [List.map_append]
            simpa [Kid.sv] using h
        · have hall := hpre.out
          rw [List.take_of_length_le (by simp only [fieldKids, List.length_map]; omega)] at hall
          gi_wp2
          go_end0
          exact ⟨⟨_, rfl⟩, .inl ⟨_, hall, hJp.out⟩⟩
    · have HY := Lib.hid (by have := HY.out; rw [if_neg h5, if_neg h6] at this; exact this)
      rw [if_neg h5, if_neg h6]
      refine callsIn_of_wp Tryz.func109 rfl trivial ?_ rfl
      simp only [Tryz.ntmps109, List.size_toArray, List.length_cons, List.length_nil, Nat.reduceAdd, Nat.reduceSub, Array.replicate_succ, Array.replicate_zero, List.push_toArray, List.append_toArray, List.nil_append, List.cons_append]
      gi_wp2_with (refine ⟨trivial, ?_⟩; gi_at_call 108; refine (callsIn_wide.2 (K1 _)).mono ?_; rintro e w1 ⟨rfl, hb1⟩; obtain ⟨c0, c1, c2, c3, c4, c5, c6, c7⟩ := (hbW.below hb1 hBW).all0)
      have hJ1 := alloc_abides HJ.out H0.out hb1
      go_end0
      exact ⟨⟨_, rfl⟩, .inl ⟨[], rfl, hJ1⟩⟩
end Go.Proofs.YtldjbgklmeigmaaGreatDoor
