/- Helper text: the reference's list of entries, an empty one too: GetRow, Put, Drop. Conditions: none. -/
import Derived.Test.YtnmnmkdmnohbmaaDoorPackD
namespace Go.Proofs.YtnmnmkdmnohbmaaDoor
open Go.RowKit Go.Maps
attribute [local go_sem] run_store_float

def rowsC (l : List (Int × Int)) : List Value := l.flatMap (fun r => [.int .i64 r.1, .int .i64 r.2])

theorem rowsC_length (l : List (Int × Int)) : (rowsC l).length = l.length * 2 := by
  induction l with
  | nil => rfl
  | cons a r ih => simp only [rowsC, List.flatMap_cons, List.length_append, List.length_cons, List.length_nil] at ih ⊢; omega

theorem rowsC_at : ∀ (l : List (Int × Int)) (j : Nat) (r : Int × Int), l[j]? = some r → (rowsC l)[j * 2]? = some (.int .i64 r.1) ∧ (rowsC l)[j * 2 + 1]? = some (.int .i64 r.2)
  | [], _, _, h => by simp at h
  | a :: t, 0, r, h => by
    obtain rfl : a = r := by simpa using h
    exact ⟨rfl, rfl⟩
  | a :: t, j + 1, r, h => by
    have := rowsC_at t j r (by simpa using h)
    rw [show (j + 1) * 2 = j * 2 + 2 by omega]
    exact this

/-- The entries' cells, of an empty list too. -/
theorem rows_cells2 {w : World} {B : Nat} {v : Value} {l : List (Int × Int)} (h : w.ownsRow B 60 2 v l.length (rowsC l)) :
    ∃ p cap, v = .slice p l.length cap ∧ ∀ j r, l[j]? = some r → ∃ g, p = some ⟨g, 0, none⟩ ∧ g < w.heap.size ∧ w.cell? ⟨g, j * 2, none⟩ = some (.int .i64 r.1) ∧ w.cell? ⟨g, j * 2 + 1, none⟩ = some (.int .i64 r.2) := by
  rcases h.2 with ⟨hv, h0⟩ | ⟨g, cap, cur, hv, hb, hh, hn', hc, hs, ht⟩
  · exact ⟨none, 0, by rw [hv, h0], fun j r hr => by have := (List.getElem?_eq_some_iff.1 hr).1; omega⟩
  · have at' : ∀ i u, (rowsC l)[i]? = some u → w.cell? ⟨g, i, none⟩ = some u := fun i u hu => by
      rw [← ht, List.getElem?_take] at hu
      split at hu
      · simp only [World.cell?, hh]
        simpa using hu
      · cases hu
    exact ⟨_, cap, hv, fun j r hr => ⟨g, rfl, (Array.getElem?_eq_some_iff.1 hh).1, at' _ _ (rowsC_at l j r hr).1, at' _ _ (rowsC_at l j r hr).2⟩⟩
/-- The value of a key among entries. -/
def getR (l : List (Int × Int)) (k : Int) : Int := ((l.find? (fun r => r.1 == k)).map (·.2)).getD 0
theorem getR_hit {l : List (Int × Int)} {k v : Int} {j : Nat} (hr : l[j]? = some (k, v)) (hno : ∀ r ∈ l.take j, (r.1 == k) = false) : getR l k = v := by
  have e : l = l.take j ++ ((k, v) :: l.drop (j + 1)) := by
    conv => lhs; rw [← List.take_append_drop j l]
    rw [List.drop_eq_getElem?_toList_append, hr]
    rfl
  unfold getR
  rw [e, List.find?_append, List.find?_eq_none.2 (fun r hr => by simpa using hno r hr)]
  simp
theorem getR_miss {l : List (Int × Int)} {k : Int} (h : l.any (fun r => r.1 == k) = false) : getR l k = 0 := by
  unfold getR
  rw [List.find?_eq_none.2 (fun r hr => by rw [List.any_eq_false] at h; simpa using h r hr)]
  rfl

set_option maxRecDepth 100000 in
set_option maxHeartbeats 2000000 in
theorem getRow_any {w : World} {B : Nat} {v : Value} {l : List (Int × Int)} (h : w.ownsRow B 60 2 v l.length (rowsC l)) (few : l.length < 8796093022207) (k : Int) :
    Calls Tryd.prog 65 #[v, .int .i64 k] w (fun e w' => e = .returned (.tuple #[.int .i64 (getR l k), .bool (l.any (fun r => r.1 == k))]) ∧ w = w') := by
  obtain ⟨p, cap, rfl, hcs⟩ := rows_cells2 h
  have HC := Lib.hid hcs
  clear hcs h
  generalize hn : l.length = n at *
  have HN := Lib.hid hn
  clear hn
  go_enter Tryd.func65, Tryd.ntmps65
  go_upto_region 2 with (fail)
  go_loopw [6] (fun ii wr => ∃ j : Nat, j ≤ n ∧ ii = .int .i64 j ∧ w = wr ∧ Hid (∀ r ∈ l.take j, (r.1 == k) = false)) (fun ii _ => n - (intOf ii).toNat)
  case atStart => exact ⟨0, by omega, rfl, rfl, Lib.hid (by simp)⟩
  case round =>
    obtain ⟨j, hj, rfl, rfl, hno⟩ := hrel
    by_cases h1 : j < n
    · obtain ⟨r, hr⟩ : ∃ r, l[j]? = some r := ⟨_, List.getElem?_eq_getElem (by have := HN.out; omega)⟩
      obtain ⟨g, rfl, hg, q0, q1⟩ := HC.out j r hr
      obtain ⟨rk, rv⟩ := r
      have HR := Lib.hid hr
      clear hr
      by_cases hk : rk = k
      · subst hk
        go_wp2_with fail
        go_ret2
        refine ⟨?_, rfl⟩
        have : l.any (fun r => r.1 == rk) = true := List.any_eq_true.2 ⟨_, List.mem_of_getElem? HR.out, by simp⟩
        rw [this, getR_hit HR.out hno.out]
        rfl
      · go_wp2_with fail
        go_roundw
        case rel =>
          refine ⟨j + 1, by omega, by go_num, by first | rfl | trivial, Lib.hid (fun r hr => ?_)⟩
          rw [List.take_add_one, HR.out] at hr
          rcases List.mem_append.1 hr with hr | hr
          · exact hno.out r hr
          · obtain rfl : r = (rk, rv) := by simpa using hr
            simpa using hk
        case measure => simp [intOf]; omega
    · have hall : l.any (fun r => r.1 == k) = false := by
        rw [List.any_eq_false]
        intro r hr
        have := hno.out r (by rw [List.take_of_length_le (by have := HN.out; omega)]; exact hr)
        simpa using this
      have HA := Lib.hid hall
      go_wp2_with fail
      go_ret2
      exact ⟨by rw [HA.out, getR_miss HA.out]; rfl, rfl⟩

def updR (k v : Int) (r : Int × Int) : Int × Int := if r.1 = k then (r.1, v) else r
def putR (l : List (Int × Int)) (k v : Int) : List (Int × Int) := l.map (updR k v) ++ (if l.any (fun r => r.1 == k) then [] else [(k, v)])

def dropR (l : List (Int × Int)) (k : Int) : List (Int × Int) := l.filter (fun r => !(r.1 == k))
theorem dropR_lt (l : List (Int × Int)) (k : Int) : decide ((dropR l k).length < l.length) = l.any (fun r => r.1 == k) := by
  have h : l.any (fun r => r.1 == k) = true ↔ (dropR l k).length < l.length := by
    unfold dropR
    rw [List.length_filter_lt_length_iff_exists, List.any_eq_true]
    simp
  rw [Bool.eq_iff_iff, decide_eq_true_eq, h]

set_option maxRecDepth 100000 in
set_option maxHeartbeats 4000000 in
theorem rPut2_any {w : World} {B : Nat} {lv : Value} {l : List (Int × Int)} (h : w.ownsRow B 60 2 lv l.length (rowsC l)) (few : l.length < 8796093022207) (k v : Int) :
    Calls Tryd.prog 63 #[lv, .int .i64 k, .int .i64 v] w (fun e w' => ∃ v', e = .returned (.tuple #[v', .bool (!l.any (fun r => r.1 == k))]) ∧ w'.ownsRow w.heap.size 60 2 v' (putR l k v).length (rowsC (putR l k v)) ∧ Below w.heap.size w w') := by
  obtain ⟨p, cap, rfl, hcs⟩ := rows_cells2 h
  have HC := Lib.hid hcs
  clear hcs h
  generalize hn : l.length = n at *
  have HN := Lib.hid hn
  clear hn
  go_enter Tryd.func63, Tryd.ntmps63
  go_upto_region 4 with (fail)
  go_loopw [8, 9, 10] (fun s8 s9 ii wr => ∃ j : Nat, j ≤ n ∧ ii = .int .i64 j ∧ Hid (wr.ownsRow w.heap.size 60 2 s8 j (rowsC ((l.take j).map (updR k v)))) ∧ s9 = .bool ((l.take j).any (fun r => r.1 == k)) ∧ Below w.heap.size w wr) (fun _ _ ii _ => n - (intOf ii).toNat)
  case atStart => exact ⟨0, by omega, rfl, Lib.hid (World.ownsRow_nil _ _ _ _), by simp, Below.refl _ _⟩
  case round =>
    obtain ⟨j, hj, rfl, HO, rfl, hbel⟩ := hrel
    generalize hhb : (l.take j).any (fun r => r.1 == k) = hb
    have hh := Lib.hid hhb
    clear hhb
    by_cases h1 : j < n
    · obtain ⟨r, hr⟩ : ∃ r, l[j]? = some r := ⟨_, List.getElem?_eq_getElem (by have := HN.out; omega)⟩
      obtain ⟨g, rfl, hg, q0, q1⟩ := HC.out j r hr
      obtain ⟨rk, rv⟩ := r
      have q0 := (hbel.cell (p := ⟨g, j * 2, none⟩) hg).trans q0
      have q1 := (hbel.cell (p := ⟨g, j * 2 + 1, none⟩) hg).trans q1
      have hgr0 : g < wr.heap.size := Nat.lt_of_lt_of_le hg hbel.size
      have HR := Lib.hid hr
      clear hr
      by_cases hk : rk = k
      · subst hk
        go_upto_region 10 with (fail)
        go_step
        iterate 3
          refine wpList_plain rfl (fun K hK => ?_)
          go_step
          refine hK _ _ ?_
          clear hK K
        have hbW : Below wr.heap.size wr ((wr.alloc (.cells #[.int .i64 rk, .int .i64 v] 60)).alloc (.cells #[.int .i64 rk, .int .i64 v] 60)) := ((Below.refl _ _).alloc (Nat.le_refl _) _).alloc (by simp) _
        have hcW : CellsAt ((wr.alloc (.cells #[.int .i64 rk, .int .i64 v] 60)).alloc (.cells #[.int .i64 rk, .int .i64 v] 60)) (wr.heap.size + 1) 0 #[.int .i64 rk, .int .i64 v] := by have := cellsAt_alloc (wr.alloc (.cells #[.int .i64 rk, .int .i64 v] 60)) #[.int .i64 rk, .int .i64 v] 60 (0, 0); rwa [World.size_alloc] at this
        obtain ⟨W1, hW1⟩ : ∃ W1, (wr.alloc (.cells #[.int .i64 rk, .int .i64 v] 60)).alloc (.cells #[.int .i64 rk, .int .i64 v] 60) = W1 := ⟨_, rfl⟩
        rw [hW1] at hbW hcW
        have e := hW1
        clear hW1
        rw [e]
        clear e
        have HO1 := HO.out.kept (grown_of_below hbW none) (by cases u8.ownBlock <;> simp)
        refine wpList_plain rfl (fun K hK => ?_)
        refine wp_append_x (P := Tryd.prog) W1 (.tmp 28) (.tmp 30) 61 rfl w.heap.size 60 (.agg #[.int .i64 0, .int .i64 0]) 2 16 Tryd.underlying61 (by kernel_rfl) rfl (by decide) u8 j _ rfl HO1 ⟨wr.heap.size + 1, 0, none⟩ 1 1 [.int .i64 rk, .int .i64 v] rfl (by decide) rfl ?c1 ?c2 ?c3 ?c4 ?c5 ?_
        case c1 =>
          intro m u hu
          have := hcW m u (by simpa using hu)
          rw [addr_add]
          exact this
        case c2 => intro u hu; simp at hu; rcases hu with rfl | rfl <;> rfl
        case c3 => unfold maxLen; omega
        case c4 => omega
        case c5 => have := hbW.size; have := hbel.size; omega
        intro ov' w2 hov hgr hloc
        have hbel2 : Below w.heap.size w w2 := (hbel.trans (hbW.mono hbel.size)).grown hgr (by have := hbW.size; have := hbel.size; omega) (fun y hy => (HO1.lt y hy).1)
        have hov2 : w2.ownsRow w.heap.size 60 2 ov' (j + 1) (rowsC ((l.take (j + 1)).map (updR rk v))) := by
          rw [List.take_add_one, HR.out, List.map_append]
          have e : updR rk v (rk, rv) = (rk, v) := by simp [updR]
          simpa [rowsC, e] using hov
        have HO2 := Lib.hid hov2
        refine hK _ _ ?_
        clear hK K hov hov2 hgr hloc hcW HO1
        go_wp2
        go_roundw
        case rel => exact ⟨j + 1, by omega, by go_num, HO2, by first | rfl | (rw [List.take_add_one, HR.out]; simp [hh.out]) | (rw [List.take_add_one, HR.out]; simp), hbel2⟩
        case measure => simp [intOf]; omega
      · skip
        go_upto_region 10 with (fail)
        go_step
        iterate 3
          refine wpList_plain rfl (fun K hK => ?_)
          go_step
          refine hK _ _ ?_
          clear hK K
        have hbW : Below wr.heap.size wr ((wr.alloc (.cells #[.int .i64 rk, .int .i64 rv] 60)).alloc (.cells #[.int .i64 rk, .int .i64 rv] 60)) := ((Below.refl _ _).alloc (Nat.le_refl _) _).alloc (by simp) _
        have hcW : CellsAt ((wr.alloc (.cells #[.int .i64 rk, .int .i64 rv] 60)).alloc (.cells #[.int .i64 rk, .int .i64 rv] 60)) (wr.heap.size + 1) 0 #[.int .i64 rk, .int .i64 rv] := by have := cellsAt_alloc (wr.alloc (.cells #[.int .i64 rk, .int .i64 rv] 60)) #[.int .i64 rk, .int .i64 rv] 60 (0, 0); rwa [World.size_alloc] at this
        obtain ⟨W1, hW1⟩ : ∃ W1, (wr.alloc (.cells #[.int .i64 rk, .int .i64 rv] 60)).alloc (.cells #[.int .i64 rk, .int .i64 rv] 60) = W1 := ⟨_, rfl⟩
        rw [hW1] at hbW hcW
        have e := hW1
        clear hW1
        rw [e]
        clear e
        have HO1 := HO.out.kept (grown_of_below hbW none) (by cases u8.ownBlock <;> simp)
        refine wpList_plain rfl (fun K hK => ?_)
        refine wp_append_x (P := Tryd.prog) W1 (.tmp 28) (.tmp 30) 61 rfl w.heap.size 60 (.agg #[.int .i64 0, .int .i64 0]) 2 16 Tryd.underlying61 (by kernel_rfl) rfl (by decide) u8 j _ rfl HO1 ⟨wr.heap.size + 1, 0, none⟩ 1 1 [.int .i64 rk, .int .i64 rv] rfl (by decide) rfl ?c1 ?c2 ?c3 ?c4 ?c5 ?_
        case c1 =>
          intro m u hu
          have := hcW m u (by simpa using hu)
          rw [addr_add]
          exact this
        case c2 => intro u hu; simp at hu; rcases hu with rfl | rfl <;> rfl
        case c3 => unfold maxLen; omega
        case c4 => omega
        case c5 => have := hbW.size; have := hbel.size; omega
        intro ov' w2 hov hgr hloc
        have hbel2 : Below w.heap.size w w2 := (hbel.trans (hbW.mono hbel.size)).grown hgr (by have := hbW.size; have := hbel.size; omega) (fun y hy => (HO1.lt y hy).1)
        have hov2 : w2.ownsRow w.heap.size 60 2 ov' (j + 1) (rowsC ((l.take (j + 1)).map (updR k v))) := by
          rw [List.take_add_one, HR.out, List.map_append]
          have e : updR k v (rk, rv) = (rk, rv) := by simp [updR, hk]
          simpa [rowsC, e] using hov
        have HO2 := Lib.hid hov2
        refine hK _ _ ?_
        clear hK K hov hov2 hgr hloc hcW HO1
        go_wp2
        go_roundw
        case rel => exact ⟨j + 1, by omega, by go_num, HO2, by first | rfl | (rw [List.take_add_one, HR.out]; simp [hk, hh.out]) | (rw [List.take_add_one, HR.out]; simp [hk]), hbel2⟩
        case measure => simp [intOf]; omega
    · have hjn : j = n := by omega
      have hOl := HO.out
      have hhl := hh.out
      rw [List.take_of_length_le (by have := HN.out; omega)] at hOl hhl
      have HOL := Lib.hid hOl
      have HHL := Lib.hid hhl
      clear hOl hhl HO hh
      cases hb
      · go_upto_region 12 with (fail)
        go_step
        iterate 5
          refine wpList_plain rfl (fun K hK => ?_)
          go_step
          refine hK _ _ ?_
          clear hK K
        have hbW : Below wr.heap.size wr (wr.alloc (.cells #[.int .i64 k, .int .i64 v] 60)) := (Below.refl _ _).alloc (Nat.le_refl _) _
        have hcW := cellsAt_alloc wr #[.int .i64 k, .int .i64 v] 60 (0, 0)
        obtain ⟨W1, hW1⟩ : ∃ W1, wr.alloc (.cells #[.int .i64 k, .int .i64 v] 60) = W1 := ⟨_, rfl⟩
        rw [hW1] at hbW hcW
        have e := hW1
        clear hW1
        rw [e]
        clear e
        have HO1 := HOL.out.kept (grown_of_below hbW none) (by cases u8.ownBlock <;> simp)
        refine wpList_plain rfl (fun K hK => ?_)
        refine wp_append_x (P := Tryd.prog) W1 (.tmp 34) (.tmp 38) 61 rfl w.heap.size 60 (.agg #[.int .i64 0, .int .i64 0]) 2 16 Tryd.underlying61 (by kernel_rfl) rfl (by decide) u8 j _ rfl HO1 ⟨wr.heap.size, 0, none⟩ 1 1 [.int .i64 k, .int .i64 v] rfl (by decide) rfl ?c1 ?c2 ?c3 ?c4 ?c5 ?_
        case c1 =>
          intro m u hu
          have := hcW m u (by simpa using hu)
          rw [addr_add]
          exact this
        case c2 => intro u hu; simp at hu; rcases hu with rfl | rfl <;> rfl
        case c3 => unfold maxLen; omega
        case c4 => omega
        case c5 => have := hbW.size; have := hbel.size; omega
        intro ov' w2 hov hgr hloc
        have hbel2 : Below w.heap.size w w2 := (hbel.trans (hbW.mono hbel.size)).grown hgr (by have := hbW.size; have := hbel.size; omega) (fun y hy => (HO1.lt y hy).1)
        have hfin : w2.ownsRow w.heap.size 60 2 ov' (putR l k v).length (rowsC (putR l k v)) := by
          have e : putR l k v = l.map (updR k v) ++ [(k, v)] := by simp [putR, HHL.out]
          rw [e, List.length_append, List.length_map, HN.out, ← hjn]
          simpa [rowsC] using hov
        have HF := Lib.hid hfin
        refine hK _ _ ?_
        clear hK K hov hfin hgr hloc hcW HO1
        go_wp2_with fail
        go_ret2
        exact ⟨ov', by rw [HHL.out]; rfl, HF.out, hbel2⟩
      · have hfin : wr.ownsRow w.heap.size 60 2 u8 (putR l k v).length (rowsC (putR l k v)) := by
          have e : putR l k v = l.map (updR k v) := by simp [putR, HHL.out]
          rw [e, List.length_map, HN.out, ← hjn]
          exact HOL.out
        have HF := Lib.hid hfin
        clear hfin
        go_wp2_with fail
        go_ret2
        exact ⟨u8, by rw [HHL.out]; rfl, HF.out, hbel⟩

set_option maxRecDepth 100000 in
set_option maxHeartbeats 4000000 in
theorem rDrop_any {w : World} {B : Nat} {lv : Value} {l : List (Int × Int)} (h : w.ownsRow B 60 2 lv l.length (rowsC l)) (few : l.length < 8796093022207) (k : Int) :
    Calls Tryd.prog 67 #[lv, .int .i64 k] w (fun e w' => ∃ v', e = .returned (.tuple #[v', .bool (l.any (fun r => r.1 == k))]) ∧ w'.ownsRow w.heap.size 60 2 v' (dropR l k).length (rowsC (dropR l k)) ∧ Below w.heap.size w w') := by
  obtain ⟨p, cap, rfl, hcs⟩ := rows_cells2 h
  have HC := Lib.hid hcs
  clear hcs h
  generalize hn : l.length = n at *
  have HN := Lib.hid hn
  clear hn
  go_enter Tryd.func67, Tryd.ntmps67
  go_upto_region 3 with (fail)
  go_loopw [6, 7] (fun s8 ii wr => ∃ j : Nat, j ≤ n ∧ ii = .int .i64 j ∧ Hid (wr.ownsRow w.heap.size 60 2 s8 (dropR (l.take j) k).length (rowsC (dropR (l.take j) k))) ∧ Below w.heap.size w wr) (fun _ ii _ => n - (intOf ii).toNat)
  case atStart => exact ⟨0, by omega, rfl, Lib.hid (World.ownsRow_nil _ _ _ _), Below.refl _ _⟩
  case round =>
    obtain ⟨j, hj, rfl, HO, hbel⟩ := hrel
    have hdl : (dropR (l.take j) k).length ≤ j := Nat.le_trans (List.length_filter_le _ _) (List.length_take_le _ _)
    by_cases h1 : j < n
    · obtain ⟨r, hr⟩ : ∃ r, l[j]? = some r := ⟨_, List.getElem?_eq_getElem (by have := HN.out; omega)⟩
      obtain ⟨g, rfl, hg, q0, q1⟩ := HC.out j r hr
      obtain ⟨rk, rv⟩ := r
      have q0 := (hbel.cell (p := ⟨g, j * 2, none⟩) hg).trans q0
      have q1 := (hbel.cell (p := ⟨g, j * 2 + 1, none⟩) hg).trans q1
      have hgr0 : g < wr.heap.size := Nat.lt_of_lt_of_le hg hbel.size
      have HR := Lib.hid hr
      clear hr
      by_cases hk : rk = k
      · subst hk
        have HO2 : Hid (wr.ownsRow w.heap.size 60 2 u6 (dropR (l.take (j + 1)) rk).length (rowsC (dropR (l.take (j + 1)) rk))) := Lib.hid (by
          have e : dropR (l.take (j + 1)) rk = dropR (l.take j) rk := by simp [dropR, List.take_add_one, HR.out]
          rw [e]
          exact HO.out)
        clear HO
        go_wp2_with fail
        go_roundw
        case rel => exact ⟨j + 1, by omega, by go_num, HO2, hbel⟩
        case measure => simp [intOf]; omega
      · have e1 : dropR (l.take (j + 1)) k = dropR (l.take j) k ++ [(rk, rv)] := by simp [dropR, List.take_add_one, HR.out, hk]
        have E1 := Lib.hid e1
        clear e1
        generalize hm : dropR (l.take j) k = m at *
        have HM := Lib.hid hm
        clear hm
        go_upto_region 6 with (fail)
        go_step
        iterate 6
          refine wpList_plain rfl (fun K hK => ?_)
          go_step
          refine hK _ _ ?_
          clear hK K
        have hbW : Below wr.heap.size wr (wr.alloc (.cells #[.int .i64 rk, .int .i64 rv] 60)) := (Below.refl _ _).alloc (Nat.le_refl _) _
        have hcW := cellsAt_alloc wr #[.int .i64 rk, .int .i64 rv] 60 (0, 0)
        obtain ⟨W1, hW1⟩ : ∃ W1, wr.alloc (.cells #[.int .i64 rk, .int .i64 rv] 60) = W1 := ⟨_, rfl⟩
        rw [hW1] at hbW hcW
        have e := hW1
        clear hW1
        rw [e]
        clear e
        have HO1 := HO.out.kept (grown_of_below hbW none) (by cases u6.ownBlock <;> simp)
        refine wpList_plain rfl (fun K hK => ?_)
        refine wp_append_x (P := Tryd.prog) W1 (.tmp 21) (.tmp 26) 61 rfl w.heap.size 60 (.agg #[.int .i64 0, .int .i64 0]) 2 16 Tryd.underlying61 (by kernel_rfl) rfl (by decide) u6 m.length _ rfl HO1 ⟨wr.heap.size, 0, none⟩ 1 1 [.int .i64 rk, .int .i64 rv] rfl (by decide) rfl ?c1 ?c2 ?c3 ?c4 ?c5 ?_
        case c1 =>
          intro m u hu
          have := hcW m u (by simpa using hu)
          rw [addr_add]
          exact this
        case c2 => intro u hu; simp at hu; rcases hu with rfl | rfl <;> rfl
        case c3 => unfold maxLen; omega
        case c4 => omega
        case c5 => have := hbW.size; have := hbel.size; omega
        intro ov' w2 hov hgr hloc
        have hbel2 : Below w.heap.size w w2 := (hbel.trans (hbW.mono hbel.size)).grown hgr (by have := hbW.size; have := hbel.size; omega) (fun y hy => (HO1.lt y hy).1)
        have hov2 : w2.ownsRow w.heap.size 60 2 ov' (dropR (l.take (j + 1)) k).length (rowsC (dropR (l.take (j + 1)) k)) := by
          rw [E1.out, List.length_append]
          simpa [rowsC] using hov
        have HO2 := Lib.hid hov2
        refine hK _ _ ?_
        clear hK K hov hov2 hgr hloc hcW HO1 E1 HM
        go_wp2
        go_roundw
        case rel => exact ⟨j + 1, by omega, by go_num, HO2, hbel2⟩
        case measure => simp [intOf]; omega
    · have hjn : j = n := by omega
      have hOl := HO.out
      rw [List.take_of_length_le (by have := HN.out; omega)] at hOl hdl
      have HOL := Lib.hid hOl
      obtain ⟨pv, cv, rfl⟩ := row_slice hOl
      have HD := Lib.hid (show decide ((dropR l k).length < n) = l.any (fun r => r.1 == k) from by
        rw [← HN.out]
        exact dropR_lt l k)
      clear hOl HO
      generalize hm : (dropR l k).length = m at *
      have HMM := Lib.hid hm
      clear hm
      go_wp2_with fail
      go_ret2
      exact ⟨_, by rw [← HD.out]; rfl, by rw [HMM.out]; exact HOL.out, hbel⟩

end Go.Proofs.YtnmnmkdmnohbmaaDoor
