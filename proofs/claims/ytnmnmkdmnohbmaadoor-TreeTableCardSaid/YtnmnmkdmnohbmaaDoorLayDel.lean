/- Helper text: slices.Delete of one element, of a row of the call's own: texts and numbers. Conditions: none. -/
import Derived.Test.YtnmnmkdmnohbmaaDoorPackD
import Derived.Shelf.Slices.Delete
namespace Go.Proofs.YtnmnmkdmnohbmaaDoor
open Go Go.RowKit Go.Sort Go.Lib

def delI_ren : Go.Shelf.Ren := ⟨fun | 23 => 104 | n => n, fun | 0 => 0 | 3 => 3 | 4 => 4 | 22 => 102 | n => n, fun | n => n⟩
theorem delI_lay : Go.Proofs.Lays2.n23 Tryd.prog delI_ren := {
  mixed := by kernel_rfl
  f23 := Tryd.func104.trans (congrArg some (by kernel_rfl))
  t0 := Tryd.underlying0
  a0 := Tryd.isAgg0
  z0 := Tryd.sizeOf0
  v0 := Tryd.zeroValue0
  t3 := Tryd.underlying3
  a3 := Tryd.isAgg3
  z3 := Tryd.sizeOf3
  v3 := Tryd.zeroValue3
  t4 := Tryd.underlying4
  a4 := Tryd.isAgg4
  z4 := Tryd.sizeOf4
  v4 := Tryd.zeroValue4
  t22 := Tryd.underlying102
  a22 := Tryd.isAgg102
  z22 := Tryd.sizeOf102
  v22 := Tryd.zeroValue102
  i3 := by kernel_rfl }
def delS_ren : Go.Shelf.Ren := ⟨fun | 24 => 103 | n => n, fun | 0 => 0 | 3 => 3 | 4 => 4 | 9 => 9 | 24 => 101 | n => n, fun | n => n⟩
theorem delS_lay : Go.Proofs.Lays2.n24 Tryd.prog delS_ren := {
  mixed := by kernel_rfl
  f24 := Tryd.func103.trans (congrArg some (by kernel_rfl))
  t0 := Tryd.underlying0
  a0 := Tryd.isAgg0
  z0 := Tryd.sizeOf0
  v0 := Tryd.zeroValue0
  t3 := Tryd.underlying3
  a3 := Tryd.isAgg3
  z3 := Tryd.sizeOf3
  v3 := Tryd.zeroValue3
  t4 := Tryd.underlying4
  a4 := Tryd.isAgg4
  z4 := Tryd.sizeOf4
  v4 := Tryd.zeroValue4
  t9 := Tryd.underlying9
  a9 := Tryd.isAgg9
  z9 := Tryd.sizeOf9
  v9 := Tryd.zeroValue9
  t24 := Tryd.underlying101
  a24 := Tryd.isAgg101
  z24 := Tryd.sizeOf101
  v24 := Tryd.zeroValue101
  i9 := by kernel_rfl }

theorem heap_mapBlock {w : World} {g : Nat} {f : Array Value → Array Value} {cur : Array Value} {T : TypeId} {fr : Nat × Nat} (h : w.heap[g]? = some (.cells cur T fr)) : (mapBlock w g f).heap[g]? = some (.cells (f cur) T fr) := by
  simp [mapBlock, Array.getElem?_modify, h, onCells]
theorem heap_mapBlock_other {w : World} {g k : Nat} {f : Array Value → Array Value} (h : k ≠ g) : (mapBlock w g f).heap[k]? = w.heap[k]? := by
  simp [mapBlock, Array.getElem?_modify, Ne.symm h]
/-- A row behind the taking out of one element. -/
theorem own_after {α : Type} [Inhabited α] (enc : α → Value) (d : α) {w : World} {q g cap i B : Nat} {T : TypeId} {cur : Array Value} {zs : List α} (hb : B ≤ g) (hg : w.heap[g]? = some (.cells cur T (0, 0))) (h1 : zs.length ≤ cap) (h2 : cap ≤ maxLen) (hs : cur.size = cap * 1) (hi : i < zs.length) :
    (putRow enc (Go.Sort.ahead w q) g 0 (zs.take i ++ zs.drop (i + 1) ++ List.replicate (i + 1 - i) d).toArray).ownsRow B T 1 (.slice (some ⟨g, 0, none⟩) (zs.length - (i + 1 - i)) cap) (zs.eraseIdx i).length ((zs.eraseIdx i).map enc) ∧
      w.grownBy (putRow enc (Go.Sort.ahead w q) g 0 (zs.take i ++ zs.drop (i + 1) ++ List.replicate (i + 1 - i) d).toArray) (some g) := by
  have hg' : (Go.Sort.ahead w q).heap[g]? = some (.cells cur T (0, 0)) := hg
  have hlen : (zs.eraseIdx i).length = zs.length - 1 := by rw [List.length_eraseIdx, if_pos hi]
  have e1 : i + 1 - i = 1 := by omega
  rw [e1]
  refine ⟨⟨by simp, .inr ⟨g, cap, _, by rw [hlen], hb, heap_mapBlock hg', by omega, h2, by simp [putCells, hs], ?_⟩⟩, ⟨rfl, rfl, rfl, by simp, fun k _ hk => (heap_mapBlock_other (fun e => hk (by rw [e]))).trans rfl⟩⟩
  apply List.ext_getElem?
  intro k
  rw [Nat.mul_one, List.getElem?_take]
  by_cases hk : k < (zs.eraseIdx i).length
  · rw [if_pos hk, Array.getElem?_toList, List.getElem?_map]
    have hkc : k < cur.size := by omega
    have hks : k < (zs.take i ++ zs.drop (i + 1) ++ List.replicate 1 d).length := by simp; omega
    have hpc : (putCells enc 0 (zs.take i ++ zs.drop (i + 1) ++ List.replicate 1 d).toArray cur)[k]? = some (enc ((zs.take i ++ zs.drop (i + 1) ++ List.replicate 1 d).toArray)[k]!) := by
      simp only [putCells, Array.getElem?_mapIdx, Array.getElem?_eq_getElem hkc, Option.map_some]
      rw [if_pos ⟨Nat.zero_le _, by simpa using hks⟩]
      rfl
    rw [hpc, getElem!_pos _ k (by simpa using hks), List.getElem?_eq_getElem hk]
    have : (zs.take i ++ zs.drop (i + 1) ++ List.replicate 1 d).toArray[k]'(by simpa using hks) = (zs.eraseIdx i)[k] := by
      have h3 : zs.eraseIdx i = zs.take i ++ zs.drop (i + 1) := List.eraseIdx_eq_take_drop_succ ..
      rw [List.getElem_toArray, List.getElem_append_left (by rw [← h3]; exact hk)]
      congr 1
      exact h3.symm
    rw [this]
    rfl
  · rw [if_neg hk, List.getElem?_eq_none (by simpa using hk)]

theorem del_strings {w : World} {B : Nat} {v : Value} {ks : List ByteArray} (h : w.ownsRow B 9 1 v ks.length (ks.map Value.string)) {i : Nat} (hi : i < ks.length) :
    Calls Tryd.prog 103 #[v, .int .i64 i, .int .i64 (i + 1)] w (fun e w' => ∃ v', e = .returned v' ∧ w'.ownsRow B 9 1 v' (ks.eraseIdx i).length ((ks.eraseIdx i).map Value.string) ∧ w.grownBy w' v.ownBlock ∧ v'.ownBlock = v.ownBlock) := by
  rcases h.2 with ⟨hv, h0⟩ | ⟨g, cap, cur, rfl, hb, hh, hn', hc, hs, ht⟩
  · omega
  have hzl : (ks.map (fun s => s.data.toList)).length = ks.length := by simp
  have hH : Holds encStr w g 0 (ks.map (fun s => s.data.toList)).toArray := by
    intro j hj
    have hj' : j < ks.length := by simpa using hj
    refine ⟨?_, by simp [World.frozen?, hh]⟩
    have hu : (ks.map Value.string)[j]? = some (.string ks[j]) := by simp [hj']
    rw [← ht, List.getElem?_take, if_pos (by omega)] at hu
    simp only [World.cell?, hh, Nat.zero_add, Option.isSome_none, Bool.false_eq_true, if_false]
    rw [getElem!_pos _ j hj, ← Array.getElem?_toList, hu]
    simp
  have hC := Any.slices_Delete_string (P := Tryd.prog) delS_lay g 0 cap i (i + 1) (ks.map (fun s => s.data.toList)) w hH (by omega) (by unfold maxLen at hc; omega) (by omega) (by omega)
  rw [hzl] at hC
  refine Calls.mono hC ?_
  rintro e w' ⟨rfl, q, rfl⟩
  obtain ⟨r1, r2⟩ := own_after (q := q) (B := B) encStr [] (zs := ks.map (fun s => s.data.toList)) hb hh (by omega) hc hs (by omega : i < (ks.map (fun s => s.data.toList)).length)
  have e1 : (ks.map (fun s => s.data.toList)).eraseIdx i = (ks.eraseIdx i).map (fun s => s.data.toList) := by rw [List.eraseIdx_eq_take_drop_succ, List.eraseIdx_eq_take_drop_succ, List.map_append, List.map_take, List.map_drop]
  have e2 : ((ks.eraseIdx i).map (fun s => s.data.toList)).map encStr = (ks.eraseIdx i).map Value.string := by
    rw [List.map_map]
    apply List.map_congr_left
    intro s _
    rfl
  rw [e1, e2, List.length_map, List.length_map] at r1
  exact ⟨_, rfl, r1, r2, rfl⟩
theorem del_ints {w : World} {B : Nat} {v : Value} {vs : List Int} (h : w.ownsInts B 3 .i64 v vs) {i : Nat} (hi : i < vs.length) :
    Calls Tryd.prog 104 #[v, .int .i64 i, .int .i64 (i + 1)] w (fun e w' => ∃ v', e = .returned v' ∧ w'.ownsInts B 3 .i64 v' (vs.eraseIdx i) ∧ w.grownBy w' v.ownBlock ∧ v'.ownBlock = v.ownBlock) := by
  have hr := h.1
  rcases hr.2 with ⟨hv, h0⟩ | ⟨g, cap, cur, rfl, hb, hh, hn', hc, hs, ht⟩
  · omega
  have hH : Holds encI w g 0 vs.toArray := by
    intro j hj
    have hj' : j < vs.length := by simpa using hj
    refine ⟨?_, by simp [World.frozen?, hh]⟩
    have hu : (vs.map (Value.int .i64))[j]? = some (.int .i64 vs[j]) := by simp [hj']
    rw [← ht, List.getElem?_take, if_pos (by omega)] at hu
    simp only [World.cell?, hh, Nat.zero_add, Option.isSome_none, Bool.false_eq_true, if_false]
    rw [getElem!_pos _ j hj, ← Array.getElem?_toList, hu]
    simp
  have hC := Any.slices_Delete_int (P := Tryd.prog) delI_lay g 0 cap i (i + 1) vs w hH (by omega) (by unfold maxLen at hc; omega) (by omega) (by omega)
  refine Calls.mono hC ?_
  rintro e w' ⟨rfl, q, rfl⟩
  obtain ⟨r1, r2⟩ := own_after (q := q) (B := B) encI 0 (zs := vs) hb hh (by omega) hc hs hi
  exact ⟨_, rfl, ⟨r1, fun x hx => h.2 x (List.mem_of_mem_eraseIdx hx)⟩, r2, rfl⟩
end Go.Proofs.YtnmnmkdmnohbmaaDoor
