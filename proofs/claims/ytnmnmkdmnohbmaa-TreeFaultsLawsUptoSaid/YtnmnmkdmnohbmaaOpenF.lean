/- Lists of faults as arguments, opened; how long they are. Conditions: none. -/
import Derived.Test.YtnmnmkdmnohbmaaOpen
import Derived.Test.YtnmnmkdmnohbmaaTreeFaults
import Derived.Test.YtnmnmkdmnohbmaaRows
import Derived.Deep.Strs
namespace Go.Proofs.Ytnmnmkdmnohbmaa
open Go.RowKit Go.Deep Go.ChangeShapes

theorem bulk_pos {H : Type} (d : DataW H) : 1 ≤ Rows.uptoBulk d := by
  match d with
  | .lit x => cases x <;> simp [Rows.uptoBulk]
  | .nil | .ptr _ | .slice _ _ | .agg _ | .iface _ _ | .map _ | .held _ => simp [Rows.uptoBulk]
theorem bulk_len {H : Type} (ds : List (DataW H)) : ds.length ≤ Rows.uptoBulkAll ds := by
  induction ds with
  | nil => simp [Rows.uptoBulkAll]
  | cons d r ih => have := bulk_pos d; simp only [Rows.uptoBulkAll, List.length_cons]; omega
theorem bulk_mem {H : Type} {d : DataW H} {ds : List (DataW H)} (h : d ∈ ds) : Rows.uptoBulk d ≤ Rows.uptoBulkAll ds := by
  induction ds with
  | nil => simp at h
  | cons e r ih =>
    simp only [Rows.uptoBulkAll]
    rcases List.mem_cons.1 h with rfl | h
    · omega
    · have := ih h; omega

section
variable {H : Type} {enc : TypeId × Value → H} {w : World} {base : Nat} {spare : Nat → Bool} {held : Bool}

theorem open_list {α : Type} [Inhabited α] {t e : TypeId} (k N : Nat) (R : List Value → α → Prop) (ht : Try.prog.underlying t = some (.slice e)) (hk : Try.prog.cellsOf e = k) (h0k : 0 < k)
    (hel : ∀ n cs' y, DataW.trod enc Try.prog w base spare held n e cs' = some y → Rows.uptoBulk y.1 ≤ N → ∃ s, R cs' s)
    {fuel : Nat} {cs : List Value} {x : DataW H × List MemPlace} (h : DataW.trod enc Try.prog w base spare held fuel t cs = some x) (hN : Rows.uptoBulk x.1 ≤ N) :
    ∃ (p : Option Addr) (l : List α) (c : Nat), cs = [.slice p l.length c] ∧ l.length ≤ c ∧ c ≤ maxLen ∧ l.length ≤ Rows.uptoBulk x.1 ∧
      (l = [] ∨ ∃ b o, p = some ⟨b, o, none⟩ ∧ b < w.heap.size ∧ ∀ i s, l[i]? = some s → ∃ cs', cs'.length = k ∧ R cs' s ∧ ∀ j v, cs'[j]? = some v → w.cell? ⟨b, o + i * k + j, none⟩ = some v) := by
  rcases open_slice ht h with ⟨rfl, _⟩ | ⟨a, len, cap, m, n, D, Pl, rfl, hb, hl, hm, hmm, hx1, hx⟩
  · exact ⟨none, [], 0, rfl, Nat.le_refl _, by decide, Nat.zero_le _, .inl rfl⟩
  · rw [hk] at hx
    have hlm : len ≤ m := by rw [hmm]; split <;> omega
    have hlb : len ≤ Rows.uptoBulk x.1 := by
      rw [hx1]
      simp only [Rows.uptoBulk]
      have := bulk_len ((List.range len).map D)
      simp only [List.length_map, List.length_range] at this
      omega
    have hD : ∀ i, i < len → Rows.uptoBulk (D i) ≤ N := fun i hi => by
      refine Nat.le_trans ?_ hN
      rw [hx1]
      simp only [Rows.uptoBulk]
      have := bulk_mem (d := D i) (ds := (List.range len).map D) (List.mem_map.2 ⟨i, by simpa using hi, rfl⟩)
      omega
    obtain ⟨f, hf⟩ := choose_lt (α := α) (n := len) (p := fun i s => ∃ cs', w.cells? base (a.add (i * k)) k = some cs' ∧ R cs' s) (fun i hi => by
      obtain ⟨cs', h1, h2⟩ := hx i (by omega)
      obtain ⟨s, hs⟩ := hel _ _ _ h2 (hD i hi)
      exact ⟨s, cs', h1, hs⟩)
    refine ⟨some a, (List.range len).map f, cap, by simp, by simpa using hl, hm, by simpa using hlb, ?_⟩
    by_cases h0 : len = 0
    · exact .inl (by simp [h0])
    · obtain ⟨cs0, hc0, _⟩ := hf 0 (by omega)
      obtain ⟨_, hlen0, hcell0⟩ := World.cells?_some hc0
      obtain ⟨v0, hv0⟩ : ∃ v, cs0[0]? = some v := ⟨cs0[0]'(by omega), by simp⟩
      have h00 := (hcell0 0 h0k)
      rw [hv0] at h00
      have hs : a.spot = none := by simpa [Addr.add] using World.cell?_spot h00
      have hlt : a.block < w.heap.size := by simpa [Addr.add] using World.block_lt_of_cell? w _ h00
      obtain ⟨b, o, sp⟩ := a
      obtain rfl : sp = none := hs
      refine .inr ⟨b, o, rfl, hlt, fun i s hs => ?_⟩
      have hi : i < len := by
        have := (List.getElem?_eq_some_iff.1 hs).1
        simpa using this
      obtain rfl : f i = s := by simpa [hi] using hs
      obtain ⟨cs', hc', hR⟩ := hf i hi
      obtain ⟨_, hlen', hcell'⟩ := World.cells?_some hc'
      refine ⟨cs', hlen', hR, fun j v hj => ?_⟩
      have hjk : j < k := by
        have := (List.getElem?_eq_some_iff.1 hj).1
        omega
      have hc := hcell' j hjk
      rw [hj] at hc
      have e0 : (((⟨b, o, none⟩ : Addr).add (i * k)).add j) = ⟨b, o + i * k + j, none⟩ := by unfold Addr.add; by_cases hz : i * k = 0 <;> by_cases hy : j = 0 <;> simp [hz, hy]
      rw [e0] at hc
      exact hc

set_option maxRecDepth 100000 in
theorem open_place {fuel : Nat} {cs : List Value} {x : DataW H × List MemPlace} (h : DataW.trod enc Try.prog w base spare held fuel 88 cs = some x) : ∃ s : Int × Int, cs = [.int .i64 s.1, .int .i64 s.2] := by
  obtain ⟨y0, y1, n, rfl, hlen, f0, f1⟩ := trod_struct2 Try.underlying88 h
  have hc : Try.prog.cellsOf 88 = 2 := by kernel_rfl
  have h2 : Try.prog.cellsOf 3 = 1 := by kernel_rfl
  rw [hc] at hlen
  obtain ⟨a, b, rfl⟩ : ∃ a b, cs = [a, b] := by
    clear f0 f1 h
    match cs, hlen with
    | [a, b], _ => exact ⟨a, b, rfl⟩
  simp [h2] at f0 f1
  obtain ⟨i, e0, _, _⟩ := DataW.trod_int Try.underlying3 f0
  obtain ⟨j, e1, _, _⟩ := DataW.trod_int Try.underlying3 f1
  simp at e0 e1
  subst e0 e1
  exact ⟨(i, j), rfl⟩

set_option maxRecDepth 100000 in
theorem open_places {fuel : Nat} {cs : List Value} {x : DataW H × List MemPlace} (h : DataW.trod enc Try.prog w base spare held fuel 89 cs = some x) :
    ∃ (p : Option Addr) (l : List (Int × Int)) (c : Nat), cs = [.slice p l.length c] ∧ l.length ≤ Rows.uptoBulk x.1 ∧ PosAt w.heap.size w p l := by
  obtain ⟨p, l, c, rfl, _, _, hb, hl⟩ := open_list (α := Int × Int) 2 (Rows.uptoBulk x.1) (fun cs s => cs = [.int .i64 s.1, .int .i64 s.2]) Try.underlying89 (by kernel_rfl) (by omega) (fun n cs' y hy _ => open_place hy) h (Nat.le_refl _)
  refine ⟨p, l, c, rfl, hb, ?_⟩
  rcases hl with hl | ⟨b, o, rfl, hB, hl⟩
  · exact .inl hl
  · refine .inr ⟨b, o, rfl, hB, fun i s hs => ?_⟩
    obtain ⟨cs', _, rfl, hc⟩ := hl i s hs
    exact ⟨hc 0 _ rfl, hc 1 _ rfl⟩

set_option maxRecDepth 100000 in
theorem open_stepsB {fuel : Nat} {cs : List Value} {x : DataW H × List MemPlace} (h : DataW.trod enc Try.prog w base spare held fuel 50 cs = some x) :
    ∃ (p : Option Addr) (l : List St) (c : Nat), cs = [.slice p l.length c] ∧ l.length ≤ Rows.uptoBulk x.1 ∧ StepsAt w.heap.size w p l := by
  obtain ⟨p, l, c, rfl, _, _, hb, hl⟩ := open_list (α := St) 3 (Rows.uptoBulk x.1) (fun cs s => cs = s.cells.toList) Try.underlying50 (by kernel_rfl) (by omega) (fun n cs' y hy _ => open_step hy) h (Nat.le_refl _)
  refine ⟨p, l, c, rfl, hb, ?_⟩
  rcases hl with hl | ⟨b, o, rfl, hB, hl⟩
  · exact .inl hl
  · refine .inr ⟨b, o, rfl, hB, fun i s hs => ?_⟩
    obtain ⟨cs', _, rfl, hc⟩ := hl i s hs
    exact ⟨hc 0 _ rfl, hc 1 _ rfl, hc 2 _ rfl⟩

instance : Inhabited LF := ⟨⟨⟨0, [], []⟩, default, default⟩⟩

set_option maxRecDepth 100000 in
theorem open_fault {fuel : Nat} {cs : List Value} {x : DataW H × List MemPlace} (h : DataW.trod enc Try.prog w base spare held fuel 91 cs = some x) (hN : Rows.uptoBulk x.1 ≤ 1048576) : ∃ s : LF, cs = s.cells.toList ∧ LOk w.heap.size w s := by
  obtain ⟨y0, y1, y2, n, rfl, hlen, f0, f1, f2⟩ := trod_struct3 Try.underlying91 h
  have hc : Try.prog.cellsOf 91 = 3 := by kernel_rfl
  have h1 : Try.prog.cellsOf 86 = 1 := by kernel_rfl
  have h2 : Try.prog.cellsOf 89 = 1 := by kernel_rfl
  have h3 : Try.prog.cellsOf 50 = 1 := by kernel_rfl
  rw [hc] at hlen
  obtain ⟨a, b, c, rfl⟩ := len3 hlen
  simp [h1, h2, h3] at f0 f1 f2
  obtain ⟨i, e0, _, _⟩ := DataW.trod_int Try.underlying86 f0
  obtain ⟨p, l, c1, e1, hl, hp⟩ := open_places f1
  obtain ⟨q, m, c2, e2, hm, hq⟩ := open_stepsB f2
  simp at e0 e1 e2
  subst e0 e1 e2
  simp only [Rows.uptoBulk, Rows.uptoBulkAll] at hN
  exact ⟨⟨⟨i, l, m⟩, _, _⟩, rfl, ⟨p, c1, rfl, hp, by unfold big; show l.length ≤ _; omega⟩, q, c2, rfl, hq, by unfold big; show m.length ≤ _; omega⟩

set_option maxRecDepth 100000 in
theorem open_faults {fuel : Nat} {cs : List Value} {x : DataW H × List MemPlace} (h : DataW.trod enc Try.prog w base spare held fuel 85 cs = some x) (hN : Rows.uptoBulk x.1 ≤ 1048576) :
    ∃ (v : Value) (l : List LF), cs = [v] ∧ l.length ≤ Rows.uptoBulk x.1 ∧ ArgF w v l := by
  obtain ⟨p, l, c, rfl, hlc, _, hb, hl⟩ := open_list (α := LF) 3 1048576 (fun cs s => cs = s.cells.toList ∧ LOk w.heap.size w s) Try.underlying85 (by kernel_rfl) (by omega) (fun n cs' y hy hy2 => open_fault hy hy2) h hN
  refine ⟨_, l, rfl, hb, p, c, rfl, hlc, ?_⟩
  rcases hl with rfl | ⟨b, o, rfl, hB, hl⟩
  · exact ⟨.inl rfl, by simp⟩
  · refine ⟨.inr ⟨b, o, rfl, hB, fun i s hs => ?_⟩, fun s hs => ?_⟩
    · obtain ⟨cs', _, ⟨rfl, _⟩, hc⟩ := hl i s hs
      exact ⟨hc 0 _ rfl, hc 1 _ rfl, hc 2 _ rfl⟩
    · obtain ⟨i, hi⟩ := List.getElem?_of_mem hs
      obtain ⟨cs', _, ⟨_, h⟩, _⟩ := hl i s hi
      exact h
end
end Go.Proofs.Ytnmnmkdmnohbmaa
