/- Several texts in one: Helper text: what an argument that is a value reads as. A value as an argument, where what it reads is of small bulk: its texts are short. Conditions: none. -/
import Derived.Test.YtldjbgklmeigmaaGreatDoorPackL
import Derived.Test.YtldjbgklmeigmaaGreatDoorPackD
import Derived.SizedLaws
import Derived.Test.YtldjbgklmeigmaaGreatDoorPackO
namespace Go.Proofs.YtldjbgklmeigmaaGreatDoor
open Go.RowKit Go.Deep
section
variable {H : Type} {enc : TypeId × Value → H} {w : World} {base : Nat} {spare : Nat → Bool} {held : Bool}

theorem trod_float {P : Program} {t : TypeId} {k : FloatKind} {fuel : Nat} {cs : List Value} {x : DataW H × List MemPlace} (ht : P.underlying t = some (.float k)) (h : DataW.trod enc P w base spare held fuel t cs = some x) :
    ∃ n, cs = [.float k n] ∧ (Lit.float k n).wf = true := by
  cases fuel with
  | zero => simp [DataW.trod] at h
  | succ n =>
    unfold DataW.trod at h
    rw [ht] at h
    split at h <;> simp_all

theorem len8 {α : Type} {l : List α} (h : l.length = 8) : ∃ a b c d e f g i, l = [a, b, c, d, e, f, g, i] := by
  match l, h with
  | [a, b, c, d, e, f, g, i], _ => exact ⟨a, b, c, d, e, f, g, i, rfl⟩
theorem len9 {α : Type} {l : List α} (h : l.length = 9) : ∃ z a b c d e f g i, l = [z, a, b, c, d, e, f, g, i] := by
  match l, h with
  | [z, a, b, c, d, e, f, g, i], _ => exact ⟨z, a, b, c, d, e, f, g, i, rfl⟩
theorem len2 {α : Type} {l : List α} (h : l.length = 2) : ∃ a b, l = [a, b] := by
  match l, h with
  | [a, b], _ => exact ⟨a, b, rfl⟩

/-- The elements of a list of values, gathered. -/
theorem isVs_of {B g : Nat} : ∀ (l : List V) (o : Nat), (∀ i v, l[i]? = some v → (∃ cs, CellsAt w g (o + i * 8) cs ∧ IsV B w v cs) ∧ okV v) → IsVs B w l g o ∧ okVs l
  | [], _, _ => ⟨trivial, trivial⟩
  | v :: r, o, h => by
    have h0 := h 0 v rfl
    have hr := isVs_of r (o + 8) (fun i u hu => by
      have := h (i + 1) u (by simpa using hu)
      rw [show o + (i + 1) * 8 = o + 8 + i * 8 by omega] at this
      exact this)
    rw [Nat.zero_mul, Nat.add_zero] at h0
    exact ⟨⟨h0.1, hr.1⟩, h0.2, hr.2⟩
theorem isFs_of {B g : Nat} : ∀ (l : List (ByteArray × V)) (o : Nat), (∀ i x, l[i]? = some x → (w.cell? ⟨g, o + i * 9, none⟩ = some (.string x.1) ∧ ∃ cs, CellsAt w g (o + i * 9 + 1) cs ∧ IsV B w x.2 cs) ∧ okV x.2) → IsFs B w l g o ∧ okFs l
  | [], _, _ => ⟨trivial, trivial⟩
  | v :: r, o, h => by
    have h0 := h 0 v rfl
    have hr := isFs_of r (o + 9) (fun i u hu => by
      have := h (i + 1) u (by simpa using hu)
      rw [show o + (i + 1) * 9 = o + 9 + i * 9 by omega] at this
      exact this)
    rw [Nat.zero_mul, Nat.add_zero] at h0
    exact ⟨⟨h0.1, hr.1⟩, h0.2, hr.2⟩

theorem cellsAt_of {b o n k : Nat} {arr : Array Value} (h : w.cells? base ((⟨b, o, none⟩ : Addr).add n) k = some arr.toList) : CellsAt w b (o + n) arr := by
  obtain ⟨_, hl, hcell⟩ := World.cells?_some h
  intro j x hx
  have hj := (Array.getElem?_eq_some_iff.1 hx).1
  have := hcell j (by rw [← hl]; simpa using hj)
  rw [addr_add, addr_add] at this
  rw [this]
  simpa using hx

end
end Go.Proofs.YtldjbgklmeigmaaGreatDoor

namespace Go.Proofs.YtldjbgklmeigmaaGreatDoor
open Go.RowKit Go.Deep

theorem bulkAll_len {H : Type} : ∀ l : List (DataW H), l.length ≤ Rows.uptoBulkAll l
  | [] => Nat.zero_le _
  | d :: r => by
    have := bulkAll_len r
    have := bulkP_pos d
    simp only [List.length_cons, Rows.uptoBulkAll]
    omega
theorem bulk_mem {H : Type} {d : DataW H} : ∀ {l : List (DataW H)}, d ∈ l → Rows.uptoBulk d ≤ Rows.uptoBulkAll l
  | [], h => by cases h
  | x :: r, h => by
    simp only [Rows.uptoBulkAll]
    rcases List.mem_cons.1 h with rfl | h
    · omega
    · have := bulk_mem h
      omega

theorem shVs_of : ∀ (l : List V), (∀ (i : Nat) v, l[i]? = some v → shV v) → shVs l
  | [], _ => trivial
  | v :: r, h => ⟨h 0 v rfl, shVs_of r (fun i u hu => h (i + 1) u (by simpa using hu))⟩
theorem shFs_of : ∀ (l : List (ByteArray × V)), (∀ (i : Nat) x, l[i]? = some x → x.1.size ≤ 1048576 ∧ shV x.2) → shFs l
  | [], _ => trivial
  | v :: r, h => ⟨h 0 v rfl, shFs_of r (fun i u hu => h (i + 1) u (by simpa using hu))⟩

section
variable {H : Type} {enc : TypeId × Value → H} {w : World} {base : Nat} {spare : Nat → Bool} {held : Bool}

theorem open_valueB_n : ∀ (N fuel : Nat), fuel ≤ N → ∀ (cs : List Value) (x : DataW H × List MemPlace), DataW.trod enc Tryz.prog w base spare held fuel 34 cs = some x →
    Rows.uptoBulk x.1 ≤ 1048576 → ∃ (v : V) (arr : Array Value), cs = arr.toList ∧ IsV w.heap.size w v arr ∧ okV v ∧ shV v := by
  intro N
  induction N with
  | zero =>
    intro fuel hf cs x h
    obtain rfl : fuel = 0 := by omega
    simp [DataW.trod] at h
  | succ N ih =>
    intro fuel hf cs x h hz
    obtain ⟨xs, n, rfl, rfl, hlen, hxs, hfd⟩ := DataW.trod_struct Tryz.underlying34 h
    have hc : Tryz.prog.cellsOf 34 = 8 := by kernel_rfl
    have h1 : Tryz.prog.cellsOf 29 = 1 := by kernel_rfl
    have h2 : Tryz.prog.cellsOf 4 = 1 := by kernel_rfl
    have h3 : Tryz.prog.cellsOf 2 = 1 := by kernel_rfl
    have h4 : Tryz.prog.cellsOf 30 = 1 := by kernel_rfl
    have h5 : Tryz.prog.cellsOf 9 = 1 := by kernel_rfl
    have h6 : Tryz.prog.cellsOf 31 = 1 := by kernel_rfl
    have h7 : Tryz.prog.cellsOf 32 = 1 := by kernel_rfl
    rw [hc] at hlen
    obtain ⟨a0, a1, a2, a3, a4, a5, a6, a7, rfl⟩ := len8 hlen
    obtain ⟨y0, y1, y2, y3, y4, y5, y6, y7, rfl⟩ := len8 hxs
    have f0 := hfd 0 _ rfl
    have f1 := hfd 1 _ rfl
    have f2 := hfd 2 _ rfl
    have f3 := hfd 3 _ rfl
    have f4 := hfd 4 _ rfl
    have f5 := hfd 5 _ rfl
    have f6 := hfd 6 _ rfl
    have f7 := hfd 7 _ rfl
    simp [h1, h2, h3, h4, h5, h6, h7] at f0 f1 f2 f3 f4 f5 f6 f7
    obtain ⟨k, e0, _, _⟩ := DataW.trod_int Tryz.underlying29 f0
    obtain ⟨b, e1, _⟩ := DataW.trod_bool Tryz.underlying4 f1
    obtain ⟨i, e2, _, _⟩ := DataW.trod_int Tryz.underlying2 f2
    obtain ⟨f, e3, hwf⟩ := trod_float Tryz.underlying30 f3
    obtain ⟨t, e4, hy4, _⟩ := DataW.trod_string Tryz.underlying9 f4
    obtain ⟨ty, e5, _, _⟩ := DataW.trod_string Tryz.underlying9 f5
    simp at e0 e1 e2 e3 e4 e5
    subst e0 e1 e2 e3 e4 e5
    have hcm : Tryz.prog.cellsOf 58 = 9 := by kernel_rfl
    simp only [List.map_cons, List.map_nil, Rows.uptoBulk, Rows.uptoBulkAll] at hz
    have z6 : Rows.uptoBulk y6.1 ≤ 1048576 := by omega
    have z7 : Rows.uptoBulk y7.1 ≤ 1048576 := by omega
    have zt : t.size ≤ 1048576 := by
      rw [hy4] at hz
      simp only [Rows.uptoBulk] at hz
      have := ba_len t
      omega
    have hits : ∃ (p : Option Addr) (its : List V) (c : Nat), a6 = .slice p its.length c ∧ (its = [] ∨ ∃ g o, p = some ⟨g, o, none⟩ ∧ g < w.heap.size ∧ IsVs w.heap.size w its g o) ∧ (okVs its ∧ shVs its) ∧ its.length ≤ lenMax := by
      rcases DataW.trod_slice Tryz.underlying31 f6 with ⟨e6, _⟩ | ⟨a, len, cap, elems, rest, m, hnm, e6, hy6, hb, hl, hm, hel, hget, _, _⟩
      · simp at e6
        exact ⟨none, [], 0, e6, .inl rfl, ⟨trivial, trivial⟩, by simp [lenMax]⟩
      · simp at e6
        rw [hy6] at z6
        simp only [Rows.uptoBulk] at z6
        have ze : ∀ e ∈ elems.map (·.1), Rows.uptoBulk e ≤ 1048576 := fun e he => Nat.le_trans (bulk_mem he) (by omega)
        have zl : len ≤ 1048576 := by
          have := bulkAll_len (elems.map (·.1))
          rw [List.length_map, hel] at this
          omega
        rw [hc] at hget
        obtain ⟨F, hF⟩ := choose_lt (α := V) (n := len) (p := fun i v => (∃ arr : Array Value, w.cells? base (a.add (i * 8)) 8 = some arr.toList ∧ IsV w.heap.size w v arr) ∧ okV v ∧ shV v) (fun i hi => by
          have hg := hget i hi
          obtain ⟨el, hel'⟩ : ∃ el, elems[i]? = some el := ⟨elems[i], by simp [hel, hi]⟩
          rw [hel', Option.bind_eq_some_iff] at hg
          obtain ⟨cs', hc', ht⟩ := hg
          obtain ⟨v, arr, rfl, hv, ho⟩ := ih m (by omega) cs' el ht (ze el.1 (List.mem_map.2 ⟨el, List.mem_of_getElem? hel', rfl⟩))
          exact ⟨v, ⟨arr, hc', hv⟩, ho⟩)
        have hlen : len ≤ lenMax := by
          unfold lenMax
          omega
        refine ⟨some a, (List.range len).map F, cap, by simpa using e6, ?_⟩
        by_cases h0 : len = 0
        · subst h0
          exact ⟨.inl rfl, ⟨trivial, trivial⟩, by simp [lenMax]⟩
        · obtain ⟨⟨arr0, hc0, hv0⟩, _⟩ := hF 0 (by omega)
          have hcell0 : ∃ u, w.cell? a = some u := by
            obtain ⟨_, hl0, hcl⟩ := World.cells?_some hc0
            have := hcl 0 (by omega)
            rw [Nat.zero_mul] at this
            simp only [Addr.add, if_true] at this
            have hs : 0 < arr0.toList.length := by omega
            exact ⟨arr0.toList[0], by rw [this]; simp⟩
          obtain ⟨u0, hu0⟩ := hcell0
          have hs := World.cell?_spot hu0
          have hlt := World.block_lt_of_cell? w _ hu0
          obtain ⟨g, o, sp⟩ := a
          obtain rfl : sp = none := hs
          have hall := isVs_of (w := w) (B := w.heap.size) (g := g) ((List.range len).map F) o (fun i v hv => by
            have hi : i < len := by
              have := (List.getElem?_eq_some_iff.1 hv).1
              simpa using this
            obtain rfl : F i = v := by simpa [hi] using hv
            obtain ⟨⟨arr, hca, hva⟩, ho⟩ := hF i hi
            exact ⟨⟨arr, cellsAt_of hca, hva⟩, ho.1⟩)
          have hnn := shVs_of ((List.range len).map F) (fun i v hv => by
            have hi : i < len := by
              have := (List.getElem?_eq_some_iff.1 hv).1
              simpa using this
            obtain rfl : F i = v := by simpa [hi] using hv
            exact (hF i hi).2.2)
          exact ⟨.inr ⟨g, o, rfl, hlt, hall.1⟩, ⟨hall.2, hnn⟩, by simpa using hlen⟩
    have hfls : ∃ (p : Option Addr) (fs : List (ByteArray × V)) (c : Nat), a7 = .slice p fs.length c ∧ (fs = [] ∨ ∃ g o, p = some ⟨g, o, none⟩ ∧ g < w.heap.size ∧ IsFs w.heap.size w fs g o) ∧ (okFs fs ∧ shFs fs) ∧ fs.length ≤ lenMax := by
      rcases DataW.trod_slice Tryz.underlying32 f7 with ⟨e7, _⟩ | ⟨a, len, cap, elems, rest, m, hnm, e7, hy7, hb, hl, hm, hel, hget, _, _⟩
      · simp at e7
        exact ⟨none, [], 0, e7, .inl rfl, ⟨trivial, trivial⟩, by simp [lenMax]⟩
      · simp at e7
        rw [hy7] at z7
        simp only [Rows.uptoBulk] at z7
        have ze : ∀ e ∈ elems.map (·.1), Rows.uptoBulk e ≤ 1048576 := fun e he => Nat.le_trans (bulk_mem he) (by omega)
        have zl : len ≤ 1048576 := by
          have := bulkAll_len (elems.map (·.1))
          rw [List.length_map, hel] at this
          omega
        rw [hcm] at hget
        obtain ⟨F, hF⟩ := choose_lt (α := ByteArray × V) (n := len) (p := fun i x => (∃ arr : Array Value, w.cells? base (a.add (i * 9)) 9 = some (.string x.1 :: arr.toList) ∧ IsV w.heap.size w x.2 arr) ∧ okV x.2 ∧ x.1.size ≤ 1048576 ∧ shV x.2) (fun i hi => by
          have hg := hget i hi
          obtain ⟨el, hel'⟩ : ∃ el, elems[i]? = some el := ⟨elems[i], by simp [hel, hi]⟩
          rw [hel', Option.bind_eq_some_iff] at hg
          obtain ⟨cs', hc', ht⟩ := hg
          have zm := ze el.1 (List.mem_map.2 ⟨el, List.mem_of_getElem? hel', rfl⟩)
          obtain ⟨xs', n', hn', rfl, hlen', hxs', hfd'⟩ := DataW.trod_struct Tryz.underlying58 ht
          rw [hcm] at hlen'
          obtain ⟨b0, b1, b2, b3, b4, b5, b6, b7, b8, rfl⟩ := len9 hlen'
          obtain ⟨u0, u1, rfl⟩ := len2 hxs'
          simp only [List.map_cons, List.map_nil, Rows.uptoBulk, Rows.uptoBulkAll] at zm
          have zv : Rows.uptoBulk u1.1 ≤ 1048576 := by omega
          have g0 := hfd' 0 _ rfl
          have g1 := hfd' 1 _ rfl
          simp [h5, hc] at g0 g1
          obtain ⟨nm, en, hu0, _⟩ := DataW.trod_string Tryz.underlying9 g0
          simp at en
          subst en
          have hnmx : nm.size ≤ 1048576 := by
            rw [hu0] at zm
            simp only [Rows.uptoBulk] at zm
            have := ba_len nm
            omega
          obtain ⟨v, arr, harr, hv, ho⟩ := ih n' (by omega) _ u1 g1 zv
          exact ⟨(nm, v), ⟨arr, by rw [← harr]; exact hc', hv⟩, ho.1, hnmx, ho.2⟩)
        have hlen : len ≤ lenMax := by
          unfold lenMax
          omega
        refine ⟨some a, (List.range len).map F, cap, by simpa using e7, ?_⟩
        by_cases h0 : len = 0
        · subst h0
          exact ⟨.inl rfl, ⟨trivial, trivial⟩, by simp [lenMax]⟩
        · obtain ⟨⟨arr0, hc0, hv0⟩, _⟩ := hF 0 (by omega)
          have hcell0 : ∃ u, w.cell? a = some u := by
            obtain ⟨_, hl0, hcl⟩ := World.cells?_some hc0
            have := hcl 0 (by omega)
            rw [Nat.zero_mul] at this
            simp only [Addr.add, if_true] at this
            exact ⟨_, this⟩
          obtain ⟨u0, hu0⟩ := hcell0
          have hs := World.cell?_spot hu0
          have hlt := World.block_lt_of_cell? w _ hu0
          obtain ⟨g, o, sp⟩ := a
          obtain rfl : sp = none := hs
          have hall := isFs_of (w := w) (B := w.heap.size) (g := g) ((List.range len).map F) o (fun i x hv => by
            have hi : i < len := by
              have := (List.getElem?_eq_some_iff.1 hv).1
              simpa using this
            obtain rfl : F i = x := by simpa [hi] using hv
            obtain ⟨⟨arr, hca, hva⟩, ho⟩ := hF i hi
            obtain ⟨_, hl9, hcl⟩ := World.cells?_some hca
            refine ⟨⟨?_, arr, ?_, hva⟩, ho.1⟩
            · have := hcl 0 (by omega)
              rw [addr_add, addr_add] at this
              simpa using this
            · intro j y hy
              have hj := (Array.getElem?_eq_some_iff.1 hy).1
              have := hcl (j + 1) (by rw [← hl9]; simpa using hj)
              rw [addr_add, addr_add] at this
              rw [show o + i * 9 + 1 + j = o + i * 9 + (j + 1) by omega, this]
              simpa using hy)
          have hnn := shFs_of ((List.range len).map F) (fun i x hv => by
            have hi : i < len := by
              have := (List.getElem?_eq_some_iff.1 hv).1
              simpa using this
            obtain rfl : F i = x := by simpa [hi] using hv
            exact (hF i hi).2.2)
          exact ⟨.inr ⟨g, o, rfl, hlt, hall.1⟩, ⟨hall.2, hnn⟩, by simpa using hlen⟩
    obtain ⟨p, its, c, rfl, hi, ⟨hoi, hni⟩, li⟩ := hits
    obtain ⟨q, fs, d, rfl, hf', ⟨hof, hnf⟩, lf⟩ := hfls
    have hfl : f < 18446744073709551616 := by simpa [Lit.wf] using hwf
    exact ⟨.mk k b i f t ty its fs, vcells k b i f t ty p its.length c q fs.length d, rfl, ⟨p, c, q, d, rfl, hi, hf', li, lf⟩, ⟨hfl, hoi, hof⟩, hfl, zt, hni, hnf⟩

theorem open_valueB {fuel : Nat} {cs : List Value} {x : DataW H × List MemPlace} (h : DataW.trod enc Tryz.prog w base spare held fuel 34 cs = some x)
    (hz : Rows.uptoBulk x.1 ≤ 1048576) : ∃ (v : V) (arr : Array Value), cs = arr.toList ∧ IsV w.heap.size w v arr ∧ okV v ∧ shV v := open_valueB_n fuel fuel (Nat.le_refl _) cs x h hz
end
end Go.Proofs.YtldjbgklmeigmaaGreatDoor
