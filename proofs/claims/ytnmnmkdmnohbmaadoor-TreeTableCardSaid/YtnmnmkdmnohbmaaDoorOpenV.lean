/- Helper text: what an argument that is a value reads as. Conditions: none. -/
import Derived.Test.YtnmnmkdmnohbmaaDoorPackG
import Derived.Test.YtnmnmkdmnohbmaaDoorWhole
import Derived.SizedLaws
namespace Go.Proofs.YtnmnmkdmnohbmaaDoor
open Go.RowKit Go.Deep
section
variable {H : Type} {enc : TypeId × Value → H} {w : World} {base : Nat} {spare : Nat → Bool} {held : Bool}

theorem trod_float {P : Program} {t : TypeId} {k : FloatKind} {fuel : Nat} {cs : List Value} {x : DataW H × List MemPlace} (ht : P.underlying t = some (.float k)) (h : DataW.trod enc P w base spare held fuel t cs = some x) :
    ∃ n, cs = [.float k n] ∧ (Lit.float k n).wf = true := by
  cases fuel with
  | zero => simp [DataW.trod] at h
  | succ n =>
    unfold DataW.trod at h
    rw [ht] at h
    split at h <;> simp_all

theorem len8 {α : Type} {l : List α} (h : l.length = 8) : ∃ a b c d e f g i, l = [a, b, c, d, e, f, g, i] := by
  match l, h with
  | [a, b, c, d, e, f, g, i], _ => exact ⟨a, b, c, d, e, f, g, i, rfl⟩
theorem len9 {α : Type} {l : List α} (h : l.length = 9) : ∃ z a b c d e f g i, l = [z, a, b, c, d, e, f, g, i] := by
  match l, h with
  | [z, a, b, c, d, e, f, g, i], _ => exact ⟨z, a, b, c, d, e, f, g, i, rfl⟩
theorem len2 {α : Type} {l : List α} (h : l.length = 2) : ∃ a b, l = [a, b] := by
  match l, h with
  | [a, b], _ => exact ⟨a, b, rfl⟩

theorem weights_all {P : Program} {e : TypeId} : ∀ {l : List (DataW H)} {d : DataW H}, d ∈ l → ∀ n ∈ d.weights P e, n ∈ DataW.weightsAll P e l
  | y :: r, d, h, n, hn => by
    unfold DataW.weightsAll
    rcases List.mem_cons.1 h with rfl | h
    · exact List.mem_append.2 (.inl hn)
    · exact List.mem_append.2 (.inr (weights_all h n hn))

/-- The elements of a list of values, gathered. -/
theorem isVs_of {B g : Nat} : ∀ (l : List V) (o : Nat), (∀ i v, l[i]? = some v → (∃ cs, CellsAt w g (o + i * 8) cs ∧ IsV B w v cs) ∧ okV v) → IsVs B w l g o ∧ okVs l
  | [], _, _ => ⟨trivial, trivial⟩
  | v :: r, o, h => by
    have h0 := h 0 v rfl
    have hr := isVs_of r (o + 8) (fun i u hu => by
      have := h (i + 1) u (by simpa using hu)
      rw [show o + (i + 1) * 8 = o + 8 + i * 8 by omega] at this
      exact this)
    rw [Nat.zero_mul, Nat.add_zero] at h0
    exact ⟨⟨h0.1, hr.1⟩, h0.2, hr.2⟩
theorem isFs_of {B g : Nat} : ∀ (l : List (ByteArray × V)) (o : Nat), (∀ i x, l[i]? = some x → (w.cell? ⟨g, o + i * 9, none⟩ = some (.string x.1) ∧ ∃ cs, CellsAt w g (o + i * 9 + 1) cs ∧ IsV B w x.2 cs) ∧ okV x.2) → IsFs B w l g o ∧ okFs l
  | [], _, _ => ⟨trivial, trivial⟩
  | v :: r, o, h => by
    have h0 := h 0 v rfl
    have hr := isFs_of r (o + 9) (fun i u hu => by
      have := h (i + 1) u (by simpa using hu)
      rw [show o + (i + 1) * 9 = o + 9 + i * 9 by omega] at this
      exact this)
    rw [Nat.zero_mul, Nat.add_zero] at h0
    exact ⟨⟨h0.1, hr.1⟩, h0.2, hr.2⟩

theorem cellsAt_of {b o n k : Nat} {arr : Array Value} (h : w.cells? base ((⟨b, o, none⟩ : Addr).add n) k = some arr.toList) : CellsAt w b (o + n) arr := by
  obtain ⟨_, hl, hcell⟩ := World.cells?_some h
  intro j x hx
  have hj := (Array.getElem?_eq_some_iff.1 hx).1
  have := hcell j (by rw [← hl]; simpa using hj)
  rw [addr_add, addr_add] at this
  rw [this]
  simpa using hx

theorem weights_slice {P : Program} {t e : TypeId} {l r : List (DataW H)} (hu : P.underlying t = some (.slice e)) {B : Nat} (h : ∀ n ∈ (DataW.slice l r).weights P t, n ≤ B) :
    (l.length + r.length) * P.bytesOf e ≤ B ∧ ∀ d ∈ l, ∀ n ∈ d.weights P e, n ≤ B := by
  unfold DataW.weights at h
  rw [hu] at h
  exact ⟨h _ (by simp), fun d hd n hn => h n (List.mem_cons.2 (.inr (List.mem_append.2 (.inl (weights_all hd n hn)))))⟩

theorem weights_struct {P : Program} {t : TypeId} {fs : Array Field} {l : List (DataW H)} (hu : P.underlying t = some (.struct fs)) {B : Nat} (h : ∀ n ∈ (DataW.agg l).weights P t, n ≤ B) {j : Nat} {f : Field} {d : DataW H}
    (hf : fs[j]? = some f) (hd : l[j]? = some d) : ∀ n ∈ d.weights P f.type, n ≤ B := by
  unfold DataW.weights at h
  rw [hu] at h
  exact fun n hn => h n (DataW.weights_mem_each (j := j) (by simp [hf]) hd n hn)

theorem open_value_n : ∀ (N fuel : Nat), fuel ≤ N → ∀ (cs : List Value) (x : DataW H × List MemPlace), DataW.trod enc Tryd.prog w base spare held fuel 27 cs = some x →
    (∀ n ∈ x.1.weights Tryd.prog 27, n ≤ reachBytes) → ∃ (v : V) (arr : Array Value), cs = arr.toList ∧ IsV w.heap.size w v arr ∧ okV v := by
  intro N
  induction N with
  | zero =>
    intro fuel hf cs x h
    obtain rfl : fuel = 0 := by omega
    simp [DataW.trod] at h
  | succ N ih =>
    intro fuel hf cs x h hz
    obtain ⟨xs, n, rfl, rfl, hlen, hxs, hfd⟩ := DataW.trod_struct Tryd.underlying27 h
    have hc : Tryd.prog.cellsOf 27 = 8 := by kernel_rfl
    have h1 : Tryd.prog.cellsOf 22 = 1 := by kernel_rfl
    have h2 : Tryd.prog.cellsOf 4 = 1 := by kernel_rfl
    have h3 : Tryd.prog.cellsOf 2 = 1 := by kernel_rfl
    have h4 : Tryd.prog.cellsOf 23 = 1 := by kernel_rfl
    have h5 : Tryd.prog.cellsOf 9 = 1 := by kernel_rfl
    have h6 : Tryd.prog.cellsOf 24 = 1 := by kernel_rfl
    have h7 : Tryd.prog.cellsOf 25 = 1 := by kernel_rfl
    rw [hc] at hlen
    obtain ⟨a0, a1, a2, a3, a4, a5, a6, a7, rfl⟩ := len8 hlen
    obtain ⟨y0, y1, y2, y3, y4, y5, y6, y7, rfl⟩ := len8 hxs
    have f0 := hfd 0 _ rfl
    have f1 := hfd 1 _ rfl
    have f2 := hfd 2 _ rfl
    have f3 := hfd 3 _ rfl
    have f4 := hfd 4 _ rfl
    have f5 := hfd 5 _ rfl
    have f6 := hfd 6 _ rfl
    have f7 := hfd 7 _ rfl
    simp [h1, h2, h3, h4, h5, h6, h7] at f0 f1 f2 f3 f4 f5 f6 f7
    obtain ⟨k, e0, _, _⟩ := DataW.trod_int Tryd.underlying22 f0
    obtain ⟨b, e1, _⟩ := DataW.trod_bool Tryd.underlying4 f1
    obtain ⟨i, e2, _, _⟩ := DataW.trod_int Tryd.underlying2 f2
    obtain ⟨f, e3, hwf⟩ := trod_float Tryd.underlying23 f3
    obtain ⟨t, e4, _, _⟩ := DataW.trod_string Tryd.underlying9 f4
    obtain ⟨ty, e5, _, _⟩ := DataW.trod_string Tryd.underlying9 f5
    simp at e0 e1 e2 e3 e4 e5
    subst e0 e1 e2 e3 e4 e5
    have bv : Tryd.prog.bytesOf 27 = 112 := by kernel_rfl
    have bm : Tryd.prog.bytesOf 79 = 128 := by kernel_rfl
    have hcm : Tryd.prog.cellsOf 79 = 9 := by kernel_rfl
    have z6 := weights_struct Tryd.underlying27 hz (j := 6) rfl rfl
    have z7 := weights_struct Tryd.underlying27 hz (j := 7) rfl rfl
    have hits : ∃ (p : Option Addr) (its : List V) (c : Nat), a6 = .slice p its.length c ∧ (its = [] ∨ ∃ g o, p = some ⟨g, o, none⟩ ∧ g < w.heap.size ∧ IsVs w.heap.size w its g o) ∧ okVs its ∧ its.length ≤ lenMax := by
      rcases DataW.trod_slice Tryd.underlying24 f6 with ⟨e6, _⟩ | ⟨a, len, cap, elems, rest, m, hnm, e6, hy6, hb, hl, hm, hel, hget, _, _⟩
      · simp at e6
        exact ⟨none, [], 0, e6, .inl rfl, trivial, by simp [lenMax]⟩
      · simp at e6
        rw [hy6] at z6
        obtain ⟨zl, ze⟩ := weights_slice Tryd.underlying24 z6
        rw [bv] at zl
        rw [hc] at hget
        obtain ⟨F, hF⟩ := choose_lt (α := V) (n := len) (p := fun i v => (∃ arr : Array Value, w.cells? base (a.add (i * 8)) 8 = some arr.toList ∧ IsV w.heap.size w v arr) ∧ okV v) (fun i hi => by
          have hg := hget i hi
          obtain ⟨el, hel'⟩ : ∃ el, elems[i]? = some el := ⟨elems[i], by simp [hel, hi]⟩
          rw [hel', Option.bind_eq_some_iff] at hg
          obtain ⟨cs', hc', ht⟩ := hg
          obtain ⟨v, arr, rfl, hv, ho⟩ := ih m (by omega) cs' el ht (ze el.1 (List.mem_map.2 ⟨el, List.mem_of_getElem? hel', rfl⟩))
          exact ⟨v, ⟨arr, hc', hv⟩, ho⟩)
        have hlen : len ≤ lenMax := by
          simp only [List.length_map, hel] at zl
          unfold lenMax
          have : len * 112 ≤ reachBytes := Nat.le_trans (Nat.mul_le_mul_right _ (Nat.le_add_right _ _)) zl
          unfold reachBytes at this
          omega
        refine ⟨some a, (List.range len).map F, cap, by simpa using e6, ?_⟩
        by_cases h0 : len = 0
        · subst h0
          exact ⟨.inl rfl, trivial, by simp [lenMax]⟩
        · obtain ⟨⟨arr0, hc0, hv0⟩, _⟩ := hF 0 (by omega)
          have hcell0 : ∃ u, w.cell? a = some u := by
            obtain ⟨_, hl0, hcl⟩ := World.cells?_some hc0
            have := hcl 0 (by omega)
            rw [Nat.zero_mul] at this
            simp only [Addr.add, if_true] at this
            have hs : 0 < arr0.toList.length := by omega
            exact ⟨arr0.toList[0], by rw [this]; simp⟩
          obtain ⟨u0, hu0⟩ := hcell0
          have hs := World.cell?_spot hu0
          have hlt := World.block_lt_of_cell? w _ hu0
          obtain ⟨g, o, sp⟩ := a
          obtain rfl : sp = none := hs
          have hall := isVs_of (w := w) (B := w.heap.size) (g := g) ((List.range len).map F) o (fun i v hv => by
            have hi : i < len := by
              have := (List.getElem?_eq_some_iff.1 hv).1
              simpa using this
            obtain rfl : F i = v := by simpa [hi] using hv
            obtain ⟨⟨arr, hca, hva⟩, ho⟩ := hF i hi
            exact ⟨⟨arr, cellsAt_of hca, hva⟩, ho⟩)
          exact ⟨.inr ⟨g, o, rfl, hlt, hall.1⟩, hall.2, by simpa using hlen⟩
    have hfls : ∃ (p : Option Addr) (fs : List (ByteArray × V)) (c : Nat), a7 = .slice p fs.length c ∧ (fs = [] ∨ ∃ g o, p = some ⟨g, o, none⟩ ∧ g < w.heap.size ∧ IsFs w.heap.size w fs g o) ∧ okFs fs ∧ fs.length ≤ lenMax := by
      rcases DataW.trod_slice Tryd.underlying25 f7 with ⟨e7, _⟩ | ⟨a, len, cap, elems, rest, m, hnm, e7, hy7, hb, hl, hm, hel, hget, _, _⟩
      · simp at e7
        exact ⟨none, [], 0, e7, .inl rfl, trivial, by simp [lenMax]⟩
      · simp at e7
        rw [hy7] at z7
        obtain ⟨zl, ze⟩ := weights_slice Tryd.underlying25 z7
        rw [bm] at zl
        rw [hcm] at hget
        obtain ⟨F, hF⟩ := choose_lt (α := ByteArray × V) (n := len) (p := fun i x => (∃ arr : Array Value, w.cells? base (a.add (i * 9)) 9 = some (.string x.1 :: arr.toList) ∧ IsV w.heap.size w x.2 arr) ∧ okV x.2) (fun i hi => by
          have hg := hget i hi
          obtain ⟨el, hel'⟩ : ∃ el, elems[i]? = some el := ⟨elems[i], by simp [hel, hi]⟩
          rw [hel', Option.bind_eq_some_iff] at hg
          obtain ⟨cs', hc', ht⟩ := hg
          have zm := ze el.1 (List.mem_map.2 ⟨el, List.mem_of_getElem? hel', rfl⟩)
          obtain ⟨xs', n', hn', rfl, hlen', hxs', hfd'⟩ := DataW.trod_struct Tryd.underlying79 ht
          rw [hcm] at hlen'
          obtain ⟨b0, b1, b2, b3, b4, b5, b6, b7, b8, rfl⟩ := len9 hlen'
          obtain ⟨u0, u1, rfl⟩ := len2 hxs'
          have zv := weights_struct Tryd.underlying79 zm (j := 1) rfl rfl
          have g0 := hfd' 0 _ rfl
          have g1 := hfd' 1 _ rfl
          simp [h5, hc] at g0 g1
          obtain ⟨nm, en, _, _⟩ := DataW.trod_string Tryd.underlying9 g0
          simp at en
          subst en
          obtain ⟨v, arr, harr, hv, ho⟩ := ih n' (by omega) _ u1 g1 zv
          exact ⟨(nm, v), ⟨arr, by rw [← harr]; exact hc', hv⟩, ho⟩)
        have hlen : len ≤ lenMax := by
          simp only [List.length_map, hel] at zl
          unfold lenMax
          have : len * 128 ≤ reachBytes := Nat.le_trans (Nat.mul_le_mul_right _ (Nat.le_add_right _ _)) zl
          unfold reachBytes at this
          omega
        refine ⟨some a, (List.range len).map F, cap, by simpa using e7, ?_⟩
        by_cases h0 : len = 0
        · subst h0
          exact ⟨.inl rfl, trivial, by simp [lenMax]⟩
        · obtain ⟨⟨arr0, hc0, hv0⟩, _⟩ := hF 0 (by omega)
          have hcell0 : ∃ u, w.cell? a = some u := by
            obtain ⟨_, hl0, hcl⟩ := World.cells?_some hc0
            have := hcl 0 (by omega)
            rw [Nat.zero_mul] at this
            simp only [Addr.add, if_true] at this
            exact ⟨_, this⟩
          obtain ⟨u0, hu0⟩ := hcell0
          have hs := World.cell?_spot hu0
          have hlt := World.block_lt_of_cell? w _ hu0
          obtain ⟨g, o, sp⟩ := a
          obtain rfl : sp = none := hs
          have hall := isFs_of (w := w) (B := w.heap.size) (g := g) ((List.range len).map F) o (fun i x hv => by
            have hi : i < len := by
              have := (List.getElem?_eq_some_iff.1 hv).1
              simpa using this
            obtain rfl : F i = x := by simpa [hi] using hv
            obtain ⟨⟨arr, hca, hva⟩, ho⟩ := hF i hi
            obtain ⟨_, hl9, hcl⟩ := World.cells?_some hca
            refine ⟨⟨?_, arr, ?_, hva⟩, ho⟩
            · have := hcl 0 (by omega)
              rw [addr_add, addr_add] at this
              simpa using this
            · intro j y hy
              have hj := (Array.getElem?_eq_some_iff.1 hy).1
              have := hcl (j + 1) (by rw [← hl9]; simpa using hj)
              rw [addr_add, addr_add] at this
              rw [show o + i * 9 + 1 + j = o + i * 9 + (j + 1) by omega, this]
              simpa using hy)
          exact ⟨.inr ⟨g, o, rfl, hlt, hall.1⟩, hall.2, by simpa using hlen⟩
    obtain ⟨p, its, c, rfl, hi, hoi, li⟩ := hits
    obtain ⟨q, fs, d, rfl, hf', hof, lf⟩ := hfls
    refine ⟨.mk k b i f t ty its fs, vcells k b i f t ty p its.length c q fs.length d, rfl, ⟨p, c, q, d, rfl, hi, hf', li, lf⟩, ?_, hoi, hof⟩
    simpa [Lit.wf] using hwf

theorem open_value {fuel : Nat} {cs : List Value} {x : DataW H × List MemPlace} (h : DataW.trod enc Tryd.prog w base spare held fuel 27 cs = some x)
    (hz : ∀ n ∈ x.1.weights Tryd.prog 27, n ≤ reachBytes) : ∃ (v : V) (arr : Array Value), cs = arr.toList ∧ IsV w.heap.size w v arr ∧ okV v := open_value_n fuel fuel (Nat.le_refl _) cs x h hz
end
end Go.Proofs.YtnmnmkdmnohbmaaDoor
