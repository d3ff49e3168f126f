/- Several texts in one: Helper text: what an argument that is a value reads as. Helper text: a value whose lists are written over: each item by another value, each member's name by a longer one. Conditions: none. -/
import Derived.Test.YtnmnmkdmnohbmaaDoorPackB
import Derived.Test.YtnmnmkdmnohbmaaDoorWhole
import Derived.SizedLaws
import Derived.Test.YtnmnmkdmnohbmaaDoorPackD
import Derived.Test.YtnmnmkdmnohbmaaDoorPaired
namespace Go.Proofs.YtnmnmkdmnohbmaaDoor
open Go.RowKit Go.Deep
section
variable {H : Type} {enc : TypeId × Value → H} {w : World} {base : Nat} {spare : Nat → Bool} {held : Bool}

theorem trod_float {P : Program} {t : TypeId} {k : FloatKind} {fuel : Nat} {cs : List Value} {x : DataW H × List MemPlace} (ht : P.underlying t = some (.float k)) (h : DataW.trod enc P w base spare held fuel t cs = some x) :
    ∃ n, cs = [.float k n] ∧ (Lit.float k n).wf = true := by
  cases fuel with
  | zero => simp [DataW.trod] at h
  | succ n =>
    unfold DataW.trod at h
    rw [ht] at h
    split at h <;> simp_all

theorem len8 {α : Type} {l : List α} (h : l.length = 8) : ∃ a b c d e f g i, l = [a, b, c, d, e, f, g, i] := by
  match l, h with
  | [a, b, c, d, e, f, g, i], _ => exact ⟨a, b, c, d, e, f, g, i, rfl⟩
theorem len9 {α : Type} {l : List α} (h : l.length = 9) : ∃ z a b c d e f g i, l = [z, a, b, c, d, e, f, g, i] := by
  match l, h with
  | [z, a, b, c, d, e, f, g, i], _ => exact ⟨z, a, b, c, d, e, f, g, i, rfl⟩
theorem len2 {α : Type} {l : List α} (h : l.length = 2) : ∃ a b, l = [a, b] := by
  match l, h with
  | [a, b], _ => exact ⟨a, b, rfl⟩

theorem weights_all {P : Program} {e : TypeId} : ∀ {l : List (DataW H)} {d : DataW H}, d ∈ l → ∀ n ∈ d.weights P e, n ∈ DataW.weightsAll P e l
  | y :: r, d, h, n, hn => by
    unfold DataW.weightsAll
    rcases List.mem_cons.1 h with rfl | h
    · exact List.mem_append.2 (.inl hn)
    · exact List.mem_append.2 (.inr (weights_all h n hn))

/-- The elements of a list of values, gathered. -/
theorem isVs_of {B g : Nat} : ∀ (l : List V) (o : Nat), (∀ i v, l[i]? = some v → (∃ cs, CellsAt w g (o + i * 8) cs ∧ IsV B w v cs) ∧ okV v) → IsVs B w l g o ∧ okVs l
  | [], _, _ => ⟨trivial, trivial⟩
  | v :: r, o, h => by
    have h0 := h 0 v rfl
    have hr := isVs_of r (o + 8) (fun i u hu => by
      have := h (i + 1) u (by simpa using hu)
      rw [show o + (i + 1) * 8 = o + 8 + i * 8 by omega] at this
      exact this)
    rw [Nat.zero_mul, Nat.add_zero] at h0
    exact ⟨⟨h0.1, hr.1⟩, h0.2, hr.2⟩
theorem isFs_of {B g : Nat} : ∀ (l : List (ByteArray × V)) (o : Nat), (∀ i x, l[i]? = some x → (w.cell? ⟨g, o + i * 9, none⟩ = some (.string x.1) ∧ ∃ cs, CellsAt w g (o + i * 9 + 1) cs ∧ IsV B w x.2 cs) ∧ okV x.2) → IsFs B w l g o ∧ okFs l
  | [], _, _ => ⟨trivial, trivial⟩
  | v :: r, o, h => by
    have h0 := h 0 v rfl
    have hr := isFs_of r (o + 9) (fun i u hu => by
      have := h (i + 1) u (by simpa using hu)
      rw [show o + (i + 1) * 9 = o + 9 + i * 9 by omega] at this
      exact this)
    rw [Nat.zero_mul, Nat.add_zero] at h0
    exact ⟨⟨h0.1, hr.1⟩, h0.2, hr.2⟩

theorem cellsAt_of {b o n k : Nat} {arr : Array Value} (h : w.cells? base ((⟨b, o, none⟩ : Addr).add n) k = some arr.toList) : CellsAt w b (o + n) arr := by
  obtain ⟨_, hl, hcell⟩ := World.cells?_some h
  intro j x hx
  have hj := (Array.getElem?_eq_some_iff.1 hx).1
  have := hcell j (by rw [← hl]; simpa using hj)
  rw [addr_add, addr_add] at this
  rw [this]
  simpa using hx

theorem weights_slice {P : Program} {t e : TypeId} {l r : List (DataW H)} (hu : P.underlying t = some (.slice e)) {B : Nat} (h : ∀ n ∈ (DataW.slice l r).weights P t, n ≤ B) :
    (l.length + r.length) * P.bytesOf e ≤ B ∧ ∀ d ∈ l, ∀ n ∈ d.weights P e, n ≤ B := by
  unfold DataW.weights at h
  rw [hu] at h
  exact ⟨h _ (by simp), fun d hd n hn => h n (List.mem_cons.2 (.inr (List.mem_append.2 (.inl (weights_all hd n hn)))))⟩

theorem weights_struct {P : Program} {t : TypeId} {fs : Array Field} {l : List (DataW H)} (hu : P.underlying t = some (.struct fs)) {B : Nat} (h : ∀ n ∈ (DataW.agg l).weights P t, n ≤ B) {j : Nat} {f : Field} {d : DataW H}
    (hf : fs[j]? = some f) (hd : l[j]? = some d) : ∀ n ∈ d.weights P f.type, n ≤ B := by
  unfold DataW.weights at h
  rw [hu] at h
  exact fun n hn => h n (DataW.weights_mem_each (j := j) (by simp [hf]) hd n hn)

theorem open_value_n : ∀ (N fuel : Nat), fuel ≤ N → ∀ (cs : List Value) (x : DataW H × List MemPlace), DataW.trod enc Tryd.prog w base spare held fuel 27 cs = some x →
    (∀ n ∈ x.1.weights Tryd.prog 27, n ≤ reachBytes) → ∃ (v : V) (arr : Array Value), cs = arr.toList ∧ IsV w.heap.size w v arr ∧ okV v := by
  intro N
  induction N with
  | zero =>
    intro fuel hf cs x h
    obtain rfl : fuel = 0 := by omega
    simp [DataW.trod] at h
  | succ N ih =>
    intro fuel hf cs x h hz
    obtain ⟨xs, n, rfl, rfl, hlen, hxs, hfd⟩ := DataW.trod_struct Tryd.underlying27 h
    have hc : Tryd.prog.cellsOf 27 = 8 := by kernel_rfl
    have h1 : Tryd.prog.cellsOf 22 = 1 := by kernel_rfl
    have h2 : Tryd.prog.cellsOf 4 = 1 := by kernel_rfl
    have h3 : Tryd.prog.cellsOf 2 = 1 := by kernel_rfl
    have h4 : Tryd.prog.cellsOf 23 = 1 := by kernel_rfl
    have h5 : Tryd.prog.cellsOf 9 = 1 := by kernel_rfl
    have h6 : Tryd.prog.cellsOf 24 = 1 := by kernel_rfl
    have h7 : Tryd.prog.cellsOf 25 = 1 := by kernel_rfl
    rw [hc] at hlen
    obtain ⟨a0, a1, a2, a3, a4, a5, a6, a7, rfl⟩ := len8 hlen
    obtain ⟨y0, y1, y2, y3, y4, y5, y6, y7, rfl⟩ := len8 hxs
    have f0 := hfd 0 _ rfl
    have f1 := hfd 1 _ rfl
    have f2 := hfd 2 _ rfl
    have f3 := hfd 3 _ rfl
    have f4 := hfd 4 _ rfl
    have f5 := hfd 5 _ rfl
    have f6 := hfd 6 _ rfl
    have f7 := hfd 7 _ rfl
    simp [h1, h2, h3, h4, h5, h6, h7] at f0 f1 f2 f3 f4 f5 f6 f7
    obtain ⟨k, e0, _, _⟩ := DataW.trod_int Tryd.underlying22 f0
    obtain ⟨b, e1, _⟩ := DataW.trod_bool Tryd.underlying4 f1
    obtain ⟨i, e2, _, _⟩ := DataW.trod_int Tryd.underlying2 f2
    obtain ⟨f, e3, hwf⟩ := trod_float Tryd.underlying23 f3
    obtain ⟨t, e4, _, _⟩ := DataW.trod_string Tryd.underlying9 f4
    obtain ⟨ty, e5, _, _⟩ := DataW.trod_string Tryd.underlying9 f5
    simp at e0 e1 e2 e3 e4 e5
    subst e0 e1 e2 e3 e4 e5
    have bv : Tryd.prog.bytesOf 27 = 112 := by kernel_rfl
    have bm : Tryd.prog.bytesOf 79 = 128 := by kernel_rfl
    have hcm : Tryd.prog.cellsOf 79 = 9 := by kernel_rfl
    have z6 := weights_struct Tryd.underlying27 hz (j := 6) rfl rfl
    have z7 := weights_struct Tryd.underlying27 hz (j := 7) rfl rfl
    have hits : ∃ (p : Option Addr) (its : List V) (c : Nat), a6 = .slice p its.length c ∧ (its = [] ∨ ∃ g o, p = some ⟨g, o, none⟩ ∧ g < w.heap.size ∧ IsVs w.heap.size w its g o) ∧ okVs its ∧ its.length ≤ lenMax := by
      rcases DataW.trod_slice Tryd.underlying24 f6 with ⟨e6, _⟩ | ⟨a, len, cap, elems, rest, m, hnm, e6, hy6, hb, hl, hm, hel, hget, _, _⟩
      · simp at e6
        exact ⟨none, [], 0, e6, .inl rfl, trivial, by simp [lenMax]⟩
      · simp at e6
        rw [hy6] at z6
        obtain ⟨zl, ze⟩ := weights_slice Tryd.underlying24 z6
        rw [bv] at zl
        rw [hc] at hget
        obtain ⟨F, hF⟩ := choose_lt (α := V) (n := len) (p := fun i v => (∃ arr : Array Value, w.cells? base (a.add (i * 8)) 8 = some arr.toList ∧ IsV w.heap.size w v arr) ∧ okV v) (fun i hi => by
          have hg := hget i hi
          obtain ⟨el, hel'⟩ : ∃ el, elems[i]? = some el := ⟨elems[i], by simp [hel, hi]⟩
          rw [hel', Option.bind_eq_some_iff] at hg
          obtain ⟨cs', hc', ht⟩ := hg
          obtain ⟨v, arr, rfl, hv, ho⟩ := ih m (by omega) cs' el ht (ze el.1 (List.mem_map.2 ⟨el, List.mem_of_getElem? hel', rfl⟩))
          exact ⟨v, ⟨arr, hc', hv⟩, ho⟩)
        have hlen : len ≤ lenMax := by
          simp only [List.length_map, hel] at zl
          unfold lenMax
          have : len * 112 ≤ reachBytes := Nat.le_trans (Nat.mul_le_mul_right _ (Nat.le_add_right _ _)) zl
          unfold reachBytes at this
          omega
        refine ⟨some a, (List.range len).map F, cap, by simpa using e6, ?_⟩
        by_cases h0 : len = 0
        · subst h0
          exact ⟨.inl rfl, trivial, by simp [lenMax]⟩
        · obtain ⟨⟨arr0, hc0, hv0⟩, _⟩ := hF 0 (by omega)
          have hcell0 : ∃ u, w.cell? a = some u := by
            obtain ⟨_, hl0, hcl⟩ := World.cells?_some hc0
            have := hcl 0 (by omega)
            rw [Nat.zero_mul] at this
            simp only [Addr.add, if_true] at this
            have hs : 0 < arr0.toList.length := by omega
            exact ⟨arr0.toList[0], by rw [this]; simp⟩
          obtain ⟨u0, hu0⟩ := hcell0
          have hs := World.cell?_spot hu0
          have hlt := World.block_lt_of_cell? w _ hu0
          obtain ⟨g, o, sp⟩ := a
          obtain rfl : sp = none := hs
          have hall := isVs_of (w := w) (B := w.heap.size) (g := g) ((List.range len).map F) o (fun i v hv => by
            have hi : i < len := by
              have := (List.getElem?_eq_some_iff.1 hv).1
              simpa using this
            obtain rfl : F i = v := by simpa [hi] using hv
            obtain ⟨⟨arr, hca, hva⟩, ho⟩ := hF i hi
            exact ⟨⟨arr, cellsAt_of hca, hva⟩, ho⟩)
          exact ⟨.inr ⟨g, o, rfl, hlt, hall.1⟩, hall.2, by simpa using hlen⟩
    have hfls : ∃ (p : Option Addr) (fs : List (ByteArray × V)) (c : Nat), a7 = .slice p fs.length c ∧ (fs = [] ∨ ∃ g o, p = some ⟨g, o, none⟩ ∧ g < w.heap.size ∧ IsFs w.heap.size w fs g o) ∧ okFs fs ∧ fs.length ≤ lenMax := by
      rcases DataW.trod_slice Tryd.underlying25 f7 with ⟨e7, _⟩ | ⟨a, len, cap, elems, rest, m, hnm, e7, hy7, hb, hl, hm, hel, hget, _, _⟩
      · simp at e7
        exact ⟨none, [], 0, e7, .inl rfl, trivial, by simp [lenMax]⟩
      · simp at e7
        rw [hy7] at z7
        obtain ⟨zl, ze⟩ := weights_slice Tryd.underlying25 z7
        rw [bm] at zl
        rw [hcm] at hget
        obtain ⟨F, hF⟩ := choose_lt (α := ByteArray × V) (n := len) (p := fun i x => (∃ arr : Array Value, w.cells? base (a.add (i * 9)) 9 = some (.string x.1 :: arr.toList) ∧ IsV w.heap.size w x.2 arr) ∧ okV x.2) (fun i hi => by
          have hg := hget i hi
          obtain ⟨el, hel'⟩ : ∃ el, elems[i]? = some el := ⟨elems[i], by simp [hel, hi]⟩
          rw [hel', Option.bind_eq_some_iff] at hg
          obtain ⟨cs', hc', ht⟩ := hg
          have zm := ze el.1 (List.mem_map.2 ⟨el, List.mem_of_getElem? hel', rfl⟩)
          obtain ⟨xs', n', hn', rfl, hlen', hxs', hfd'⟩ := DataW.trod_struct Tryd.underlying79 ht
          rw [hcm] at hlen'
          obtain ⟨b0, b1, b2, b3, b4, b5, b6, b7, b8, rfl⟩ := len9 hlen'
          obtain ⟨u0, u1, rfl⟩ := len2 hxs'
          have zv := weights_struct Tryd.underlying79 zm (j := 1) rfl rfl
          have g0 := hfd' 0 _ rfl
          have g1 := hfd' 1 _ rfl
          simp [h5, hc] at g0 g1
          obtain ⟨nm, en, _, _⟩ := DataW.trod_string Tryd.underlying9 g0
          simp at en
          subst en
          obtain ⟨v, arr, harr, hv, ho⟩ := ih n' (by omega) _ u1 g1 zv
          exact ⟨(nm, v), ⟨arr, by rw [← harr]; exact hc', hv⟩, ho⟩)
        have hlen : len ≤ lenMax := by
          simp only [List.length_map, hel] at zl
          unfold lenMax
          have : len * 128 ≤ reachBytes := Nat.le_trans (Nat.mul_le_mul_right _ (Nat.le_add_right _ _)) zl
          unfold reachBytes at this
          omega
        refine ⟨some a, (List.range len).map F, cap, by simpa using e7, ?_⟩
        by_cases h0 : len = 0
        · subst h0
          exact ⟨.inl rfl, trivial, by simp [lenMax]⟩
        · obtain ⟨⟨arr0, hc0, hv0⟩, _⟩ := hF 0 (by omega)
          have hcell0 : ∃ u, w.cell? a = some u := by
            obtain ⟨_, hl0, hcl⟩ := World.cells?_some hc0
            have := hcl 0 (by omega)
            rw [Nat.zero_mul] at this
            simp only [Addr.add, if_true] at this
            exact ⟨_, this⟩
          obtain ⟨u0, hu0⟩ := hcell0
          have hs := World.cell?_spot hu0
          have hlt := World.block_lt_of_cell? w _ hu0
          obtain ⟨g, o, sp⟩ := a
          obtain rfl : sp = none := hs
          have hall := isFs_of (w := w) (B := w.heap.size) (g := g) ((List.range len).map F) o (fun i x hv => by
            have hi : i < len := by
              have := (List.getElem?_eq_some_iff.1 hv).1
              simpa using this
            obtain rfl : F i = x := by simpa [hi] using hv
            obtain ⟨⟨arr, hca, hva⟩, ho⟩ := hF i hi
            obtain ⟨_, hl9, hcl⟩ := World.cells?_some hca
            refine ⟨⟨?_, arr, ?_, hva⟩, ho⟩
            · have := hcl 0 (by omega)
              rw [addr_add, addr_add] at this
              simpa using this
            · intro j y hy
              have hj := (Array.getElem?_eq_some_iff.1 hy).1
              have := hcl (j + 1) (by rw [← hl9]; simpa using hj)
              rw [addr_add, addr_add] at this
              rw [show o + i * 9 + 1 + j = o + i * 9 + (j + 1) by omega, this]
              simpa using hy)
          exact ⟨.inr ⟨g, o, rfl, hlt, hall.1⟩, hall.2, by simpa using hlen⟩
    obtain ⟨p, its, c, rfl, hi, hoi, li⟩ := hits
    obtain ⟨q, fs, d, rfl, hf', hof, lf⟩ := hfls
    refine ⟨.mk k b i f t ty its fs, vcells k b i f t ty p its.length c q fs.length d, rfl, ⟨p, c, q, d, rfl, hi, hf', li, lf⟩, ?_, hoi, hof⟩
    simpa [Lit.wf] using hwf

theorem open_value {fuel : Nat} {cs : List Value} {x : DataW H × List MemPlace} (h : DataW.trod enc Tryd.prog w base spare held fuel 27 cs = some x)
    (hz : ∀ n ∈ x.1.weights Tryd.prog 27, n ≤ reachBytes) : ∃ (v : V) (arr : Array Value), cs = arr.toList ∧ IsV w.heap.size w v arr ∧ okV v := open_value_n fuel fuel (Nat.le_refl _) cs x h hz
end
end Go.Proofs.YtnmnmkdmnohbmaaDoor

namespace Go.Proofs.YtnmnmkdmnohbmaaDoor
open Go Go.RowKit

/-- Each item is y; each name has an x behind it. -/
def refill : V → V → V
  | .mk k b i f t ty its fs, y => .mk k b i f t ty (List.replicate its.length y) (fs.map (fun z => (z.1 ++ ⟨#[120]⟩, z.2)))
theorem szVs_replicate (y : V) : ∀ n : Nat, szV.szVs (List.replicate n y) = n * szV y
  | 0 => by simp [szV.szVs]
  | n + 1 => by rw [List.replicate_succ, szV.szVs, szVs_replicate y n, Nat.add_mul]; omega
theorem szFs_names : ∀ fs : List (ByteArray × V), szV.szFs (fs.map (fun z => (z.1 ++ ⟨#[120]⟩, z.2))) = szV.szFs fs
  | [] => rfl
  | z :: r => by rw [List.map_cons, szV.szFs, szV.szFs, szFs_names r]
theorem sz_refill (x y : V) (hx : szV x ≤ 9999) (hy : szV y ≤ 9999) : szV (refill x y) ≤ 200000000 := by
  obtain ⟨k, b, i, f, t, ty, its, fs⟩ := x
  simp only [refill, szV, szVs_replicate, szFs_names, List.length_replicate, List.length_map] at hx ⊢
  have : its.length * szV y ≤ 9999 * 9999 := Nat.mul_le_mul (by omega) hy
  omega
theorem okVs_replicate (y : V) (h : okV y) : ∀ n : Nat, okVs (List.replicate n y)
  | 0 => trivial
  | n + 1 => by rw [List.replicate_succ, okVs]; exact ⟨h, okVs_replicate y h n⟩
theorem okFs_names : ∀ fs : List (ByteArray × V), okFs fs → okFs (fs.map (fun z => (z.1 ++ ⟨#[120]⟩, z.2)))
  | [], _ => trivial
  | z :: r, h => by rw [okFs] at h; rw [List.map_cons, okFs]; exact ⟨h.1, okFs_names r h.2⟩
theorem ok_refill (x y : V) (hx : okV x) (hy : okV y) : okV (refill x y) := by
  obtain ⟨k, b, i, f, t, ty, its, fs⟩ := x
  rw [okV] at hx
  rw [refill, okV]
  exact ⟨hx.1, okVs_replicate y hy _, okFs_names fs hx.2.2⟩
theorem nmVs_replicate (y : V) (h : nmV y) : ∀ n : Nat, nmVs (List.replicate n y)
  | 0 => trivial
  | n + 1 => by rw [List.replicate_succ, nmVs]; exact ⟨h, nmVs_replicate y h n⟩
theorem nm_more (s : ByteArray) : (s ++ ⟨#[120]⟩).size = s.size + 1 := by rw [ByteArray.size_append]; rfl
/-- Where the members lie, and that each name is short. -/
def shortFs (fs : List (ByteArray × V)) : Prop := ∀ z ∈ fs, z.1.size ≤ 1048576
theorem nmFs_names : ∀ fs : List (ByteArray × V), nmFs fs → shortFs fs → nmFs (fs.map (fun z => (z.1 ++ ⟨#[120]⟩, z.2)))
  | [], _, _ => trivial
  | z :: r, h, hs => by
    rw [nmFs] at h
    rw [List.map_cons, nmFs]
    refine ⟨⟨?_, h.1.2⟩, nmFs_names r h.2 (fun y hy => hs y (List.mem_cons_of_mem _ hy))⟩
    have := hs z (by simp)
    rw [nm_more]
    unfold maxLen
    omega

/-- The items up to j are y; but for their block all stands. -/
structure FillI (W0 : World) (g cap n : Nat) (ycs : Array Value) (j : Nat) (W : World) : Prop where
  moved : Moved (fun k => k = g) W0 W
  row : 0 < n → ∃ cur, W.heap[g]? = some (.cells cur 27 (0, 0)) ∧ cur.size = cap * 8
  cells : ∀ i, i < j → CellsAt W g (i * 8) ycs
theorem moved_setCells (w : World) (g o : Nat) (vs : List Value) : Moved (fun k => k = g) w (w.setCells g o vs) := by
  have h := below_setCells (Below.refl 0 w) (Nat.zero_le g) vs o
  exact ⟨h.os, h.tape, h.output, h.size, fun k _ hk => heap_setCells_other g hk vs o w⟩
theorem Moved.refl (S : Nat → Prop) (w : World) : Moved S w w := ⟨rfl, rfl, rfl, Nat.le_refl _, fun _ _ _ => rfl⟩
theorem FillI.start {W0 : World} {g cap n : Nat} {ycs : Array Value} (h : 0 < n → ∃ cur, W0.heap[g]? = some (.cells cur 27 (0, 0)) ∧ cur.size = cap * 8) : FillI W0 g cap n ycs 0 W0 :=
  ⟨Moved.refl _ _, h, fun i hi => by omega⟩
theorem FillI.there {W0 W : World} {g cap n j : Nat} {ycs : Array Value} (h : FillI W0 g cap n ycs j W) (hj : j < n) (hnc : n ≤ cap) : W.there g (j * 8) 8 := by
  obtain ⟨cur, h1, h2⟩ := h.row (by omega)
  intro o ho
  refine ⟨?_, by simp [World.frozen?, h1]⟩
  simp only [World.cell?, h1, Option.isSome_none, Bool.false_eq_true, if_false]
  have : j * 8 + o < cur.size := by rw [h2]; have := Nat.mul_le_mul_right 8 (show j + 1 ≤ cap by omega); omega
  simp [this]
theorem FillI.step {W0 W : World} {g cap n j : Nat} {ycs : Array Value} (h : FillI W0 g cap n ycs j W) (hj : j < n) (hnc : n ≤ cap) (hs : ycs.size = 8) : FillI W0 g cap n ycs (j + 1) (W.setCells g (j * 8) ycs.toList) := by
  obtain ⟨cur, h1, h2⟩ := h.row (by omega)
  have hl : j * 8 + ycs.toList.length ≤ cur.size := by
    have := Nat.mul_le_mul_right 8 (show j + 1 ≤ cap by omega)
    simp
    omega
  obtain ⟨cur', q1, q2, q3, q4⟩ := setCells_at g ycs.toList (j * 8) W cur h1 hl
  refine ⟨h.moved.trans (moved_setCells _ _ _ _), fun _ => ⟨cur', q1, q2.trans h2⟩, fun i hi o u hu => ?_⟩
  have ho : o < 8 := by have := (Array.getElem?_eq_some_iff.1 hu).1; omega
  simp only [World.cell?, q1, Option.isSome_none, Bool.false_eq_true, if_false]
  by_cases e : i = j
  · subst e
    exact q4 o u (by simpa using hu)
  · rw [q3 _ (by omega)]
    have := h.cells i (by omega) o u hu
    simpa only [World.cell?, h1, Option.isSome_none, Bool.false_eq_true, if_false] using this

/-- The names up to j have an x behind them; but for their cells all stands. -/
structure FillN (W0 : World) (g m : Nat) (fs : List (ByteArray × V)) (j : Nat) (W : World) : Prop where
  moved : Moved (fun k => k = g) W0 W
  row : 0 < m → ∃ cur, W.heap[g]? = some (.cells cur 79 (0, 0))
  new : ∀ i z, i < j → fs[i]? = some z → W.cell? ⟨g, i * 9, none⟩ = some (.string (z.1 ++ ⟨#[120]⟩))
  old : ∀ i z, j ≤ i → fs[i]? = some z → W.cell? ⟨g, i * 9, none⟩ = some (.string z.1)
  rest : ∀ i o, 1 ≤ o → o < 9 → W.cell? ⟨g, i * 9 + o, none⟩ = W0.cell? ⟨g, i * 9 + o, none⟩
theorem FillN.start {W0 : World} {g m : Nat} {fs : List (ByteArray × V)} (h : 0 < m → ∃ cur, W0.heap[g]? = some (.cells cur 79 (0, 0))) (ho : ∀ i z, fs[i]? = some z → W0.cell? ⟨g, i * 9, none⟩ = some (.string z.1)) : FillN W0 g m fs 0 W0 :=
  ⟨Moved.refl _ _, h, fun i _ hi => by omega, fun i z _ h => ho i z h, fun _ _ _ _ => rfl⟩
theorem cell_set_ne (W : World) (g j : Nat) (u : Value) {k : Nat} (h : k ≠ j) : (W.setCell ⟨g, j, none⟩ u).cell? ⟨g, k, none⟩ = W.cell? ⟨g, k, none⟩ := by
  have := World.cell?_setCells_out g [u] j W ⟨g, k, none⟩ (fun _ _ => by simp; omega)
  simpa [World.setCells] using this
theorem FillN.step {W0 W : World} {g m j : Nat} {fs : List (ByteArray × V)} (h : FillN W0 g m fs j W) {z : ByteArray × V} (hz : fs[j]? = some z) (hm : 0 < m) : FillN W0 g m fs (j + 1) (W.setCell ⟨g, j * 9, none⟩ (.string (z.1 ++ ⟨#[120]⟩))) := by
  obtain ⟨cur, h1⟩ := h.row hm
  refine ⟨h.moved.trans (moved_setCells W g (j * 9) [_]), fun _ => ⟨_, heap_setCell_same h1 _⟩, fun i z' hi hz' => ?_, fun i z' hi hz' => ?_, fun i o h1 h2 => ?_⟩
  · by_cases e : i = j
    · subst e
      rw [hz] at hz'
      cases hz'
      have hold := h.old i z (Nat.le_refl _) hz
      have hb := heap_setCell_same (j := i * 9) h1 (.string (z.1 ++ ⟨#[120]⟩))
      have hlt : i * 9 < cur.size := by
        simp only [World.cell?, h1, Option.isSome_none, Bool.false_eq_true, if_false] at hold
        exact (Array.getElem?_eq_some_iff.1 hold).1
      simp only [World.cell?, hb, Option.isSome_none, Bool.false_eq_true, if_false]
      simp [hlt]
    · rw [cell_set_ne _ _ _ _ (by omega)]
      exact h.new i z' (by omega) hz'
  · rw [cell_set_ne _ _ _ _ (by omega)]
    exact h.old i z' (by omega) hz'
  · rw [cell_set_ne _ _ _ _ (by omega)]
    exact h.rest i o h1 h2
theorem FillN.drew {W0 W : World} {g m j : Nat} {fs : List (ByteArray × V)} (h : FillN W0 g m fs j W) : FillN W0 g m fs j W.drew :=
  ⟨⟨h.moved.os, h.moved.tape, h.moved.output, h.moved.size, h.moved.block⟩, h.row, h.new, h.old, h.rest⟩
theorem ownFs_get {w : World} {g : Nat} : ∀ {fs : List (ByteArray × V)} {o : Nat} {br : List Nat} {i : Nat} {z : ByteArray × V}, OwnFs w fs g o br → fs[i]? = some z →
    ∃ cs bs, (∀ b ∈ bs, b ∈ br) ∧ w.cell? ⟨g, o + i * 9, none⟩ = some (.string z.1) ∧ CellsAt w g (o + i * 9 + 1) cs ∧ OwnV w z.2 cs bs
  | [], _, _, _, _, _, h => by simp at h
  | x :: r, o, br, 0, z, h, hz => by
    obtain rfl : x = z := by simpa using hz
    obtain ⟨b1, b2, cs, rfl, h1, h2, h3, h4⟩ := h
    exact ⟨cs, b1, fun b hb => by simp [hb], by simpa using h1, by simpa using h2, h3⟩
  | x :: r, o, br, i + 1, z, h, hz => by
    obtain ⟨b1, b2, cs, rfl, h1, h2, h3, h4⟩ := h
    obtain ⟨cs', bs, q1, q2, q3, q4⟩ := ownFs_get h4 (by simpa using hz)
    refine ⟨cs', bs, fun b hb => by simp [q1 b hb], ?_, ?_, q4⟩
    · rw [show o + (i + 1) * 9 = o + 9 + i * 9 by omega]; exact q2
    · rw [show o + (i + 1) * 9 = o + 9 + i * 9 by omega]; exact q3

/-- The blocks of a value's two lists. -/
structure Heads (w : World) (its : List V) (fs : List (ByteArray × V)) (p q : Option Addr) (c d : Nat) (bx : List Nat) (gI gF : Nat) (br : List Nat) : Prop where
  ne : gI ≠ gF
  inI : gI ∈ bx ∨ gI = w.heap.size
  inF : gF ∈ bx ∨ gF = w.heap.size + 1
  items : 0 < its.length → p = some ⟨gI, 0, none⟩ ∧ its.length ≤ c ∧ c ≤ maxLen ∧ ∃ cur, w.heap[gI]? = some (.cells cur 27 (0, 0)) ∧ cur.size = c * 8
  fields : 0 < fs.length → q = some ⟨gF, 0, none⟩ ∧ fs.length ≤ d ∧ d ≤ maxLen ∧ (∃ cur, w.heap[gF]? = some (.cells cur 79 (0, 0))) ∧ OwnFs w fs gF 0 br
  nI : gI ∉ br
  nF : gF ∉ br
  sub : ∀ b ∈ br, b ∈ bx
theorem heads_of {w : World} {k : Int} {b : Bool} {i : Int} {f : Nat} {t ty : ByteArray} {its : List V} {fs : List (ByteArray × V)} {p q : Option Addr} {n c m d : Nat} {bx : List Nat}
    (h : OwnV w (.mk k b i f t ty its fs) (vcells k b i f t ty p n c q m d) bx) (hn : bx.Nodup) (hl : ∀ y ∈ bx, y < w.heap.size) : n = its.length ∧ m = fs.length ∧ ∃ gI gF br, Heads w its fs p q c d bx gI gF br := by
  obtain ⟨p', c', q', d', b1, b2, hcs, rfl, l1, l2, hi, hf⟩ := h
  obtain ⟨rfl, rfl, rfl, rfl, rfl, rfl⟩ : p' = p ∧ n = its.length ∧ c' = c ∧ q' = q ∧ m = fs.length ∧ d' = d := by
    simp [vcells] at hcs
    obtain ⟨⟨h1, h2, h3⟩, h4, h5, h6⟩ := hcs
    exact ⟨h1.symm, h2, h3.symm, h4.symm, h5, h6.symm⟩
  refine ⟨rfl, rfl, ?_⟩
  rw [List.nodup_append] at hn
  obtain ⟨hn1, hn2, hn3⟩ := hn
  rcases hi with ⟨rfl, rfl, rfl, rfl⟩ | ⟨g, br1, cur, rfl, rfl, hb, hs, hc, hm, ho⟩ <;> rcases hf with ⟨rfl, rfl, rfl, rfl⟩ | ⟨g2, br2, cur2, rfl, rfl, hb2, hs2, hc2, hm2, ho2⟩
  · exact ⟨w.heap.size, w.heap.size + 1, [], by omega, .inr rfl, .inr rfl, by simp, by simp, by simp, by simp, by simp⟩
  · have := hl g2 (by simp)
    rw [List.nodup_cons] at hn2
    exact ⟨w.heap.size, g2, br2, by omega, .inr rfl, .inl (by simp), by simp, fun _ => ⟨rfl, hc2, hm2, ⟨_, hb2⟩, ho2⟩, fun hh => by have := hl _ (show w.heap.size ∈ [] ++ g2 :: br2 by simp [hh]); omega, hn2.1, fun y hy => by simp [hy]⟩
  · have := hl g (by simp)
    exact ⟨g, w.heap.size + 1, [], by omega, .inl (by simp), .inr rfl, fun _ => ⟨rfl, hc, hm, _, hb, hs⟩, by simp, by simp, by simp, by simp⟩
  · rw [List.nodup_cons] at hn2
    exact ⟨g, g2, br2, hn3 g (by simp) g2 (by simp), .inl (by simp), .inl (by simp), fun _ => ⟨rfl, hc, hm, _, hb, hs⟩, fun _ => ⟨rfl, hc2, hm2, ⟨_, hb2⟩, ho2⟩, fun hh => hn3 g (by simp) g (by simp [hh]) rfl, hn2.1, fun y hy => by simp [hy]⟩

theorem fillN_of {v5 wI : World} {its : List V} {fs : List (ByteArray × V)} {p q : Option Addr} {c d : Nat} {bx br : List Nat} {gI gF : Nat} {ycs : Array Value} {n : Nat} (h : Heads v5 its fs p q c d bx gI gF br) (h1 : FillI v5 gI c n ycs n wI) : FillN wI gF fs.length fs 0 wI := by
  refine FillN.start (fun hm => ?_) (fun i z hz => ?_)
  · obtain ⟨_, _, _, ⟨cur, hb⟩, _⟩ := h.fields hm
    exact ⟨cur, (h1.moved.block gF (Array.getElem?_eq_some_iff.1 hb).1 (fun e => h.ne e.symm)).trans hb⟩
  · have hm : 0 < fs.length := by have := (List.getElem?_eq_some_iff.1 hz).1; omega
    obtain ⟨_, _, _, ⟨cur, hb⟩, ho⟩ := h.fields hm
    obtain ⟨cs, bs, _, q2, _⟩ := ownFs_get ho hz
    rw [Nat.zero_add] at q2
    exact (World.cell?_of_block (a := ⟨gF, i * 9, none⟩) (h1.moved.block gF (Array.getElem?_eq_some_iff.1 hb).1 (fun e => h.ne e.symm))).trans q2
/-- Behind both loops the value is written over. -/
theorem is_refill {W0 W1 W2 : World} {k : Int} {b : Bool} {i : Int} {f : Nat} {t ty : ByteArray} {its : List V} {fs : List (ByteArray × V)} {p q : Option Addr} {c d : Nat} {bx bz br : List Nat} {gI gF : Nat} {y : V} {ycs : Array Value}
    (h : Heads W0 its fs p q c d bx gI gF br) (hy : OwnV W0 y ycs bz) (hly : ∀ z ∈ bz, z < W0.heap.size) (hlx : ∀ z ∈ bx, z < W0.heap.size) (hd : ∀ z ∈ bx, z ∉ bz) (li : its.length ≤ lenMax) (lf : fs.length ≤ lenMax) (oy : okV y) (of : okFs fs)
    (h1 : FillI W0 gI c its.length ycs its.length W1) (h2 : FillN W1 gF fs.length fs fs.length W2) :
    IsV W2.heap.size W2 (refill (.mk k b i f t ty its fs) y) (vcells k b i f t ty p its.length c q fs.length d) := by
  have hs1 := h1.moved.size
  have hs2 := h2.moved.size
  have hnI : gI ∉ bz := fun hh => by rcases h.inI with e | e; exact hd _ e hh; have := hly _ hh; omega
  have hnF : gF ∉ bz := fun hh => by rcases h.inF with e | e; exact hd _ e hh; have := hly _ hh; omega
  have hyw : OwnV W2 y ycs bz := (hy.kept (fun z hz => h1.moved.block z (hly z hz) (fun e => hnI (e ▸ hz)))).kept (fun z hz => h2.moved.block z (Nat.lt_of_lt_of_le (hly z hz) hs1) (fun e => hnF (e ▸ hz)))
  have hyv : IsV W2.heap.size W2 y ycs := hyw.isV (fun z hz => by have := hly z hz; omega)
  rw [refill]
  refine ⟨p, c, q, d, by simp, ?_, ?_, by simpa using li, by simpa using lf⟩
  · by_cases h0 : its.length = 0
    · left; rw [h0]; rfl
    · right
      obtain ⟨hp, hc, _, cur, hb, _⟩ := h.items (by omega)
      have hlt : gI < W0.heap.size := (Array.getElem?_eq_some_iff.1 hb).1
      refine ⟨gI, 0, hp, by omega, (isVs_of _ 0 (fun j v hv => ?_)).1⟩
      have hj : j < its.length := by have := (List.getElem?_eq_some_iff.1 hv).1; simpa using this
      obtain rfl : y = v := by simpa [List.getElem?_replicate, hj] using hv
      refine ⟨⟨ycs, ?_, hyv⟩, oy⟩
      rw [Nat.zero_add]
      exact (h1.cells j hj).kept (h2.moved.block gI (by omega) h.ne)
  · by_cases h0 : fs.length = 0
    · left; rw [List.eq_nil_of_length_eq_zero h0]; rfl
    · right
      obtain ⟨hq, hc, _, ⟨cur, hb⟩, ho⟩ := h.fields (by omega)
      have hlt : gF < W0.heap.size := (Array.getElem?_eq_some_iff.1 hb).1
      refine ⟨gF, 0, hq, by omega, (isFs_of _ 0 (fun j x hv => ?_)).1⟩
      rw [List.getElem?_map, Option.map_eq_some_iff] at hv
      obtain ⟨z, hz, rfl⟩ := hv
      have hj : j < fs.length := (List.getElem?_eq_some_iff.1 hz).1
      obtain ⟨cs, bs, q1, q2, q3, q4⟩ := ownFs_get ho hz
      have hzo : okV z.2 := by
        have key : ∀ (l : List (ByteArray × V)) (j : Nat), okFs l → l[j]? = some z → okV z.2 := by
          intro l
          induction l with
          | nil => intro j _ h; simp at h
          | cons a r ih =>
            intro j h1 h2
            cases j with
            | zero => obtain rfl : a = z := by simpa using h2
                      exact h1.1
            | succ j => exact ih j h1.2 (by simpa using h2)
        exact key fs j of hz
      refine ⟨⟨?_, cs, ?_, ?_⟩, hzo⟩
      · rw [Nat.zero_add]; exact h2.new j z hj hz
      · intro o u hu
        have hu8 : o < cs.size := (Array.getElem?_eq_some_iff.1 hu).1
        have h8 : cs.size = 8 := by
          have key : ∀ v : V, OwnV W0 v cs bs → cs.size = 8 := by
            rintro ⟨zk, zb, zi, zf, zt, zty, zits, zfs⟩ ⟨_, _, _, _, _, _, rfl, _⟩
            rfl
          exact key _ q4
        have h3 := q3 o u hu
        rw [show 0 + j * 9 + 1 + o = j * 9 + (1 + o) by omega] at h3 ⊢
        rw [h2.rest j (1 + o) (by omega) (by omega)]
        exact (World.cell?_of_block (a := ⟨gF, j * 9 + (1 + o), none⟩) (h1.moved.block gF hlt (fun e => h.ne e.symm))).trans h3
      · have hb1 : ∀ z' ∈ bs, z' ∈ bx := fun z' hz' => h.sub z' (q1 z' hz')
        refine ((q4.kept (fun z' hz' => h1.moved.block z' (hlx z' (hb1 z' hz')) (fun e => h.nI (e ▸ q1 z' hz')))).kept (fun z' hz' => h2.moved.block z' (Nat.lt_of_lt_of_le (hlx z' (hb1 z' hz')) hs1) (fun e => h.nF (e ▸ q1 z' hz')))).isV (fun z' hz' => ?_)
        have := hlx z' (hb1 z' hz')
        omega
end Go.Proofs.YtnmnmkdmnohbmaaDoor
