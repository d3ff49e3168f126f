/- Several texts in one: Helper text: what an argument that is a value reads as. A value as an argument, where what it reads is of small bulk: its texts are short. Lists of faults as arguments, opened; how long they are. What a row's list and the world's shape give for the reading of a path's text. Conditions: none. -/
import Derived.Test.YtnmnmkdmnohbmaaGreatDoorPackK
import Derived.Test.YtnmnmkdmnohbmaaGreatDoorPackG
import Derived.SizedLaws
import Derived.Test.YtnmnmkdmnohbmaaGreatDoorPackJ
import Derived.Test.YtnmnmkdmnohbmaaGreatDoorPackP
import Derived.Test.YtnmnmkdmnohbmaaGreatDoorPackE
import Derived.Test.YtnmnmkdmnohbmaaGreatDoorRows
import Derived.Deep.Strs
import Derived.Test.YtnmnmkdmnohbmaaGreatDoorPackN
import Derived.Lib.LaidU8
import Derived.Shelf.Vars
namespace Go.Proofs.YtnmnmkdmnohbmaaGreatDoor
open Go.RowKit Go.Deep
section
variable {H : Type} {enc : TypeId × Value → H} {w : World} {base : Nat} {spare : Nat → Bool} {held : Bool}

theorem trod_float {P : Program} {t : TypeId} {k : FloatKind} {fuel : Nat} {cs : List Value} {x : DataW H × List MemPlace} (ht : P.underlying t = some (.float k)) (h : DataW.trod enc P w base spare held fuel t cs = some x) :
    ∃ n, cs = [.float k n] ∧ (Lit.float k n).wf = true := by
  cases fuel with
  | zero => simp [DataW.trod] at h
  | succ n =>
    unfold DataW.trod at h
    rw [ht] at h
    split at h <;> simp_all

theorem len8 {α : Type} {l : List α} (h : l.length = 8) : ∃ a b c d e f g i, l = [a, b, c, d, e, f, g, i] := by
  match l, h with
  | [a, b, c, d, e, f, g, i], _ => exact ⟨a, b, c, d, e, f, g, i, rfl⟩
theorem len9 {α : Type} {l : List α} (h : l.length = 9) : ∃ z a b c d e f g i, l = [z, a, b, c, d, e, f, g, i] := by
  match l, h with
  | [z, a, b, c, d, e, f, g, i], _ => exact ⟨z, a, b, c, d, e, f, g, i, rfl⟩
theorem len2 {α : Type} {l : List α} (h : l.length = 2) : ∃ a b, l = [a, b] := by
  match l, h with
  | [a, b], _ => exact ⟨a, b, rfl⟩

theorem weights_all {P : Program} {e : TypeId} : ∀ {l : List (DataW H)} {d : DataW H}, d ∈ l → ∀ n ∈ d.weights P e, n ∈ DataW.weightsAll P e l
  | y :: r, d, h, n, hn => by
    unfold DataW.weightsAll
    rcases List.mem_cons.1 h with rfl | h
    · exact List.mem_append.2 (.inl hn)
    · exact List.mem_append.2 (.inr (weights_all h n hn))

/-- The elements of a list of values, gathered. -/
theorem isVs_of {B g : Nat} : ∀ (l : List V) (o : Nat), (∀ i v, l[i]? = some v → (∃ cs, CellsAt w g (o + i * 8) cs ∧ IsV B w v cs) ∧ okV v) → IsVs B w l g o ∧ okVs l
  | [], _, _ => ⟨trivial, trivial⟩
  | v :: r, o, h => by
    have h0 := h 0 v rfl
    have hr := isVs_of r (o + 8) (fun i u hu => by
      have := h (i + 1) u (by simpa using hu)
      rw [show o + (i + 1) * 8 = o + 8 + i * 8 by omega] at this
      exact this)
    rw [Nat.zero_mul, Nat.add_zero] at h0
    exact ⟨⟨h0.1, hr.1⟩, h0.2, hr.2⟩
theorem isFs_of {B g : Nat} : ∀ (l : List (ByteArray × V)) (o : Nat), (∀ i x, l[i]? = some x → (w.cell? ⟨g, o + i * 9, none⟩ = some (.string x.1) ∧ ∃ cs, CellsAt w g (o + i * 9 + 1) cs ∧ IsV B w x.2 cs) ∧ okV x.2) → IsFs B w l g o ∧ okFs l
  | [], _, _ => ⟨trivial, trivial⟩
  | v :: r, o, h => by
    have h0 := h 0 v rfl
    have hr := isFs_of r (o + 9) (fun i u hu => by
      have := h (i + 1) u (by simpa using hu)
      rw [show o + (i + 1) * 9 = o + 9 + i * 9 by omega] at this
      exact this)
    rw [Nat.zero_mul, Nat.add_zero] at h0
    exact ⟨⟨h0.1, hr.1⟩, h0.2, hr.2⟩

theorem cellsAt_of {b o n k : Nat} {arr : Array Value} (h : w.cells? base ((⟨b, o, none⟩ : Addr).add n) k = some arr.toList) : CellsAt w b (o + n) arr := by
  obtain ⟨_, hl, hcell⟩ := World.cells?_some h
  intro j x hx
  have hj := (Array.getElem?_eq_some_iff.1 hx).1
  have := hcell j (by rw [← hl]; simpa using hj)
  rw [addr_add, addr_add] at this
  rw [this]
  simpa using hx

theorem weights_slice {P : Program} {t e : TypeId} {l r : List (DataW H)} (hu : P.underlying t = some (.slice e)) {B : Nat} (h : ∀ n ∈ (DataW.slice l r).weights P t, n ≤ B) :
    (l.length + r.length) * P.bytesOf e ≤ B ∧ ∀ d ∈ l, ∀ n ∈ d.weights P e, n ≤ B := by
  unfold DataW.weights at h
  rw [hu] at h
  exact ⟨h _ (by simp), fun d hd n hn => h n (List.mem_cons.2 (.inr (List.mem_append.2 (.inl (weights_all hd n hn)))))⟩

theorem weights_struct {P : Program} {t : TypeId} {fs : Array Field} {l : List (DataW H)} (hu : P.underlying t = some (.struct fs)) {B : Nat} (h : ∀ n ∈ (DataW.agg l).weights P t, n ≤ B) {j : Nat} {f : Field} {d : DataW H}
    (hf : fs[j]? = some f) (hd : l[j]? = some d) : ∀ n ∈ d.weights P f.type, n ≤ B := by
  unfold DataW.weights at h
  rw [hu] at h
  exact fun n hn => h n (DataW.weights_mem_each (j := j) (by simp [hf]) hd n hn)

theorem open_value_n : ∀ (N fuel : Nat), fuel ≤ N → ∀ (cs : List Value) (x : DataW H × List MemPlace), DataW.trod enc Tryz.prog w base spare held fuel 27 cs = some x →
    (∀ n ∈ x.1.weights Tryz.prog 27, n ≤ reachBytes) → ∃ (v : V) (arr : Array Value), cs = arr.toList ∧ IsV w.heap.size w v arr ∧ okV v := by
  intro N
  induction N with
  | zero =>
    intro fuel hf cs x h
    obtain rfl : fuel = 0 := by omega
    simp [DataW.trod] at h
  | succ N ih =>
    intro fuel hf cs x h hz
    obtain ⟨xs, n, rfl, rfl, hlen, hxs, hfd⟩ := DataW.trod_struct Tryz.underlying27 h
    have hc : Tryz.prog.cellsOf 27 = 8 := by kernel_rfl
    have h1 : Tryz.prog.cellsOf 22 = 1 := by kernel_rfl
    have h2 : Tryz.prog.cellsOf 4 = 1 := by kernel_rfl
    have h3 : Tryz.prog.cellsOf 2 = 1 := by kernel_rfl
    have h4 : Tryz.prog.cellsOf 23 = 1 := by kernel_rfl
    have h5 : Tryz.prog.cellsOf 9 = 1 := by kernel_rfl
    have h6 : Tryz.prog.cellsOf 24 = 1 := by kernel_rfl
    have h7 : Tryz.prog.cellsOf 25 = 1 := by kernel_rfl
    rw [hc] at hlen
    obtain ⟨a0, a1, a2, a3, a4, a5, a6, a7, rfl⟩ := len8 hlen
    obtain ⟨y0, y1, y2, y3, y4, y5, y6, y7, rfl⟩ := len8 hxs
    have f0 := hfd 0 _ rfl
    have f1 := hfd 1 _ rfl
    have f2 := hfd 2 _ rfl
    have f3 := hfd 3 _ rfl
    have f4 := hfd 4 _ rfl
    have f5 := hfd 5 _ rfl
    have f6 := hfd 6 _ rfl
    have f7 := hfd 7 _ rfl
    simp [h1, h2, h3, h4, h5, h6, h7] at f0 f1 f2 f3 f4 f5 f6 f7
    obtain ⟨k, e0, _, _⟩ := DataW.trod_int Tryz.underlying22 f0
    obtain ⟨b, e1, _⟩ := DataW.trod_bool Tryz.underlying4 f1
    obtain ⟨i, e2, _, _⟩ := DataW.trod_int Tryz.underlying2 f2
    obtain ⟨f, e3, hwf⟩ := trod_float Tryz.underlying23 f3
    obtain ⟨t, e4, _, _⟩ := DataW.trod_string Tryz.underlying9 f4
    obtain ⟨ty, e5, _, _⟩ := DataW.trod_string Tryz.underlying9 f5
    simp at e0 e1 e2 e3 e4 e5
    subst e0 e1 e2 e3 e4 e5
    have bv : Tryz.prog.bytesOf 27 = 112 := by kernel_rfl
    have bm : Tryz.prog.bytesOf 63 = 128 := by kernel_rfl
    have hcm : Tryz.prog.cellsOf 63 = 9 := by kernel_rfl
    have z6 := weights_struct Tryz.underlying27 hz (j := 6) rfl rfl
    have z7 := weights_struct Tryz.underlying27 hz (j := 7) rfl rfl
    have hits : ∃ (p : Option Addr) (its : List V) (c : Nat), a6 = .slice p its.length c ∧ (its = [] ∨ ∃ g o, p = some ⟨g, o, none⟩ ∧ g < w.heap.size ∧ IsVs w.heap.size w its g o) ∧ okVs its ∧ its.length ≤ lenMax := by
      rcases DataW.trod_slice Tryz.underlying24 f6 with ⟨e6, _⟩ | ⟨a, len, cap, elems, rest, m, hnm, e6, hy6, hb, hl, hm, hel, hget, _, _⟩
      · simp at e6
        exact ⟨none, [], 0, e6, .inl rfl, trivial, by simp [lenMax]⟩
      · simp at e6
        rw [hy6] at z6
        obtain ⟨zl, ze⟩ := weights_slice Tryz.underlying24 z6
        rw [bv] at zl
        rw [hc] at hget
        obtain ⟨F, hF⟩ := choose_lt (α := V) (n := len) (p := fun i v => (∃ arr : Array Value, w.cells? base (a.add (i * 8)) 8 = some arr.toList ∧ IsV w.heap.size w v arr) ∧ okV v) (fun i hi => by
          have hg := hget i hi
          obtain ⟨el, hel'⟩ : ∃ el, elems[i]? = some el := ⟨elems[i], by simp [hel, hi]⟩
          rw [hel', Option.bind_eq_some_iff] at hg
          obtain ⟨cs', hc', ht⟩ := hg
          obtain ⟨v, arr, rfl, hv, ho⟩ := ih m (by omega) cs' el ht (ze el.1 (List.mem_map.2 ⟨el, List.mem_of_getElem? hel', rfl⟩))
          exact ⟨v, ⟨arr, hc', hv⟩, ho⟩)
        have hlen : len ≤ lenMax := by
          simp only [List.length_map, hel] at zl
          unfold lenMax
          have : len * 112 ≤ reachBytes := Nat.le_trans (Nat.mul_le_mul_right _ (Nat.le_add_right _ _)) zl
          unfold reachBytes at this
          omega
        refine ⟨some a, (List.range len).map F, cap, by simpa using e6, ?_⟩
        by_cases h0 : len = 0
        · subst h0
          exact ⟨.inl rfl, trivial, by simp [lenMax]⟩
        · obtain ⟨⟨arr0, hc0, hv0⟩, _⟩ := hF 0 (by omega)
          have hcell0 : ∃ u, w.cell? a = some u := by
            obtain ⟨_, hl0, hcl⟩ := World.cells?_some hc0
            have := hcl 0 (by omega)
            rw [Nat.zero_mul] at this
            simp only [Addr.add, if_true] at this
            have hs : 0 < arr0.toList.length := by omega
            exact ⟨arr0.toList[0], by rw [this]; simp⟩
          obtain ⟨u0, hu0⟩ := hcell0
          have hs := World.cell?_spot hu0
          have hlt := World.block_lt_of_cell? w _ hu0
          obtain ⟨g, o, sp⟩ := a
          obtain rfl : sp = none := hs
          have hall := isVs_of (w := w) (B := w.heap.size) (g := g) ((List.range len).map F) o (fun i v hv => by
            have hi : i < len := by
              have := (List.getElem?_eq_some_iff.1 hv).1
              simpa using this
            obtain rfl : F i = v := by simpa [hi] using hv
            obtain ⟨⟨arr, hca, hva⟩, ho⟩ := hF i hi
            exact ⟨⟨arr, cellsAt_of hca, hva⟩, ho⟩)
          exact ⟨.inr ⟨g, o, rfl, hlt, hall.1⟩, hall.2, by simpa using hlen⟩
    have hfls : ∃ (p : Option Addr) (fs : List (ByteArray × V)) (c : Nat), a7 = .slice p fs.length c ∧ (fs = [] ∨ ∃ g o, p = some ⟨g, o, none⟩ ∧ g < w.heap.size ∧ IsFs w.heap.size w fs g o) ∧ okFs fs ∧ fs.length ≤ lenMax := by
      rcases DataW.trod_slice Tryz.underlying25 f7 with ⟨e7, _⟩ | ⟨a, len, cap, elems, rest, m, hnm, e7, hy7, hb, hl, hm, hel, hget, _, _⟩
      · simp at e7
        exact ⟨none, [], 0, e7, .inl rfl, trivial, by simp [lenMax]⟩
      · simp at e7
        rw [hy7] at z7
        obtain ⟨zl, ze⟩ := weights_slice Tryz.underlying25 z7
        rw [bm] at zl
        rw [hcm] at hget
        obtain ⟨F, hF⟩ := choose_lt (α := ByteArray × V) (n := len) (p := fun i x => (∃ arr : Array Value, w.cells? base (a.add (i * 9)) 9 = some (.string x.1 :: arr.toList) ∧ IsV w.heap.size w x.2 arr) ∧ okV x.2) (fun i hi => by
          have hg := hget i hi
          obtain ⟨el, hel'⟩ : ∃ el, elems[i]? = some el := ⟨elems[i], by simp [hel, hi]⟩
          rw [hel', Option.bind_eq_some_iff] at hg
          obtain ⟨cs', hc', ht⟩ := hg
          have zm := ze el.1 (List.mem_map.2 ⟨el, List.mem_of_getElem? hel', rfl⟩)
          obtain ⟨xs', n', hn', rfl, hlen', hxs', hfd'⟩ := DataW.trod_struct Tryz.underlying63 ht
          rw [hcm] at hlen'
          obtain ⟨b0, b1, b2, b3, b4, b5, b6, b7, b8, rfl⟩ := len9 hlen'
          obtain ⟨u0, u1, rfl⟩ := len2 hxs'
          have zv := weights_struct Tryz.underlying63 zm (j := 1) rfl rfl
          have g0 := hfd' 0 _ rfl
          have g1 := hfd' 1 _ rfl
          simp [h5, hc] at g0 g1
          obtain ⟨nm, en, _, _⟩ := DataW.trod_string Tryz.underlying9 g0
          simp at en
          subst en
          obtain ⟨v, arr, harr, hv, ho⟩ := ih n' (by omega) _ u1 g1 zv
          exact ⟨(nm, v), ⟨arr, by rw [← harr]; exact hc', hv⟩, ho⟩)
        have hlen : len ≤ lenMax := by
          simp only [List.length_map, hel] at zl
          unfold lenMax
          have : len * 128 ≤ reachBytes := Nat.le_trans (Nat.mul_le_mul_right _ (Nat.le_add_right _ _)) zl
          unfold reachBytes at this
          omega
        refine ⟨some a, (List.range len).map F, cap, by simpa using e7, ?_⟩
        by_cases h0 : len = 0
        · subst h0
          exact ⟨.inl rfl, trivial, by simp [lenMax]⟩
        · obtain ⟨⟨arr0, hc0, hv0⟩, _⟩ := hF 0 (by omega)
          have hcell0 : ∃ u, w.cell? a = some u := by
            obtain ⟨_, hl0, hcl⟩ := World.cells?_some hc0
            have := hcl 0 (by omega)
            rw [Nat.zero_mul] at this
            simp only [Addr.add, if_true] at this
            exact ⟨_, this⟩
          obtain ⟨u0, hu0⟩ := hcell0
          have hs := World.cell?_spot hu0
          have hlt := World.block_lt_of_cell? w _ hu0
          obtain ⟨g, o, sp⟩ := a
          obtain rfl : sp = none := hs
          have hall := isFs_of (w := w) (B := w.heap.size) (g := g) ((List.range len).map F) o (fun i x hv => by
            have hi : i < len := by
              have := (List.getElem?_eq_some_iff.1 hv).1
              simpa using this
            obtain rfl : F i = x := by simpa [hi] using hv
            obtain ⟨⟨arr, hca, hva⟩, ho⟩ := hF i hi
            obtain ⟨_, hl9, hcl⟩ := World.cells?_some hca
            refine ⟨⟨?_, arr, ?_, hva⟩, ho⟩
            · have := hcl 0 (by omega)
              rw [addr_add, addr_add] at this
              simpa using this
            · intro j y hy
              have hj := (Array.getElem?_eq_some_iff.1 hy).1
              have := hcl (j + 1) (by rw [← hl9]; simpa using hj)
              rw [addr_add, addr_add] at this
              rw [show o + i * 9 + 1 + j = o + i * 9 + (j + 1) by omega, this]
              simpa using hy)
          exact ⟨.inr ⟨g, o, rfl, hlt, hall.1⟩, hall.2, by simpa using hlen⟩
    obtain ⟨p, its, c, rfl, hi, hoi, li⟩ := hits
    obtain ⟨q, fs, d, rfl, hf', hof, lf⟩ := hfls
    refine ⟨.mk k b i f t ty its fs, vcells k b i f t ty p its.length c q fs.length d, rfl, ⟨p, c, q, d, rfl, hi, hf', li, lf⟩, ?_, hoi, hof⟩
    simpa [Lit.wf] using hwf

theorem open_value {fuel : Nat} {cs : List Value} {x : DataW H × List MemPlace} (h : DataW.trod enc Tryz.prog w base spare held fuel 27 cs = some x)
    (hz : ∀ n ∈ x.1.weights Tryz.prog 27, n ≤ reachBytes) : ∃ (v : V) (arr : Array Value), cs = arr.toList ∧ IsV w.heap.size w v arr ∧ okV v := open_value_n fuel fuel (Nat.le_refl _) cs x h hz
end
end Go.Proofs.YtnmnmkdmnohbmaaGreatDoor

namespace Go.Proofs.YtnmnmkdmnohbmaaGreatDoor
open Go.RowKit Go.Deep

theorem bulkAll_len {H : Type} : ∀ l : List (DataW H), l.length ≤ Rows.uptoBulkAll l
  | [] => Nat.zero_le _
  | d :: r => by
    have := bulkAll_len r
    have := bulkP_pos d
    simp only [List.length_cons, Rows.uptoBulkAll]
    omega
theorem bulk_mem {H : Type} {d : DataW H} : ∀ {l : List (DataW H)}, d ∈ l → Rows.uptoBulk d ≤ Rows.uptoBulkAll l
  | [], h => by cases h
  | x :: r, h => by
    simp only [Rows.uptoBulkAll]
    rcases List.mem_cons.1 h with rfl | h
    · omega
    · have := bulk_mem h
      omega

theorem shVs_of : ∀ (l : List V), (∀ (i : Nat) v, l[i]? = some v → shV v) → shVs l
  | [], _ => trivial
  | v :: r, h => ⟨h 0 v rfl, shVs_of r (fun i u hu => h (i + 1) u (by simpa using hu))⟩
theorem shFs_of : ∀ (l : List (ByteArray × V)), (∀ (i : Nat) x, l[i]? = some x → x.1.size ≤ 1048576 ∧ shV x.2) → shFs l
  | [], _ => trivial
  | v :: r, h => ⟨h 0 v rfl, shFs_of r (fun i u hu => h (i + 1) u (by simpa using hu))⟩

section
variable {H : Type} {enc : TypeId × Value → H} {w : World} {base : Nat} {spare : Nat → Bool} {held : Bool}

theorem open_valueB_n : ∀ (N fuel : Nat), fuel ≤ N → ∀ (cs : List Value) (x : DataW H × List MemPlace), DataW.trod enc Tryz.prog w base spare held fuel 27 cs = some x →
    Rows.uptoBulk x.1 ≤ 1048576 → ∃ (v : V) (arr : Array Value), cs = arr.toList ∧ IsV w.heap.size w v arr ∧ okV v ∧ shV v := by
  intro N
  induction N with
  | zero =>
    intro fuel hf cs x h
    obtain rfl : fuel = 0 := by omega
    simp [DataW.trod] at h
  | succ N ih =>
    intro fuel hf cs x h hz
    obtain ⟨xs, n, rfl, rfl, hlen, hxs, hfd⟩ := DataW.trod_struct Tryz.underlying27 h
    have hc : Tryz.prog.cellsOf 27 = 8 := by kernel_rfl
    have h1 : Tryz.prog.cellsOf 22 = 1 := by kernel_rfl
    have h2 : Tryz.prog.cellsOf 4 = 1 := by kernel_rfl
    have h3 : Tryz.prog.cellsOf 2 = 1 := by kernel_rfl
    have h4 : Tryz.prog.cellsOf 23 = 1 := by kernel_rfl
    have h5 : Tryz.prog.cellsOf 9 = 1 := by kernel_rfl
    have h6 : Tryz.prog.cellsOf 24 = 1 := by kernel_rfl
    have h7 : Tryz.prog.cellsOf 25 = 1 := by kernel_rfl
    rw [hc] at hlen
    obtain ⟨a0, a1, a2, a3, a4, a5, a6, a7, rfl⟩ := len8 hlen
    obtain ⟨y0, y1, y2, y3, y4, y5, y6, y7, rfl⟩ := len8 hxs
    have f0 := hfd 0 _ rfl
    have f1 := hfd 1 _ rfl
    have f2 := hfd 2 _ rfl
    have f3 := hfd 3 _ rfl
    have f4 := hfd 4 _ rfl
    have f5 := hfd 5 _ rfl
    have f6 := hfd 6 _ rfl
    have f7 := hfd 7 _ rfl
    simp [h1, h2, h3, h4, h5, h6, h7] at f0 f1 f2 f3 f4 f5 f6 f7
    obtain ⟨k, e0, _, _⟩ := DataW.trod_int Tryz.underlying22 f0
    obtain ⟨b, e1, _⟩ := DataW.trod_bool Tryz.underlying4 f1
    obtain ⟨i, e2, _, _⟩ := DataW.trod_int Tryz.underlying2 f2
    obtain ⟨f, e3, hwf⟩ := trod_float Tryz.underlying23 f3
    obtain ⟨t, e4, hy4, _⟩ := DataW.trod_string Tryz.underlying9 f4
    obtain ⟨ty, e5, _, _⟩ := DataW.trod_string Tryz.underlying9 f5
    simp at e0 e1 e2 e3 e4 e5
    subst e0 e1 e2 e3 e4 e5
    have hcm : Tryz.prog.cellsOf 63 = 9 := by kernel_rfl
    simp only [List.map_cons, List.map_nil, Rows.uptoBulk, Rows.uptoBulkAll] at hz
    have z6 : Rows.uptoBulk y6.1 ≤ 1048576 := by omega
    have z7 : Rows.uptoBulk y7.1 ≤ 1048576 := by omega
    have zt : t.size ≤ 1048576 := by
      rw [hy4] at hz
      simp only [Rows.uptoBulk] at hz
      have := ba_len t
      omega
    have hits : ∃ (p : Option Addr) (its : List V) (c : Nat), a6 = .slice p its.length c ∧ (its = [] ∨ ∃ g o, p = some ⟨g, o, none⟩ ∧ g < w.heap.size ∧ IsVs w.heap.size w its g o) ∧ (okVs its ∧ shVs its) ∧ its.length ≤ lenMax := by
      rcases DataW.trod_slice Tryz.underlying24 f6 with ⟨e6, _⟩ | ⟨a, len, cap, elems, rest, m, hnm, e6, hy6, hb, hl, hm, hel, hget, _, _⟩
      · simp at e6
        exact ⟨none, [], 0, e6, .inl rfl, ⟨trivial, trivial⟩, by simp [lenMax]⟩
      · simp at e6
        rw [hy6] at z6
        simp only [Rows.uptoBulk] at z6
        have ze : ∀ e ∈ elems.map (·.1), Rows.uptoBulk e ≤ 1048576 := fun e he => Nat.le_trans (bulk_mem he) (by omega)
        have zl : len ≤ 1048576 := by
          have := bulkAll_len (elems.map (·.1))
          rw [List.length_map, hel] at this
          omega
        rw [hc] at hget
        obtain ⟨F, hF⟩ := choose_lt (α := V) (n := len) (p := fun i v => (∃ arr : Array Value, w.cells? base (a.add (i * 8)) 8 = some arr.toList ∧ IsV w.heap.size w v arr) ∧ okV v ∧ shV v) (fun i hi => by
          have hg := hget i hi
          obtain ⟨el, hel'⟩ : ∃ el, elems[i]? = some el := ⟨elems[i], by simp [hel, hi]⟩
          rw [hel', Option.bind_eq_some_iff] at hg
          obtain ⟨cs', hc', ht⟩ := hg
          obtain ⟨v, arr, rfl, hv, ho⟩ := ih m (by omega) cs' el ht (ze el.1 (List.mem_map.2 ⟨el, List.mem_of_getElem? hel', rfl⟩))
          exact ⟨v, ⟨arr, hc', hv⟩, ho⟩)
        have hlen : len ≤ lenMax := by
          unfold lenMax
          omega
        refine ⟨some a, (List.range len).map F, cap, by simpa using e6, ?_⟩
        by_cases h0 : len = 0
        · subst h0
          exact ⟨.inl rfl, ⟨trivial, trivial⟩, by simp [lenMax]⟩
        · obtain ⟨⟨arr0, hc0, hv0⟩, _⟩ := hF 0 (by omega)
          have hcell0 : ∃ u, w.cell? a = some u := by
            obtain ⟨_, hl0, hcl⟩ := World.cells?_some hc0
            have := hcl 0 (by omega)
            rw [Nat.zero_mul] at this
            simp only [Addr.add, if_true] at this
            have hs : 0 < arr0.toList.length := by omega
            exact ⟨arr0.toList[0], by rw [this]; simp⟩
          obtain ⟨u0, hu0⟩ := hcell0
          have hs := World.cell?_spot hu0
          have hlt := World.block_lt_of_cell? w _ hu0
          obtain ⟨g, o, sp⟩ := a
          obtain rfl : sp = none := hs
          have hall := isVs_of (w := w) (B := w.heap.size) (g := g) ((List.range len).map F) o (fun i v hv => by
            have hi : i < len := by
              have := (List.getElem?_eq_some_iff.1 hv).1
              simpa using this
            obtain rfl : F i = v := by simpa [hi] using hv
            obtain ⟨⟨arr, hca, hva⟩, ho⟩ := hF i hi
            exact ⟨⟨arr, cellsAt_of hca, hva⟩, ho.1⟩)
          have hnn := shVs_of ((List.range len).map F) (fun i v hv => by
            have hi : i < len := by
              have := (List.getElem?_eq_some_iff.1 hv).1
              simpa using this
            obtain rfl : F i = v := by simpa [hi] using hv
            exact (hF i hi).2.2)
          exact ⟨.inr ⟨g, o, rfl, hlt, hall.1⟩, ⟨hall.2, hnn⟩, by simpa using hlen⟩
    have hfls : ∃ (p : Option Addr) (fs : List (ByteArray × V)) (c : Nat), a7 = .slice p fs.length c ∧ (fs = [] ∨ ∃ g o, p = some ⟨g, o, none⟩ ∧ g < w.heap.size ∧ IsFs w.heap.size w fs g o) ∧ (okFs fs ∧ shFs fs) ∧ fs.length ≤ lenMax := by
      rcases DataW.trod_slice Tryz.underlying25 f7 with ⟨e7, _⟩ | ⟨a, len, cap, elems, rest, m, hnm, e7, hy7, hb, hl, hm, hel, hget, _, _⟩
      · simp at e7
        exact ⟨none, [], 0, e7, .inl rfl, ⟨trivial, trivial⟩, by simp [lenMax]⟩
      · simp at e7
        rw [hy7] at z7
        simp only [Rows.uptoBulk] at z7
        have ze : ∀ e ∈ elems.map (·.1), Rows.uptoBulk e ≤ 1048576 := fun e he => Nat.le_trans (bulk_mem he) (by omega)
        have zl : len ≤ 1048576 := by
          have := bulkAll_len (elems.map (·.1))
          rw [List.length_map, hel] at this
          omega
        rw [hcm] at hget
        obtain ⟨F, hF⟩ := choose_lt (α := ByteArray × V) (n := len) (p := fun i x => (∃ arr : Array Value, w.cells? base (a.add (i * 9)) 9 = some (.string x.1 :: arr.toList) ∧ IsV w.heap.size w x.2 arr) ∧ okV x.2 ∧ x.1.size ≤ 1048576 ∧ shV x.2) (fun i hi => by
          have hg := hget i hi
          obtain ⟨el, hel'⟩ : ∃ el, elems[i]? = some el := ⟨elems[i], by simp [hel, hi]⟩
          rw [hel', Option.bind_eq_some_iff] at hg
          obtain ⟨cs', hc', ht⟩ := hg
          have zm := ze el.1 (List.mem_map.2 ⟨el, List.mem_of_getElem? hel', rfl⟩)
          obtain ⟨xs', n', hn', rfl, hlen', hxs', hfd'⟩ := DataW.trod_struct Tryz.underlying63 ht
          rw [hcm] at hlen'
          obtain ⟨b0, b1, b2, b3, b4, b5, b6, b7, b8, rfl⟩ := len9 hlen'
          obtain ⟨u0, u1, rfl⟩ := len2 hxs'
          simp only [List.map_cons, List.map_nil, Rows.uptoBulk, Rows.uptoBulkAll] at zm
          have zv : Rows.uptoBulk u1.1 ≤ 1048576 := by omega
          have g0 := hfd' 0 _ rfl
          have g1 := hfd' 1 _ rfl
          simp [h5, hc] at g0 g1
          obtain ⟨nm, en, hu0, _⟩ := DataW.trod_string Tryz.underlying9 g0
          simp at en
          subst en
          have hnmx : nm.size ≤ 1048576 := by
            rw [hu0] at zm
            simp only [Rows.uptoBulk] at zm
            have := ba_len nm
            omega
          obtain ⟨v, arr, harr, hv, ho⟩ := ih n' (by omega) _ u1 g1 zv
          exact ⟨(nm, v), ⟨arr, by rw [← harr]; exact hc', hv⟩, ho.1, hnmx, ho.2⟩)
        have hlen : len ≤ lenMax := by
          unfold lenMax
          omega
        refine ⟨some a, (List.range len).map F, cap, by simpa using e7, ?_⟩
        by_cases h0 : len = 0
        · subst h0
          exact ⟨.inl rfl, ⟨trivial, trivial⟩, by simp [lenMax]⟩
        · obtain ⟨⟨arr0, hc0, hv0⟩, _⟩ := hF 0 (by omega)
          have hcell0 : ∃ u, w.cell? a = some u := by
            obtain ⟨_, hl0, hcl⟩ := World.cells?_some hc0
            have := hcl 0 (by omega)
            rw [Nat.zero_mul] at this
            simp only [Addr.add, if_true] at this
            exact ⟨_, this⟩
          obtain ⟨u0, hu0⟩ := hcell0
          have hs := World.cell?_spot hu0
          have hlt := World.block_lt_of_cell? w _ hu0
          obtain ⟨g, o, sp⟩ := a
          obtain rfl : sp = none := hs
          have hall := isFs_of (w := w) (B := w.heap.size) (g := g) ((List.range len).map F) o (fun i x hv => by
            have hi : i < len := by
              have := (List.getElem?_eq_some_iff.1 hv).1
              simpa using this
            obtain rfl : F i = x := by simpa [hi] using hv
            obtain ⟨⟨arr, hca, hva⟩, ho⟩ := hF i hi
            obtain ⟨_, hl9, hcl⟩ := World.cells?_some hca
            refine ⟨⟨?_, arr, ?_, hva⟩, ho.1⟩
            · have := hcl 0 (by omega)
              rw [addr_add, addr_add] at this
              simpa using this
            · intro j y hy
              have hj := (Array.getElem?_eq_some_iff.1 hy).1
              have := hcl (j + 1) (by rw [← hl9]; simpa using hj)
              rw [addr_add, addr_add] at this
              rw [show o + i * 9 + 1 + j = o + i * 9 + (j + 1) by omega, this]
              simpa using hy)
          have hnn := shFs_of ((List.range len).map F) (fun i x hv => by
            have hi : i < len := by
              have := (List.getElem?_eq_some_iff.1 hv).1
              simpa using this
            obtain rfl : F i = x := by simpa [hi] using hv
            exact (hF i hi).2.2)
          exact ⟨.inr ⟨g, o, rfl, hlt, hall.1⟩, ⟨hall.2, hnn⟩, by simpa using hlen⟩
    obtain ⟨p, its, c, rfl, hi, ⟨hoi, hni⟩, li⟩ := hits
    obtain ⟨q, fs, d, rfl, hf', ⟨hof, hnf⟩, lf⟩ := hfls
    have hfl : f < 18446744073709551616 := by simpa [Lit.wf] using hwf
    exact ⟨.mk k b i f t ty its fs, vcells k b i f t ty p its.length c q fs.length d, rfl, ⟨p, c, q, d, rfl, hi, hf', li, lf⟩, ⟨hfl, hoi, hof⟩, hfl, zt, hni, hnf⟩

theorem open_valueB {fuel : Nat} {cs : List Value} {x : DataW H × List MemPlace} (h : DataW.trod enc Tryz.prog w base spare held fuel 27 cs = some x)
    (hz : Rows.uptoBulk x.1 ≤ 1048576) : ∃ (v : V) (arr : Array Value), cs = arr.toList ∧ IsV w.heap.size w v arr ∧ okV v ∧ shV v := open_valueB_n fuel fuel (Nat.le_refl _) cs x h hz
end
end Go.Proofs.YtnmnmkdmnohbmaaGreatDoor

namespace Go.Proofs.YtnmnmkdmnohbmaaGreatDoor
open Go.RowKit Go.Deep Go.ChangeShapes

theorem bulk_pos {H : Type} (d : DataW H) : 1 ≤ Rows.uptoBulk d := by
  match d with
  | .lit x => cases x <;> simp [Rows.uptoBulk]
  | .nil | .ptr _ | .slice _ _ | .agg _ | .iface _ _ | .map _ | .held _ => simp [Rows.uptoBulk]
theorem bulk_len {H : Type} (ds : List (DataW H)) : ds.length ≤ Rows.uptoBulkAll ds := by
  induction ds with
  | nil => simp [Rows.uptoBulkAll]
  | cons d r ih => have := bulk_pos d; simp only [Rows.uptoBulkAll, List.length_cons]; omega
theorem bulk_in {H : Type} {d : DataW H} {ds : List (DataW H)} (h : d ∈ ds) : Rows.uptoBulk d ≤ Rows.uptoBulkAll ds := by
  induction ds with
  | nil => simp at h
  | cons e r ih =>
    simp only [Rows.uptoBulkAll]
    rcases List.mem_cons.1 h with rfl | h
    · omega
    · have := ih h; omega

section
variable {H : Type} {enc : TypeId × Value → H} {w : World} {base : Nat} {spare : Nat → Bool} {held : Bool}

theorem open_list {α : Type} [Inhabited α] {t e : TypeId} (k N : Nat) (R : List Value → α → Prop) (ht : Tryz.prog.underlying t = some (.slice e)) (hk : Tryz.prog.cellsOf e = k) (h0k : 0 < k)
    (hel : ∀ n cs' y, DataW.trod enc Tryz.prog w base spare held n e cs' = some y → Rows.uptoBulk y.1 ≤ N → ∃ s, R cs' s)
    {fuel : Nat} {cs : List Value} {x : DataW H × List MemPlace} (h : DataW.trod enc Tryz.prog w base spare held fuel t cs = some x) (hN : Rows.uptoBulk x.1 ≤ N) :
    ∃ (p : Option Addr) (l : List α) (c : Nat), cs = [.slice p l.length c] ∧ l.length ≤ c ∧ c ≤ maxLen ∧ l.length ≤ Rows.uptoBulk x.1 ∧
      (l = [] ∨ ∃ b o, p = some ⟨b, o, none⟩ ∧ b < w.heap.size ∧ ∀ i s, l[i]? = some s → ∃ cs', cs'.length = k ∧ R cs' s ∧ ∀ j v, cs'[j]? = some v → w.cell? ⟨b, o + i * k + j, none⟩ = some v) := by
  rcases open_slice ht h with ⟨rfl, _⟩ | ⟨a, len, cap, m, n, D, Pl, rfl, hb, hl, hm, hmm, hx1, hx⟩
  · exact ⟨none, [], 0, rfl, Nat.le_refl _, by decide, Nat.zero_le _, .inl rfl⟩
  · rw [hk] at hx
    have hlm : len ≤ m := by rw [hmm]; split <;> omega
    have hlb : len ≤ Rows.uptoBulk x.1 := by
      rw [hx1]
      simp only [Rows.uptoBulk]
      have := bulk_len ((List.range len).map D)
      simp only [List.length_map, List.length_range] at this
      omega
    have hD : ∀ i, i < len → Rows.uptoBulk (D i) ≤ N := fun i hi => by
      refine Nat.le_trans ?_ hN
      rw [hx1]
      simp only [Rows.uptoBulk]
      have := bulk_in (d := D i) (ds := (List.range len).map D) (List.mem_map.2 ⟨i, by simpa using hi, rfl⟩)
      omega
    obtain ⟨f, hf⟩ := choose_lt (α := α) (n := len) (p := fun i s => ∃ cs', w.cells? base (a.add (i * k)) k = some cs' ∧ R cs' s) (fun i hi => by
      obtain ⟨cs', h1, h2⟩ := hx i (by omega)
      obtain ⟨s, hs⟩ := hel _ _ _ h2 (hD i hi)
      exact ⟨s, cs', h1, hs⟩)
    refine ⟨some a, (List.range len).map f, cap, by simp, by simpa using hl, hm, by simpa using hlb, ?_⟩
    by_cases h0 : len = 0
    · exact .inl (by simp [h0])
    · obtain ⟨cs0, hc0, _⟩ := hf 0 (by omega)
      obtain ⟨_, hlen0, hcell0⟩ := World.cells?_some hc0
      obtain ⟨v0, hv0⟩ : ∃ v, cs0[0]? = some v := ⟨cs0[0]'(by omega), by simp⟩
      have h00 := (hcell0 0 h0k)
      rw [hv0] at h00
      have hs : a.spot = none := by simpa [Addr.add] using World.cell?_spot h00
      have hlt : a.block < w.heap.size := by simpa [Addr.add] using World.block_lt_of_cell? w _ h00
      obtain ⟨b, o, sp⟩ := a
      obtain rfl : sp = none := hs
      refine .inr ⟨b, o, rfl, hlt, fun i s hs => ?_⟩
      have hi : i < len := by
        have := (List.getElem?_eq_some_iff.1 hs).1
        simpa using this
      obtain rfl : f i = s := by simpa [hi] using hs
      obtain ⟨cs', hc', hR⟩ := hf i hi
      obtain ⟨_, hlen', hcell'⟩ := World.cells?_some hc'
      refine ⟨cs', hlen', hR, fun j v hj => ?_⟩
      have hjk : j < k := by
        have := (List.getElem?_eq_some_iff.1 hj).1
        omega
      have hc := hcell' j hjk
      rw [hj] at hc
      have e0 : (((⟨b, o, none⟩ : Addr).add (i * k)).add j) = ⟨b, o + i * k + j, none⟩ := by unfold Addr.add; by_cases hz : i * k = 0 <;> by_cases hy : j = 0 <;> simp [hz, hy]
      rw [e0] at hc
      exact hc

set_option maxRecDepth 100000 in
theorem open_place {fuel : Nat} {cs : List Value} {x : DataW H × List MemPlace} (h : DataW.trod enc Tryz.prog w base spare held fuel 44 cs = some x) : ∃ s : Int × Int, cs = [.int .i64 s.1, .int .i64 s.2] := by
  obtain ⟨y0, y1, n, rfl, hlen, f0, f1⟩ := trod_struct2 Tryz.underlying44 h
  have hc : Tryz.prog.cellsOf 44 = 2 := by kernel_rfl
  have h2 : Tryz.prog.cellsOf 3 = 1 := by kernel_rfl
  rw [hc] at hlen
  obtain ⟨a, b, rfl⟩ : ∃ a b, cs = [a, b] := by
    clear f0 f1 h
    match cs, hlen with
    | [a, b], _ => exact ⟨a, b, rfl⟩
  simp [h2] at f0 f1
  obtain ⟨i, e0, _, _⟩ := DataW.trod_int Tryz.underlying3 f0
  obtain ⟨j, e1, _, _⟩ := DataW.trod_int Tryz.underlying3 f1
  simp at e0 e1
  subst e0 e1
  exact ⟨(i, j), rfl⟩

set_option maxRecDepth 100000 in
theorem open_places {fuel : Nat} {cs : List Value} {x : DataW H × List MemPlace} (h : DataW.trod enc Tryz.prog w base spare held fuel 40 cs = some x) :
    ∃ (p : Option Addr) (l : List (Int × Int)) (c : Nat), cs = [.slice p l.length c] ∧ l.length ≤ Rows.uptoBulk x.1 ∧ PosAt w.heap.size w p l := by
  obtain ⟨p, l, c, rfl, _, _, hb, hl⟩ := open_list (α := Int × Int) 2 (Rows.uptoBulk x.1) (fun cs s => cs = [.int .i64 s.1, .int .i64 s.2]) Tryz.underlying40 (by kernel_rfl) (by omega) (fun n cs' y hy _ => open_place hy) h (Nat.le_refl _)
  refine ⟨p, l, c, rfl, hb, ?_⟩
  rcases hl with hl | ⟨b, o, rfl, hB, hl⟩
  · exact .inl hl
  · refine .inr ⟨b, o, rfl, hB, fun i s hs => ?_⟩
    obtain ⟨cs', _, rfl, hc⟩ := hl i s hs
    exact ⟨hc 0 _ rfl, hc 1 _ rfl⟩

set_option maxRecDepth 100000 in
theorem open_stepsB {fuel : Nat} {cs : List Value} {x : DataW H × List MemPlace} (h : DataW.trod enc Tryz.prog w base spare held fuel 30 cs = some x) :
    ∃ (p : Option Addr) (l : List St) (c : Nat), cs = [.slice p l.length c] ∧ l.length ≤ Rows.uptoBulk x.1 ∧ StepsAt w.heap.size w p l := by
  obtain ⟨p, l, c, rfl, _, _, hb, hl⟩ := open_list (α := St) 3 (Rows.uptoBulk x.1) (fun cs s => cs = s.cells.toList) Tryz.underlying30 (by kernel_rfl) (by omega) (fun n cs' y hy _ => open_step hy) h (Nat.le_refl _)
  refine ⟨p, l, c, rfl, hb, ?_⟩
  rcases hl with hl | ⟨b, o, rfl, hB, hl⟩
  · exact .inl hl
  · refine .inr ⟨b, o, rfl, hB, fun i s hs => ?_⟩
    obtain ⟨cs', _, rfl, hc⟩ := hl i s hs
    exact ⟨hc 0 _ rfl, hc 1 _ rfl, hc 2 _ rfl⟩

instance : Inhabited LF := ⟨⟨⟨0, [], []⟩, default, default⟩⟩

set_option maxRecDepth 100000 in
theorem open_fault {fuel : Nat} {cs : List Value} {x : DataW H × List MemPlace} (h : DataW.trod enc Tryz.prog w base spare held fuel 42 cs = some x) (hN : Rows.uptoBulk x.1 ≤ 1048576) : ∃ s : LF, cs = s.cells.toList ∧ LOk w.heap.size w s := by
  obtain ⟨y0, y1, y2, n, rfl, hlen, f0, f1, f2⟩ := trod_struct3 Tryz.underlying42 h
  have hc : Tryz.prog.cellsOf 42 = 3 := by kernel_rfl
  have h1 : Tryz.prog.cellsOf 31 = 1 := by kernel_rfl
  have h2 : Tryz.prog.cellsOf 40 = 1 := by kernel_rfl
  have h3 : Tryz.prog.cellsOf 30 = 1 := by kernel_rfl
  rw [hc] at hlen
  obtain ⟨a, b, c, rfl⟩ := len3 hlen
  simp [h1, h2, h3] at f0 f1 f2
  obtain ⟨i, e0, _, _⟩ := DataW.trod_int Tryz.underlying31 f0
  obtain ⟨p, l, c1, e1, hl, hp⟩ := open_places f1
  obtain ⟨q, m, c2, e2, hm, hq⟩ := open_stepsB f2
  simp at e0 e1 e2
  subst e0 e1 e2
  simp only [Rows.uptoBulk, Rows.uptoBulkAll] at hN
  exact ⟨⟨⟨i, l, m⟩, _, _⟩, rfl, ⟨p, c1, rfl, hp, by unfold big; show l.length ≤ _; omega⟩, q, c2, rfl, hq, by unfold big; show m.length ≤ _; omega⟩

set_option maxRecDepth 100000 in
theorem open_faults {fuel : Nat} {cs : List Value} {x : DataW H × List MemPlace} (h : DataW.trod enc Tryz.prog w base spare held fuel 28 cs = some x) (hN : Rows.uptoBulk x.1 ≤ 1048576) :
    ∃ (v : Value) (l : List LF), cs = [v] ∧ l.length ≤ Rows.uptoBulk x.1 ∧ ArgF w v l := by
  obtain ⟨p, l, c, rfl, hlc, _, hb, hl⟩ := open_list (α := LF) 3 1048576 (fun cs s => cs = s.cells.toList ∧ LOk w.heap.size w s) Tryz.underlying28 (by kernel_rfl) (by omega) (fun n cs' y hy hy2 => open_fault hy hy2) h hN
  refine ⟨_, l, rfl, hb, p, c, rfl, hlc, ?_⟩
  rcases hl with rfl | ⟨b, o, rfl, hB, hl⟩
  · exact ⟨.inl rfl, by simp⟩
  · refine ⟨.inr ⟨b, o, rfl, hB, fun i s hs => ?_⟩, fun s hs => ?_⟩
    · obtain ⟨cs', _, ⟨rfl, _⟩, hc⟩ := hl i s hs
      exact ⟨hc 0 _ rfl, hc 1 _ rfl, hc 2 _ rfl⟩
    · obtain ⟨i, hi⟩ := List.getElem?_of_mem hs
      obtain ⟨cs', _, ⟨_, h⟩, _⟩ := hl i s hi
      exact h
end
end Go.Proofs.YtnmnmkdmnohbmaaGreatDoor

namespace Go.Proofs.YtnmnmkdmnohbmaaGreatDoor
open Go.RowKit Go.ChangeShapes

theorem gPow : Tryz.prog.globalNamed "internal/strconv.uint64pow10" = some 6 := by kernel_rfl
theorem gPowType : (Tryz.prog.globals[6]?).map (·.type) = some 199 := by kernel_rfl
theorem gSyn : Tryz.prog.globalNamed "strconv.ErrSyntax" = some 4 := by kernel_rfl
theorem gSynType : (Tryz.prog.globals[4]?).map (·.type) = some 97 := by kernel_rfl
theorem gRan : Tryz.prog.globalNamed "strconv.ErrRange" = some 5 := by kernel_rfl
theorem gRanType : (Tryz.prog.globals[5]?).map (·.type) = some 97 := by kernel_rfl
theorem powData : Rows.laid_internal_strconv_uint64pow10 (H := Unit) = Lib.tabData .u64 Lib.pow10Tab := by rfl

theorem pow_of {W : World} (h : Lib.VarReads Tryz.prog W "internal/strconv.uint64pow10" Rows.laid_internal_strconv_uint64pow10) : Lib.TabIs Tryz.prog W "internal/strconv.uint64pow10" .u64 Lib.pow10Tab := by
  obtain ⟨g', t', cs, fuel, p, hg', ht', hvar, hd⟩ := h
  obtain rfl := Option.some.inj (gPow.symm.trans hg')
  obtain rfl := Option.some.inj (gPowType.symm.trans ht')
  rw [powData] at hd
  unfold Lib.TabIs
  rw [hvar, ← Lib.cells_of_tab Tryz.underlying199 Tryz.underlying135 (by kernel_rfl) (by kernel_rfl) hd]
theorem err_of {W : World} {n nm : String} {g : Nat} {d : DataW Unit} (hg : Tryz.prog.globalNamed n = some g) (ht : (Tryz.prog.globals[g]?).map (·.type) = some 97) (h : Lib.VarReads Tryz.prog W n (.iface nm d)) : ErrIn g W := by
  obtain ⟨g', t', cs, fuel, p, hg', ht', hvar, hd⟩ := h
  obtain rfl := Option.some.inj (hg.symm.trans hg')
  obtain rfl := Option.some.inj (ht.symm.trans ht')
  obtain ⟨_, u, v, hcs, _, _⟩ := iface_of_trod Tryz.underlying97 hd
  refine ⟨u, v, ?_⟩
  rw [World.var?_cell hg hvar 0, ← Array.getElem?_toList, hcs]
  rfl
theorem int_of {W : World} (h : W.ShapedOpen Tryz.prog) : IntIn 3 W :=
  cell_of_shapedOpen_int (zero := #[.int .i64 0]) (t := 3) h (of_decide_eq_true (by kernel_rfl)) (by kernel_rfl) rfl (by kernel_rfl) (by kernel_rfl) Tryz.underlying3
theorem rdw_of {W : World} {a b d g : String × DataW Unit} (h : laidMet Tryz.prog [a, b, ("internal/strconv.uint64pow10", Rows.laid_internal_strconv_uint64pow10), d, ("strconv.ErrRange", Rows.laid_strconv_ErrRange), ("strconv.ErrSyntax", Rows.laid_strconv_ErrSyntax), g] W) (hS : W.ShapedOpen Tryz.prog) : RdW W :=
  ⟨err_of gSyn gSynType (Lib.laidMet.reads h (.tail _ (.tail _ (.tail _ (.tail _ (.tail _ (.head _))))))), err_of gRan gRanType (Lib.laidMet.reads h (.tail _ (.tail _ (.tail _ (.tail _ (.head _)))))), int_of hS, pow_of (Lib.laidMet.reads h (.tail _ (.tail _ (.head _))))⟩
end Go.Proofs.YtnmnmkdmnohbmaaGreatDoor
