/- slices.SortFunc over faults: the kit's contract, laid, at rows of the call's own. Conditions: none. -/
import Derived.Shelf.SlSortCmp.WholeK
import Derived.Shelf.SlSortCmp.NoneTotal
import Derived.Shelf.SlGeneric
import Derived.Test.YtnmnmkdmnohbmaaRefFaults
namespace Go.Proofs.Ytnmnmkdmnohbmaa
section
open Go.Shelf
def sortF_ren : Go.Shelf.Ren := ⟨fun | 6 => 76 | 15 => 87 | 14 => 86 | 28 => 102 | 29 => 103 | 20 => 94 | 21 => 95 | 22 => 96 | 23 => 97 | 24 => 98 | 25 => 99 | 26 => 100 | 27 => 101 | 46 => 107 | 47 => 108 | 48 => 109 | 49 => 110 | 50 => 111 | 57 => 112 | n => n, fun | 22 => 85 | 24 => 91 | 25 => 125 | 3 => 3 | 39 => 98 | 0 => 0 | 53 => 147 | 55 => 137 | 4 => 4 | 46 => 141 | 45 => 140 | 50 => 41 | 5 => 5 | 9 => 9 | 66 => 152 | 70 => 156 | 76 => 158 | 77 => 159 | n => n, fun | n => n⟩
theorem sortF_lay : Go.Proofs.SlLaysF0.n6 Try.prog sortF_ren := {
  mixed := by kernel_rfl
  f6 := ⟨Try.f76.name, by decide, Try.func76.trans (congrArg some (by kernel_rfl))⟩
  f14 := ⟨Try.f86.name, by decide, Try.func86.trans (congrArg some (by kernel_rfl))⟩
  f15 := Try.func87.trans (congrArg some (by kernel_rfl))
  f20 := ⟨Try.f94.name, by decide, Try.func94.trans (congrArg some (by kernel_rfl))⟩
  f21 := ⟨Try.f95.name, by decide, Try.func95.trans (congrArg some (by kernel_rfl))⟩
  f22 := ⟨Try.f96.name, by decide, Try.func96.trans (congrArg some (by kernel_rfl))⟩
  f23 := ⟨Try.f97.name, by decide, Try.func97.trans (congrArg some (by kernel_rfl))⟩
  f24 := ⟨Try.f98.name, by decide, Try.func98.trans (congrArg some (by kernel_rfl))⟩
  f25 := ⟨Try.f99.name, by decide, Try.func99.trans (congrArg some (by kernel_rfl))⟩
  f26 := ⟨Try.f100.name, by decide, Try.func100.trans (congrArg some (by kernel_rfl))⟩
  f27 := ⟨Try.f101.name, by decide, Try.func101.trans (congrArg some (by kernel_rfl))⟩
  f28 := Try.func102.trans (congrArg some (by kernel_rfl))
  f29 := Try.func103.trans (congrArg some (by kernel_rfl))
  f46 := ⟨Try.f107.name, by decide, Try.func107.trans (congrArg some (by kernel_rfl))⟩
  f47 := Try.func108.trans (congrArg some (by kernel_rfl))
  f48 := Try.func109.trans (congrArg some (by kernel_rfl))
  f49 := ⟨Try.f110.name, by decide, Try.func110.trans (congrArg some (by kernel_rfl))⟩
  f50 := ⟨Try.f111.name, by decide, Try.func111.trans (congrArg some (by kernel_rfl))⟩
  f57 := ⟨Try.f112.name, by decide, Try.func112.trans (congrArg some (by kernel_rfl))⟩
  t0 := Try.underlying0
  a0 := Try.isAgg0
  z0 := Try.sizeOf0
  v0 := Try.zeroValue0
  t3 := Try.underlying3
  a3 := Try.isAgg3
  z3 := Try.sizeOf3
  v3 := Try.zeroValue3
  t4 := Try.underlying4
  a4 := Try.isAgg4
  z4 := Try.sizeOf4
  v4 := Try.zeroValue4
  t5 := Try.underlying5
  a5 := Try.isAgg5
  z5 := Try.sizeOf5
  v5 := Try.zeroValue5
  t9 := Try.underlying9
  a9 := Try.isAgg9
  z9 := Try.sizeOf9
  v9 := Try.zeroValue9
  t22 := Try.underlying85
  a22 := Try.isAgg85
  z22 := Try.sizeOf85
  v22 := Try.zeroValue85
  t25 := Try.underlying125
  a25 := Try.isAgg125
  z25 := Try.sizeOf125
  v25 := Try.zeroValue125
  t39 := Try.underlying98
  a39 := Try.isAgg98
  z39 := Try.sizeOf98
  v39 := Try.zeroValue98
  t45 := Try.underlying140
  a45 := Try.isAgg140
  z45 := Try.sizeOf140
  v45 := Try.zeroValue140
  t46 := Try.underlying141
  a46 := Try.isAgg141
  z46 := Try.sizeOf141
  v46 := Try.zeroValue141
  t50 := Try.underlying41
  a50 := Try.isAgg41
  z50 := Try.sizeOf41
  v50 := Try.zeroValue41
  t53 := Try.underlying147
  a53 := Try.isAgg147
  z53 := Try.sizeOf147
  v53 := Try.zeroValue147
  t55 := Try.underlying137
  a55 := Try.isAgg137
  z55 := Try.sizeOf137
  v55 := Try.zeroValue137
  t66 := Try.underlying152
  a66 := Try.isAgg152
  z66 := Try.sizeOf152
  v66 := Try.zeroValue152
  t70 := Try.underlying156
  a70 := Try.isAgg156
  z70 := Try.sizeOf156
  v70 := Try.zeroValue156
  t76 := Try.underlying158
  a76 := Try.isAgg158
  z76 := Try.sizeOf158
  v76 := Try.zeroValue158
  t77 := Try.underlying159
  a77 := Try.isAgg159
  z77 := Try.sizeOf159
  v77 := Try.zeroValue159 }
end
open Go.RowKit

/-- A fault whose lists lie below B. -/
abbrev FE (B : Nat) (w : World) := { x : LF // LOk B w x }
instance (B : Nat) (w : World) : Inhabited (FE B w) := ⟨⟨⟨⟨0, [], []⟩, .slice none 0 0, .slice none 0 0⟩, ⟨none, 0, rfl, .inl rfl, by simp⟩, none, 0, rfl, .inl rfl, by simp⟩⟩
def encF {B : Nat} {w : World} (x : FE B w) : List Value := [.int .i64 x.1.f.k, x.1.pv, x.1.qv]
def cfF {B : Nat} {w : World} (x y : FE B w) : Int := cmpF x.1.f y.1.f

theorem swoF {B : Nat} {w : World} : Go.Sort.SWO (ltOf (cfF (B := B) (w := w))) := by
  have h := cmpF_ord.comap (fun x : FE B w => x.1.f)
  have e : ∀ x y : FE B w, ltOf cfF x y = decide (cmpF x.1.f y.1.f < 0) := fun _ _ => rfl
  refine ⟨fun x => ?_, fun x y z h1 h2 => ?_, fun x y z h1 h2 => ?_⟩
  · rw [e]; have := h.refl x; simp at this ⊢; omega
  · rw [e] at *
    simp only [decide_eq_true_eq] at *
    have := h.lt_le (x := x) (y := y) (z := z) (by omega) (by omega)
    exact this
  · rw [e] at *
    simp only [decide_eq_false_iff_not] at *
    intro hlt
    have e1 := h.swap x y
    have e2 := h.swap y z
    have e3 := h.swap x z
    have := h.trans z y x (by omega) (by omega)
    omega

theorem flatMap_at3 {α : Type} {enc : α → List Value} (hk : ∀ x, (enc x).length = 3) : ∀ (l : List α) (i o : Nat) (x : α), l[i]? = some x → o < 3 → (l.flatMap enc)[i * 3 + o]? = (enc x)[o]?
  | [], _, _, _, h, _ => by simp at h
  | a :: t, 0, o, x, h, ho => by
    obtain rfl : a = x := by simpa using h
    rw [List.flatMap_cons, Nat.zero_mul, Nat.zero_add, List.getElem?_append_left (by rw [hk]; exact ho)]
  | a :: t, i + 1, o, x, h, ho => by
    rw [List.flatMap_cons, List.getElem?_append_right (by rw [hk]; omega), hk, show (i + 1) * 3 + o - 3 = i * 3 + o by omega]
    exact flatMap_at3 hk t i o x (by simpa using h) ho

theorem flatMap_len3 {α : Type} {enc : α → List Value} (hk : ∀ x, (enc x).length = 3) : ∀ l : List α, (l.flatMap enc).length = l.length * 3
  | [] => rfl
  | a :: t => by rw [List.flatMap_cons, List.length_append, hk, flatMap_len3 hk t, List.length_cons]; omega

theorem flat_eq {α : Type} [Inhabited α] {enc : α → List Value} (hk : ∀ x, (enc x).length = 3) (l : List α) : Go.Sort.flatK enc 3 l.toArray = (l.flatMap enc).toArray := by
  apply Array.ext'
  apply List.ext_getElem?
  intro t
  by_cases ht : t < l.length * 3
  · have hi : t / 3 < l.length := by omega
    have h2 := flatMap_at3 hk l (t / 3) (t % 3) l[t / 3] (List.getElem?_eq_getElem hi) (by omega)
    rw [show t / 3 * 3 + t % 3 = t by omega] at h2
    rw [show ((l.flatMap enc).toArray).toList[t]? = (l.flatMap enc)[t]? from rfl, h2]
    have ho : t % 3 < (enc l[t / 3]).length := by rw [hk]; omega
    simp [Go.Sort.flatK, ht, hi, ho]
  · rw [List.getElem?_eq_none (by simp [Go.Sort.flatK]; omega), List.getElem?_eq_none (by rw [flatMap_len3 hk]; omega)]

theorem pmap_flat {B : Nat} {w : World} : ∀ (l : List LF) (h : ∀ x ∈ l, LOk B w x), ((l.pmap (fun x hx => (⟨x, hx⟩ : FE B w)) h).flatMap encF) = fC l
  | [], _ => rfl
  | a :: t, h => by
    rw [List.pmap_cons, List.flatMap_cons, pmap_flat t]
    rfl
theorem pmap_val {B : Nat} {w : World} : ∀ (l : List LF) (h : ∀ x ∈ l, LOk B w x), ((l.pmap (fun x hx => (⟨x, hx⟩ : FE B w)) h).map (·.1)) = l
  | [], _ => rfl
  | a :: t, h => by
    rw [List.pmap_cons, List.map_cons, pmap_val t]
theorem flat_val {B : Nat} {w : World} (l : List (FE B w)) : l.flatMap encF = fC (l.map (·.1)) := by
  unfold fC
  rw [List.flatMap_map]
  rfl

theorem grownBy_sortedF {w : World} {g n : Nat} {os : Array Obj} (d : Array Value) : w.grownBy (Go.Sort.grow (Go.Sort.putRow id (Go.Sort.ahead w n) g 0 d) os) (some g) := by
  refine ⟨rfl, rfl, rfl, by simp, fun k hk hne => ?_⟩
  rw [Go.Sort.heap_grow_old _ _ (by simpa using hk)]
  have : g ≠ k := fun e => hne (by rw [e])
  simp [Go.Sort.putRow, Go.Sort.mapBlock, Go.Sort.ahead, Array.getElem?_modify, this]
theorem heap_sortedF {w : World} {g n : Nat} {os : Array Obj} {cur : Array Value} {e : TypeId} {fr : Nat × Nat} (d : Array Value) (hb : w.heap[g]? = some (.cells cur e fr)) :
    (Go.Sort.grow (Go.Sort.putRow id (Go.Sort.ahead w n) g 0 d) os).heap[g]? = some (.cells (Go.Sort.putCells id 0 d cur) e fr) := by
  have hg : g < w.heap.size := (Array.getElem?_eq_some_iff.1 hb).1
  rw [Go.Sort.heap_grow_old _ _ (by simpa using hg)]
  simp [Go.Sort.putRow, Go.Sort.mapBlock, Go.Sort.ahead, Array.getElem?_modify, hb, Go.Sort.onCells]
theorem take_putF (cur : Array Value) (ts : List Value) (h : ts.length ≤ cur.size) : (Go.Sort.putCells id 0 ts.toArray cur).toList.take ts.length = ts := by
  apply List.ext_getElem?
  intro j
  by_cases hj : j < ts.length
  · rw [List.getElem?_take_of_lt hj, Array.getElem?_toList]
    simp [Go.Sort.putCells, hj, show j < cur.size by omega]
  · rw [List.getElem?_take_eq_none (by omega), List.getElem?_eq_none (by omega)]

set_option maxHeartbeats 1000000 in
theorem SortF_any (l : List LF) (B : Nat) (v : Value) (w : World) (hrow : w.ownsRow B 91 3 v l.length (fC l)) (hok : ∀ x ∈ l, LOk B w x) (hlen : l.length ≤ big) :
    Calls Try.prog 76 #[v, .func (.func 77) #[] #[]] w (fun e w' => e = .returned (.tuple #[]) ∧ ∃ l', l'.Perm l ∧ l'.Pairwise (fun x y => ¬ cmpF y.f x.f < 0) ∧ w'.ownsRow B 91 3 v l.length (fC l') ∧ w.grownBy w' v.ownBlock) := by
  unfold big at hlen
  rcases hrow.2 with ⟨rfl, h0⟩ | ⟨blk, cap, cur, rfl, hb, hh, hn, hc, hs, ht⟩
  · obtain rfl : l = [] := List.length_eq_zero_iff.1 h0
    have := AnyF.slices_SortFunc_none sortF_lay none 0 (.func (.func 77) #[] #[]) w
    change Calls Try.prog 76 _ _ _ at this
    refine this.mono ?_
    rintro e w' ⟨rfl, rfl⟩
    exact ⟨rfl, [], List.Perm.refl _, List.Pairwise.nil, hrow, ⟨rfl, rfl, rfl, Nat.le_refl _, fun _ _ _ => rfl⟩⟩
  · have eg : ∀ args w, (callFunc 77 args).run Try.prog w = .ok (.enter 77 args) w := enters_of Try.func77 (by kernel_rfl) rfl
    have hk : ∀ x : FE B w, (encF x).length = 3 := fun _ => rfl
    have hfl : (fC l).length = l.length * 3 := hrow.1
    have hd : (l.pmap (fun x hx => (⟨x, hx⟩ : FE B w)) hok).toArray.size = l.length := by simp
    have hH : Go.Sort.HoldsK encF 3 w blk 0 (l.pmap (fun x hx => (⟨x, hx⟩ : FE B w)) hok).toArray := by
      unfold Go.Sort.HoldsK
      rw [flat_eq hk, pmap_flat]
      intro j hj
      have hj' : j < (fC l).length := by simpa using hj
      refine ⟨?_, by simp [World.frozen?, hh]⟩
      have h1 : (fC l)[j]? = cur[j]? := by
        conv => lhs; rw [← ht]
        rw [List.getElem?_take_of_lt (by rw [← hfl]; exact hj'), Array.getElem?_toList]
      simp only [World.cell?, hh, Nat.zero_add, ← h1]
      simp [hj']
    have hcmp : CmpLays Try.prog 77 #[] encF 3 cfF blk 0 (l.pmap (fun x hx => (⟨x, hx⟩ : FE B w)) hok).toArray.size w := fun m os dk _ x y => by
      have hg : w.grownBy (sortWorldK encF 3 w blk 0 m dk os) (some blk) := grownBy_sortedF _
      have hbw : Below B w (sortWorldK encF 3 w blk 0 m dk os) := (Below.refl B w).grown hg (by have := (Array.getElem?_eq_some_iff.1 hh).1; omega) (fun k e => by cases e; exact hb)
      exact faultOrder_g x.1 y.1 B _ (x.2.below hbw) (y.2.below hbw) (by have := hbw.size; have := (Array.getElem?_eq_some_iff.1 hh).1; omega)
    have hcon := AnyQ.slices_SortFunc sortF_lay 3 Try.isAgg91 Try.sizeOf91 encF hk (fun x v hv => by
      simp only [encF, List.mem_cons, List.not_mem_nil, or_false] at hv
      rcases hv with rfl | rfl | rfl
      · rfl
      · exact x.2.one.1
      · exact x.2.one.2) cfF swoF 77 #[] blk 0 cap (l.pmap (fun x hx => (⟨x, hx⟩ : FE B w)) hok).toArray w eg hcmp hH (Array.getElem?_eq_some_iff.1 hh).1 (by rw [hd]; omega)
    change Calls Try.prog 76 _ _ _ at hcon
    rw [hd] at hcon
    refine hcon.mono ?_
    rintro e w' ⟨rfl, d', n, os, hp, hsd, rfl⟩
    obtain ⟨hsz, _, hperm⟩ := hp
    have hsz' : d'.size = l.length := by rw [hsz, hd]
    have ex : ∀ (z : Array (FE B w)) (m : Nat), z.size = m → z.extract 0 m = z := fun z m h => by subst h; exact Array.extract_size
    have e1 := ex d' l.length hsz'
    have e2 := ex _ l.length hd
    rw [e1, e2] at hperm
    have hfl' : Go.Sort.flatK encF 3 d' = (fC (d'.toList.map (·.1))).toArray := by
      have := flat_eq hk d'.toList
      rw [flat_val] at this
      exact this
    have hl' : (fC (d'.toList.map (·.1))).length = l.length * 3 := by
      rw [← flat_val, flatMap_len3 hk]
      simp [hsz']
    refine ⟨rfl, d'.toList.map (·.1), ?_, ?_, ?_, grownBy_sortedF _⟩
    · have := hperm.map (fun x : FE B w => x.1)
      rwa [show (l.pmap (fun x hx => (⟨x, hx⟩ : FE B w)) hok).toArray.toList = l.pmap (fun x hx => (⟨x, hx⟩ : FE B w)) hok from rfl, pmap_val] at this
    · rw [List.pairwise_map, List.pairwise_iff_getElem]
      intro i j hi hj hij
      have hj' : j < d'.size := by simpa using hj
      have hi' : i < d'.size := by simpa using hi
      have h := hsd i j (Nat.zero_le _) hij (by omega)
      rw [getElem!_pos d' j hj', getElem!_pos d' i hi'] at h
      have h2 : decide (cmpF (d'[j]).1.f (d'[i]).1.f < 0) = false := h
      simpa using h2
    · refine ⟨hl', .inr ⟨blk, cap, _, rfl, hb, heap_sortedF _ hh, hn, hc, by simp [Go.Sort.putCells, hs], ?_⟩⟩
      rw [hfl', ← hl']
      exact take_putF cur _ (by rw [hl', hs]; exact Nat.mul_le_mul_right _ hn)
end Go.Proofs.Ytnmnmkdmnohbmaa
