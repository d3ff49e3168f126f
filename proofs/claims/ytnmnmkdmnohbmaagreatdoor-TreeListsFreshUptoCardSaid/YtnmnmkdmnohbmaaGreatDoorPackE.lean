/- Several texts in one: slices.SortFunc over faults: the kit's contract, laid, at rows of the call's own. append of a whole list, nil or empty too, to a row of the call's own. The program's union of lists of faults. The two unions are one: plain. TreeFaults: the walk: the statement answers true of any three lists of faults that are not too long. Helper text: a list of faults in memory of its own: what stands of it, and what a store into it changes. Conditions: none. -/
import Derived.Shelf.SlSortCmp.WholeK
import Derived.Shelf.SlSortCmp.NoneTotal
import Derived.Shelf.SlGeneric
import Derived.Test.YtnmnmkdmnohbmaaGreatDoorPackD
import Derived.Test.YtnmnmkdmnohbmaaGreatDoorPackC
import Derived.Deep.AppendSrc
namespace Go.Proofs.YtnmnmkdmnohbmaaGreatDoor
section
open Go.Shelf
def sortF_ren : Go.Shelf.Ren := ⟨fun | 6 => 24 | 15 => 50 | 14 => 49 | 28 => 79 | 29 => 80 | 20 => 71 | 21 => 72 | 22 => 73 | 23 => 74 | 24 => 75 | 25 => 76 | 26 => 77 | 27 => 78 | 46 => 105 | 47 => 106 | 48 => 107 | 49 => 108 | 50 => 109 | 57 => 127 | n => n, fun | 22 => 28 | 24 => 42 | 25 => 76 | 3 => 3 | 39 => 110 | 0 => 0 | 53 => 133 | 55 => 135 | 4 => 4 | 46 => 127 | 45 => 126 | 50 => 89 | 5 => 5 | 9 => 9 | 66 => 168 | 70 => 172 | 76 => 186 | 77 => 187 | n => n, fun | n => n⟩
theorem sortF_lay : Go.Proofs.SlLaysF0.n6 Tryz.prog sortF_ren := {
  mixed := by kernel_rfl
  f6 := ⟨Tryz.f24.name, by decide, Tryz.func24.trans (congrArg some (by kernel_rfl))⟩
  f14 := ⟨Tryz.f49.name, by decide, Tryz.func49.trans (congrArg some (by kernel_rfl))⟩
  f15 := Tryz.func50.trans (congrArg some (by kernel_rfl))
  f20 := ⟨Tryz.f71.name, by decide, Tryz.func71.trans (congrArg some (by kernel_rfl))⟩
  f21 := ⟨Tryz.f72.name, by decide, Tryz.func72.trans (congrArg some (by kernel_rfl))⟩
  f22 := ⟨Tryz.f73.name, by decide, Tryz.func73.trans (congrArg some (by kernel_rfl))⟩
  f23 := ⟨Tryz.f74.name, by decide, Tryz.func74.trans (congrArg some (by kernel_rfl))⟩
  f24 := ⟨Tryz.f75.name, by decide, Tryz.func75.trans (congrArg some (by kernel_rfl))⟩
  f25 := ⟨Tryz.f76.name, by decide, Tryz.func76.trans (congrArg some (by kernel_rfl))⟩
  f26 := ⟨Tryz.f77.name, by decide, Tryz.func77.trans (congrArg some (by kernel_rfl))⟩
  f27 := ⟨Tryz.f78.name, by decide, Tryz.func78.trans (congrArg some (by kernel_rfl))⟩
  f28 := Tryz.func79.trans (congrArg some (by kernel_rfl))
  f29 := Tryz.func80.trans (congrArg some (by kernel_rfl))
  f46 := ⟨Tryz.f105.name, by decide, Tryz.func105.trans (congrArg some (by kernel_rfl))⟩
  f47 := Tryz.func106.trans (congrArg some (by kernel_rfl))
  f48 := Tryz.func107.trans (congrArg some (by kernel_rfl))
  f49 := ⟨Tryz.f108.name, by decide, Tryz.func108.trans (congrArg some (by kernel_rfl))⟩
  f50 := ⟨Tryz.f109.name, by decide, Tryz.func109.trans (congrArg some (by kernel_rfl))⟩
  f57 := ⟨Tryz.f127.name, by decide, Tryz.func127.trans (congrArg some (by kernel_rfl))⟩
  t0 := Tryz.underlying0
  a0 := Tryz.isAgg0
  z0 := Tryz.sizeOf0
  v0 := Tryz.zeroValue0
  t3 := Tryz.underlying3
  a3 := Tryz.isAgg3
  z3 := Tryz.sizeOf3
  v3 := Tryz.zeroValue3
  t4 := Tryz.underlying4
  a4 := Tryz.isAgg4
  z4 := Tryz.sizeOf4
  v4 := Tryz.zeroValue4
  t5 := Tryz.underlying5
  a5 := Tryz.isAgg5
  z5 := Tryz.sizeOf5
  v5 := Tryz.zeroValue5
  t9 := Tryz.underlying9
  a9 := Tryz.isAgg9
  z9 := Tryz.sizeOf9
  v9 := Tryz.zeroValue9
  t22 := Tryz.underlying28
  a22 := Tryz.isAgg28
  z22 := Tryz.sizeOf28
  v22 := Tryz.zeroValue28
  t25 := Tryz.underlying76
  a25 := Tryz.isAgg76
  z25 := Tryz.sizeOf76
  v25 := Tryz.zeroValue76
  t39 := Tryz.underlying110
  a39 := Tryz.isAgg110
  z39 := Tryz.sizeOf110
  v39 := Tryz.zeroValue110
  t45 := Tryz.underlying126
  a45 := Tryz.isAgg126
  z45 := Tryz.sizeOf126
  v45 := Tryz.zeroValue126
  t46 := Tryz.underlying127
  a46 := Tryz.isAgg127
  z46 := Tryz.sizeOf127
  v46 := Tryz.zeroValue127
  t50 := Tryz.underlying89
  a50 := Tryz.isAgg89
  z50 := Tryz.sizeOf89
  v50 := Tryz.zeroValue89
  t53 := Tryz.underlying133
  a53 := Tryz.isAgg133
  z53 := Tryz.sizeOf133
  v53 := Tryz.zeroValue133
  t55 := Tryz.underlying135
  a55 := Tryz.isAgg135
  z55 := Tryz.sizeOf135
  v55 := Tryz.zeroValue135
  t66 := Tryz.underlying168
  a66 := Tryz.isAgg168
  z66 := Tryz.sizeOf168
  v66 := Tryz.zeroValue168
  t70 := Tryz.underlying172
  a70 := Tryz.isAgg172
  z70 := Tryz.sizeOf172
  v70 := Tryz.zeroValue172
  t76 := Tryz.underlying186
  a76 := Tryz.isAgg186
  z76 := Tryz.sizeOf186
  v76 := Tryz.zeroValue186
  t77 := Tryz.underlying187
  a77 := Tryz.isAgg187
  z77 := Tryz.sizeOf187
  v77 := Tryz.zeroValue187 }
end
open Go.RowKit

/-- A fault whose lists lie below B. -/
abbrev FE (B : Nat) (w : World) := { x : LF // LOk B w x }
instance (B : Nat) (w : World) : Inhabited (FE B w) := ⟨⟨⟨⟨0, [], []⟩, .slice none 0 0, .slice none 0 0⟩, ⟨none, 0, rfl, .inl rfl, by simp⟩, none, 0, rfl, .inl rfl, by simp⟩⟩
def encF {B : Nat} {w : World} (x : FE B w) : List Value := [.int .i64 x.1.f.k, x.1.pv, x.1.qv]
def cfF {B : Nat} {w : World} (x y : FE B w) : Int := cmpF x.1.f y.1.f

theorem swoF {B : Nat} {w : World} : Go.Sort.SWO (ltOf (cfF (B := B) (w := w))) := by
  have h := cmpF_ord.comap (fun x : FE B w => x.1.f)
  have e : ∀ x y : FE B w, ltOf cfF x y = decide (cmpF x.1.f y.1.f < 0) := fun _ _ => rfl
  refine ⟨fun x => ?_, fun x y z h1 h2 => ?_, fun x y z h1 h2 => ?_⟩
  · rw [e]; have := h.refl x; simp at this ⊢; omega
  · rw [e] at *
    simp only [decide_eq_true_eq] at *
    have := h.lt_le (x := x) (y := y) (z := z) (by omega) (by omega)
    exact this
  · rw [e] at *
    simp only [decide_eq_false_iff_not] at *
    intro hlt
    have e1 := h.swap x y
    have e2 := h.swap y z
    have e3 := h.swap x z
    have := h.trans z y x (by omega) (by omega)
    omega

theorem flatMap_at3 {α : Type} {enc : α → List Value} (hk : ∀ x, (enc x).length = 3) : ∀ (l : List α) (i o : Nat) (x : α), l[i]? = some x → o < 3 → (l.flatMap enc)[i * 3 + o]? = (enc x)[o]?
  | [], _, _, _, h, _ => by simp at h
  | a :: t, 0, o, x, h, ho => by
    obtain rfl : a = x := by simpa using h
    rw [List.flatMap_cons, Nat.zero_mul, Nat.zero_add, List.getElem?_append_left (by rw [hk]; exact ho)]
  | a :: t, i + 1, o, x, h, ho => by
    rw [List.flatMap_cons, List.getElem?_append_right (by rw [hk]; omega), hk, show (i + 1) * 3 + o - 3 = i * 3 + o by omega]
    exact flatMap_at3 hk t i o x (by simpa using h) ho

theorem flatMap_len3 {α : Type} {enc : α → List Value} (hk : ∀ x, (enc x).length = 3) : ∀ l : List α, (l.flatMap enc).length = l.length * 3
  | [] => rfl
  | a :: t => by rw [List.flatMap_cons, List.length_append, hk, flatMap_len3 hk t, List.length_cons]; omega

theorem flat_eq {α : Type} [Inhabited α] {enc : α → List Value} (hk : ∀ x, (enc x).length = 3) (l : List α) : Go.Sort.flatK enc 3 l.toArray = (l.flatMap enc).toArray := by
  apply Array.ext'
  apply List.ext_getElem?
  intro t
  by_cases ht : t < l.length * 3
  · have hi : t / 3 < l.length := by omega
    have h2 := flatMap_at3 hk l (t / 3) (t % 3) l[t / 3] (List.getElem?_eq_getElem hi) (by omega)
    rw [show t / 3 * 3 + t % 3 = t by omega] at h2
    rw [show ((l.flatMap enc).toArray).toList[t]? = (l.flatMap enc)[t]? from rfl, h2]
    have ho : t % 3 < (enc l[t / 3]).length := by rw [hk]; omega
    simp [Go.Sort.flatK, ht, hi, ho]
  · rw [List.getElem?_eq_none (by simp [Go.Sort.flatK]; omega), List.getElem?_eq_none (by rw [flatMap_len3 hk]; omega)]

theorem pmap_flat {B : Nat} {w : World} : ∀ (l : List LF) (h : ∀ x ∈ l, LOk B w x), ((l.pmap (fun x hx => (⟨x, hx⟩ : FE B w)) h).flatMap encF) = fC l
  | [], _ => rfl
  | a :: t, h => by
    rw [List.pmap_cons, List.flatMap_cons, pmap_flat t]
    rfl
theorem pmap_val {B : Nat} {w : World} : ∀ (l : List LF) (h : ∀ x ∈ l, LOk B w x), ((l.pmap (fun x hx => (⟨x, hx⟩ : FE B w)) h).map (·.1)) = l
  | [], _ => rfl
  | a :: t, h => by
    rw [List.pmap_cons, List.map_cons, pmap_val t]
theorem flat_val {B : Nat} {w : World} (l : List (FE B w)) : l.flatMap encF = fC (l.map (·.1)) := by
  unfold fC
  rw [List.flatMap_map]
  rfl

theorem grownBy_sortedF {w : World} {g n : Nat} {os : Array Obj} (d : Array Value) : w.grownBy (Go.Sort.grow (Go.Sort.putRow id (Go.Sort.ahead w n) g 0 d) os) (some g) := by
  refine ⟨rfl, rfl, rfl, by simp, fun k hk hne => ?_⟩
  rw [Go.Sort.heap_grow_old _ _ (by simpa using hk)]
  have : g ≠ k := fun e => hne (by rw [e])
  simp [Go.Sort.putRow, Go.Sort.mapBlock, Go.Sort.ahead, Array.getElem?_modify, this]
theorem heap_sortedF {w : World} {g n : Nat} {os : Array Obj} {cur : Array Value} {e : TypeId} {fr : Nat × Nat} (d : Array Value) (hb : w.heap[g]? = some (.cells cur e fr)) :
    (Go.Sort.grow (Go.Sort.putRow id (Go.Sort.ahead w n) g 0 d) os).heap[g]? = some (.cells (Go.Sort.putCells id 0 d cur) e fr) := by
  have hg : g < w.heap.size := (Array.getElem?_eq_some_iff.1 hb).1
  rw [Go.Sort.heap_grow_old _ _ (by simpa using hg)]
  simp [Go.Sort.putRow, Go.Sort.mapBlock, Go.Sort.ahead, Array.getElem?_modify, hb, Go.Sort.onCells]
theorem take_putF (cur : Array Value) (ts : List Value) (h : ts.length ≤ cur.size) : (Go.Sort.putCells id 0 ts.toArray cur).toList.take ts.length = ts := by
  apply List.ext_getElem?
  intro j
  by_cases hj : j < ts.length
  · rw [List.getElem?_take_of_lt hj, Array.getElem?_toList]
    simp [Go.Sort.putCells, hj, show j < cur.size by omega]
  · rw [List.getElem?_take_eq_none (by omega), List.getElem?_eq_none (by omega)]

set_option maxHeartbeats 1000000 in
theorem SortF_any (l : List LF) (B : Nat) (v : Value) (w : World) (hrow : w.ownsRow B 42 3 v l.length (fC l)) (hok : ∀ x ∈ l, LOk B w x) (hlen : l.length ≤ big) :
    Calls Tryz.prog 24 #[v, .func (.func 25) #[] #[]] w (fun e w' => e = .returned (.tuple #[]) ∧ ∃ l', l'.Perm l ∧ l'.Pairwise (fun x y => ¬ cmpF y.f x.f < 0) ∧ w'.ownsRow B 42 3 v l.length (fC l') ∧ w.grownBy w' v.ownBlock) := by
  unfold big at hlen
  rcases hrow.2 with ⟨rfl, h0⟩ | ⟨blk, cap, cur, rfl, hb, hh, hn, hc, hs, ht⟩
  · obtain rfl : l = [] := List.length_eq_zero_iff.1 h0
    have := AnyF.slices_SortFunc_none sortF_lay none 0 (.func (.func 25) #[] #[]) w
    change Calls Tryz.prog 24 _ _ _ at this
    refine this.mono ?_
    rintro e w' ⟨rfl, rfl⟩
    exact ⟨rfl, [], List.Perm.refl _, List.Pairwise.nil, hrow, ⟨rfl, rfl, rfl, Nat.le_refl _, fun _ _ _ => rfl⟩⟩
  · have eg : ∀ args w, (callFunc 25 args).run Tryz.prog w = .ok (.enter 25 args) w := enters_of Tryz.func25 (by kernel_rfl) rfl
    have hk : ∀ x : FE B w, (encF x).length = 3 := fun _ => rfl
    have hfl : (fC l).length = l.length * 3 := hrow.1
    have hd : (l.pmap (fun x hx => (⟨x, hx⟩ : FE B w)) hok).toArray.size = l.length := by simp
    have hH : Go.Sort.HoldsK encF 3 w blk 0 (l.pmap (fun x hx => (⟨x, hx⟩ : FE B w)) hok).toArray := by
      unfold Go.Sort.HoldsK
      rw [flat_eq hk, pmap_flat]
      intro j hj
      have hj' : j < (fC l).length := by simpa using hj
      refine ⟨?_, by simp [World.frozen?, hh]⟩
      have h1 : (fC l)[j]? = cur[j]? := by
        conv => lhs; rw [← ht]
        rw [List.getElem?_take_of_lt (by rw [← hfl]; exact hj'), Array.getElem?_toList]
      simp only [World.cell?, hh, Nat.zero_add, ← h1]
      simp [hj']
    have hcmp : CmpLays Tryz.prog 25 #[] encF 3 cfF blk 0 (l.pmap (fun x hx => (⟨x, hx⟩ : FE B w)) hok).toArray.size w := fun m os dk _ x y => by
      have hg : w.grownBy (sortWorldK encF 3 w blk 0 m dk os) (some blk) := grownBy_sortedF _
      have hbw : Below B w (sortWorldK encF 3 w blk 0 m dk os) := (Below.refl B w).grown hg (by have := (Array.getElem?_eq_some_iff.1 hh).1; omega) (fun k e => by cases e; exact hb)
      exact faultOrder_g x.1 y.1 B _ (x.2.below hbw) (y.2.below hbw) (by have := hbw.size; have := (Array.getElem?_eq_some_iff.1 hh).1; omega)
    have hcon := AnyQ.slices_SortFunc sortF_lay 3 Tryz.isAgg42 Tryz.sizeOf42 encF hk (fun x v hv => by
      simp only [encF, List.mem_cons, List.not_mem_nil, or_false] at hv
      rcases hv with rfl | rfl | rfl
      · rfl
      · exact x.2.one.1
      · exact x.2.one.2) cfF swoF 25 #[] blk 0 cap (l.pmap (fun x hx => (⟨x, hx⟩ : FE B w)) hok).toArray w eg hcmp hH (Array.getElem?_eq_some_iff.1 hh).1 (by rw [hd]; omega)
    change Calls Tryz.prog 24 _ _ _ at hcon
    rw [hd] at hcon
    refine hcon.mono ?_
    rintro e w' ⟨rfl, d', n, os, hp, hsd, rfl⟩
    obtain ⟨hsz, _, hperm⟩ := hp
    have hsz' : d'.size = l.length := by rw [hsz, hd]
    have ex : ∀ (z : Array (FE B w)) (m : Nat), z.size = m → z.extract 0 m = z := fun z m h => by subst h; exact Array.extract_size
    have e1 := ex d' l.length hsz'
    have e2 := ex _ l.length hd
    rw [e1, e2] at hperm
    have hfl' : Go.Sort.flatK encF 3 d' = (fC (d'.toList.map (·.1))).toArray := by
      have := flat_eq hk d'.toList
      rw [flat_val] at this
      exact this
    have hl' : (fC (d'.toList.map (·.1))).length = l.length * 3 := by
      rw [← flat_val, flatMap_len3 hk]
      simp [hsz']
    refine ⟨rfl, d'.toList.map (·.1), ?_, ?_, ?_, grownBy_sortedF _⟩
    · have := hperm.map (fun x : FE B w => x.1)
      rwa [show (l.pmap (fun x hx => (⟨x, hx⟩ : FE B w)) hok).toArray.toList = l.pmap (fun x hx => (⟨x, hx⟩ : FE B w)) hok from rfl, pmap_val] at this
    · rw [List.pairwise_map, List.pairwise_iff_getElem]
      intro i j hi hj hij
      have hj' : j < d'.size := by simpa using hj
      have hi' : i < d'.size := by simpa using hi
      have h := hsd i j (Nat.zero_le _) hij (by omega)
      rw [getElem!_pos d' j hj', getElem!_pos d' i hi'] at h
      have h2 : decide (cmpF (d'[j]).1.f (d'[i]).1.f < 0) = false := h
      simpa using h2
    · refine ⟨hl', .inr ⟨blk, cap, _, rfl, hb, heap_sortedF _ hh, hn, hc, by simp [Go.Sort.putCells, hs], ?_⟩⟩
      rw [hfl', ← hl']
      exact take_putF cur _ (by rw [hl', hs]; exact Nat.mul_le_mul_right _ hn)
end Go.Proofs.YtnmnmkdmnohbmaaGreatDoor

namespace Go.Proofs.YtnmnmkdmnohbmaaGreatDoor
open Go Go.RowKit

section
variable {P : Program} (w : World)

theorem run_append_y (base : Nat) (t ty e : TypeId) (i : TypeInfo) (z : Value) (size bytes : Nat) (ht : P.underlying t = some (.slice e)) (hi : P.info? e = some i) (hz : i.zero = some z)
    (hsize : i.size = size) (hby : i.bytes = bytes) (hzs : z.cells.size = size) (hsz : 0 < size)
    (v : Value) (n : Nat) (xs : List Value) (hown : w.ownsRow base e size v n xs)
    (p : Option Addr) (m c : Nat) (news : List Value) (hl : news.length = m * size) (h0 : p = none → m = 0) (hnews : ∀ a, p = some a → ∀ j u, news[j]? = some u → w.cell? (a.add j) = some u) (h1 : ∀ u ∈ news, u.oneCell' = true)
    (h63 : n + m ≤ maxLen) (hbytes : (n + m) * bytes ≤ 140737488355328) (hbase : base ≤ w.heap.size) :
    ∃ v' w', (Builtin.append_ #[t, t] ty #[v, .slice p m c]).run P w = .ok v' w' ∧ w'.ownsRow base e size v' (n + m) (xs ++ news) ∧ w.grownBy w' v.ownBlock := by
  cases p with
  | some a =>
    obtain ⟨v', w', h1, h2, h3, _⟩ := run_append_own (P := P) w base t ty e i z size bytes ht hi hz hsize hby hzs hsz v n xs hown a m c news hl (hnews a rfl) h1 h63 hbytes hbase
    exact ⟨v', w', h1, h2, h3⟩
  | none =>
    obtain rfl := h0 rfl
    obtain rfl : news = [] := List.eq_nil_of_length_eq_zero (by simpa using hl)
    rcases hown.2 with ⟨rfl, rfl⟩ | ⟨g, cap, cur, rfl, hbg, hg, hnc, hcm, hcs, htake⟩
    · refine ⟨.slice none 0 0, w, ?_, by simpa using hown, ⟨rfl, rfl, rfl, Nat.le_refl _, fun _ _ _ => rfl⟩⟩
      simp [Builtin.append_, run_underlying ht, sizeOf, typeInfo, hi, Builtin.lenOf, Builtin.firstCells]
    · have hr := run_append_room_src (P := P) w t t ty e i ht hi g 0 n cap (.slice none 0 c) 0 [] (Src.ofNil w ht c) (by omega) (by simp) (by simp)
      refine ⟨_, _, hr, ?_, ?_⟩
      · have : w.setCells g (0 + n * i.size) [] = w := by simp [World.setCells]
        rw [this]
        simpa using hown
      · have : w.setCells g (0 + n * i.size) [] = w := by simp [World.setCells]
        rw [this]
        exact ⟨rfl, rfl, rfl, Nat.le_refl _, fun _ _ _ => rfl⟩

variable {w}
theorem wp_append_y {o : Oper} {a : Act} {K : Act → World → Prop} {Q : Exit → Act → World → Prop} (s x : Operand) (t : TypeId)
    (ho : o.op = .call { callee := .builtin .append, args := #[s, x], argTypes := #[t, t] })
    (base : Nat) (e : TypeId) (z : Value) (size bytes : Nat) (ht : P.underlying t = some (.slice e)) (hi : (P.info? e).map (fun i => (i.zero, i.size, i.bytes)) = some (some z, size, bytes))
    (hzs : z.cells.size = size) (hsz : 0 < size)
    (v : Value) (n : Nat) (xs : List Value) (hs : a.eval s = v) (hown : w.ownsRow base e size v n xs)
    (p : Option Addr) (m c : Nat) (news : List Value) (hx : a.eval x = .slice p m c) (hl : news.length = m * size) (h0 : p = none → m = 0) (hnews : ∀ a, p = some a → ∀ j u, news[j]? = some u → w.cell? (a.add j) = some u) (h1 : ∀ u ∈ news, u.oneCell' = true)
    (h63 : n + m ≤ maxLen) (hbytes : (n + m) * bytes ≤ 140737488355328) (hbase : base ≤ w.heap.size)
    (h : ∀ v' w', w'.ownsRow base e size v' (n + m) (xs ++ news) → w.grownBy w' v.ownBlock → K (a.put o.dst v') w') : o.wp P a w K Q := by
  obtain ⟨i, hi', hz, hsize, hby⟩ := info_parts hi
  obtain ⟨v', w', hr, h2, h3⟩ := run_append_y (P := P) w base t o.type e i z size bytes ht hi' hz hsize hby hzs hsz v n xs hown p m c news hl h0 hnews h1 h63 hbytes hbase
  unfold Oper.wp execOp
  simp only [ho, resolve, invoke, builtin, Sem.run_bind, Sem.run_pure, Result.andThen_ok, List.map_toArray, List.map_cons, List.map_nil, hs, hx, hr]
  exact h v' w' h2 h3
end
end Go.Proofs.YtnmnmkdmnohbmaaGreatDoor

namespace Go.Proofs.YtnmnmkdmnohbmaaGreatDoor
open Go.RowKit

theorem fC_len (l : List LF) : (fC l).length = l.length * 3 := flatMap_len3 (fun _ => rfl) l
theorem posC_len : ∀ l : List (Int × Int), (posC l).length = l.length * 2
  | [] => rfl
  | a :: t => by
    have := posC_len t
    simp only [posC, List.flatMap_cons, List.length_append, List.length_cons, List.length_nil] at this ⊢
    omega

theorem fsAt_cells {B : Nat} {w : World} {p : Option Addr} {l : List LF} (h : FsAt B w p l) : (p = none → l.length = 0) ∧ ∀ a, p = some a → ∀ (j : Nat) u, (fC l)[j]? = some u → w.cell? (a.add j) = some u := by
  rcases h.1 with h0 | ⟨b, o, e, hB, hc⟩
  · subst h0
    exact ⟨fun _ => rfl, fun a _ j u hu => by simp [fC] at hu⟩
  · refine ⟨fun hp => (by rw [hp] at e; cases e), fun a ha j u hu => ?_⟩
    rw [ha] at e
    cases e
    have hj : j < l.length * 3 := by rw [← fC_len]; exact (List.getElem?_eq_some_iff.1 hu).1
    obtain ⟨x, hx⟩ : ∃ x, l[j / 3]? = some x := ⟨_, List.getElem?_eq_getElem (by omega)⟩
    obtain ⟨c0, c1, c2⟩ := hc _ _ hx
    obtain ⟨d0, d1, d2⟩ := fC_at l _ x hx
    rw [addr_add]
    have hm : j % 3 = 0 ∨ j % 3 = 1 ∨ j % 3 = 2 := by omega
    rcases hm with hm | hm | hm
    · have e : j = j / 3 * 3 := by omega
      rw [e, d0] at hu
      rw [e, ← hu]
      exact c0
    · have e : j = j / 3 * 3 + 1 := by omega
      rw [e, d1] at hu
      rw [e, ← hu, ← Nat.add_assoc]
      exact c1
    · have e : j = j / 3 * 3 + 2 := by omega
      rw [e, d2] at hu
      rw [e, ← hu, ← Nat.add_assoc]
      exact c2

theorem posAt_cells {B : Nat} {w : World} {p : Option Addr} {l : List (Int × Int)} (h : PosAt B w p l) : (p = none → l.length = 0) ∧ ∀ a, p = some a → ∀ (j : Nat) u, (posC l)[j]? = some u → w.cell? (a.add j) = some u := by
  rcases h with h0 | ⟨b, o, e, hB, hc⟩
  · subst h0
    exact ⟨fun _ => rfl, fun a _ j u hu => by simp [posC] at hu⟩
  · refine ⟨fun hp => (by rw [hp] at e; cases e), fun a ha j u hu => ?_⟩
    rw [ha] at e
    cases e
    have hj : j < l.length * 2 := by rw [← posC_len]; exact (List.getElem?_eq_some_iff.1 hu).1
    obtain ⟨x, hx⟩ : ∃ x, l[j / 2]? = some x := ⟨_, List.getElem?_eq_getElem (by omega)⟩
    obtain ⟨c0, c1⟩ := hc _ _ hx
    obtain ⟨d0, d1⟩ := posC_at l _ x hx
    rw [addr_add]
    have hm : j % 2 = 0 ∨ j % 2 = 1 := by omega
    rcases hm with hm | hm
    · have e : j = j / 2 * 2 := by omega
      rw [e, d0] at hu
      rw [e, ← hu]
      exact c0
    · have e : j = j / 2 * 2 + 1 := by omega
      rw [e, d1] at hu
      rw [e, ← hu, ← Nat.add_assoc]
      exact c1

theorem fC_one {B : Nat} {w : World} {l : List LF} (h : ∀ x ∈ l, LOk B w x) : ∀ u ∈ fC l, u.oneCell' = true := fun u hu => by
  obtain ⟨x, hx, hu⟩ := List.mem_flatMap.1 hu
  simp only [List.mem_cons, List.not_mem_nil, or_false] at hu
  rcases hu with rfl | rfl | rfl
  · rfl
  · exact (h x hx).one.1
  · exact (h x hx).one.2
theorem posC_one (l : List (Int × Int)) : ∀ u ∈ posC l, u.oneCell' = true := fun u hu => by
  obtain ⟨x, hx, hu⟩ := List.mem_flatMap.1 hu
  simp only [List.mem_cons, List.not_mem_nil, or_false] at hu
  rcases hu with rfl | rfl <;> rfl

/-- What the program keeps of a sorted list's first i: each that is unlike the one ahead of it. -/
def dedAt (S : List LF) (j : Nat) : List LF := match S[j]? with
  | none => []
  | some x => match j with
    | 0 => [x]
    | j' + 1 => match S[j']? with
      | some y => if cmpF y.f x.f = 0 then [] else [x]
      | none => [x]
def dedP (S : List LF) (i : Nat) : List LF := (List.range i).flatMap (dedAt S)
theorem dedP_succ (S : List LF) (i : Nat) : dedP S (i + 1) = dedP S i ++ dedAt S i := by
  unfold dedP
  rw [List.range_succ, List.flatMap_append]
  simp
theorem dedP_first {S : List LF} {x : LF} (h : S[0]? = some x) : dedP S (0 + 1) = dedP S 0 ++ [x] := by
  rw [dedP_succ]
  simp [dedAt, h]
theorem dedP_skip {S : List LF} {i : Nat} {x y : LF} (hx : S[i + 1]? = some x) (hy : S[i]? = some y) (h : cmpF y.f x.f = 0) : dedP S (i + 1 + 1) = dedP S (i + 1) := by
  rw [dedP_succ]
  simp [dedAt, hx, hy, h]
theorem dedP_keep {S : List LF} {i : Nat} {x y : LF} (hx : S[i + 1]? = some x) (hy : S[i]? = some y) (h : ¬ cmpF y.f x.f = 0) : dedP S (i + 1 + 1) = dedP S (i + 1) ++ [x] := by
  rw [dedP_succ]
  simp [dedAt, hx, hy, h]
theorem dedAt_len (S : List LF) (j : Nat) : (dedAt S j).length ≤ 1 := by
  unfold dedAt
  repeat' split
  all_goals simp
theorem dedP_len (S : List LF) : ∀ i, (dedP S i).length ≤ i
  | 0 => by simp [dedP]
  | i + 1 => by
    have := dedP_len S i
    have := dedAt_len S i
    rw [dedP_succ, List.length_append]
    omega

set_option maxRecDepth 100000 in
set_option maxHeartbeats 16000000 in
theorem Faults_own (L : List (Value × List LF)) (p : Option Addr) (c : Nat) (w : World) (hL : LsAt w.heap.size w p L) (hlen : L.length ≤ big) (hcat : (cat L).length ≤ big) :
    Calls Tryz.prog 8 #[.slice p L.length c] w (fun e w' => ∃ p' c' r S, e = .returned (.slice p' (List.length r) c') ∧ S.Perm (cat L) ∧ S.Pairwise (fun x y => 0 ≤ cmpF y.f x.f) ∧ r.map LF.f = (dedP S (List.length S)).map (fun x => cleanF x.f) ∧ FsAt w'.heap.size w' p' r ∧ Below w.heap.size w w' ∧ List.length r ≤ c' ∧ w'.ownsRow w.heap.size 42 3 (.slice p' (List.length r) c') (List.length r) (fC r) ∧ OwnFl w.heap.size w' r) := by
  unfold big at hlen hcat
  have HL := Lib.hid hL
  have HCAT := Lib.hid hcat
  have HSZ := Lib.hid (Nat.le_refl w.heap.size)
  have hcok : ∀ x ∈ cat L, LOk w.heap.size w x := fun x hx => by
    obtain ⟨y, hy, hx⟩ := List.mem_flatMap.1 hx
    obtain ⟨_, _, _, _, hF⟩ := hL.2 y hy
    exact hF.2 x hx
  have HCOK := Lib.hid hcok
  clear hL hcat hcok
  go_enter Tryz.func8, Tryz.ntmps8
  go_wp2
  go_loopw [3, 14] (fun s3 s14 wr => ∃ i : Nat, i ≤ L.length ∧ s14 = .int .i64 i ∧ ∃ r sp sc, s3 = .slice sp (List.length r) sc ∧ Hid (r = cat (L.take i)) ∧ Hid (wr.ownsRow w.heap.size 42 3 (.slice sp (List.length r) sc) (List.length r) (fC r)) ∧ Hid (Below w.heap.size w wr)) (fun _ s14 _ => L.length - (intOf s14).toNat)
  case atStart => exact ⟨0, by omega, rfl, [], none, 0, rfl, Lib.hid rfl, Lib.hid (World.ownsRow_nil _ _ _ _), Lib.hid (Below.refl _ _)⟩
  case round =>
    obtain ⟨i, hi, rfl, r, sp, sc, rfl, HR, HO, HB⟩ := hrel
    by_cases h1 : i < L.length
    · obtain ⟨⟨lv, l⟩, hx⟩ : ∃ x, L[i]? = some x := ⟨L[i], by simp [h1]⟩
      obtain ⟨q, cq, hlv, hlc, hFl⟩ := HL.out.2 _ (List.mem_of_getElem? hx)
      dsimp only at hlv hlc hFl
      subst hlv
      rcases HL.out.1 with h0 | ⟨b, o, rfl, hb, hc⟩
      · subst h0; simp at h1
      have hc0 := (HB.out.cell (p := ⟨b, o + i, none⟩) hb).trans (hc i _ hx)
      have h9 : (cat (L.take i)).length + l.length ≤ (cat L).length := cat_len L i _ hx
      have hrl : r.length + l.length ≤ 4194304 := by have := HCAT.out; rw [HR.out]; omega
      have HRL := Lib.hid hrl
      have HX := Lib.hid hx
      have HFL := Lib.hid (hFl.below HB.out)
      clear hx hc h9 hrl hFl
      go_upto_region 5 with (fail)
      go_step
      iterate 2
        refine wpList_plain rfl (fun K hK => ?_)
        go_step
        refine hK _ _ ?_
        clear hK K
      refine wpList_plain rfl (fun K hK => ?_)
      refine wp_append_y (P := Tryz.prog) (w := wr) (.tmp 18) (.tmp 19) 28 rfl w.heap.size 42 (.agg #[.int .i64 0, .slice none 0 0, .slice none 0 0]) 3 56 Tryz.underlying28 (by kernel_rfl) rfl (by decide) (.slice sp r.length sc) r.length _ rfl HO.out q l.length cq (fC l) rfl (fC_len l) (fsAt_cells HFL.out).1 (fsAt_cells HFL.out).2 (fC_one HFL.out.2) (by unfold maxLen; have := HRL.out; omega) (by have := HRL.out; omega) HB.out.size ?_
      intro v' w' hrow hgr
      refine hK _ _ ?_
      clear hK K
      have hbw' : Below w.heap.size w w' := HB.out.grown hgr HB.out.size (fun y hy => (HO.out.lt y hy).1)
      obtain ⟨g', cap', rfl⟩ := row_shape hrow
      have HRW := Lib.hid hrow
      have HBW := Lib.hid hbw'
      clear hrow hbw' hgr
      go_wp2
      go_roundw
      case rel =>
        refine ⟨i + 1, by omega, by go_num, r ++ l, g', cap', by rw [List.length_append], Lib.hid (by rw [HR.out, cat_take HX.out]), Lib.hid ?_, HBW⟩
        have h := HRW.out
        rw [List.length_append, fC_app]
        exact h
      case measure => simp [intOf]; omega
    · have hall := HR.out
      rw [List.take_of_length_le (by omega)] at hall
      have hrl : r.length ≤ 4194304 := by have := HCAT.out; rw [hall]; omega
      have C1 := Lib.hid (SortF_any r w.heap.size (.slice sp r.length sc) wr HO.out (fun x hx => (HCOK.out x (by rw [← hall]; exact hx)).below HB.out) hrl |>.mono (fun e w' h => (show e = .returned (.tuple #[]) ∧ ∃ l', l'.Perm r ∧ l'.Pairwise (fun x y => 0 ≤ cmpF y.f x.f) ∧ w'.ownsRow w.heap.size 42 3 (.slice sp r.length sc) r.length (fC l') ∧ wr.grownBy w' (Value.slice sp r.length sc).ownBlock from by obtain ⟨e1, l', h1, h2, h3, h4⟩ := h; exact ⟨e1, l', h1, h2.imp (fun h => by omega), h3, h4⟩)))
      have HALL := Lib.hid hall
      have HRL := Lib.hid hrl
      have HBR := HB
      clear hall hrl HR
      go_wp2_with (go_at_call 24; refine C1.out.mono ?_; rintro e w1 ⟨rfl, S, hperm, hpw, hrow, hgr⟩; have HPERM := Lib.hid hperm; have HPW := Lib.hid hpw; have HROW := Lib.hid hrow; have HB1 := Lib.hid (HBR.out.grown hgr HBR.out.size (fun y hy => (HO.out.lt y hy).1)); have HSL := Lib.hid hperm.length_eq; clear hperm hpw hrow hgr)
      clear C1 h1 hi
      generalize hn : List.length r = n at *
      have HNR := Lib.hid hn
      have hn4 : n ≤ 4194304 := by have := HRL.out; omega
      clear hn
      have HSOK : Hid (∀ x ∈ S, LOk w.heap.size w x) := Lib.hid (fun x hx => HCOK.out x (by rw [← HALL.out]; exact HPERM.out.mem_iff.1 hx))
      go_loopw [6, 26] (fun s6 s26 wr2 => ∃ i : Nat, i ≤ n ∧ s26 = .int .i64 i ∧ ∃ r sq sd, s6 = .slice sq (List.length r) sd ∧ Hid (wr2.ownsRow w.heap.size 42 3 (.slice sq (List.length r) sd) (List.length r) (fC r)) ∧ Hid (r.map LF.f = (dedP S i).map (fun x => cleanF x.f)) ∧ Hid (OwnFl w.heap.size wr2 r) ∧ Hid (Below w.heap.size w wr2) ∧ Hid (wr2.ownsRow w.heap.size 42 3 (.slice sp n sc) n (fC S)) ∧ Hid ((Value.slice sp n sc).ownBlock = none ∨ (Value.slice sp n sc).ownBlock ≠ (Value.slice sq (List.length r) sd).ownBlock)) (fun _ s26 _ => n - (intOf s26).toNat)
      case atStart => exact ⟨0, by omega, rfl, [], none, 0, rfl, Lib.hid (World.ownsRow_nil _ _ _ _), Lib.hid rfl, Lib.hid (OwnFl.nil _ _), HB1, HROW, Lib.hid (by cases sp <;> simp [Value.ownBlock])⟩
      case round =>
        clear HB1 HROW HO HB HBR
        obtain ⟨i, hi, rfl, r, sq, sd, rfl, HO, HM, HW, HB, HS, HNE⟩ := hrel
        obtain ⟨wq, rfl⟩ : ∃ wq, wq = wr := ⟨_, rfl⟩
        have hlr : Hid (r.length ≤ 4194304) := Lib.hid (by
          have h := congrArg List.length HM.out
          simp only [List.length_map] at h
          have := dedP_len S i
          have := HRL.out
          have := HNR.out
          omega)
        by_cases h1 : i < n
        · obtain ⟨x, hx⟩ : ∃ x, S[i]? = some x := ⟨_, List.getElem?_eq_getElem (by have := HSL.out; have := HNR.out; omega)⟩
          have okx := HSOK.out x (List.mem_of_getElem? hx)
          obtain ⟨ga, capa, hsp, _, hga, hgc⟩ := rowAt1 HS.out (by omega)
          cases hsp
          obtain ⟨k0, k1, k2⟩ := fC_at S i x hx
          have a1 := hgc _ _ k0
          have a2 := hgc _ _ k1
          have a3 := hgc _ _ k2
          have HX := Lib.hid hx
          have HOKX := Lib.hid okx
          have HGC := Lib.hid hgc
          obtain ⟨⟨xk, xpos, xpath⟩, xp, xq⟩ := x
          obtain ⟨⟨pp, pc, e1, hpp, hpl⟩, qp, qc, e2, hqp, hql⟩ := okx
          dsimp only at e1 e2 a1 a2 a3 hpp hqp hpl hql
          subst e1 e2
          unfold big at hpl hql
          have HPP := Lib.hid hpp
          have HQP := Lib.hid hqp
          clear hx hgc k0 k1 k2 hpp hqp
          have hwa : ga < wq.heap.size := hga
          have HI1 := Lib.hid h1
          go_upto_region 12 with (fail)
          obtain ⟨W8, hW8⟩ : ∃ W8, wq.alloc (.cells #[.int .i64 xk, .slice pp xpos.length pc, .slice qp xpath.length qc] 42) = W8 := ⟨_, rfl⟩
          have hb8 : Below wq.heap.size wq W8 := by rw [← hW8]; exact (Below.refl _ _).alloc (Nat.le_refl _) _
          have hF8 : W8.heap[wq.heap.size]? = some (.cells #[.int .i64 xk, .slice pp xpos.length pc, .slice qp xpath.length qc] 42 (0, 0)) := by rw [← hW8]; exact heap_new wq _
          have hs8 : wq.heap.size < W8.heap.size := (Array.getElem?_eq_some_iff.1 hF8).1
          rw [hW8]
          clear hW8
          have hwr : w.heap.size ≤ wq.heap.size := HB.out.size
          have f0 : W8.cell? ⟨wq.heap.size, 0, none⟩ = some (.int .i64 xk) := by simp [World.cell?, hF8]
          have f1 : W8.cell? ⟨wq.heap.size, 1, none⟩ = some (.slice pp xpos.length pc) := by simp [World.cell?, hF8]
          have f2 : W8.cell? ⟨wq.heap.size, 2, none⟩ = some (.slice qp xpath.length qc) := by simp [World.cell?, hF8]
          have HF8 := Lib.hid hF8
          have HB8 := Lib.hid hb8
          clear hF8 a1 a2 a3
          have ga8 : ga < W8.heap.size := by omega
          cases i with
          | zero =>
            have kc := cell_cls W8
            refine wp_region_plan_below 12 [(0, [0, 1, 2, 3, 4, 5, 6, 7, 8]), (1, [9]), (0, [10, 11])] (by kernel_rfl) (by kernel_rfl) (fun _ _ _ _ h => h) ?_
            simp only [wpSegs, pickOps, List.getElem?_toArray, List.getElem?_cons_zero, List.getElem?_cons_succ]
            iterate 9 (go_big_quiet_step (fail))
            refine wpQuiet_nil ?_
            clear kc
            refine wpListC_skip (by rfl) ?_
            simp only [Act.put, List.setIfInBounds_toArray, List.set_cons_succ, List.set_cons_zero]
            refine wpListC_nil ?_
            iterate 2 (go_big_quiet_step (fail))
            refine wpQuiet_nil ?_
            obtain ⟨V, hV⟩ : ∃ V : World, { W8 with drawn := W8.drawn + 1 } = V := ⟨_, rfl⟩
            have hbV : Below wq.heap.size wq V := by rw [← hV]; exact hb8.trans ((Below.drew (Below.refl W8.heap.size W8)).mono hb8.size)
            have hFV : V.heap[wq.heap.size]? = some (.cells #[.int .i64 xk, .slice pp xpos.length pc, .slice qp xpath.length qc] 42 (0, 0)) := by rw [← hV]; exact HF8.out
            rw [hV]
            have HEQ : Hid (dedP S (0 + 1) = dedP S 0 ++ [⟨⟨xk, xpos, xpath⟩, .slice pp xpos.length pc, .slice qp xpath.length qc⟩]) := Lib.hid (dedP_first HX.out)
            clear hV f0 f1 f2 hb8 HB8 HF8 hs8 ga8
            go_upto_region 13 with (fail)
            have hFl0 : wq.heap.size < V.heap.size := (Array.getElem?_eq_some_iff.1 hFV).1
            have f0 : V.cell? ⟨wq.heap.size, 0, none⟩ = some (.int .i64 xk) := by simp [World.cell?, hFV]
            have f1 : V.cell? ⟨wq.heap.size, 1, none⟩ = some (.slice pp xpos.length pc) := by simp [World.cell?, hFV]
            have HFV := Lib.hid hFV
            have HBV := Lib.hid hbV
            have HPV : Hid (PosAt V.heap.size V pp xpos) := Lib.hid (by
              have hb : Below w.heap.size w V := HB.out.trans (hbV.mono HB.out.size)
              exact (HPP.out.below hb).up hb.size)
            clear hFV hbV
            have kc := cell_cls V
            refine wp_region_tree_below 7 (.heads [0, 1, 2, 3] (.fork 4 (.heads [5] (.chain [6] (.tail [7]))) 6 (.chain [4] (.heads [5] (.tail [7]))))) (by kernel_rfl) (by kernel_rfl) (fun _ _ _ _ h => h) ?_
            simp only [wpPlan, pickOps, List.getElem?_toArray, List.getElem?_cons_zero, List.getElem?_cons_succ]
            iterate 4 (go_big_quiet_step (fail))
            refine wpQuiet_nil ?_
            clear kc f0 f1
            refine ⟨?_, ?_⟩
            · refine wpListC_plain rfl (fun K hK => ?_)
              refine wp_append_y (P := Tryz.prog) (w := { V with drawn := V.drawn + 1 }) (.const (.slice none 0 0)) (.tmp 46) 40 rfl V.heap.size 44 (.agg #[.int .i64 0, .int .i64 0]) 2 16 Tryz.underlying40 (by kernel_rfl) rfl (by decide) (.slice none 0 0) 0 [] rfl (World.ownsRow_nil _ _ _ _) pp xpos.length pc (posC xpos) rfl (posC_len xpos) (posAt_cells HPV.out).1 (posAt_cells HPV.out).2 (posC_one xpos) (by unfold maxLen; omega) (by omega) (Nat.le_refl _) ?_
              intro v' w4 hrow hgr
              rw [Nat.zero_add, List.nil_append] at hrow
              have hb4 : Below V.heap.size V w4 := ⟨hgr.os, hgr.tape, hgr.output, hgr.size, fun k hk => hgr.block k hk (by simp [Value.ownBlock])⟩
              obtain ⟨gp, gc, rfl⟩ := row_shape hrow
              refine hK _ _ (cls_of_below hb4) ?_
              clear hK K
              refine wpListC_nil ?_
              simp only [Act.put, List.setIfInBounds_toArray, List.set_cons_succ, List.set_cons_zero]
              go_big_quiet_step (fail)
              refine wpQuiet_nil ?_
              refine wpListC_plain rfl (fun K hK => ?_)
              go_step
              refine hK _ _ (cls_of_below (hb4.alloc hb4.size _)) ?_
              clear hK K
              refine wpListC_nil ?_
              go_upto_region 14 with (fail)
              obtain ⟨W13, hW13⟩ : ∃ W13, w4.alloc (.cells #[.int .i64 xk, .slice gp xpos.length gc, .slice none 0 0] 42) = W13 := ⟨_, rfl⟩
              have hG : W13.heap[w4.heap.size]? = some (.cells #[.int .i64 xk, .slice gp xpos.length gc, .slice none 0 0] 42 (0, 0)) := by rw [← hW13]; exact heap_new w4 _
              have hb13 : Below V.heap.size V W13 := by rw [← hW13]; exact hb4.alloc hb4.size _
              have hrow13 : W13.ownsRow V.heap.size 44 2 (.slice gp xpos.length gc) xpos.length (posC xpos) := by rw [← hW13]; exact hrow.alloc _
              have hGV : V.heap.size ≤ w4.heap.size := hb4.size
              rw [hW13]
              clear hW13 hrow hgr hb4
              generalize w4.heap.size = G at *
              have f2 : W13.cell? ⟨wq.heap.size, 2, none⟩ = some (.slice qp xpath.length qc) := by
                rw [hb13.cell (p := ⟨wq.heap.size, 2, none⟩) hFl0]
                simp [World.cell?, HFV.out]
              have HG13 := Lib.hid hG
              have HB13 := Lib.hid hb13
              have HR13 := Lib.hid hrow13
              have HGV := Lib.hid hGV
              clear hG hb13 hrow13 hGV
              go_wp2
              clear f2
              go_loopw [52] (fun s52 wr3 => ∃ j : Nat, j ≤ xpath.length ∧ s52 = .int .i64 j ∧ ∃ sv, Hid (wr3.heap[G]? = some (.cells #[.int .i64 xk, .slice gp xpos.length gc, sv] 42 (0, 0))) ∧ Hid (wr3.ownsRow V.heap.size 69 3 sv j (stC ((xpath.map bareS).take j))) ∧ Hid (Below V.heap.size V wr3) ∧ Hid (wr3.ownsRow V.heap.size 44 2 (.slice gp xpos.length gc) xpos.length (posC xpos))) (fun s52 _ => xpath.length - (intOf s52).toNat)
              case atStart => exact ⟨0, by omega, rfl, _, HG13, Lib.hid (World.ownsRow_nil _ _ _ _), HB13, HR13⟩
              case round =>
                clear HG13 HB13 HR13
                obtain ⟨j, hj, rfl, sv, hL, hG, hB3, hP3⟩ := hrel
                obtain ⟨ssp, ssc, rfl⟩ := row_shape hG.out
                have hsL : G < wr.heap.size := (Array.getElem?_eq_some_iff.1 hL.out).1
                have hVw := hB3.out.size
                by_cases hjl : j < xpath.length
                · obtain ⟨st, hst⟩ : ∃ st, xpath[j]? = some st := ⟨xpath[j], by simp [hjl]⟩
                  rcases HQP.out with hp | ⟨b', o', rfl, hb', hc'⟩
                  · subst hp; simp at hjl
                  obtain ⟨t1, t2, t3⟩ := hc' j st hst
                  have hbw : Below w.heap.size w wr := (HB.out.trans (HBV.out.mono HB.out.size)).trans (hB3.out.mono (by have := HB.out.size; have := HBV.out.size; omega))
                  have t1 := (hbw.cell (p := ⟨b', o' + j * 3, none⟩) hb').trans t1
                  have t2 := (hbw.cell (p := ⟨b', o' + j * 3 + 1, none⟩) hb').trans t2
                  have t3 := (hbw.cell (p := ⟨b', o' + j * 3 + 2, none⟩) hb').trans t3
                  have gG : wr.cell? ⟨G, 2, none⟩ = some (.slice ssp j ssc) := by simp [World.cell?, hL.out]
                  obtain ⟨⟨bn, bi, bt⟩, hbs⟩ : ∃ s', bareS st = s' := ⟨_, rfl⟩
                  have C1 : Hid (∀ W, Calls Tryz.prog 26 #[.agg #[.string st.nm, .int .i64 st.ix, .bool st.it]] W (RetB (.agg #[.string bn, .int .i64 bi, .bool bt]) W)) := Lib.hid (fun W => by
                    have := bare_any st W
                    rw [hbs] at this
                    exact this)
                  have HBS := Lib.hid hbs
                  have HST := Lib.hid hst
                  obtain ⟨sn, si, sb⟩ := st
                  dsimp only at t1 t2 t3 C1
                  clear hc' hst hbw hbs
                  go_upto_region 17 with (fail)
                  obtain ⟨W6, hW6⟩ : ∃ W6, wr.alloc (.cells #[.string sn, .int .i64 si, .bool sb] 69) = W6 := ⟨_, rfl⟩
                  have hb6 : Below wr.heap.size wr W6 := by rw [← hW6]; exact (Below.refl _ _).alloc (Nat.le_refl _) _
                  have hd := cellsAt_alloc wr #[.string sn, .int .i64 si, .bool sb] 69 (0, 0)
                  rw [hW6] at hd
                  have d0 : W6.cell? ⟨wr.heap.size, 0, none⟩ = some (.string sn) := hd 0 _ rfl
                  have d1 : W6.cell? ⟨wr.heap.size, 1, none⟩ = some (.int .i64 si) := hd 1 _ rfl
                  have d2 : W6.cell? ⟨wr.heap.size, 2, none⟩ = some (.bool sb) := hd 2 _ rfl
                  have hs6 : wr.heap.size < W6.heap.size := by rw [← hW6]; simp
                  have gG6 := (hb6.cell (p := ⟨G, 2, none⟩) hsL).trans gG
                  have hsL6 : G < W6.heap.size := by omega
                  rw [hW6]
                  clear hW6 hd t1 t2 t3 gG
                  have kc := cell_cls W6
                  refine wp_region_plan_below 5 [(0, [0, 1, 2]), (1, [3, 4]), (2, [5, 6, 7])] (by kernel_rfl) (by kernel_rfl) (fun _ _ _ _ h => h) ?_
                  simp only [wpSegs, pickOps, List.getElem?_toArray, List.getElem?_cons_zero, List.getElem?_cons_succ]
                  iterate 3 (go_big_quiet_step (fail))
                  refine wpQuiet_nil ?_
                  clear kc
                  refine wpListC_plain rfl (fun K hK => ?_)
                  go_step
                  refine (C1.out _).mono ?_
                  rintro e w5 ⟨rfl, hb5⟩
                  have hb65 : Below W6.heap.size W6 w5 := (Below.drew (Below.refl _ _)).trans hb5
                  refine hK _ _ (cls_of_below hb65) ?_
                  clear hK K
                  refine wpListC_plain rfl (fun K hK => ?_)
                  go_step
                  obtain ⟨W3, hW⟩ : ∃ W3, w5.alloc (.cells #[.string bn, .int .i64 bi, .bool bt] 69) = W3 := ⟨_, rfl⟩
                  have hb53 : Below w5.heap.size w5 W3 := by rw [← hW]; exact (Below.refl _ _).alloc (Nat.le_refl _) _
                  have hnew : CellsAt W3 w5.heap.size 0 #[.string bn, .int .i64 bi, .bool bt] := by rw [← hW]; exact cellsAt_alloc w5 _ _ (0, 0)
                  rw [hW]
                  clear hW
                  refine hK _ _ (cls_of_below (hb65.trans (hb53.mono hb65.size))) ?_
                  clear hK K
                  refine wpListC_nil ?_
                  have hbr3 : Below wr.heap.size wr W3 := hb6.trans ((hb65.trans (hb53.mono hb65.size)).mono hb6.size)
                  refine wpList_plain rfl (fun K hK => ?_)
                  have HG3 := hG.out.kept (grown_ofb hbr3 none) (by cases (Value.slice ssp j ssc).ownBlock <;> simp)
                  refine wp_append_x (P := Tryz.prog) W3 (.tmp 57) (.tmp 60) 30 rfl V.heap.size 69 (.agg #[.string ⟨#[]⟩, .int .i64 0, .bool false]) 3 32 Tryz.underlying30 (by kernel_rfl) rfl (by decide) (.slice ssp j ssc) j _ rfl HG3 ⟨w5.heap.size, 0, none⟩ 1 1 [.string bn, .int .i64 bi, .bool bt] rfl (by decide) rfl ?c1 ?c2 ?c3 ?c4 ?c5 ?_
                  case c1 =>
                    intro m u hu
                    have := hnew m u (by simpa using hu)
                    rw [addr_add]
                    exact this
                  case c2 => intro u hu; simp at hu; rcases hu with rfl | rfl | rfl <;> rfl
                  case c3 => unfold maxLen; omega
                  case c4 => omega
                  case c5 => have := hbr3.size; omega
                  intro v' w' hrow hgr hv'
                  refine hK _ _ ?_
                  clear hK K
                  have hne : some G ≠ (Value.slice ssp j ssc).ownBlock := fun e => by
                    obtain ⟨c1, h1⟩ := row_cells0 hG.out e.symm
                    rw [hL.out] at h1
                    cases h1
                  have hLw' : w'.heap[G]? = some (.cells #[.int .i64 xk, .slice gp xpos.length gc, .slice ssp j ssc] 42 (0, 0)) := by
                    rw [hgr.block _ (by have := hbr3.size; omega) hne, hbr3.block _ hsL]
                    exact hL.out
                  have hfin := heap_setCell_same (j := 2) hLw' v'
                  have hrow' := hrow.kept (grown_sc w' ⟨G, 2, none⟩ v') (.inr fun e => by
                    obtain ⟨c1, h1⟩ := row_cells0 hrow e
                    rw [hLw'] at h1
                    cases h1)
                  have hP' : (w'.setCell ⟨G, 2, none⟩ v').ownsRow V.heap.size 44 2 (.slice gp xpos.length gc) xpos.length (posC xpos) := by
                    have h1 := hP3.out.kept (grown_ofb hbr3 none) (by cases (Value.slice gp xpos.length gc).ownBlock <;> simp)
                    have h2 := h1.kept hgr (row_apart h1 HG3 (by decide))
                    refine h2.kept (grown_sc w' ⟨G, 2, none⟩ v') (.inr fun e => ?_)
                    obtain ⟨c1, h3⟩ := row_cells0 h2 e
                    rw [hLw'] at h3
                    cases h3
                  have hbw' : Below V.heap.size V (w'.setCell ⟨G, 2, none⟩ v') :=
                    ((hB3.out.trans (hbr3.mono hVw)).grown hgr (by have := hbr3.size; omega) (fun y hy => (HG3.lt y hy).1)).setCell (p := ⟨G, 2, none⟩) HGV.out _
                  have hc6 : w'.cell? ⟨G, 2, none⟩ = some (.slice ssp j ssc) := by simp [World.cell?, hLw']
                  have hf6 : w'.frozen? ⟨G, 2, none⟩ = false := by simp [World.frozen?, hLw']
                  obtain ⟨g', cap', rfl⟩ : ∃ g' cap', v' = .slice (some ⟨g', 0, none⟩) (j + 1) cap' := by
                    rcases hrow.2 with ⟨_, h⟩ | ⟨g', cap', cur, h, _⟩
                    · omega
                    · exact ⟨g', cap', h⟩
                  have HFIN := Lib.hid hfin
                  have HGF := Lib.hid hrow'
                  have HBP := Lib.hid (And.intro hbw' hP')
                  clear hfin hrow' hbw' hP' hLw' hrow hgr hv' HG3 hbr3 hnew hb53 hb65 hb5 hb6 hne d0 d1 d2 hs6 gG6 hsL6
                  go_wp2
                  go_roundw
                  case rel =>
                    refine ⟨j + 1, by omega, by go_num, .slice (some ⟨g', 0, none⟩) (j + 1) cap', HFIN, Lib.hid ?_, Lib.hid HBP.out.1, Lib.hid HBP.out.2⟩
                    rw [List.take_add_one, List.getElem?_map, HST.out, stC_app]
                    have h := HGF.out
                    have e : stC (Option.map bareS (some (⟨sn, si, sb⟩ : St))).toList = [.string bn, .int .i64 bi, .bool bt] := by
                      show stC [bareS ⟨sn, si, sb⟩] = _
                      rw [HBS.out]
                      rfl
                    rw [e]
                    exact h
                  case measure => simp [intOf]; omega
                · obtain rfl : j = xpath.length := by omega
                  rw [List.take_of_length_le (by rw [List.length_map]; exact Nat.le_refl _)] at hG
                  have hbq : Below wq.heap.size wq wr := HBV.out.trans (hB3.out.mono HBV.out.size)
                  have g0 : wr.cell? ⟨G, 0, none⟩ = some (.int .i64 xk) := by simp [World.cell?, hL.out]
                  have g1 : wr.cell? ⟨G, 1, none⟩ = some (.slice gp xpos.length gc) := by simp [World.cell?, hL.out]
                  have g2 : wr.cell? ⟨G, 2, none⟩ = some (.slice ssp xpath.length ssc) := by simp [World.cell?, hL.out]
                  have HOwr := Lib.hid (HO.out.kept (grown_ofb hbq none) (by cases (Value.slice sq r.length sd).ownBlock <;> simp))
                  have HSwr := Lib.hid (HS.out.kept (grown_ofb hbq none) (by simp [Value.ownBlock]))
                  have HBwr := Lib.hid (HB.out.trans (hbq.mono HB.out.size))
                  have HMEM : Hid (OwnFl w.heap.size wr (r ++ [⟨⟨xk, xpos, xpath.map bareS⟩, .slice gp xpos.length gc, .slice ssp xpath.length ssc⟩])) := Lib.hid (HW.out.snoc hbq (x := ⟨⟨xk, xpos, xpath.map bareS⟩, .slice gp xpos.length gc, .slice ssp xpath.length ssc⟩) ⟨row_lower hP3.out (by have := HBV.out.size; omega), row_lower (by rw [List.length_map]; exact hG.out) (by have := HBV.out.size; omega), by unfold big; omega, by unfold big; simpa using hql⟩ HB.out.size)
                  clear hbq hsL hVw
                  go_upto_region 19 with (fail)
                  go_step
                  iterate 3
                    refine wpList_plain rfl (fun K hK => ?_)
                    go_step
                    refine hK _ _ ?_
                    clear hK K
                  obtain ⟨W3, hW⟩ : ∃ W3, wr.alloc (.cells #[.int .i64 xk, .slice gp xpos.length gc, .slice ssp xpath.length ssc] 42) = W3 := ⟨_, rfl⟩
                  have hb3 : Below wr.heap.size wr W3 := by rw [← hW]; exact (Below.refl wr.heap.size wr).alloc (Nat.le_refl _) _
                  have hnew : CellsAt W3 wr.heap.size 0 #[.int .i64 xk, .slice gp xpos.length gc, .slice ssp xpath.length ssc] := by rw [← hW]; exact cellsAt_alloc wr _ _ (0, 0)
                  rw [hW]
                  clear hW
                  have HG3 := HOwr.out.kept (grown_ofb hb3 none) (by cases (Value.slice sq r.length sd).ownBlock <;> simp)
                  have HS3 := HSwr.out.kept (grown_ofb hb3 none) (by simp [Value.ownBlock])
                  refine wpList_plain rfl (fun K hK => ?_)
                  refine wp_append_x (P := Tryz.prog) W3 (.tmp 64) (.tmp 66) 28 rfl w.heap.size 42 (.agg #[.int .i64 0, .slice none 0 0, .slice none 0 0]) 3 56 Tryz.underlying28 (by kernel_rfl) rfl (by decide) (.slice sq r.length sd) r.length _ rfl HG3 ⟨wr.heap.size, 0, none⟩ 1 1 [.int .i64 xk, .slice gp xpos.length gc, .slice ssp xpath.length ssc] rfl (by decide) rfl ?c1 ?c2 ?c3 ?c4 ?c5 ?_
                  case c1 =>
                    intro m u hu
                    have := hnew m u (by simpa using hu)
                    rw [addr_add]
                    exact this
                  case c2 => intro u hu; simp at hu; rcases hu with rfl | rfl | rfl <;> rfl
                  case c3 => unfold maxLen; have := hlr.out; omega
                  case c4 => have := hlr.out; omega
                  case c5 => have := hb3.size; have := HBwr.out.size; omega
                  intro v' w' hrow hgr hv'
                  refine hK _ _ ?_
                  clear hK K
                  have hbw' : Below w.heap.size w w' := (HBwr.out.trans (hb3.mono HBwr.out.size)).grown hgr (by have := hb3.size; have := HBwr.out.size; omega) (fun y hy => (HG3.lt y hy).1)
                  have hS' := HS3.kept hgr HNE.out
                  have hne' : (Value.slice (some ⟨ga, 0, none⟩) n sc).ownBlock = none ∨ (Value.slice (some ⟨ga, 0, none⟩) n sc).ownBlock ≠ v'.ownBlock := by
                    rcases hv' with e | e
                    · rw [e]; exact HNE.out
                    · refine .inr (fun e2 => ?_)
                      rw [e] at e2
                      have := (HS3.lt W3.heap.size e2).2
                      omega
                  have hmem' : OwnFl w.heap.size w' (r ++ [⟨⟨xk, xpos, xpath.map bareS⟩, .slice gp xpos.length gc, .slice ssp xpath.length ssc⟩]) := (HMEM.out.below hb3).kept HG3 hgr
                  obtain ⟨g', cap', rfl⟩ : ∃ g' cap', v' = .slice (some ⟨g', 0, none⟩) (r.length + 1) cap' := by
                    rcases hrow.2 with ⟨_, h⟩ | ⟨g', cap', cur, h, _⟩
                    · omega
                    · exact ⟨g', cap', h⟩
                  have HALL5 := Lib.hid (And.intro hrow (And.intro hbw' (And.intro hS' (And.intro hne' hmem'))))
                  clear hrow hbw' hgr hS' hne' hmem' hv' HG3 HS3 hb3 hnew
                  go_wp2
                  go_roundw
                  case rel =>
                    refine ⟨0 + 1, by have := HI1.out; omega, by go_num, r ++ [⟨⟨xk, xpos, xpath.map bareS⟩, .slice gp xpos.length gc, .slice ssp xpath.length ssc⟩], some ⟨g', 0, none⟩, cap', by rw [List.length_append]; rfl, Lib.hid ?_, Lib.hid ?_, Lib.hid HALL5.out.2.2.2.2, Lib.hid HALL5.out.2.1, Lib.hid HALL5.out.2.2.1, Lib.hid ?_⟩
                    · have h := HALL5.out.1
                      rw [List.length_append, fC_app]
                      exact h
                    · rw [HEQ.out, List.map_append, List.map_append, HM.out]
                      rfl
                    · have h := HALL5.out.2.2.2.1
                      rw [List.length_append]
                      exact h
                  case measure => have := HI1.out; simp [intOf]; omega
            · refine wpListC_plain rfl (fun K hK => ?_)
              go_step
              have hbA : Below V.heap.size V (V.alloc (.cells #[.int .i64 0, .slice none 0 0, .slice none 0 0] 42)).drew := Below.drew ((Below.refl _ _).alloc (Nat.le_refl _) _)
              have hGA : (V.alloc (.cells #[.int .i64 0, .slice none 0 0, .slice none 0 0] 42)).drew.heap[V.heap.size]? = some (.cells #[.int .i64 0, .slice none 0 0, .slice none 0 0] 42 (0, 0)) := heap_new V _
              obtain ⟨WA, hWA⟩ : ∃ WA, (V.alloc (.cells #[.int .i64 0, .slice none 0 0, .slice none 0 0] 42)).drew = WA := ⟨_, rfl⟩
              rw [hWA] at hbA hGA
              rw [hWA]
              refine hK _ _ (cls_of_below hbA) ?_
              clear hK K hWA
              refine wpListC_nil ?_
              have HPA : Hid (PosAt V.heap.size WA pp xpos) := Lib.hid (HPV.out.below hbA)
              refine wpListC_plain rfl (fun K hK => ?_)
              refine wp_append_y (P := Tryz.prog) (w := WA) (.const (.slice none 0 0)) (.tmp 46) 40 rfl V.heap.size 44 (.agg #[.int .i64 0, .int .i64 0]) 2 16 Tryz.underlying40 (by kernel_rfl) rfl (by decide) (.slice none 0 0) 0 [] rfl (World.ownsRow_nil _ _ _ _) pp xpos.length pc (posC xpos) rfl (posC_len xpos) (posAt_cells HPA.out).1 (posAt_cells HPA.out).2 (posC_one xpos) (by unfold maxLen; omega) (by omega) hbA.size ?_
              intro v' w4 hrow hgr
              rw [Nat.zero_add, List.nil_append] at hrow
              have hb4 : Below WA.heap.size WA w4 := ⟨hgr.os, hgr.tape, hgr.output, hgr.size, fun k hk => hgr.block k hk (by simp [Value.ownBlock])⟩
              have hbV4 : Below V.heap.size V w4 := hbA.trans (hb4.mono hbA.size)
              obtain ⟨gp, gc, rfl⟩ := row_shape hrow
              refine hK _ _ (cls_of_below hbV4) ?_
              clear hK K
              refine wpListC_nil ?_
              simp only [Act.put, List.setIfInBounds_toArray, List.set_cons_succ, List.set_cons_zero]
              go_big_quiet_step (fail)
              refine wpQuiet_nil ?_
              have hG4 : w4.heap[V.heap.size]? = some (.cells #[.int .i64 0, .slice none 0 0, .slice none 0 0] 42 (0, 0)) := (hb4.block _ (Array.getElem?_eq_some_iff.1 hGA).1).trans hGA
              refine wpList_plain rfl (fun K hK => ?_)
              refine wp_store_row (P := Tryz.prog) 42 (.tmp 9) (.tmp 48) rfl V.heap.size #[.int .i64 xk, .slice gp xpos.length gc, .slice none 0 0] rfl rfl 42 _ hG4 (by kernel_rfl) rfl (by simp [Value.oneCell']) ?_
              refine hK _ _ ?_
              clear hK K
              obtain ⟨W13, hW13⟩ : ∃ W13, w4.setRow V.heap.size #[.int .i64 xk, .slice gp xpos.length gc, .slice none 0 0] = W13 := ⟨_, rfl⟩
              have hG : W13.heap[V.heap.size]? = some (.cells #[.int .i64 xk, .slice gp xpos.length gc, .slice none 0 0] 42 (0, 0)) := by rw [← hW13]; exact setRow_heap _ _ _ _ _ _ hG4
              have hb13 : Below V.heap.size V W13 := by rw [← hW13]; exact below_setRow hbV4 (Nat.le_refl _) _
              have hrow13 : W13.ownsRow V.heap.size 44 2 (.slice gp xpos.length gc) xpos.length (posC xpos) := by
                rw [← hW13]
                exact hrow.kept (grown_sr w4 V.heap.size _) (by
                  cases hq : (Value.slice gp xpos.length gc).ownBlock with
                  | none => exact .inl rfl
                  | some g =>
                    refine .inr (fun e => ?_)
                    obtain ⟨c1, h1⟩ := row_cells0 hrow hq
                    cases e
                    rw [hG4] at h1
                    cases h1)
              have hGV : V.heap.size ≤ V.heap.size := Nat.le_refl _
              rw [hW13]
              clear hW13 hrow hgr hb4 hbV4 hG4 hGA hbA HPA
              go_upto_region 14 with (fail)
              have f2 : W13.cell? ⟨wq.heap.size, 2, none⟩ = some (.slice qp xpath.length qc) := by
                rw [hb13.cell (p := ⟨wq.heap.size, 2, none⟩) hFl0]
                simp [World.cell?, HFV.out]
              have HG13 := Lib.hid hG
              have HB13 := Lib.hid hb13
              have HR13 := Lib.hid hrow13
              have HGV := Lib.hid hGV
              clear hG hb13 hrow13 hGV
              go_wp2
              clear f2
              go_loopw [52] (fun s52 wr3 => ∃ j : Nat, j ≤ xpath.length ∧ s52 = .int .i64 j ∧ ∃ sv, Hid (wr3.heap[V.heap.size]? = some (.cells #[.int .i64 xk, .slice gp xpos.length gc, sv] 42 (0, 0))) ∧ Hid (wr3.ownsRow V.heap.size 69 3 sv j (stC ((xpath.map bareS).take j))) ∧ Hid (Below V.heap.size V wr3) ∧ Hid (wr3.ownsRow V.heap.size 44 2 (.slice gp xpos.length gc) xpos.length (posC xpos))) (fun s52 _ => xpath.length - (intOf s52).toNat)
              case atStart => exact ⟨0, by omega, rfl, _, HG13, Lib.hid (World.ownsRow_nil _ _ _ _), HB13, HR13⟩
              case round =>
                clear HG13 HB13 HR13
                obtain ⟨j, hj, rfl, sv, hL, hG, hB3, hP3⟩ := hrel
                obtain ⟨ssp, ssc, rfl⟩ := row_shape hG.out
                have hsL : V.heap.size < wr.heap.size := (Array.getElem?_eq_some_iff.1 hL.out).1
                have hVw := hB3.out.size
                by_cases hjl : j < xpath.length
                · obtain ⟨st, hst⟩ : ∃ st, xpath[j]? = some st := ⟨xpath[j], by simp [hjl]⟩
                  rcases HQP.out with hp | ⟨b', o', rfl, hb', hc'⟩
                  · subst hp; simp at hjl
                  obtain ⟨t1, t2, t3⟩ := hc' j st hst
                  have hbw : Below w.heap.size w wr := (HB.out.trans (HBV.out.mono HB.out.size)).trans (hB3.out.mono (by have := HB.out.size; have := HBV.out.size; omega))
                  have t1 := (hbw.cell (p := ⟨b', o' + j * 3, none⟩) hb').trans t1
                  have t2 := (hbw.cell (p := ⟨b', o' + j * 3 + 1, none⟩) hb').trans t2
                  have t3 := (hbw.cell (p := ⟨b', o' + j * 3 + 2, none⟩) hb').trans t3
                  have gG : wr.cell? ⟨V.heap.size, 2, none⟩ = some (.slice ssp j ssc) := by simp [World.cell?, hL.out]
                  obtain ⟨⟨bn, bi, bt⟩, hbs⟩ : ∃ s', bareS st = s' := ⟨_, rfl⟩
                  have C1 : Hid (∀ W, Calls Tryz.prog 26 #[.agg #[.string st.nm, .int .i64 st.ix, .bool st.it]] W (RetB (.agg #[.string bn, .int .i64 bi, .bool bt]) W)) := Lib.hid (fun W => by
                    have := bare_any st W
                    rw [hbs] at this
                    exact this)
                  have HBS := Lib.hid hbs
                  have HST := Lib.hid hst
                  obtain ⟨sn, si, sb⟩ := st
                  dsimp only at t1 t2 t3 C1
                  clear hc' hst hbw hbs
                  go_upto_region 17 with (fail)
                  obtain ⟨W6, hW6⟩ : ∃ W6, wr.alloc (.cells #[.string sn, .int .i64 si, .bool sb] 69) = W6 := ⟨_, rfl⟩
                  have hb6 : Below wr.heap.size wr W6 := by rw [← hW6]; exact (Below.refl _ _).alloc (Nat.le_refl _) _
                  have hd := cellsAt_alloc wr #[.string sn, .int .i64 si, .bool sb] 69 (0, 0)
                  rw [hW6] at hd
                  have d0 : W6.cell? ⟨wr.heap.size, 0, none⟩ = some (.string sn) := hd 0 _ rfl
                  have d1 : W6.cell? ⟨wr.heap.size, 1, none⟩ = some (.int .i64 si) := hd 1 _ rfl
                  have d2 : W6.cell? ⟨wr.heap.size, 2, none⟩ = some (.bool sb) := hd 2 _ rfl
                  have hs6 : wr.heap.size < W6.heap.size := by rw [← hW6]; simp
                  have gG6 := (hb6.cell (p := ⟨V.heap.size, 2, none⟩) hsL).trans gG
                  have hsL6 : V.heap.size < W6.heap.size := by omega
                  rw [hW6]
                  clear hW6 hd t1 t2 t3 gG
                  have kc := cell_cls W6
                  refine wp_region_plan_below 5 [(0, [0, 1, 2]), (1, [3, 4]), (2, [5, 6, 7])] (by kernel_rfl) (by kernel_rfl) (fun _ _ _ _ h => h) ?_
                  simp only [wpSegs, pickOps, List.getElem?_toArray, List.getElem?_cons_zero, List.getElem?_cons_succ]
                  iterate 3 (go_big_quiet_step (fail))
                  refine wpQuiet_nil ?_
                  clear kc
                  refine wpListC_plain rfl (fun K hK => ?_)
                  go_step
                  refine (C1.out _).mono ?_
                  rintro e w5 ⟨rfl, hb5⟩
                  have hb65 : Below W6.heap.size W6 w5 := (Below.drew (Below.refl _ _)).trans hb5
                  refine hK _ _ (cls_of_below hb65) ?_
                  clear hK K
                  refine wpListC_plain rfl (fun K hK => ?_)
                  go_step
                  obtain ⟨W3, hW⟩ : ∃ W3, w5.alloc (.cells #[.string bn, .int .i64 bi, .bool bt] 69) = W3 := ⟨_, rfl⟩
                  have hb53 : Below w5.heap.size w5 W3 := by rw [← hW]; exact (Below.refl _ _).alloc (Nat.le_refl _) _
                  have hnew : CellsAt W3 w5.heap.size 0 #[.string bn, .int .i64 bi, .bool bt] := by rw [← hW]; exact cellsAt_alloc w5 _ _ (0, 0)
                  rw [hW]
                  clear hW
                  refine hK _ _ (cls_of_below (hb65.trans (hb53.mono hb65.size))) ?_
                  clear hK K
                  refine wpListC_nil ?_
                  have hbr3 : Below wr.heap.size wr W3 := hb6.trans ((hb65.trans (hb53.mono hb65.size)).mono hb6.size)
                  refine wpList_plain rfl (fun K hK => ?_)
                  have HG3 := hG.out.kept (grown_ofb hbr3 none) (by cases (Value.slice ssp j ssc).ownBlock <;> simp)
                  refine wp_append_x (P := Tryz.prog) W3 (.tmp 57) (.tmp 60) 30 rfl V.heap.size 69 (.agg #[.string ⟨#[]⟩, .int .i64 0, .bool false]) 3 32 Tryz.underlying30 (by kernel_rfl) rfl (by decide) (.slice ssp j ssc) j _ rfl HG3 ⟨w5.heap.size, 0, none⟩ 1 1 [.string bn, .int .i64 bi, .bool bt] rfl (by decide) rfl ?c1 ?c2 ?c3 ?c4 ?c5 ?_
                  case c1 =>
                    intro m u hu
                    have := hnew m u (by simpa using hu)
                    rw [addr_add]
                    exact this
                  case c2 => intro u hu; simp at hu; rcases hu with rfl | rfl | rfl <;> rfl
                  case c3 => unfold maxLen; omega
                  case c4 => omega
                  case c5 => have := hbr3.size; omega
                  intro v' w' hrow hgr hv'
                  refine hK _ _ ?_
                  clear hK K
                  have hne : some V.heap.size ≠ (Value.slice ssp j ssc).ownBlock := fun e => by
                    obtain ⟨c1, h1⟩ := row_cells0 hG.out e.symm
                    rw [hL.out] at h1
                    cases h1
                  have hLw' : w'.heap[V.heap.size]? = some (.cells #[.int .i64 xk, .slice gp xpos.length gc, .slice ssp j ssc] 42 (0, 0)) := by
                    rw [hgr.block _ (by have := hbr3.size; omega) hne, hbr3.block _ hsL]
                    exact hL.out
                  have hfin := heap_setCell_same (j := 2) hLw' v'
                  have hrow' := hrow.kept (grown_sc w' ⟨V.heap.size, 2, none⟩ v') (.inr fun e => by
                    obtain ⟨c1, h1⟩ := row_cells0 hrow e
                    rw [hLw'] at h1
                    cases h1)
                  have hP' : (w'.setCell ⟨V.heap.size, 2, none⟩ v').ownsRow V.heap.size 44 2 (.slice gp xpos.length gc) xpos.length (posC xpos) := by
                    have h1 := hP3.out.kept (grown_ofb hbr3 none) (by cases (Value.slice gp xpos.length gc).ownBlock <;> simp)
                    have h2 := h1.kept hgr (row_apart h1 HG3 (by decide))
                    refine h2.kept (grown_sc w' ⟨V.heap.size, 2, none⟩ v') (.inr fun e => ?_)
                    obtain ⟨c1, h3⟩ := row_cells0 h2 e
                    rw [hLw'] at h3
                    cases h3
                  have hbw' : Below V.heap.size V (w'.setCell ⟨V.heap.size, 2, none⟩ v') :=
                    ((hB3.out.trans (hbr3.mono hVw)).grown hgr (by have := hbr3.size; omega) (fun y hy => (HG3.lt y hy).1)).setCell (p := ⟨V.heap.size, 2, none⟩) HGV.out _
                  have hc6 : w'.cell? ⟨V.heap.size, 2, none⟩ = some (.slice ssp j ssc) := by simp [World.cell?, hLw']
                  have hf6 : w'.frozen? ⟨V.heap.size, 2, none⟩ = false := by simp [World.frozen?, hLw']
                  obtain ⟨g', cap', rfl⟩ : ∃ g' cap', v' = .slice (some ⟨g', 0, none⟩) (j + 1) cap' := by
                    rcases hrow.2 with ⟨_, h⟩ | ⟨g', cap', cur, h, _⟩
                    · omega
                    · exact ⟨g', cap', h⟩
                  have HFIN := Lib.hid hfin
                  have HGF := Lib.hid hrow'
                  have HBP := Lib.hid (And.intro hbw' hP')
                  clear hfin hrow' hbw' hP' hLw' hrow hgr hv' HG3 hbr3 hnew hb53 hb65 hb5 hb6 hne d0 d1 d2 hs6 gG6 hsL6
                  go_wp2
                  go_roundw
                  case rel =>
                    refine ⟨j + 1, by omega, by go_num, .slice (some ⟨g', 0, none⟩) (j + 1) cap', HFIN, Lib.hid ?_, Lib.hid HBP.out.1, Lib.hid HBP.out.2⟩
                    rw [List.take_add_one, List.getElem?_map, HST.out, stC_app]
                    have h := HGF.out
                    have e : stC (Option.map bareS (some (⟨sn, si, sb⟩ : St))).toList = [.string bn, .int .i64 bi, .bool bt] := by
                      show stC [bareS ⟨sn, si, sb⟩] = _
                      rw [HBS.out]
                      rfl
                    rw [e]
                    exact h
                  case measure => simp [intOf]; omega
                · obtain rfl : j = xpath.length := by omega
                  rw [List.take_of_length_le (by rw [List.length_map]; exact Nat.le_refl _)] at hG
                  have hbq : Below wq.heap.size wq wr := HBV.out.trans (hB3.out.mono HBV.out.size)
                  have g0 : wr.cell? ⟨V.heap.size, 0, none⟩ = some (.int .i64 xk) := by simp [World.cell?, hL.out]
                  have g1 : wr.cell? ⟨V.heap.size, 1, none⟩ = some (.slice gp xpos.length gc) := by simp [World.cell?, hL.out]
                  have g2 : wr.cell? ⟨V.heap.size, 2, none⟩ = some (.slice ssp xpath.length ssc) := by simp [World.cell?, hL.out]
                  have HOwr := Lib.hid (HO.out.kept (grown_ofb hbq none) (by cases (Value.slice sq r.length sd).ownBlock <;> simp))
                  have HSwr := Lib.hid (HS.out.kept (grown_ofb hbq none) (by simp [Value.ownBlock]))
                  have HBwr := Lib.hid (HB.out.trans (hbq.mono HB.out.size))
                  have HMEM : Hid (OwnFl w.heap.size wr (r ++ [⟨⟨xk, xpos, xpath.map bareS⟩, .slice gp xpos.length gc, .slice ssp xpath.length ssc⟩])) := Lib.hid (HW.out.snoc hbq (x := ⟨⟨xk, xpos, xpath.map bareS⟩, .slice gp xpos.length gc, .slice ssp xpath.length ssc⟩) ⟨row_lower hP3.out (by have := HBV.out.size; omega), row_lower (by rw [List.length_map]; exact hG.out) (by have := HBV.out.size; omega), by unfold big; omega, by unfold big; simpa using hql⟩ HB.out.size)
                  clear hbq hsL hVw
                  go_upto_region 19 with (fail)
                  go_step
                  iterate 3
                    refine wpList_plain rfl (fun K hK => ?_)
                    go_step
                    refine hK _ _ ?_
                    clear hK K
                  obtain ⟨W3, hW⟩ : ∃ W3, wr.alloc (.cells #[.int .i64 xk, .slice gp xpos.length gc, .slice ssp xpath.length ssc] 42) = W3 := ⟨_, rfl⟩
                  have hb3 : Below wr.heap.size wr W3 := by rw [← hW]; exact (Below.refl wr.heap.size wr).alloc (Nat.le_refl _) _
                  have hnew : CellsAt W3 wr.heap.size 0 #[.int .i64 xk, .slice gp xpos.length gc, .slice ssp xpath.length ssc] := by rw [← hW]; exact cellsAt_alloc wr _ _ (0, 0)
                  rw [hW]
                  clear hW
                  have HG3 := HOwr.out.kept (grown_ofb hb3 none) (by cases (Value.slice sq r.length sd).ownBlock <;> simp)
                  have HS3 := HSwr.out.kept (grown_ofb hb3 none) (by simp [Value.ownBlock])
                  refine wpList_plain rfl (fun K hK => ?_)
                  refine wp_append_x (P := Tryz.prog) W3 (.tmp 64) (.tmp 66) 28 rfl w.heap.size 42 (.agg #[.int .i64 0, .slice none 0 0, .slice none 0 0]) 3 56 Tryz.underlying28 (by kernel_rfl) rfl (by decide) (.slice sq r.length sd) r.length _ rfl HG3 ⟨wr.heap.size, 0, none⟩ 1 1 [.int .i64 xk, .slice gp xpos.length gc, .slice ssp xpath.length ssc] rfl (by decide) rfl ?c1 ?c2 ?c3 ?c4 ?c5 ?_
                  case c1 =>
                    intro m u hu
                    have := hnew m u (by simpa using hu)
                    rw [addr_add]
                    exact this
                  case c2 => intro u hu; simp at hu; rcases hu with rfl | rfl | rfl <;> rfl
                  case c3 => unfold maxLen; have := hlr.out; omega
                  case c4 => have := hlr.out; omega
                  case c5 => have := hb3.size; have := HBwr.out.size; omega
                  intro v' w' hrow hgr hv'
                  refine hK _ _ ?_
                  clear hK K
                  have hbw' : Below w.heap.size w w' := (HBwr.out.trans (hb3.mono HBwr.out.size)).grown hgr (by have := hb3.size; have := HBwr.out.size; omega) (fun y hy => (HG3.lt y hy).1)
                  have hS' := HS3.kept hgr HNE.out
                  have hne' : (Value.slice (some ⟨ga, 0, none⟩) n sc).ownBlock = none ∨ (Value.slice (some ⟨ga, 0, none⟩) n sc).ownBlock ≠ v'.ownBlock := by
                    rcases hv' with e | e
                    · rw [e]; exact HNE.out
                    · refine .inr (fun e2 => ?_)
                      rw [e] at e2
                      have := (HS3.lt W3.heap.size e2).2
                      omega
                  have hmem' : OwnFl w.heap.size w' (r ++ [⟨⟨xk, xpos, xpath.map bareS⟩, .slice gp xpos.length gc, .slice ssp xpath.length ssc⟩]) := (HMEM.out.below hb3).kept HG3 hgr
                  obtain ⟨g', cap', rfl⟩ : ∃ g' cap', v' = .slice (some ⟨g', 0, none⟩) (r.length + 1) cap' := by
                    rcases hrow.2 with ⟨_, h⟩ | ⟨g', cap', cur, h, _⟩
                    · omega
                    · exact ⟨g', cap', h⟩
                  have HALL5 := Lib.hid (And.intro hrow (And.intro hbw' (And.intro hS' (And.intro hne' hmem'))))
                  clear hrow hbw' hgr hS' hne' hmem' hv' HG3 HS3 hb3 hnew
                  go_wp2
                  go_roundw
                  case rel =>
                    refine ⟨0 + 1, by have := HI1.out; omega, by go_num, r ++ [⟨⟨xk, xpos, xpath.map bareS⟩, .slice gp xpos.length gc, .slice ssp xpath.length ssc⟩], some ⟨g', 0, none⟩, cap', by rw [List.length_append]; rfl, Lib.hid ?_, Lib.hid ?_, Lib.hid HALL5.out.2.2.2.2, Lib.hid HALL5.out.2.1, Lib.hid HALL5.out.2.2.1, Lib.hid ?_⟩
                    · have h := HALL5.out.1
                      rw [List.length_append, fC_app]
                      exact h
                    · rw [HEQ.out, List.map_append, List.map_append, HM.out]
                      rfl
                    · have h := HALL5.out.2.2.2.1
                      rw [List.length_append]
                      exact h
                  case measure => have := HI1.out; simp [intOf]; omega
          | succ i' =>
            obtain ⟨y, hy⟩ : ∃ y, S[i']? = some y := ⟨_, List.getElem?_eq_getElem (by have := HSL.out; omega)⟩
            obtain ⟨k0, k1, k2⟩ := fC_at S i' y hy
            have b1 := (hb8.cell (p := ⟨ga, i' * 3, none⟩) hwa).trans (HGC.out _ _ k0)
            have b2 := (hb8.cell (p := ⟨ga, i' * 3 + 1, none⟩) hwa).trans (HGC.out _ _ k1)
            have b3 := (hb8.cell (p := ⟨ga, i' * 3 + 2, none⟩) hwa).trans (HGC.out _ _ k2)
            have oky := HSOK.out y (List.mem_of_getElem? hy)
            have C1 : Hid (∀ W, Below W8.heap.size W8 W → Calls Tryz.prog 25 #[.agg y.cells, .agg #[.int .i64 xk, .slice pp xpos.length pc, .slice qp xpath.length qc]] W (RetG (.int .i64 (cmpF y.f ⟨xk, xpos, xpath⟩)) W)) := Lib.hid (fun W h => by
              have hb : Below w.heap.size w W := HB.out.trans ((hb8.trans (h.mono hb8.size)).mono hwr)
              exact faultOrder_g y ⟨⟨xk, xpos, xpath⟩, .slice pp xpos.length pc, .slice qp xpath.length qc⟩ w.heap.size W (oky.below hb) (HOKX.out.below hb) hb.size)
            obtain ⟨cc, hcc⟩ : ∃ cc, cmpF y.f ⟨xk, xpos, xpath⟩ = cc := ⟨_, rfl⟩
            have HCC := Lib.hid hcc
            rw [hcc] at C1
            have HY := Lib.hid hy
            obtain ⟨⟨yk, ypos, ypath⟩, yp, yq⟩ := y
            dsimp only at b1 b2 b3
            dsimp only [LF.cells] at C1
            clear hy k0 k1 k2 oky hcc
            have hd1 : decide ((0 : Int) < (i' : Int) + 1) = true := decide_eq_true (by omega)
            have hin : i' < n := by omega
            have hwk : wrap64 (i' : Int) = i' := IntWalk.wrap64_in _ ⟨by omega, by omega⟩
            have kc := cell_cls W8
            refine wp_region_plan_below 12 [(0, [0, 1, 2, 3, 4, 5, 6, 7, 8]), (1, [9]), (0, [10, 11])] (by kernel_rfl) (by kernel_rfl) (fun _ _ _ _ h => h) ?_
            simp only [wpSegs, pickOps, List.getElem?_toArray, List.getElem?_cons_zero, List.getElem?_cons_succ]
            iterate 9 (go_big_quiet_step (fail))
            refine wpQuiet_nil ?_
            clear kc
            refine wpListC_want (by rfl) (fun K hK => ?_)
            go_step
            refine (C1.out _ (Below.drew (Below.refl _ _))).mono ?_
            rintro e V ⟨rfl, hgV⟩
            have hbV8 : Below W8.heap.size W8 V := (Below.drew (Below.refl _ _)).trans hgV.below
            refine hK _ _ (cls_of_below hbV8) ?_
            clear hK K
            refine wpListC_nil ?_
            have hbV : Below wq.heap.size wq V := hb8.trans (hbV8.mono hb8.size)
            have hFV : V.heap[wq.heap.size]? = some (.cells #[.int .i64 xk, .slice pp xpos.length pc, .slice qp xpath.length qc] 42 (0, 0)) := (hbV8.block _ hs8).trans HF8.out
            clear hgV hbV8 C1 b1 b2 b3 f0 f1 f2 hb8 HB8 HF8 hs8 ga8
            by_cases h0 : cc = 0
            · subst h0
              iterate 2 (go_big_quiet_step (fail))
              refine wpQuiet_nil ?_
              have HBV := Lib.hid hbV
              clear hbV hFV
              go_wp2
              go_roundw
              case rel =>
                refine ⟨i' + 1 + 1, by have := HI1.out; omega, by go_num, r, sq, sd, rfl, Lib.hid (HO.out.kept (grown_ofb HBV.out none) (by cases (Value.slice sq r.length sd).ownBlock <;> simp)), Lib.hid (by rw [dedP_skip HX.out HY.out HCC.out]; exact HM.out), Lib.hid (HW.out.below HBV.out), Lib.hid (HB.out.trans (HBV.out.mono HB.out.size)), Lib.hid (HS.out.kept (grown_ofb HBV.out none) (by simp [Value.ownBlock])), HNE⟩
              case measure => have := HI1.out; simp [intOf]; omega
            · have hd2 : decide (cc = 0) = false := decide_eq_false h0
              have hd3 : (cc == 0) = false := by simp [h0]
              iterate 2 (go_big_quiet_step (fail))
              refine wpQuiet_nil ?_
              have HEQ : Hid (dedP S (i' + 1 + 1) = dedP S (i' + 1) ++ [⟨⟨xk, xpos, xpath⟩, .slice pp xpos.length pc, .slice qp xpath.length qc⟩]) := Lib.hid (dedP_keep HX.out HY.out (by rw [HCC.out]; exact h0))
              clear hd1 hd2 hd3 hwk hin
              go_upto_region 13 with (fail)
              have hFl0 : wq.heap.size < V.heap.size := (Array.getElem?_eq_some_iff.1 hFV).1
              have f0 : V.cell? ⟨wq.heap.size, 0, none⟩ = some (.int .i64 xk) := by simp [World.cell?, hFV]
              have f1 : V.cell? ⟨wq.heap.size, 1, none⟩ = some (.slice pp xpos.length pc) := by simp [World.cell?, hFV]
              have HFV := Lib.hid hFV
              have HBV := Lib.hid hbV
              have HPV : Hid (PosAt V.heap.size V pp xpos) := Lib.hid (by
                have hb : Below w.heap.size w V := HB.out.trans (hbV.mono HB.out.size)
                exact (HPP.out.below hb).up hb.size)
              clear hFV hbV
              have kc := cell_cls V
              refine wp_region_tree_below 7 (.heads [0, 1, 2, 3] (.fork 4 (.heads [5] (.chain [6] (.tail [7]))) 6 (.chain [4] (.heads [5] (.tail [7]))))) (by kernel_rfl) (by kernel_rfl) (fun _ _ _ _ h => h) ?_
              simp only [wpPlan, pickOps, List.getElem?_toArray, List.getElem?_cons_zero, List.getElem?_cons_succ]
              iterate 4 (go_big_quiet_step (fail))
              refine wpQuiet_nil ?_
              clear kc f0 f1
              refine ⟨?_, ?_⟩
              · refine wpListC_plain rfl (fun K hK => ?_)
                refine wp_append_y (P := Tryz.prog) (w := { V with drawn := V.drawn + 1 }) (.const (.slice none 0 0)) (.tmp 46) 40 rfl V.heap.size 44 (.agg #[.int .i64 0, .int .i64 0]) 2 16 Tryz.underlying40 (by kernel_rfl) rfl (by decide) (.slice none 0 0) 0 [] rfl (World.ownsRow_nil _ _ _ _) pp xpos.length pc (posC xpos) rfl (posC_len xpos) (posAt_cells HPV.out).1 (posAt_cells HPV.out).2 (posC_one xpos) (by unfold maxLen; omega) (by omega) (Nat.le_refl _) ?_
                intro v' w4 hrow hgr
                rw [Nat.zero_add, List.nil_append] at hrow
                have hb4 : Below V.heap.size V w4 := ⟨hgr.os, hgr.tape, hgr.output, hgr.size, fun k hk => hgr.block k hk (by simp [Value.ownBlock])⟩
                obtain ⟨gp, gc, rfl⟩ := row_shape hrow
                refine hK _ _ (cls_of_below hb4) ?_
                clear hK K
                refine wpListC_nil ?_
                simp only [Act.put, List.setIfInBounds_toArray, List.set_cons_succ, List.set_cons_zero]
                go_big_quiet_step (fail)
                refine wpQuiet_nil ?_
                refine wpListC_plain rfl (fun K hK => ?_)
                go_step
                refine hK _ _ (cls_of_below (hb4.alloc hb4.size _)) ?_
                clear hK K
                refine wpListC_nil ?_
                go_upto_region 14 with (fail)
                obtain ⟨W13, hW13⟩ : ∃ W13, w4.alloc (.cells #[.int .i64 xk, .slice gp xpos.length gc, .slice none 0 0] 42) = W13 := ⟨_, rfl⟩
                have hG : W13.heap[w4.heap.size]? = some (.cells #[.int .i64 xk, .slice gp xpos.length gc, .slice none 0 0] 42 (0, 0)) := by rw [← hW13]; exact heap_new w4 _
                have hb13 : Below V.heap.size V W13 := by rw [← hW13]; exact hb4.alloc hb4.size _
                have hrow13 : W13.ownsRow V.heap.size 44 2 (.slice gp xpos.length gc) xpos.length (posC xpos) := by rw [← hW13]; exact hrow.alloc _
                have hGV : V.heap.size ≤ w4.heap.size := hb4.size
                rw [hW13]
                clear hW13 hrow hgr hb4
                generalize w4.heap.size = G at *
                have f2 : W13.cell? ⟨wq.heap.size, 2, none⟩ = some (.slice qp xpath.length qc) := by
                  rw [hb13.cell (p := ⟨wq.heap.size, 2, none⟩) hFl0]
                  simp [World.cell?, HFV.out]
                have HG13 := Lib.hid hG
                have HB13 := Lib.hid hb13
                have HR13 := Lib.hid hrow13
                have HGV := Lib.hid hGV
                clear hG hb13 hrow13 hGV
                go_wp2
                clear f2
                go_loopw [52] (fun s52 wr3 => ∃ j : Nat, j ≤ xpath.length ∧ s52 = .int .i64 j ∧ ∃ sv, Hid (wr3.heap[G]? = some (.cells #[.int .i64 xk, .slice gp xpos.length gc, sv] 42 (0, 0))) ∧ Hid (wr3.ownsRow V.heap.size 69 3 sv j (stC ((xpath.map bareS).take j))) ∧ Hid (Below V.heap.size V wr3) ∧ Hid (wr3.ownsRow V.heap.size 44 2 (.slice gp xpos.length gc) xpos.length (posC xpos))) (fun s52 _ => xpath.length - (intOf s52).toNat)
                case atStart => exact ⟨0, by omega, rfl, _, HG13, Lib.hid (World.ownsRow_nil _ _ _ _), HB13, HR13⟩
                case round =>
                  clear HG13 HB13 HR13
                  obtain ⟨j, hj, rfl, sv, hL, hG, hB3, hP3⟩ := hrel
                  obtain ⟨ssp, ssc, rfl⟩ := row_shape hG.out
                  have hsL : G < wr.heap.size := (Array.getElem?_eq_some_iff.1 hL.out).1
                  have hVw := hB3.out.size
                  by_cases hjl : j < xpath.length
                  · obtain ⟨st, hst⟩ : ∃ st, xpath[j]? = some st := ⟨xpath[j], by simp [hjl]⟩
                    rcases HQP.out with hp | ⟨b', o', rfl, hb', hc'⟩
                    · subst hp; simp at hjl
                    obtain ⟨t1, t2, t3⟩ := hc' j st hst
                    have hbw : Below w.heap.size w wr := (HB.out.trans (HBV.out.mono HB.out.size)).trans (hB3.out.mono (by have := HB.out.size; have := HBV.out.size; omega))
                    have t1 := (hbw.cell (p := ⟨b', o' + j * 3, none⟩) hb').trans t1
                    have t2 := (hbw.cell (p := ⟨b', o' + j * 3 + 1, none⟩) hb').trans t2
                    have t3 := (hbw.cell (p := ⟨b', o' + j * 3 + 2, none⟩) hb').trans t3
                    have gG : wr.cell? ⟨G, 2, none⟩ = some (.slice ssp j ssc) := by simp [World.cell?, hL.out]
                    obtain ⟨⟨bn, bi, bt⟩, hbs⟩ : ∃ s', bareS st = s' := ⟨_, rfl⟩
                    have C1 : Hid (∀ W, Calls Tryz.prog 26 #[.agg #[.string st.nm, .int .i64 st.ix, .bool st.it]] W (RetB (.agg #[.string bn, .int .i64 bi, .bool bt]) W)) := Lib.hid (fun W => by
                      have := bare_any st W
                      rw [hbs] at this
                      exact this)
                    have HBS := Lib.hid hbs
                    have HST := Lib.hid hst
                    obtain ⟨sn, si, sb⟩ := st
                    dsimp only at t1 t2 t3 C1
                    clear hc' hst hbw hbs
                    go_upto_region 17 with (fail)
                    obtain ⟨W6, hW6⟩ : ∃ W6, wr.alloc (.cells #[.string sn, .int .i64 si, .bool sb] 69) = W6 := ⟨_, rfl⟩
                    have hb6 : Below wr.heap.size wr W6 := by rw [← hW6]; exact (Below.refl _ _).alloc (Nat.le_refl _) _
                    have hd := cellsAt_alloc wr #[.string sn, .int .i64 si, .bool sb] 69 (0, 0)
                    rw [hW6] at hd
                    have d0 : W6.cell? ⟨wr.heap.size, 0, none⟩ = some (.string sn) := hd 0 _ rfl
                    have d1 : W6.cell? ⟨wr.heap.size, 1, none⟩ = some (.int .i64 si) := hd 1 _ rfl
                    have d2 : W6.cell? ⟨wr.heap.size, 2, none⟩ = some (.bool sb) := hd 2 _ rfl
                    have hs6 : wr.heap.size < W6.heap.size := by rw [← hW6]; simp
                    have gG6 := (hb6.cell (p := ⟨G, 2, none⟩) hsL).trans gG
                    have hsL6 : G < W6.heap.size := by omega
                    rw [hW6]
                    clear hW6 hd t1 t2 t3 gG
                    have kc := cell_cls W6
                    refine wp_region_plan_below 5 [(0, [0, 1, 2]), (1, [3, 4]), (2, [5, 6, 7])] (by kernel_rfl) (by kernel_rfl) (fun _ _ _ _ h => h) ?_
                    simp only [wpSegs, pickOps, List.getElem?_toArray, List.getElem?_cons_zero, List.getElem?_cons_succ]
                    iterate 3 (go_big_quiet_step (fail))
                    refine wpQuiet_nil ?_
                    clear kc
                    refine wpListC_plain rfl (fun K hK => ?_)
                    go_step
                    refine (C1.out _).mono ?_
                    rintro e w5 ⟨rfl, hb5⟩
                    have hb65 : Below W6.heap.size W6 w5 := (Below.drew (Below.refl _ _)).trans hb5
                    refine hK _ _ (cls_of_below hb65) ?_
                    clear hK K
                    refine wpListC_plain rfl (fun K hK => ?_)
                    go_step
                    obtain ⟨W3, hW⟩ : ∃ W3, w5.alloc (.cells #[.string bn, .int .i64 bi, .bool bt] 69) = W3 := ⟨_, rfl⟩
                    have hb53 : Below w5.heap.size w5 W3 := by rw [← hW]; exact (Below.refl _ _).alloc (Nat.le_refl _) _
                    have hnew : CellsAt W3 w5.heap.size 0 #[.string bn, .int .i64 bi, .bool bt] := by rw [← hW]; exact cellsAt_alloc w5 _ _ (0, 0)
                    rw [hW]
                    clear hW
                    refine hK _ _ (cls_of_below (hb65.trans (hb53.mono hb65.size))) ?_
                    clear hK K
                    refine wpListC_nil ?_
                    have hbr3 : Below wr.heap.size wr W3 := hb6.trans ((hb65.trans (hb53.mono hb65.size)).mono hb6.size)
                    refine wpList_plain rfl (fun K hK => ?_)
                    have HG3 := hG.out.kept (grown_ofb hbr3 none) (by cases (Value.slice ssp j ssc).ownBlock <;> simp)
                    refine wp_append_x (P := Tryz.prog) W3 (.tmp 57) (.tmp 60) 30 rfl V.heap.size 69 (.agg #[.string ⟨#[]⟩, .int .i64 0, .bool false]) 3 32 Tryz.underlying30 (by kernel_rfl) rfl (by decide) (.slice ssp j ssc) j _ rfl HG3 ⟨w5.heap.size, 0, none⟩ 1 1 [.string bn, .int .i64 bi, .bool bt] rfl (by decide) rfl ?c1 ?c2 ?c3 ?c4 ?c5 ?_
                    case c1 =>
                      intro m u hu
                      have := hnew m u (by simpa using hu)
                      rw [addr_add]
                      exact this
                    case c2 => intro u hu; simp at hu; rcases hu with rfl | rfl | rfl <;> rfl
                    case c3 => unfold maxLen; omega
                    case c4 => omega
                    case c5 => have := hbr3.size; omega
                    intro v' w' hrow hgr hv'
                    refine hK _ _ ?_
                    clear hK K
                    have hne : some G ≠ (Value.slice ssp j ssc).ownBlock := fun e => by
                      obtain ⟨c1, h1⟩ := row_cells0 hG.out e.symm
                      rw [hL.out] at h1
                      cases h1
                    have hLw' : w'.heap[G]? = some (.cells #[.int .i64 xk, .slice gp xpos.length gc, .slice ssp j ssc] 42 (0, 0)) := by
                      rw [hgr.block _ (by have := hbr3.size; omega) hne, hbr3.block _ hsL]
                      exact hL.out
                    have hfin := heap_setCell_same (j := 2) hLw' v'
                    have hrow' := hrow.kept (grown_sc w' ⟨G, 2, none⟩ v') (.inr fun e => by
                      obtain ⟨c1, h1⟩ := row_cells0 hrow e
                      rw [hLw'] at h1
                      cases h1)
                    have hP' : (w'.setCell ⟨G, 2, none⟩ v').ownsRow V.heap.size 44 2 (.slice gp xpos.length gc) xpos.length (posC xpos) := by
                      have h1 := hP3.out.kept (grown_ofb hbr3 none) (by cases (Value.slice gp xpos.length gc).ownBlock <;> simp)
                      have h2 := h1.kept hgr (row_apart h1 HG3 (by decide))
                      refine h2.kept (grown_sc w' ⟨G, 2, none⟩ v') (.inr fun e => ?_)
                      obtain ⟨c1, h3⟩ := row_cells0 h2 e
                      rw [hLw'] at h3
                      cases h3
                    have hbw' : Below V.heap.size V (w'.setCell ⟨G, 2, none⟩ v') :=
                      ((hB3.out.trans (hbr3.mono hVw)).grown hgr (by have := hbr3.size; omega) (fun y hy => (HG3.lt y hy).1)).setCell (p := ⟨G, 2, none⟩) HGV.out _
                    have hc6 : w'.cell? ⟨G, 2, none⟩ = some (.slice ssp j ssc) := by simp [World.cell?, hLw']
                    have hf6 : w'.frozen? ⟨G, 2, none⟩ = false := by simp [World.frozen?, hLw']
                    obtain ⟨g', cap', rfl⟩ : ∃ g' cap', v' = .slice (some ⟨g', 0, none⟩) (j + 1) cap' := by
                      rcases hrow.2 with ⟨_, h⟩ | ⟨g', cap', cur, h, _⟩
                      · omega
                      · exact ⟨g', cap', h⟩
                    have HFIN := Lib.hid hfin
                    have HGF := Lib.hid hrow'
                    have HBP := Lib.hid (And.intro hbw' hP')
                    clear hfin hrow' hbw' hP' hLw' hrow hgr hv' HG3 hbr3 hnew hb53 hb65 hb5 hb6 hne d0 d1 d2 hs6 gG6 hsL6
                    go_wp2
                    go_roundw
                    case rel =>
                      refine ⟨j + 1, by omega, by go_num, .slice (some ⟨g', 0, none⟩) (j + 1) cap', HFIN, Lib.hid ?_, Lib.hid HBP.out.1, Lib.hid HBP.out.2⟩
                      rw [List.take_add_one, List.getElem?_map, HST.out, stC_app]
                      have h := HGF.out
                      have e : stC (Option.map bareS (some (⟨sn, si, sb⟩ : St))).toList = [.string bn, .int .i64 bi, .bool bt] := by
                        show stC [bareS ⟨sn, si, sb⟩] = _
                        rw [HBS.out]
                        rfl
                      rw [e]
                      exact h
                    case measure => simp [intOf]; omega
                  · obtain rfl : j = xpath.length := by omega
                    rw [List.take_of_length_le (by rw [List.length_map]; exact Nat.le_refl _)] at hG
                    have hbq : Below wq.heap.size wq wr := HBV.out.trans (hB3.out.mono HBV.out.size)
                    have g0 : wr.cell? ⟨G, 0, none⟩ = some (.int .i64 xk) := by simp [World.cell?, hL.out]
                    have g1 : wr.cell? ⟨G, 1, none⟩ = some (.slice gp xpos.length gc) := by simp [World.cell?, hL.out]
                    have g2 : wr.cell? ⟨G, 2, none⟩ = some (.slice ssp xpath.length ssc) := by simp [World.cell?, hL.out]
                    have HOwr := Lib.hid (HO.out.kept (grown_ofb hbq none) (by cases (Value.slice sq r.length sd).ownBlock <;> simp))
                    have HSwr := Lib.hid (HS.out.kept (grown_ofb hbq none) (by simp [Value.ownBlock]))
                    have HBwr := Lib.hid (HB.out.trans (hbq.mono HB.out.size))
                    have HMEM : Hid (OwnFl w.heap.size wr (r ++ [⟨⟨xk, xpos, xpath.map bareS⟩, .slice gp xpos.length gc, .slice ssp xpath.length ssc⟩])) := Lib.hid (HW.out.snoc hbq (x := ⟨⟨xk, xpos, xpath.map bareS⟩, .slice gp xpos.length gc, .slice ssp xpath.length ssc⟩) ⟨row_lower hP3.out (by have := HBV.out.size; omega), row_lower (by rw [List.length_map]; exact hG.out) (by have := HBV.out.size; omega), by unfold big; omega, by unfold big; simpa using hql⟩ HB.out.size)
                    clear hbq hsL hVw
                    go_upto_region 19 with (fail)
                    go_step
                    iterate 3
                      refine wpList_plain rfl (fun K hK => ?_)
                      go_step
                      refine hK _ _ ?_
                      clear hK K
                    obtain ⟨W3, hW⟩ : ∃ W3, wr.alloc (.cells #[.int .i64 xk, .slice gp xpos.length gc, .slice ssp xpath.length ssc] 42) = W3 := ⟨_, rfl⟩
                    have hb3 : Below wr.heap.size wr W3 := by rw [← hW]; exact (Below.refl wr.heap.size wr).alloc (Nat.le_refl _) _
                    have hnew : CellsAt W3 wr.heap.size 0 #[.int .i64 xk, .slice gp xpos.length gc, .slice ssp xpath.length ssc] := by rw [← hW]; exact cellsAt_alloc wr _ _ (0, 0)
                    rw [hW]
                    clear hW
                    have HG3 := HOwr.out.kept (grown_ofb hb3 none) (by cases (Value.slice sq r.length sd).ownBlock <;> simp)
                    have HS3 := HSwr.out.kept (grown_ofb hb3 none) (by simp [Value.ownBlock])
                    refine wpList_plain rfl (fun K hK => ?_)
                    refine wp_append_x (P := Tryz.prog) W3 (.tmp 64) (.tmp 66) 28 rfl w.heap.size 42 (.agg #[.int .i64 0, .slice none 0 0, .slice none 0 0]) 3 56 Tryz.underlying28 (by kernel_rfl) rfl (by decide) (.slice sq r.length sd) r.length _ rfl HG3 ⟨wr.heap.size, 0, none⟩ 1 1 [.int .i64 xk, .slice gp xpos.length gc, .slice ssp xpath.length ssc] rfl (by decide) rfl ?c1 ?c2 ?c3 ?c4 ?c5 ?_
                    case c1 =>
                      intro m u hu
                      have := hnew m u (by simpa using hu)
                      rw [addr_add]
                      exact this
                    case c2 => intro u hu; simp at hu; rcases hu with rfl | rfl | rfl <;> rfl
                    case c3 => unfold maxLen; have := hlr.out; omega
                    case c4 => have := hlr.out; omega
                    case c5 => have := hb3.size; have := HBwr.out.size; omega
                    intro v' w' hrow hgr hv'
                    refine hK _ _ ?_
                    clear hK K
                    have hbw' : Below w.heap.size w w' := (HBwr.out.trans (hb3.mono HBwr.out.size)).grown hgr (by have := hb3.size; have := HBwr.out.size; omega) (fun y hy => (HG3.lt y hy).1)
                    have hS' := HS3.kept hgr HNE.out
                    have hne' : (Value.slice (some ⟨ga, 0, none⟩) n sc).ownBlock = none ∨ (Value.slice (some ⟨ga, 0, none⟩) n sc).ownBlock ≠ v'.ownBlock := by
                      rcases hv' with e | e
                      · rw [e]; exact HNE.out
                      · refine .inr (fun e2 => ?_)
                        rw [e] at e2
                        have := (HS3.lt W3.heap.size e2).2
                        omega
                    have hmem' : OwnFl w.heap.size w' (r ++ [⟨⟨xk, xpos, xpath.map bareS⟩, .slice gp xpos.length gc, .slice ssp xpath.length ssc⟩]) := (HMEM.out.below hb3).kept HG3 hgr
                    obtain ⟨g', cap', rfl⟩ : ∃ g' cap', v' = .slice (some ⟨g', 0, none⟩) (r.length + 1) cap' := by
                      rcases hrow.2 with ⟨_, h⟩ | ⟨g', cap', cur, h, _⟩
                      · omega
                      · exact ⟨g', cap', h⟩
                    have HALL5 := Lib.hid (And.intro hrow (And.intro hbw' (And.intro hS' (And.intro hne' hmem'))))
                    clear hrow hbw' hgr hS' hne' hmem' hv' HG3 HS3 hb3 hnew
                    go_wp2
                    go_roundw
                    case rel =>
                      refine ⟨(i' + 1) + 1, by have := HI1.out; omega, by go_num, r ++ [⟨⟨xk, xpos, xpath.map bareS⟩, .slice gp xpos.length gc, .slice ssp xpath.length ssc⟩], some ⟨g', 0, none⟩, cap', by rw [List.length_append]; rfl, Lib.hid ?_, Lib.hid ?_, Lib.hid HALL5.out.2.2.2.2, Lib.hid HALL5.out.2.1, Lib.hid HALL5.out.2.2.1, Lib.hid ?_⟩
                      · have h := HALL5.out.1
                        rw [List.length_append, fC_app]
                        exact h
                      · rw [HEQ.out, List.map_append, List.map_append, HM.out]
                        rfl
                      · have h := HALL5.out.2.2.2.1
                        rw [List.length_append]
                        exact h
                    case measure => have := HI1.out; simp [intOf]; omega
              · refine wpListC_plain rfl (fun K hK => ?_)
                go_step
                have hbA : Below V.heap.size V (V.alloc (.cells #[.int .i64 0, .slice none 0 0, .slice none 0 0] 42)).drew := Below.drew ((Below.refl _ _).alloc (Nat.le_refl _) _)
                have hGA : (V.alloc (.cells #[.int .i64 0, .slice none 0 0, .slice none 0 0] 42)).drew.heap[V.heap.size]? = some (.cells #[.int .i64 0, .slice none 0 0, .slice none 0 0] 42 (0, 0)) := heap_new V _
                obtain ⟨WA, hWA⟩ : ∃ WA, (V.alloc (.cells #[.int .i64 0, .slice none 0 0, .slice none 0 0] 42)).drew = WA := ⟨_, rfl⟩
                rw [hWA] at hbA hGA
                rw [hWA]
                refine hK _ _ (cls_of_below hbA) ?_
                clear hK K hWA
                refine wpListC_nil ?_
                have HPA : Hid (PosAt V.heap.size WA pp xpos) := Lib.hid (HPV.out.below hbA)
                refine wpListC_plain rfl (fun K hK => ?_)
                refine wp_append_y (P := Tryz.prog) (w := WA) (.const (.slice none 0 0)) (.tmp 46) 40 rfl V.heap.size 44 (.agg #[.int .i64 0, .int .i64 0]) 2 16 Tryz.underlying40 (by kernel_rfl) rfl (by decide) (.slice none 0 0) 0 [] rfl (World.ownsRow_nil _ _ _ _) pp xpos.length pc (posC xpos) rfl (posC_len xpos) (posAt_cells HPA.out).1 (posAt_cells HPA.out).2 (posC_one xpos) (by unfold maxLen; omega) (by omega) hbA.size ?_
                intro v' w4 hrow hgr
                rw [Nat.zero_add, List.nil_append] at hrow
                have hb4 : Below WA.heap.size WA w4 := ⟨hgr.os, hgr.tape, hgr.output, hgr.size, fun k hk => hgr.block k hk (by simp [Value.ownBlock])⟩
                have hbV4 : Below V.heap.size V w4 := hbA.trans (hb4.mono hbA.size)
                obtain ⟨gp, gc, rfl⟩ := row_shape hrow
                refine hK _ _ (cls_of_below hbV4) ?_
                clear hK K
                refine wpListC_nil ?_
                simp only [Act.put, List.setIfInBounds_toArray, List.set_cons_succ, List.set_cons_zero]
                go_big_quiet_step (fail)
                refine wpQuiet_nil ?_
                have hG4 : w4.heap[V.heap.size]? = some (.cells #[.int .i64 0, .slice none 0 0, .slice none 0 0] 42 (0, 0)) := (hb4.block _ (Array.getElem?_eq_some_iff.1 hGA).1).trans hGA
                refine wpList_plain rfl (fun K hK => ?_)
                refine wp_store_row (P := Tryz.prog) 42 (.tmp 9) (.tmp 48) rfl V.heap.size #[.int .i64 xk, .slice gp xpos.length gc, .slice none 0 0] rfl rfl 42 _ hG4 (by kernel_rfl) rfl (by simp [Value.oneCell']) ?_
                refine hK _ _ ?_
                clear hK K
                obtain ⟨W13, hW13⟩ : ∃ W13, w4.setRow V.heap.size #[.int .i64 xk, .slice gp xpos.length gc, .slice none 0 0] = W13 := ⟨_, rfl⟩
                have hG : W13.heap[V.heap.size]? = some (.cells #[.int .i64 xk, .slice gp xpos.length gc, .slice none 0 0] 42 (0, 0)) := by rw [← hW13]; exact setRow_heap _ _ _ _ _ _ hG4
                have hb13 : Below V.heap.size V W13 := by rw [← hW13]; exact below_setRow hbV4 (Nat.le_refl _) _
                have hrow13 : W13.ownsRow V.heap.size 44 2 (.slice gp xpos.length gc) xpos.length (posC xpos) := by
                  rw [← hW13]
                  exact hrow.kept (grown_sr w4 V.heap.size _) (by
                    cases hq : (Value.slice gp xpos.length gc).ownBlock with
                    | none => exact .inl rfl
                    | some g =>
                      refine .inr (fun e => ?_)
                      obtain ⟨c1, h1⟩ := row_cells0 hrow hq
                      cases e
                      rw [hG4] at h1
                      cases h1)
                have hGV : V.heap.size ≤ V.heap.size := Nat.le_refl _
                rw [hW13]
                clear hW13 hrow hgr hb4 hbV4 hG4 hGA hbA HPA
                go_upto_region 14 with (fail)
                have f2 : W13.cell? ⟨wq.heap.size, 2, none⟩ = some (.slice qp xpath.length qc) := by
                  rw [hb13.cell (p := ⟨wq.heap.size, 2, none⟩) hFl0]
                  simp [World.cell?, HFV.out]
                have HG13 := Lib.hid hG
                have HB13 := Lib.hid hb13
                have HR13 := Lib.hid hrow13
                have HGV := Lib.hid hGV
                clear hG hb13 hrow13 hGV
                go_wp2
                clear f2
                go_loopw [52] (fun s52 wr3 => ∃ j : Nat, j ≤ xpath.length ∧ s52 = .int .i64 j ∧ ∃ sv, Hid (wr3.heap[V.heap.size]? = some (.cells #[.int .i64 xk, .slice gp xpos.length gc, sv] 42 (0, 0))) ∧ Hid (wr3.ownsRow V.heap.size 69 3 sv j (stC ((xpath.map bareS).take j))) ∧ Hid (Below V.heap.size V wr3) ∧ Hid (wr3.ownsRow V.heap.size 44 2 (.slice gp xpos.length gc) xpos.length (posC xpos))) (fun s52 _ => xpath.length - (intOf s52).toNat)
                case atStart => exact ⟨0, by omega, rfl, _, HG13, Lib.hid (World.ownsRow_nil _ _ _ _), HB13, HR13⟩
                case round =>
                  clear HG13 HB13 HR13
                  obtain ⟨j, hj, rfl, sv, hL, hG, hB3, hP3⟩ := hrel
                  obtain ⟨ssp, ssc, rfl⟩ := row_shape hG.out
                  have hsL : V.heap.size < wr.heap.size := (Array.getElem?_eq_some_iff.1 hL.out).1
                  have hVw := hB3.out.size
                  by_cases hjl : j < xpath.length
                  · obtain ⟨st, hst⟩ : ∃ st, xpath[j]? = some st := ⟨xpath[j], by simp [hjl]⟩
                    rcases HQP.out with hp | ⟨b', o', rfl, hb', hc'⟩
                    · subst hp; simp at hjl
                    obtain ⟨t1, t2, t3⟩ := hc' j st hst
                    have hbw : Below w.heap.size w wr := (HB.out.trans (HBV.out.mono HB.out.size)).trans (hB3.out.mono (by have := HB.out.size; have := HBV.out.size; omega))
                    have t1 := (hbw.cell (p := ⟨b', o' + j * 3, none⟩) hb').trans t1
                    have t2 := (hbw.cell (p := ⟨b', o' + j * 3 + 1, none⟩) hb').trans t2
                    have t3 := (hbw.cell (p := ⟨b', o' + j * 3 + 2, none⟩) hb').trans t3
                    have gG : wr.cell? ⟨V.heap.size, 2, none⟩ = some (.slice ssp j ssc) := by simp [World.cell?, hL.out]
                    obtain ⟨⟨bn, bi, bt⟩, hbs⟩ : ∃ s', bareS st = s' := ⟨_, rfl⟩
                    have C1 : Hid (∀ W, Calls Tryz.prog 26 #[.agg #[.string st.nm, .int .i64 st.ix, .bool st.it]] W (RetB (.agg #[.string bn, .int .i64 bi, .bool bt]) W)) := Lib.hid (fun W => by
                      have := bare_any st W
                      rw [hbs] at this
                      exact this)
                    have HBS := Lib.hid hbs
                    have HST := Lib.hid hst
                    obtain ⟨sn, si, sb⟩ := st
                    dsimp only at t1 t2 t3 C1
                    clear hc' hst hbw hbs
                    go_upto_region 17 with (fail)
                    obtain ⟨W6, hW6⟩ : ∃ W6, wr.alloc (.cells #[.string sn, .int .i64 si, .bool sb] 69) = W6 := ⟨_, rfl⟩
                    have hb6 : Below wr.heap.size wr W6 := by rw [← hW6]; exact (Below.refl _ _).alloc (Nat.le_refl _) _
                    have hd := cellsAt_alloc wr #[.string sn, .int .i64 si, .bool sb] 69 (0, 0)
                    rw [hW6] at hd
                    have d0 : W6.cell? ⟨wr.heap.size, 0, none⟩ = some (.string sn) := hd 0 _ rfl
                    have d1 : W6.cell? ⟨wr.heap.size, 1, none⟩ = some (.int .i64 si) := hd 1 _ rfl
                    have d2 : W6.cell? ⟨wr.heap.size, 2, none⟩ = some (.bool sb) := hd 2 _ rfl
                    have hs6 : wr.heap.size < W6.heap.size := by rw [← hW6]; simp
                    have gG6 := (hb6.cell (p := ⟨V.heap.size, 2, none⟩) hsL).trans gG
                    have hsL6 : V.heap.size < W6.heap.size := by omega
                    rw [hW6]
                    clear hW6 hd t1 t2 t3 gG
                    have kc := cell_cls W6
                    refine wp_region_plan_below 5 [(0, [0, 1, 2]), (1, [3, 4]), (2, [5, 6, 7])] (by kernel_rfl) (by kernel_rfl) (fun _ _ _ _ h => h) ?_
                    simp only [wpSegs, pickOps, List.getElem?_toArray, List.getElem?_cons_zero, List.getElem?_cons_succ]
                    iterate 3 (go_big_quiet_step (fail))
                    refine wpQuiet_nil ?_
                    clear kc
                    refine wpListC_plain rfl (fun K hK => ?_)
                    go_step
                    refine (C1.out _).mono ?_
                    rintro e w5 ⟨rfl, hb5⟩
                    have hb65 : Below W6.heap.size W6 w5 := (Below.drew (Below.refl _ _)).trans hb5
                    refine hK _ _ (cls_of_below hb65) ?_
                    clear hK K
                    refine wpListC_plain rfl (fun K hK => ?_)
                    go_step
                    obtain ⟨W3, hW⟩ : ∃ W3, w5.alloc (.cells #[.string bn, .int .i64 bi, .bool bt] 69) = W3 := ⟨_, rfl⟩
                    have hb53 : Below w5.heap.size w5 W3 := by rw [← hW]; exact (Below.refl _ _).alloc (Nat.le_refl _) _
                    have hnew : CellsAt W3 w5.heap.size 0 #[.string bn, .int .i64 bi, .bool bt] := by rw [← hW]; exact cellsAt_alloc w5 _ _ (0, 0)
                    rw [hW]
                    clear hW
                    refine hK _ _ (cls_of_below (hb65.trans (hb53.mono hb65.size))) ?_
                    clear hK K
                    refine wpListC_nil ?_
                    have hbr3 : Below wr.heap.size wr W3 := hb6.trans ((hb65.trans (hb53.mono hb65.size)).mono hb6.size)
                    refine wpList_plain rfl (fun K hK => ?_)
                    have HG3 := hG.out.kept (grown_ofb hbr3 none) (by cases (Value.slice ssp j ssc).ownBlock <;> simp)
                    refine wp_append_x (P := Tryz.prog) W3 (.tmp 57) (.tmp 60) 30 rfl V.heap.size 69 (.agg #[.string ⟨#[]⟩, .int .i64 0, .bool false]) 3 32 Tryz.underlying30 (by kernel_rfl) rfl (by decide) (.slice ssp j ssc) j _ rfl HG3 ⟨w5.heap.size, 0, none⟩ 1 1 [.string bn, .int .i64 bi, .bool bt] rfl (by decide) rfl ?c1 ?c2 ?c3 ?c4 ?c5 ?_
                    case c1 =>
                      intro m u hu
                      have := hnew m u (by simpa using hu)
                      rw [addr_add]
                      exact this
                    case c2 => intro u hu; simp at hu; rcases hu with rfl | rfl | rfl <;> rfl
                    case c3 => unfold maxLen; omega
                    case c4 => omega
                    case c5 => have := hbr3.size; omega
                    intro v' w' hrow hgr hv'
                    refine hK _ _ ?_
                    clear hK K
                    have hne : some V.heap.size ≠ (Value.slice ssp j ssc).ownBlock := fun e => by
                      obtain ⟨c1, h1⟩ := row_cells0 hG.out e.symm
                      rw [hL.out] at h1
                      cases h1
                    have hLw' : w'.heap[V.heap.size]? = some (.cells #[.int .i64 xk, .slice gp xpos.length gc, .slice ssp j ssc] 42 (0, 0)) := by
                      rw [hgr.block _ (by have := hbr3.size; omega) hne, hbr3.block _ hsL]
                      exact hL.out
                    have hfin := heap_setCell_same (j := 2) hLw' v'
                    have hrow' := hrow.kept (grown_sc w' ⟨V.heap.size, 2, none⟩ v') (.inr fun e => by
                      obtain ⟨c1, h1⟩ := row_cells0 hrow e
                      rw [hLw'] at h1
                      cases h1)
                    have hP' : (w'.setCell ⟨V.heap.size, 2, none⟩ v').ownsRow V.heap.size 44 2 (.slice gp xpos.length gc) xpos.length (posC xpos) := by
                      have h1 := hP3.out.kept (grown_ofb hbr3 none) (by cases (Value.slice gp xpos.length gc).ownBlock <;> simp)
                      have h2 := h1.kept hgr (row_apart h1 HG3 (by decide))
                      refine h2.kept (grown_sc w' ⟨V.heap.size, 2, none⟩ v') (.inr fun e => ?_)
                      obtain ⟨c1, h3⟩ := row_cells0 h2 e
                      rw [hLw'] at h3
                      cases h3
                    have hbw' : Below V.heap.size V (w'.setCell ⟨V.heap.size, 2, none⟩ v') :=
                      ((hB3.out.trans (hbr3.mono hVw)).grown hgr (by have := hbr3.size; omega) (fun y hy => (HG3.lt y hy).1)).setCell (p := ⟨V.heap.size, 2, none⟩) HGV.out _
                    have hc6 : w'.cell? ⟨V.heap.size, 2, none⟩ = some (.slice ssp j ssc) := by simp [World.cell?, hLw']
                    have hf6 : w'.frozen? ⟨V.heap.size, 2, none⟩ = false := by simp [World.frozen?, hLw']
                    obtain ⟨g', cap', rfl⟩ : ∃ g' cap', v' = .slice (some ⟨g', 0, none⟩) (j + 1) cap' := by
                      rcases hrow.2 with ⟨_, h⟩ | ⟨g', cap', cur, h, _⟩
                      · omega
                      · exact ⟨g', cap', h⟩
                    have HFIN := Lib.hid hfin
                    have HGF := Lib.hid hrow'
                    have HBP := Lib.hid (And.intro hbw' hP')
                    clear hfin hrow' hbw' hP' hLw' hrow hgr hv' HG3 hbr3 hnew hb53 hb65 hb5 hb6 hne d0 d1 d2 hs6 gG6 hsL6
                    go_wp2
                    go_roundw
                    case rel =>
                      refine ⟨j + 1, by omega, by go_num, .slice (some ⟨g', 0, none⟩) (j + 1) cap', HFIN, Lib.hid ?_, Lib.hid HBP.out.1, Lib.hid HBP.out.2⟩
                      rw [List.take_add_one, List.getElem?_map, HST.out, stC_app]
                      have h := HGF.out
                      have e : stC (Option.map bareS (some (⟨sn, si, sb⟩ : St))).toList = [.string bn, .int .i64 bi, .bool bt] := by
                        show stC [bareS ⟨sn, si, sb⟩] = _
                        rw [HBS.out]
                        rfl
                      rw [e]
                      exact h
                    case measure => simp [intOf]; omega
                  · obtain rfl : j = xpath.length := by omega
                    rw [List.take_of_length_le (by rw [List.length_map]; exact Nat.le_refl _)] at hG
                    have hbq : Below wq.heap.size wq wr := HBV.out.trans (hB3.out.mono HBV.out.size)
                    have g0 : wr.cell? ⟨V.heap.size, 0, none⟩ = some (.int .i64 xk) := by simp [World.cell?, hL.out]
                    have g1 : wr.cell? ⟨V.heap.size, 1, none⟩ = some (.slice gp xpos.length gc) := by simp [World.cell?, hL.out]
                    have g2 : wr.cell? ⟨V.heap.size, 2, none⟩ = some (.slice ssp xpath.length ssc) := by simp [World.cell?, hL.out]
                    have HOwr := Lib.hid (HO.out.kept (grown_ofb hbq none) (by cases (Value.slice sq r.length sd).ownBlock <;> simp))
                    have HSwr := Lib.hid (HS.out.kept (grown_ofb hbq none) (by simp [Value.ownBlock]))
                    have HBwr := Lib.hid (HB.out.trans (hbq.mono HB.out.size))
                    have HMEM : Hid (OwnFl w.heap.size wr (r ++ [⟨⟨xk, xpos, xpath.map bareS⟩, .slice gp xpos.length gc, .slice ssp xpath.length ssc⟩])) := Lib.hid (HW.out.snoc hbq (x := ⟨⟨xk, xpos, xpath.map bareS⟩, .slice gp xpos.length gc, .slice ssp xpath.length ssc⟩) ⟨row_lower hP3.out (by have := HBV.out.size; omega), row_lower (by rw [List.length_map]; exact hG.out) (by have := HBV.out.size; omega), by unfold big; omega, by unfold big; simpa using hql⟩ HB.out.size)
                    clear hbq hsL hVw
                    go_upto_region 19 with (fail)
                    go_step
                    iterate 3
                      refine wpList_plain rfl (fun K hK => ?_)
                      go_step
                      refine hK _ _ ?_
                      clear hK K
                    obtain ⟨W3, hW⟩ : ∃ W3, wr.alloc (.cells #[.int .i64 xk, .slice gp xpos.length gc, .slice ssp xpath.length ssc] 42) = W3 := ⟨_, rfl⟩
                    have hb3 : Below wr.heap.size wr W3 := by rw [← hW]; exact (Below.refl wr.heap.size wr).alloc (Nat.le_refl _) _
                    have hnew : CellsAt W3 wr.heap.size 0 #[.int .i64 xk, .slice gp xpos.length gc, .slice ssp xpath.length ssc] := by rw [← hW]; exact cellsAt_alloc wr _ _ (0, 0)
                    rw [hW]
                    clear hW
                    have HG3 := HOwr.out.kept (grown_ofb hb3 none) (by cases (Value.slice sq r.length sd).ownBlock <;> simp)
                    have HS3 := HSwr.out.kept (grown_ofb hb3 none) (by simp [Value.ownBlock])
                    refine wpList_plain rfl (fun K hK => ?_)
                    refine wp_append_x (P := Tryz.prog) W3 (.tmp 64) (.tmp 66) 28 rfl w.heap.size 42 (.agg #[.int .i64 0, .slice none 0 0, .slice none 0 0]) 3 56 Tryz.underlying28 (by kernel_rfl) rfl (by decide) (.slice sq r.length sd) r.length _ rfl HG3 ⟨wr.heap.size, 0, none⟩ 1 1 [.int .i64 xk, .slice gp xpos.length gc, .slice ssp xpath.length ssc] rfl (by decide) rfl ?c1 ?c2 ?c3 ?c4 ?c5 ?_
                    case c1 =>
                      intro m u hu
                      have := hnew m u (by simpa using hu)
                      rw [addr_add]
                      exact this
                    case c2 => intro u hu; simp at hu; rcases hu with rfl | rfl | rfl <;> rfl
                    case c3 => unfold maxLen; have := hlr.out; omega
                    case c4 => have := hlr.out; omega
                    case c5 => have := hb3.size; have := HBwr.out.size; omega
                    intro v' w' hrow hgr hv'
                    refine hK _ _ ?_
                    clear hK K
                    have hbw' : Below w.heap.size w w' := (HBwr.out.trans (hb3.mono HBwr.out.size)).grown hgr (by have := hb3.size; have := HBwr.out.size; omega) (fun y hy => (HG3.lt y hy).1)
                    have hS' := HS3.kept hgr HNE.out
                    have hne' : (Value.slice (some ⟨ga, 0, none⟩) n sc).ownBlock = none ∨ (Value.slice (some ⟨ga, 0, none⟩) n sc).ownBlock ≠ v'.ownBlock := by
                      rcases hv' with e | e
                      · rw [e]; exact HNE.out
                      · refine .inr (fun e2 => ?_)
                        rw [e] at e2
                        have := (HS3.lt W3.heap.size e2).2
                        omega
                    have hmem' : OwnFl w.heap.size w' (r ++ [⟨⟨xk, xpos, xpath.map bareS⟩, .slice gp xpos.length gc, .slice ssp xpath.length ssc⟩]) := (HMEM.out.below hb3).kept HG3 hgr
                    obtain ⟨g', cap', rfl⟩ : ∃ g' cap', v' = .slice (some ⟨g', 0, none⟩) (r.length + 1) cap' := by
                      rcases hrow.2 with ⟨_, h⟩ | ⟨g', cap', cur, h, _⟩
                      · omega
                      · exact ⟨g', cap', h⟩
                    have HALL5 := Lib.hid (And.intro hrow (And.intro hbw' (And.intro hS' (And.intro hne' hmem'))))
                    clear hrow hbw' hgr hS' hne' hmem' hv' HG3 HS3 hb3 hnew
                    go_wp2
                    go_roundw
                    case rel =>
                      refine ⟨(i' + 1) + 1, by have := HI1.out; omega, by go_num, r ++ [⟨⟨xk, xpos, xpath.map bareS⟩, .slice gp xpos.length gc, .slice ssp xpath.length ssc⟩], some ⟨g', 0, none⟩, cap', by rw [List.length_append]; rfl, Lib.hid ?_, Lib.hid ?_, Lib.hid HALL5.out.2.2.2.2, Lib.hid HALL5.out.2.1, Lib.hid HALL5.out.2.2.1, Lib.hid ?_⟩
                      · have h := HALL5.out.1
                        rw [List.length_append, fC_app]
                        exact h
                      · rw [HEQ.out, List.map_append, List.map_append, HM.out]
                        rfl
                      · have h := HALL5.out.2.2.2.1
                        rw [List.length_append]
                        exact h
                    case measure => have := HI1.out; simp [intOf]; omega
        · have hd := HM.out
          obtain rfl : i = n := by omega
          have hF : FsAt wq.heap.size wq sq r := by
            obtain ⟨p', c', e1, h⟩ := fsAt_row HO.out (fun x hx => (HW.out.all x hx).lok)
            cases e1
            exact h
          have HLC : Hid (r.length ≤ sd) := Lib.hid (by
            rcases HO.out.2 with ⟨e1, h⟩ | ⟨g', cap', cur, e1, _, _, h, _⟩
            · omega
            · cases e1
              exact h)
          have HF := Lib.hid hF
          have HD : Hid (r.map LF.f = (dedP S (List.length S)).map (fun x => cleanF x.f)) := Lib.hid (by rw [HSL.out]; exact hd)
          clear hF hd
          go_wp2
          go_ret
          exact ⟨sq, sd, r, S, rfl, by rw [← HALL.out]; exact HPERM.out, HPW.out, HD.out, HF.out, HB.out, HLC.out, HO.out, HW.out⟩
theorem Faults_any (L : List (Value × List LF)) (p : Option Addr) (c : Nat) (w : World) (hL : LsAt w.heap.size w p L) (hlen : L.length ≤ big) (hcat : (cat L).length ≤ big) :
    Calls Tryz.prog 8 #[.slice p L.length c] w (fun e w' => ∃ p' c' r S, e = .returned (.slice p' (List.length r) c') ∧ S.Perm (cat L) ∧ S.Pairwise (fun x y => 0 ≤ cmpF y.f x.f) ∧ r.map LF.f = (dedP S (List.length S)).map (fun x => cleanF x.f) ∧ FsAt w'.heap.size w' p' r ∧ Below w.heap.size w w' ∧ List.length r ≤ c') :=
  (Faults_own L p c w hL hlen hcat).mono fun e w' ⟨p', c', r, S, h1, h2, h3, h4, h5, h6, h7, _⟩ => ⟨p', c', r, S, h1, h2, h3, h4, h5, h6, h7⟩
end Go.Proofs.YtnmnmkdmnohbmaaGreatDoor

namespace Go.Proofs.YtnmnmkdmnohbmaaGreatDoor

section
variable {α : Type} {c : α → α → Int}

theorem mrg_facts (h : OrdC c) : ∀ a b : List α, a.Pairwise (fun x y => c x y < 0) → b.Pairwise (fun x y => c x y < 0) →
    (mrg c a b).Pairwise (fun x y => c x y < 0) ∧ ∀ z, z ∈ a ∨ z ∈ b → ∃ u ∈ mrg c a b, c u z = 0
  | [], b, _, pb => by
    rw [mrg]
    exact ⟨pb, fun z hz => ⟨z, hz.resolve_left (by simp), h.refl z⟩⟩
  | x :: a, [], pa, _ => by
    rw [mrg]
    exact ⟨pa, fun z hz => ⟨z, hz.resolve_right (by simp), h.refl z⟩⟩
  | x :: a, y :: b, pa, pb => by
    have pa' := pa
    have pb' := pb
    rw [List.pairwise_cons] at pa pb
    rw [mrg]
    by_cases h1 : c x y < 0
    · rw [if_pos h1]
      obtain ⟨p, q⟩ := mrg_facts h a (y :: b) pa.2 pb'
      refine ⟨List.pairwise_cons.2 ⟨fun z hz => ?_, p⟩, fun z hz => ?_⟩
      · rcases mrg_mem c a (y :: b) z hz with hz | hz
        · exact pa.1 z hz
        · rcases List.mem_cons.1 hz with rfl | hz
          · exact h1
          · exact h.lt_le h1 (by have := pb.1 z hz; omega)
      · by_cases e : z = x
        · subst e; exact ⟨z, by simp, h.refl z⟩
        · obtain ⟨u, hu, e2⟩ := q z (hz.elim (fun hz => .inl ((List.mem_cons.1 hz).resolve_left e)) .inr)
          exact ⟨u, by simp [hu], e2⟩
    · rw [if_neg h1]
      by_cases h2 : c x y = 0
      · rw [if_pos h2]
        obtain ⟨p, q⟩ := mrg_facts h a b pa.2 pb.2
        refine ⟨List.pairwise_cons.2 ⟨fun z hz => ?_, p⟩, fun z hz => ?_⟩
        · rcases mrg_mem c a b z hz with hz | hz
          · exact pa.1 z hz
          · have := h.eq_left h2 z; have := pb.1 z hz; omega
        · by_cases e : z = x
          · subst e; exact ⟨z, by simp, h.refl z⟩
          · by_cases e3 : z = y
            · subst e3; exact ⟨x, by simp, h2⟩
            · obtain ⟨u, hu, e2⟩ := q z (by
                rcases hz with hz | hz
                · rcases List.mem_cons.1 hz with hz | hz
                  · exact absurd hz e
                  · exact .inl hz
                · rcases List.mem_cons.1 hz with hz | hz
                  · exact absurd hz e3
                  · exact .inr hz)
              exact ⟨u, by simp [hu], e2⟩
      · rw [if_neg h2]
        have h3 : c y x < 0 := by have := h.swap x y; omega
        obtain ⟨p, q⟩ := mrg_facts h (x :: a) b pa' pb.2
        refine ⟨List.pairwise_cons.2 ⟨fun z hz => ?_, p⟩, fun z hz => ?_⟩
        · rcases mrg_mem c (x :: a) b z hz with hz | hz
          · rcases List.mem_cons.1 hz with rfl | hz
            · exact h3
            · exact h.lt_le h3 (by have := pa.1 z hz; omega)
          · exact pb.1 z hz
        · by_cases e : z = y
          · subst e; exact ⟨z, by simp, h.refl z⟩
          · obtain ⟨u, hu, e2⟩ := q z (hz.elim .inl (fun hz => .inr ((List.mem_cons.1 hz).resolve_left e)))
            exact ⟨u, by simp [hu], e2⟩
termination_by a b => a.length + b.length

theorem ordL_facts (h : OrdC c) : ∀ (n : Nat) (l : List α), l.length ≤ n → (ordL c n l).Pairwise (fun x y => c x y < 0) ∧ ∀ z ∈ l, ∃ u ∈ ordL c n l, c u z = 0
  | 0, l, hl => by
    obtain rfl : l = [] := List.length_eq_zero_iff.1 (by omega)
    rw [ordL]
    exact ⟨List.Pairwise.nil, fun z hz => by cases hz⟩
  | n + 1, l, hl => by
    rw [ordL]
    split
    · rename_i h2
      refine ⟨?_, fun z hz => ⟨z, hz, h.refl z⟩⟩
      match l, h2 with
      | [], _ => exact List.Pairwise.nil
      | [x], _ => exact List.pairwise_singleton _ _
    · obtain ⟨p1, q1⟩ := ordL_facts h n (l.take (l.length / 2)) (by rw [List.length_take]; omega)
      obtain ⟨p2, q2⟩ := ordL_facts h n (l.drop (l.length / 2)) (by rw [List.length_drop]; omega)
      obtain ⟨p, q⟩ := mrg_facts h _ _ p1 p2
      refine ⟨p, fun z hz => ?_⟩
      rw [← List.take_append_drop (l.length / 2) l] at hz
      rcases List.mem_append.1 hz with hz | hz
      · obtain ⟨u, hu, e⟩ := q1 z hz
        obtain ⟨v, hv, e2⟩ := q u (.inl hu)
        exact ⟨v, hv, h.eq_trans e2 e⟩
      · obtain ⟨u, hu, e⟩ := q2 z hz
        obtain ⟨v, hv, e2⟩ := q u (.inr hu)
        exact ⟨v, hv, h.eq_trans e2 e⟩
end

theorem cF_ord : OrdC cF := cmpF_ord.comap (fun x : LF => x.f)

theorem dedP_facts (S : List LF) (hs : S.Pairwise (fun x y => 0 ≤ cmpF y.f x.f)) : ∀ n, n ≤ S.length →
    (dedP S n).Pairwise (fun x y => cF x y < 0) ∧ (∀ z ∈ S.take n, ∃ u ∈ dedP S n, cF u z = 0) ∧ ∀ u ∈ dedP S n, u ∈ S.take n
  | 0, _ => ⟨by simp [dedP], by simp, by simp [dedP]⟩
  | 1, hn => by
    obtain ⟨x, hx⟩ : ∃ x, S[0]? = some x := ⟨_, List.getElem?_eq_getElem (by omega)⟩
    have e := dedP_first hx
    have e0 : dedP S 0 = [] := rfl
    rw [Nat.zero_add, e0, List.nil_append] at e
    rw [e, List.take_add_one, hx]
    refine ⟨List.pairwise_singleton _ _, ?_, ?_⟩
    · intro z hz
      obtain rfl : z = x := by simpa using hz
      exact ⟨z, by simp, cF_ord.refl z⟩
    · intro u hu
      simpa using hu
  | n + 1 + 1, hn => by
    obtain ⟨p, q, m⟩ := dedP_facts S hs (n + 1) (by omega)
    obtain ⟨x, hx⟩ : ∃ x, S[n + 1]? = some x := ⟨_, List.getElem?_eq_getElem (by omega)⟩
    obtain ⟨y, hy⟩ : ∃ y, S[n]? = some y := ⟨_, List.getElem?_eq_getElem (by omega)⟩
    have hle : ∀ (i j : Nat) (a b : LF), i < j → S[i]? = some a → S[j]? = some b → cF a b ≤ 0 := fun i j a b hij ha hb => by
      obtain ⟨hi, ea⟩ := List.getElem?_eq_some_iff.1 ha
      obtain ⟨hj, eb⟩ := List.getElem?_eq_some_iff.1 hb
      have := List.pairwise_iff_getElem.1 hs i j hi hj hij
      rw [ea, eb] at this
      have e := cmpF_ord.swap b.f a.f
      show cmpF a.f b.f ≤ 0
      omega
    have hyx := hle n (n + 1) y x (by omega) hy hx
    have hyt : y ∈ S.take (n + 1) := List.mem_of_getElem? (i := n) (by rw [List.getElem?_take_of_lt (by omega)]; exact hy)
    have hay : ∀ u ∈ S.take (n + 1), cF u y ≤ 0 := fun u hu => by
      obtain ⟨i, hi⟩ := List.getElem?_of_mem hu
      rw [List.getElem?_take] at hi
      split at hi
      · by_cases e : i = n
        · subst e
          rw [hy] at hi
          cases hi
          have := cF_ord.refl y
          omega
        · exact hle i n u y (by omega) hi hy
      · cases hi
    have tk : S.take (n + 1 + 1) = S.take (n + 1) ++ [x] := by rw [List.take_add_one, hx]; rfl
    by_cases h0 : cmpF y.f x.f = 0
    · rw [dedP_skip hx hy h0, tk]
      refine ⟨p, fun z hz => ?_, fun u hu => List.mem_append.2 (.inl (m u hu))⟩
      rcases List.mem_append.1 hz with hz | hz
      · exact q z hz
      · obtain rfl : z = x := by simpa using hz
        obtain ⟨u, hu, e⟩ := q y hyt
        exact ⟨u, hu, cF_ord.eq_trans e h0⟩
    · rw [dedP_keep hx hy h0, tk]
      have hlt : cF y x < 0 := by
        have : ¬ cF y x = 0 := h0
        omega
      refine ⟨List.pairwise_append.2 ⟨p, List.pairwise_singleton _ _, fun u hu z hz => ?_⟩, fun z hz => ?_, fun u hu => ?_⟩
      · obtain rfl : z = x := by simpa using hz
        exact cF_ord.le_lt (hay u (m u hu)) hlt
      · rcases List.mem_append.1 hz with hz | hz
        · obtain ⟨u, hu, e⟩ := q z hz
          exact ⟨u, List.mem_append.2 (.inl hu), e⟩
        · obtain rfl : z = x := by simpa using hz
          exact ⟨z, by simp, cF_ord.refl z⟩
      · rcases List.mem_append.1 hu with hu | hu
        · exact List.mem_append.2 (.inl (m u hu))
        · exact List.mem_append.2 (.inr hu)

theorem bareS_twice (s : St) : bareS (bareS s) = bareS s := by
  obtain ⟨n, i, b⟩ := s
  cases b <;> rfl
theorem stepOrd_bare {x y : St} (h : stepOrd x y = 0) : bareS x = bareS y := by
  obtain ⟨h1, h2, h3⟩ := stepOrd_zero.1 h
  exact st_eq.2 ⟨h3, h2, by simp [h1]⟩
theorem stepOrd_self (x : St) : stepOrd x (bareS x) = 0 := stepOrd_zero.2 (by rw [bareS_twice]; exact ⟨rfl, rfl, rfl⟩)

theorem lexL_bare : ∀ {a b : List St}, lexL stepOrd a b = 0 → a.map bareS = b.map bareS
  | [], [], _ => rfl
  | [], _ :: _, h => by cases h
  | _ :: _, [], h => by cases h
  | x :: a, y :: b, h => by
    rw [lexL] at h
    by_cases h0 : stepOrd x y = 0
    · rw [if_pos h0] at h
      rw [List.map_cons, List.map_cons, stepOrd_bare h0, lexL_bare h]
    · rw [if_neg h0] at h
      exact absurd h h0
theorem lexL_self : ∀ a : List St, lexL stepOrd a (a.map bareS) = 0
  | [] => rfl
  | x :: a => by rw [List.map_cons, lexL, if_pos (stepOrd_self x), lexL_self a]

theorem cleanF_twice (x : Fl) : cleanF (cleanF x) = cleanF x := by
  obtain ⟨k, p, q⟩ := x
  simp [cleanF, bareS_twice]
theorem cmpF_clean {x y : Fl} (h : cmpF x y = 0) : cleanF x = cleanF y := by
  obtain ⟨k, p, q⟩ := x
  obtain ⟨k2, p2, q2⟩ := y
  unfold cmpF at h
  dsimp only at h
  by_cases h1 : cmpI k k2 = 0
  · rw [if_pos h1] at h
    by_cases h2 : lexL cmpPos1 p p2 = 0
    · rw [if_pos h2, cmpP_lex] at h
      have e1 := cmpI_zero.1 h1
      have e2 := (lexL_refl_eq (fun _ _ => cmpPos1_zero)).1 h2
      have e3 := lexL_bare h
      simp [cleanF, e1, e2, e3]
    · rw [if_neg h2] at h
      exact absurd h h2
  · rw [if_neg h1] at h
    exact absurd h h1
theorem cmpF_self (x : Fl) : cmpF x (cleanF x) = 0 := by
  obtain ⟨k, p, q⟩ := x
  unfold cmpF cleanF
  dsimp only
  rw [if_pos (cmpI_zero.2 rfl), if_pos ((lexL_refl_eq (fun _ _ => cmpPos1_zero)).2 rfl), cmpP_lex]
  exact lexL_self q
theorem cmpF_both (x y : Fl) : cmpF (cleanF x) (cleanF y) = cmpF x y := by
  have h := cmpF_ord
  have h1 := h.eq_left (cmpF_self x) (cleanF y)
  have h2 := h.eq_right (cmpF_self y) x
  omega

/-- What a rising list of clean faults is, that has just the clean ones of a list. -/
def IsUnion (A : List Fl) (l : List LF) : Prop := A.Pairwise (fun x y => cmpF x y < 0) ∧ (∀ a ∈ A, ∃ z ∈ l, a = cleanF z.f) ∧ ∀ z ∈ l, ∃ a ∈ A, cmpF a (cleanF z.f) = 0

theorem IsUnion.unique {A B : List Fl} {l l' : List LF} (hA : IsUnion A l) (hB : IsUnion B l') (hl : ∀ z, z ∈ l ↔ z ∈ l') : A = B := by
  have h := rising_unique cmpF_ord A B hA.1 hB.1 (fun x hx => by
    obtain ⟨z, hz, rfl⟩ := hA.2.1 x hx
    obtain ⟨b, hb, e⟩ := hB.2.2 z ((hl z).1 hz)
    exact ⟨b, hb, by have := cmpF_ord.swap b (cleanF z.f); omega⟩) (fun y hy => by
    obtain ⟨z, hz, rfl⟩ := hB.2.1 y hy
    obtain ⟨a, ha, e⟩ := hA.2.2 z ((hl z).2 hz)
    exact ⟨a, ha, e⟩)
  refine lexL_eq (fun x hx y hy e => ?_) h
  obtain ⟨z, _, rfl⟩ := hA.2.1 x hx
  obtain ⟨z', _, rfl⟩ := hB.2.1 y hy
  have := cmpF_clean e
  rwa [cleanF_twice, cleanF_twice] at this

theorem union_prog {S l : List LF} (hp : S.Perm l) (hs : S.Pairwise (fun x y => 0 ≤ cmpF y.f x.f)) : IsUnion ((dedP S S.length).map (fun x => cleanF x.f)) l := by
  obtain ⟨p, q, m⟩ := dedP_facts S hs S.length (Nat.le_refl _)
  rw [List.take_length] at q m
  refine ⟨?_, ?_, ?_⟩
  · rw [List.pairwise_map]
    exact p.imp (fun h => by rw [cmpF_both]; exact h)
  · intro a ha
    obtain ⟨u, hu, rfl⟩ := List.mem_map.1 ha
    exact ⟨u, hp.mem_iff.1 (m u hu), rfl⟩
  · intro z hz
    obtain ⟨u, hu, e⟩ := q z (hp.mem_iff.2 hz)
    exact ⟨cleanF u.f, List.mem_map.2 ⟨u, hu, rfl⟩, by rw [cmpF_both]; exact e⟩

theorem union_ref {r l : List LF} (h : r.map LF.f = l.map (fun x => cleanF x.f)) : IsUnion ((ordL cF r.length r).map LF.f) l := by
  obtain ⟨p, q⟩ := ordL_facts cF_ord r.length r (Nat.le_refl _)
  refine ⟨?_, ?_, ?_⟩
  · rw [List.pairwise_map]
    exact p
  · intro a ha
    obtain ⟨u, hu, rfl⟩ := List.mem_map.1 ha
    have : u.f ∈ l.map (fun x => cleanF x.f) := by rw [← h]; exact List.mem_map.2 ⟨u, ordL_mem cF _ _ u hu, rfl⟩
    obtain ⟨z, hz, e⟩ := List.mem_map.1 this
    exact ⟨z, hz, e.symm⟩
  · intro z hz
    have : cleanF z.f ∈ r.map LF.f := by rw [h]; exact List.mem_map.2 ⟨z, hz, rfl⟩
    obtain ⟨u, hu, e⟩ := List.mem_map.1 this
    obtain ⟨v, hv, e2⟩ := q u hu
    exact ⟨v.f, List.mem_map.2 ⟨v, hv, rfl⟩, by rw [← e]; exact e2⟩
end Go.Proofs.YtnmnmkdmnohbmaaGreatDoor

namespace Go.Proofs.YtnmnmkdmnohbmaaGreatDoor
open Go.RowKit

/-- A list of faults as an argument. -/
def ArgF (w : World) (v : Value) (l : List LF) : Prop := ∃ q c, v = .slice q l.length c ∧ l.length ≤ c ∧ FsAt w.heap.size w q l
theorem ArgF.below {w w' : World} {v : Value} {l : List LF} (h : ArgF w v l) (hb : Below w.heap.size w w') : ArgF w' v l := by
  obtain ⟨q, c, h1, h2, h3⟩ := h
  exact ⟨q, c, h1, h2, (h3.below hb).up hb.size⟩

theorem lsAt_new {W : World} {L : List (Value × List LF)} {vs : Array Value} (hvs : vs.toList = L.map (·.1)) (hL : ∀ x ∈ L, ArgF W x.1 x.2) :
    LsAt (W.alloc (.cells vs 28)).heap.size (W.alloc (.cells vs 28)) (some ⟨W.heap.size, 0, none⟩) L := by
  have hb : Below W.heap.size W (W.alloc (.cells vs 28)) := (Below.refl _ _).alloc (Nat.le_refl _) _
  refine ⟨.inr ⟨W.heap.size, 0, rfl, by simp, fun i x hx => ?_⟩, fun x hx => ?_⟩
  · have h := cellsAt_alloc W vs 28 (0, 0)
    have hi : vs[i]? = some x.1 := by
      rw [← Array.getElem?_toList, hvs, List.getElem?_map, hx]
      rfl
    exact h i _ hi
  · obtain ⟨q, c, h1, h2, h3⟩ := (hL x hx).below hb
    exact ⟨q, c, h1, h2, h3⟩

theorem Faults_of (L : List (Value × List LF)) (vs : Array Value) (hvs : vs.toList = L.map (·.1)) (W : World) (hL : ∀ x ∈ L, ArgF W x.1 x.2) (hlen : L.length ≤ big) (hcat : (cat L).length ≤ big) (m : Nat) (hm : m = L.length) :
    Calls Tryz.prog 8 #[.slice (some ⟨W.heap.size, 0, none⟩) m m] (W.alloc (.cells vs 28)) (fun e w' => ∃ p' c' r, e = .returned (.slice p' (List.length r) c') ∧ IsUnion (r.map LF.f) (cat L) ∧ FsAt w'.heap.size w' p' r ∧ List.length r ≤ big ∧ Below W.heap.size W w') := by
  subst hm
  refine (Faults_any L _ L.length _ (lsAt_new hvs hL) hlen hcat).mono ?_
  rintro e w' ⟨p', c', r, S, rfl, hp, hs, hr, hF, hb, _⟩
  refine ⟨p', c', r, rfl, by rw [hr]; exact union_prog hp hs, hF, ?_, ((Below.refl _ _).alloc (Nat.le_refl _) _).trans (hb.mono (by simp))⟩
  have h := congrArg List.length hr
  simp only [List.length_map] at h
  have := dedP_len S S.length
  have := hp.length_eq
  omega

theorem Ref_of (L : List (Value × List LF)) (vs : Array Value) (hvs : vs.toList = L.map (·.1)) (W : World) (hL : ∀ x ∈ L, ArgF W x.1 x.2) (hlen : L.length ≤ big) (hcat : (cat L).length ≤ big) (m : Nat) (hm : m = L.length) :
    Calls Tryz.prog 11 #[.slice (some ⟨W.heap.size, 0, none⟩) m m] (W.alloc (.cells vs 28)) (fun e w' => ∃ p' c' r, e = .returned (.slice p' (List.length r) c') ∧ IsUnion (r.map LF.f) (cat L) ∧ FsAt w'.heap.size w' p' r ∧ List.length r ≤ big ∧ Below W.heap.size W w') := by
  subst hm
  refine (refFaults_any L _ L.length _ (lsAt_new hvs hL) hlen hcat).mono ?_
  rintro e w' ⟨p', c', r, rfl, hr, hF, hb⟩
  refine ⟨p', c', ordL cF (List.length r) r, rfl, union_ref hr, hF, ?_, ((Below.refl _ _).alloc (Nat.le_refl _) _).trans (hb.mono (by simp))⟩
  have h := congrArg List.length hr
  simp only [List.length_map] at h
  have := ordL_len cF (List.length r) r
  omega

theorem Same_of {l l' : List LF} {L : List (Value × List LF)} (h : IsUnion (l.map LF.f) (cat L)) (h' : IsUnion (l'.map LF.f) (cat L)) (p q : Option Addr) (c d : Nat) (w : World) (ha : FsAt w.heap.size w p l) (hb : FsAt w.heap.size w q l') (la : l.length ≤ big) (lb : l'.length ≤ big) :
    Calls Tryz.prog 13 #[.slice p l.length c, .slice q l'.length d] w (RetB (.bool true) w) := by
  refine (SameFaults_any l l' p q c d w ha hb la lb).mono ?_
  rintro e w' ⟨r, rfl, hr, hb⟩
  have : r = true := hr.2 (h.unique h' (fun _ => Iff.rfl))
  subst this
  exact ⟨rfl, hb⟩

/-- The fault that the statement begins with. -/
abbrev oneF (g : Nat) : LF := ⟨⟨7, [(1, 2)], []⟩, .slice (some ⟨g, 0, none⟩) 1 1, .slice none 0 0⟩

theorem one_clean : cleanF ⟨7, [(1, 2)], []⟩ = ⟨7, [(1, 2)], []⟩ := rfl
theorem one_union (g : Nat) (l : List LF) (h : ∀ z ∈ l, z = oneF g) (hn : l ≠ []) : IsUnion [⟨7, [(1, 2)], []⟩] l := by
  refine ⟨List.pairwise_singleton _ _, fun a ha => ?_, fun z hz => ?_⟩
  · obtain rfl : a = _ := by simpa using ha
    obtain ⟨z, hz⟩ := List.exists_mem_of_ne_nil l hn
    exact ⟨z, hz, by rw [h z hz]; rfl⟩
  · exact ⟨_, List.mem_singleton.2 rfl, by rw [h z hz]; exact cmpF_ord.refl _⟩

end Go.Proofs.YtnmnmkdmnohbmaaGreatDoor

namespace Go.Proofs.YtnmnmkdmnohbmaaGreatDoor
open Go Go.RowKit

theorem rowF_at {w w' : World} {B : Nat} {e : TypeId} {sz n : Nat} {v : Value} {xs : List Value} (h : w.ownsRow B e sz v n xs) (he : ∀ g, v.ownBlock = some g → w'.heap[g]? = w.heap[g]?) : w'.ownsRow B e sz v n xs := by
  refine ⟨h.1, ?_⟩
  rcases h.2 with h0 | ⟨g, cap, cur, rfl, hb, hg, h3⟩
  · exact .inl h0
  · exact .inr ⟨g, cap, cur, rfl, hb, (he g rfl).trans hg, h3⟩
theorem rowF_set {w : World} {B : Nat} {e : TypeId} {sz g n cap m j : Nat} {xs : List Value} (h : w.ownsRow B e sz (.slice (some ⟨g, 0, none⟩) n cap) m xs) (u : Value) :
    (w.setCell ⟨g, j, none⟩ u).ownsRow B e sz (.slice (some ⟨g, 0, none⟩) n cap) m (xs.set j u) := by
  obtain ⟨hl, h2⟩ := h
  rcases h2 with ⟨h0, _⟩ | ⟨g', cap', cur, h0, hb, hh, hn, hc, hs, ht⟩
  · cases h0
  · cases h0
    refine ⟨by simpa using hl, .inr ⟨g, cap, cur.setIfInBounds j u, rfl, hb, heap_setCell_same hh _, hn, hc, by simpa using hs, ?_⟩⟩
    rw [Array.toList_setIfInBounds, List.take_set, ht]
theorem OwnLF.at {B : Nat} {w w' : World} {x : LF} (h : OwnLF B w x) (he : ∀ g, x.pv.ownBlock = some g ∨ x.qv.ownBlock = some g → w'.heap[g]? = w.heap[g]?) : OwnLF B w' x :=
  ⟨rowF_at h.1 (fun g hg => he g (.inl hg)), rowF_at h.2.1 (fun g hg => he g (.inr hg)), h.2.2⟩

/-- All blocks of a list of faults. -/
def bF (v : Value) (l : List LF) : List Nat := v.ownBlock.toList ++ blkF l
structure FsOwn (B : Nat) (w : World) (v : Value) (l : List LF) : Prop where
  row : w.ownsRow B 42 3 v l.length (fC l)
  own : OwnFl B w l
theorem mem_bF {v : Value} {l : List LF} {b : Nat} : b ∈ bF v l ↔ v.ownBlock = some b ∨ b ∈ blkF l := by
  unfold bF
  cases v.ownBlock <;> simp [eq_comm]
theorem FsOwn.head_ne {B : Nat} {w : World} {v : Value} {l : List LF} (h : FsOwn B w v l) {g : Nat} (hg : v.ownBlock = some g) : g ∉ blkF l := fun hm => by
  obtain ⟨x, hx, e⟩ := mem_blkF.1 hm
  rcases e with e | e
  · rcases row_apart (h.own.all x hx).1 h.row (by decide) with h1 | h1
    · rw [h1] at e; cases e
    · exact h1 (by rw [e, hg])
  · rcases row_apart (h.own.all x hx).2.1 h.row (by decide) with h1 | h1
    · rw [h1] at e; cases e
    · exact h1 (by rw [e, hg])
theorem FsOwn.nodup {B : Nat} {w : World} {v : Value} {l : List LF} (h : FsOwn B w v l) : (bF v l).Nodup := by
  unfold bF
  cases hv : v.ownBlock with
  | none => simpa using h.own.nd
  | some g => simpa using ⟨h.head_ne hv, h.own.nd⟩
theorem FsOwn.lt {B : Nat} {w : World} {v : Value} {l : List LF} (h : FsOwn B w v l) : ∀ b ∈ bF v l, B ≤ b ∧ b < w.heap.size := fun b hb => by
  rcases mem_bF.1 hb with e | e
  · exact h.row.lt b e
  · exact h.own.lt b e
theorem FsOwn.moved {B : Nat} {w w' : World} {v : Value} {l : List LF} (h : FsOwn B w v l) (hm : ∀ b ∈ bF v l, w'.heap[b]? = w.heap[b]?) : FsOwn B w' v l :=
  ⟨rowF_at h.row (fun g hg => hm g (mem_bF.2 (.inl hg))), ⟨fun x hx => (h.own.all x hx).at (fun g hg => hm g (mem_bF.2 (.inr (mem_blkF.2 ⟨x, hx, hg⟩)))), h.own.nd⟩⟩
theorem FsOwn.on {B : Nat} {w w' : World} {v : Value} {l : List LF} (h : FsOwn B w v l) (hb : Below w.heap.size w w') : FsOwn B w' v l := h.moved (fun b hm => hb.block b (h.lt b hm).2)
theorem FsOwn.lower {B B' : Nat} {w : World} {v : Value} {l : List LF} (h : FsOwn B w v l) (hB : B' ≤ B) : FsOwn B' w v l := ⟨row_lower h.row hB, h.own.lower hB⟩
theorem FsOwn.arg {B : Nat} {w : World} {v : Value} {l : List LF} (h : FsOwn B w v l) : ArgF w v l := by
  obtain ⟨p, c, rfl, hF⟩ := fsAt_row h.row (fun x hx => (h.own.all x hx).lok)
  refine ⟨p, c, rfl, ?_, hF⟩
  rcases h.row.2 with ⟨e, h0⟩ | ⟨g, cap, cur, e, _, _, hn, _⟩
  · omega
  · cases e; exact hn

theorem parts_at {l : List LF} {i : Nat} {x : LF} (hx : l[i]? = some x) : ∃ l1 l2, l = l1 ++ x :: l2 ∧ l1.length = i := by
  obtain ⟨hi, e⟩ := List.getElem?_eq_some_iff.1 hx
  refine ⟨l.take i, l.drop (i + 1), ?_, by rw [List.length_take]; omega⟩
  rw [← e, List.getElem_cons_drop, List.take_append_drop]
theorem fC_set (l1 l2 : List LF) (x : LF) (k : Int) : fC (l1 ++ ⟨⟨k, x.f.pos, x.f.path⟩, x.pv, x.qv⟩ :: l2) = (fC (l1 ++ x :: l2)).set (l1.length * 3) (.int .i64 k) := by
  have hl := fC_len l1
  rw [fC_app, fC_app, List.set_append_right _ _ (by omega), show l1.length * 3 - (fC l1).length = 0 by omega]
  rfl
theorem blkF_mid (l1 l2 : List LF) (x : LF) : blkF (l1 ++ x :: l2) = blkF l1 ++ ((x.pv.ownBlock.toList ++ x.qv.ownBlock.toList) ++ blkF l2) := by simp [blkF]

/-- A store of a kind. -/
theorem FsOwn.setKind {B : Nat} {w : World} {g n c : Nat} {l1 l2 : List LF} {x : LF} (h : FsOwn B w (.slice (some ⟨g, 0, none⟩) n c) (l1 ++ x :: l2)) (k : Int) :
    FsOwn B (w.setCell ⟨g, l1.length * 3, none⟩ (.int .i64 k)) (.slice (some ⟨g, 0, none⟩) n c) (l1 ++ ⟨⟨k, x.f.pos, x.f.path⟩, x.pv, x.qv⟩ :: l2) ∧ blkF (l1 ++ ⟨⟨k, x.f.pos, x.f.path⟩, x.pv, x.qv⟩ :: l2) = blkF (l1 ++ x :: l2) := by
  have hb : blkF (l1 ++ ⟨⟨k, x.f.pos, x.f.path⟩, x.pv, x.qv⟩ :: l2) = blkF (l1 ++ x :: l2) := by rw [blkF_mid, blkF_mid]
  have hne := h.head_ne (g := g) rfl
  refine ⟨⟨?_, ⟨fun z hz => ?_, by rw [hb]; exact h.own.nd⟩⟩, hb⟩
  · rw [fC_set]
    have := rowF_set h.row (j := l1.length * 3) (.int .i64 k)
    simpa using this
  · have keep : ∀ b ∈ blkF (l1 ++ x :: l2), (w.setCell ⟨g, l1.length * 3, none⟩ (.int .i64 k)).heap[b]? = w.heap[b]? := fun b hm => Below.heap_setCell _ _ _ _ (fun e => hne (by have e1 : b = g := e; rwa [← e1]))
    rcases List.mem_append.1 hz with hz | hz
    · exact (h.own.all z (List.mem_append_left _ hz)).at (fun b e => keep b (mem_blkF.2 ⟨z, List.mem_append_left _ hz, e⟩))
    · rcases List.mem_cons.1 hz with rfl | hz
      · have hx := h.own.all x (List.mem_append_right _ List.mem_cons_self)
        exact OwnLF.at (x := ⟨⟨k, x.f.pos, x.f.path⟩, x.pv, x.qv⟩) ⟨hx.1, hx.2.1, hx.2.2⟩ (fun b e => keep b (mem_blkF.2 ⟨x, List.mem_append_right _ List.mem_cons_self, e⟩))
      · exact (h.own.all z (List.mem_append_right _ (List.mem_cons_of_mem _ hz))).at (fun b e => keep b (mem_blkF.2 ⟨z, List.mem_append_right _ (List.mem_cons_of_mem _ hz), e⟩))
/-- A store of the first place's column. -/
theorem FsOwn.setCol {B : Nat} {w : World} {v : Value} {l1 l2 : List LF} {x : LF} {a b : Int} {r : List (Int × Int)} (h : FsOwn B w v (l1 ++ x :: l2)) (hp : x.f.pos = (a, b) :: r) :
    ∃ gp cp, x.pv = .slice (some ⟨gp, 0, none⟩) x.f.pos.length cp ∧ gp ∈ blkF (l1 ++ x :: l2) ∧ w.cell? ⟨gp, 1, none⟩ = some (.int .i64 b) ∧ w.frozen? ⟨gp, 1, none⟩ = false ∧ gp < w.heap.size ∧
      ∀ col : Int, FsOwn B (w.setCell ⟨gp, 1, none⟩ (.int .i64 col)) v (l1 ++ ⟨⟨x.f.k, (a, col) :: r, x.f.path⟩, x.pv, x.qv⟩ :: l2) ∧ blkF (l1 ++ ⟨⟨x.f.k, (a, col) :: r, x.f.path⟩, x.pv, x.qv⟩ :: l2) = blkF (l1 ++ x :: l2) := by
  obtain ⟨⟨k, pos, path⟩, pv, qv⟩ := x
  simp only at hp
  subst hp
  have hx := h.own.all _ (List.mem_append_right l1 List.mem_cons_self)
  have hgf : ∀ g, v.ownBlock = some g → g ∉ blkF (l1 ++ ⟨⟨k, (a, b) :: r, path⟩, pv, qv⟩ :: l2) := fun g hg => h.head_ne hg
  obtain ⟨hrow, hq, hb1, hb2⟩ := hx
  dsimp only at hrow hq
  have hnd := h.own.nd
  rcases hrow.2 with ⟨_, h0⟩ | ⟨gp, cp, cur, hv, hB, hh, hn, hc, hs, ht⟩
  · simp at h0
  subst hv
  have hin : gp ∈ blkF (l1 ++ ⟨⟨k, (a, b) :: r, path⟩, .slice (some ⟨gp, 0, none⟩) ((a, b) :: r).length cp, qv⟩ :: l2) := by rw [blkF_mid]; simp [Value.ownBlock]
  have hc1 : cur[1]? = some (.int .i64 b) := by
    have : cur.toList[1]? = some (.int .i64 b) := by
      have h1 : (cur.toList.take (((a, b) :: r).length * 2))[1]? = (posC ((a, b) :: r))[1]? := by rw [ht]
      rw [List.getElem?_take] at h1
      simp only [List.length_cons] at h1
      rw [if_pos (by omega)] at h1
      rw [h1]
      rfl
    simpa using this
  refine ⟨gp, cp, rfl, hin, by simp [World.cell?, hh, hc1], by simp [World.frozen?, hh], (Array.getElem?_eq_some_iff.1 hh).1, fun col => ?_⟩
  have hb : blkF (l1 ++ ⟨⟨k, (a, col) :: r, path⟩, .slice (some ⟨gp, 0, none⟩) ((a, b) :: r).length cp, qv⟩ :: l2) = blkF (l1 ++ ⟨⟨k, (a, b) :: r, path⟩, .slice (some ⟨gp, 0, none⟩) ((a, b) :: r).length cp, qv⟩ :: l2) := by rw [blkF_mid, blkF_mid]
  have hdis : gp ∉ blkF l1 ∧ gp ∉ blkF l2 ∧ qv.ownBlock ≠ some gp := by
    rw [blkF_mid] at hnd
    rw [show (Value.slice (some ⟨gp, 0, none⟩) ((a, b) :: r).length cp).ownBlock = some gp from rfl, List.nodup_append] at hnd
    obtain ⟨_, n2, n3⟩ := hnd
    refine ⟨fun hm => n3 gp hm gp (by simp) rfl, fun hm => ?_, fun e => ?_⟩
    · simp [List.nodup_cons, hm] at n2
    · rw [e] at n2
      simp [List.nodup_cons] at n2
  have oth : ∀ g, g ≠ gp → (w.setCell ⟨gp, 1, none⟩ (.int .i64 col)).heap[g]? = w.heap[g]? := fun g hg => Below.heap_setCell _ _ _ _ hg
  refine ⟨⟨?_, ⟨fun z hz => ?_, by rw [hb]; exact hnd⟩⟩, hb⟩
  · have hr : fC (l1 ++ ⟨⟨k, (a, col) :: r, path⟩, .slice (some ⟨gp, 0, none⟩) ((a, b) :: r).length cp, qv⟩ :: l2) = fC (l1 ++ ⟨⟨k, (a, b) :: r, path⟩, .slice (some ⟨gp, 0, none⟩) ((a, b) :: r).length cp, qv⟩ :: l2) := by rw [fC_app, fC_app]; rfl
    rw [hr]
    have := rowF_at h.row (w' := w.setCell ⟨gp, 1, none⟩ (.int .i64 col)) (fun g hg => oth g (fun e => hgf g hg (by rw [e]; exact hin)))
    simpa using this
  · rcases List.mem_append.1 hz with hz1 | hz1
    · exact (h.own.all z (List.mem_append_left _ hz1)).at (fun g e => oth g (fun e2 => hdis.1 (e2 ▸ mem_blkF.2 ⟨z, hz1, e⟩)))
    · rcases List.mem_cons.1 hz1 with rfl | hz2
      · refine ⟨?_, rowF_at hq (fun g e => oth g (fun e2 => hdis.2.2 (by rw [← e2]; exact e))), by simpa using hb1, hb2⟩
        have := rowF_set hrow (j := 1) (.int .i64 col)
        simpa [posC] using this
      · exact (h.own.all z (List.mem_append_right _ (List.mem_cons_of_mem _ hz2))).at (fun g e => oth g (fun e2 => hdis.2.1 (e2 ▸ mem_blkF.2 ⟨z, hz2, e⟩)))
end Go.Proofs.YtnmnmkdmnohbmaaGreatDoor
