/- Helper text: a range over a table of texts yields the entries that stood there when it began, whatever comes and goes meanwhile. Conditions: none. -/
import Derived.Test.YtnmnmkdmnohbmaaDoorTabRow
import Derived.OwnWalkIn
namespace Go.Proofs.YtnmnmkdmnohbmaaDoor
open Go Go.RowKit Go.Maps
attribute [local go_sem] run_store_float

theorem wpListIn_append_y {F : Fence} {n : Nat} {P : Program} (w : World) {ops : Array Oper} {rest : List Oper} {o : Oper} {a : Act} {Q : Exit → Act → World → Prop}
    (hg : o.guard = none) (s x : Operand) (t : TypeId) (hop : o.op = Op.call { callee := Callee.builtin Builtin.append, args := #[s, x], argTypes := #[t, t] })
    (base : Nat) (e : TypeId) (z : Value) (size bytes : Nat) (h1 : P.underlying t = some (.slice e)) (hi : (P.info? e).map (fun i => (i.zero, i.size, i.bytes)) = some (some z, size, bytes)) (h6 : z.cells.size = size) (h7 : 0 < size)
    (v : Value) (k : Nat) (xs : List Value) (hs : a.eval s = v) (hown : w.ownsRow base e size v k xs) (p : Option Addr) (m c : Nat) (news : List Value) (hx : a.eval x = .slice p m c) (hn : news.length = m * size) (h0 : p = none → m = 0)
    (hc : ∀ ad, p = some ad → ∀ j u, news[j]? = some u → w.cell? (ad.add j) = some u) (h1c : ∀ u ∈ news, u.oneCell' = true) (b1 : k + m ≤ maxLen) (b2 : (k + m) * bytes ≤ 140737488355328) (b3 : base ≤ w.heap.size)
    (hK : ∀ v' w', w'.ownsRow base e size v' (k + m) (xs ++ news) → w.grownBy w' v.ownBlock → wpListIn F n P ops Q rest (a.put o.dst v') w') :
    wpListIn F n P ops Q (o :: rest) a w := by
  refine wpListIn_plain hg fun K hK' => ?_
  obtain ⟨i, hi', hz, hsize, hby⟩ := info_parts hi
  obtain ⟨v', w', hrun, r1, r2⟩ := run_append_y (P := P) w base t o.type e i z size bytes h1 hi' hz hsize hby h6 h7 v k xs hown p m c news hn h0 hc h1c b1 b2 b3
  unfold Oper.wpIn
  refine ⟨?_, ?_⟩
  · simp [Oper.about, hop, resolve, Target.leads, Sem.run_pure]
  · rw [Oper.semAt_plain F _ _ (by rw [hop]; intro c hc'; cases hc')]
    simp [execOp, hop, resolve, invoke, builtin, hs, hx, hrun, Result.andThen]
    exact hK' _ _ (hK v' w' r1 r2)

theorem All_tab (p : Option Addr) (w : World) : Calls Tryd.prog 71 #[.pointer p] w (fun e w' => e = .returned (.func (.func 105) #[] #[.pointer (some ⟨w.heap.size, 0, none⟩)]) ∧ w' = w.alloc (.cells #[.pointer p] 55)) := by
  go_enter Tryd.func71, Tryd.ntmps71
  have hmf : ∀ (fn : Fn) (first cap : Array Value) (w : World), (Instr.makeFunc fn first cap).run Tryd.prog w = .ok (.func fn first cap) w := fun _ _ _ _ => rfl
  go_wp2
  go_ret
  exact ⟨rfl, rfl⟩

/-- Blocks of cells stand, but for some and for the table's own; the table's own are none of the others. -/
structure KeepT (T : Nat) (S : Nat → Prop) (w w' : World) : Prop where
  size : w.heap.size ≤ w'.heap.size
  cells : ∀ k cur e fz, w.heap[k]? = some (.cells cur e fz) → ¬ S k → ¬ footW T w k → w'.heap[k]? = some (.cells cur e fz)
  foot : ∀ k, k < w.heap.size → footW T w' k → footW T w k
theorem KeepT.trans {T : Nat} {S : Nat → Prop} {a b c : World} (h : KeepT T S a b) (k : KeepT T S b c) : KeepT T S a c :=
  ⟨Nat.le_trans h.size k.size, fun i cur e fz hi hs hf => k.cells i cur e fz (h.cells i cur e fz hi hs hf) hs (fun hf' => hf (h.foot i (Array.getElem?_eq_some_iff.1 hi).1 hf')),
    fun i hi hf => h.foot i hi (k.foot i (Nat.lt_of_lt_of_le hi h.size) hf)⟩
theorem KeepT.of_below {T : Nat} {S : Nat → Prop} {a b : World} (h : Below a.heap.size a b) (hT : T < a.heap.size) : KeepT T S a b :=
  ⟨h.size, fun i cur e fz hi _ _ => (h.block i (Array.getElem?_eq_some_iff.1 hi).1).trans hi, fun k _ ⟨bm, kv, vv, h1, h2⟩ => ⟨bm, kv, vv, (h.block T hT).symm.trans h1, h2⟩⟩
theorem KeepT.put {T : Nat} {S : Nat → Prop} (W : World) (l : Nat) (o o' : Obj) (h : W.heap[l]? = some o) (hc : o.isCells = false) (hl : T ≠ l) : KeepT T S W (W.putObj l o') := by
  have hg := grownBy_putObj' W l o'
  refine ⟨hg.size, fun i cur e fz hi _ _ => (hg.block i (Array.getElem?_eq_some_iff.1 hi).1 (fun e1 => ?_)).trans hi, fun k hk ⟨bm, kv, vv, h1, h2⟩ => ?_⟩
  · cases e1
    rw [h] at hi
    cases hi
    cases hc
  · have hT : T < W.heap.size := by
      have := (Array.getElem?_eq_some_iff.1 h1).1
      simpa [World.putObj] using this
    exact ⟨bm, kv, vv, (hg.block T hT (fun e => hl (by cases e; rfl))).symm.trans h1, h2⟩
theorem KeepT.set {T g : Nat} {S : Nat → Prop} (W : World) (j : Nat) (v : Value) (hg : S g) (hT : T ≠ g) : KeepT T S W (W.setCell ⟨g, j, none⟩ v) := by
  refine ⟨by simp [World.setCell], fun k _ _ _ hk hs _ => (Below.heap_setCell _ _ _ _ (fun e0 => hs (by have e1 : k = g := e0; rw [e1]; exact hg))).trans hk, fun k hk ⟨bm, kv, vv, h1, h2⟩ => ⟨bm, kv, vv, (Below.heap_setCell W ⟨g, j, none⟩ v T hT).symm.trans h1, h2⟩⟩
theorem KeepT.step {T : Nat} {S : Nat → Prop} {w w' : World} (h : TStep T w w') : KeepT T S w w' :=
  ⟨h.1.size, fun k cur e fz hk _ hf => (h.1.block k (Array.getElem?_eq_some_iff.1 hk).1 hf).trans hk, fun k hk hf => by
    rcases h.2 k hf with q | q
    · exact q
    · omega⟩

/-- A row's block, where it has elements. -/
theorem row_blk {w : World} {B : Nat} {e : TypeId} {v : Value} {n : Nat} {xs : List Value} (h : w.ownsRow B e 1 v n xs) (hn : 0 < n) :
    ∃ g cur cap, v = .slice (some ⟨g, 0, none⟩) n cap ∧ B ≤ g ∧ w.heap[g]? = some (.cells cur e (0, 0)) ∧ n ≤ cap ∧ cap ≤ maxLen ∧ ∀ (j : Nat) (u : Value), xs[j]? = some u → cur[j]? = some u := by
  rcases h.2 with ⟨_, h0⟩ | ⟨g, cap, cur, hv, hb, hh, hn', hc, hs, ht⟩
  · omega
  · refine ⟨g, cur, cap, hv, hb, hh, hn', hc, fun j u hu => ?_⟩
    rw [← ht, List.getElem?_take] at hu
    split at hu
    · simpa using hu
    · cases hu
/-- The entries as they are yielded. -/
def entT (l : List (Int × Int)) : List (ByteArray × Int) := l.map (fun r => (nmB r.1, r.2))
def tenc (x : ByteArray × Int) : Array Value := #[.string x.1, .int .i64 x.2]

set_option maxRecDepth 100000 in
set_option maxHeartbeats 4000000 in
theorem tab_stops (n : Nat) {w : World} {B T bm : Nat} {l : List (Int × Int)} (h : TS w B T bm l) (Bv : Nat) (hBv : Bv < w.heap.size) (hb : CellsAt w Bv 0 #[.pointer (some ⟨T, 0, none⟩)]) (S : Nat → Prop) (hS : ∀ g, S g → g < w.heap.size) :
    SeqStopsK Fence.wide n Tryd.prog 105 #[.pointer (some ⟨Bv, 0, none⟩)] tenc (KeepT T S) (fun xs => xs = entT l) (fun pre => pre <+: entT l) l.length w := by
  intro ln J Jx W hW hJ hJx hY h0
  have a0 : W.cell? ⟨Bv, 0, none⟩ = some (.pointer (some ⟨T, 0, none⟩)) := hb.below hW hBv 0 _ rfl
  have hBW : Bv < W.heap.size := Nat.lt_of_lt_of_le hBv hW.size
  have hT := h.on hW
  have hflt := Lib.hid (show ∀ g, footW T W g → g < W.heap.size from fun g hg => (hT.foot_lt hg).2)
  obtain ⟨kv, vv, D, ht⟩ := hT.ex
  obtain ⟨c0, c1, c2, f1, f2, hTl⟩ := ht.facts
  obtain ⟨pk, capk, rfl, hk1, hk2, hkc⟩ := texts_cells ht.keys
  obtain ⟨pv, capv, rfl, hv1, hv2, hvc⟩ := ints_cells ht.vals
  have few := ht.few
  have lk : (ksR l).length = l.length := by simp [ksR]
  have lv : (vsR l).length = l.length := by simp [vsR]
  rw [lk] at few hk1 c1
  rw [lv] at hv1 c2
  have HKC := Lib.hid hkc
  have HVC := Lib.hid hvc
  have HJ := Lib.hid hJ
  have HJX := Lib.hid hJx
  have HY := Lib.hid hY
  have H0 := Lib.hid h0
  have HS := Lib.hid hS
  have HW := Lib.hid hW
  have LK := Lib.hid lk
  have LV := Lib.hid lv
  have nilK := Lib.hid (show pk = none → l.length = 0 from fun e => by
    rcases Nat.eq_zero_or_pos l.length with h0 | h0
    · exact h0
    · obtain ⟨g, hg, _⟩ := hkc 0 _ (List.getElem?_eq_getElem (by omega))
      rw [e] at hg; cases hg)
  have nilV := Lib.hid (show pv = none → l.length = 0 from fun e => by
    rcases Nat.eq_zero_or_pos l.length with h0 | h0
    · exact h0
    · obtain ⟨g, hg, _⟩ := hvc 0 _ (List.getElem?_eq_getElem (by omega))
      rw [e] at hg; cases hg)
  have srcK := Lib.hid (show ∀ a, pk = some a → ∀ j u, ((ksR l).map Value.string)[j]? = some u → W.cell? (a.add j) = some u from fun a ha j u hu => by
    rw [List.getElem?_map, Option.map_eq_some_iff] at hu
    obtain ⟨s, hs, rfl⟩ := hu
    obtain ⟨g, hg, _, hc⟩ := hkc j s hs
    rw [ha] at hg
    cases hg
    rw [addr_add, Nat.zero_add]
    exact hc)
  have srcV := Lib.hid (show ∀ w1, Below W.heap.size W w1 → ∀ a, pv = some a → ∀ j u, ((vsR l).map (Value.int .i64))[j]? = some u → w1.cell? (a.add j) = some u from fun w1 hb1 a ha j u hu => by
    rw [List.getElem?_map, Option.map_eq_some_iff] at hu
    obtain ⟨s, hs, rfl⟩ := hu
    obtain ⟨g, hg, hlt, hc⟩ := hvc j s hs
    rw [ha] at hg
    cases hg
    rw [addr_add, Nat.zero_add]
    exact (hb1.cell (p := ⟨g, j, none⟩) hlt).trans hc)
  clear hkc hvc hJ hJx hY h0 hT h hb f1 f2 hk2 hv2 hS hW ht lk lv
  have tk := trivial
  have tk2 := trivial
  refine callsIn_of_wp Tryd.func105 rfl trivial ?_ rfl
  simp only [Tryd.ntmps105, List.size_toArray, List.length_cons, List.length_nil, Nat.reduceAdd, Nat.reduceSub, Array.replicate_succ, Array.replicate_zero, List.push_toArray, List.append_toArray, List.nil_append, List.cons_append]
  gi_wp2_with (gi_at_builtin; first
    | (clear tk; refine wpListIn_append_y W rfl _ _ 101 rfl W.heap.size 9 (.string ⟨#[]⟩) 1 16 Tryd.underlying101 (by kernel_rfl) rfl (by decide) (.slice none 0 0) 0 [] rfl (World.ownsRow_nil _ _ _ _) pk l.length capk ((ksR l).map Value.string) rfl (by rw [List.length_map, LK.out, Nat.mul_one]) nilK.out srcK.out (fun u hu => by obtain ⟨s, _, rfl⟩ := List.mem_map.1 hu; rfl) (by unfold maxLen; omega) (by omega) (Nat.le_refl _) ?_; intro u3 w1 hr1 hg1; simp only [Nat.zero_add, List.nil_append] at hr1; obtain ⟨p3, c3, rfl⟩ := row_slice hr1; have hb1 : Below W.heap.size W w1 := ⟨hg1.os, hg1.tape, hg1.output, hg1.size, fun k hk => hg1.block k hk (by simp [Value.ownBlock])⟩; have a0' := (hb1.cell (p := ⟨Bv, 0, none⟩) hBW).trans a0; have c2' := (hb1.cell (p := ⟨T, 2, none⟩) hTl).trans c2)
    | (clear tk2; refine wpListIn_append_y w1 rfl _ _ 102 rfl W.heap.size 3 (.int .i64 0) 1 8 Tryd.underlying102 (by kernel_rfl) rfl (by decide) (.slice none 0 0) 0 [] rfl (World.ownsRow_nil _ _ _ _) pv l.length capv ((vsR l).map (Value.int .i64)) rfl (by rw [List.length_map, LV.out, Nat.mul_one]) nilV.out (srcV.out w1 hb1) (fun u hu => by obtain ⟨s, _, rfl⟩ := List.mem_map.1 hu; rfl) (by unfold maxLen; omega) (by omega) hb1.size ?_; intro u4 w2 hr2 hg2; simp only [Nat.zero_add, List.nil_append] at hr2; obtain ⟨p4, c4, rfl⟩ := row_slice hr2))
  have hg2' : Below W.heap.size W w2 := hb1.trans ⟨hg2.os, hg2.tape, hg2.output, hg2.size, fun k hk => hg2.block k (Nat.lt_of_lt_of_le hk hb1.size) (by simp [Value.ownBlock])⟩
  have hr1' := hr1.kept hg2 (by cases (Value.slice p3 l.length c3).ownBlock <;> simp [Value.ownBlock])
  have hJ2 := alloc_abides HJ.out H0.out hg2'
  have HJ2 := Lib.hid hJ2
  have HB2 := Lib.hid hg2'
  have HR1 := Lib.hid hr1'
  have HR2 := Lib.hid hr2
  have hTl2 : T < w2.heap.size := Nat.lt_of_lt_of_le hTl hg2'.size
  have HFT := Lib.hid (show ∀ g, W.heap.size ≤ g → ¬ S g ∧ ¬ footW T w2 g from fun g hg => ⟨fun e => by have := HS.out g e; have := HW.out.size; omega, fun ⟨bm', kv', vv', q1, q2⟩ => by
    have := hflt.out g ⟨bm', kv', vv', (HB2.out.block T hTl).symm.trans q1, q2⟩
    omega⟩)
  clear hJ2 hg2' hr1 hr1' hr2 hg1 hg2 hb1 a0' c2' a0 c0 c1 c2 hk1 hv1 nilK nilV srcK srcV HKC HVC
  gi_loopw [21] (fun ii wr => ∃ j : Nat, j ≤ l.length ∧ ii = .int .i64 j ∧ ∃ pre : List (ByteArray × Int), Hid (pre = (entT l).take j) ∧ Hid (J pre wr) ∧ Hid (KeepT T S w2 wr)) (fun ii _ => l.length - (intOf ii).toNat)
  case atStart => exact ⟨0, by omega, rfl, [], Lib.hid rfl, HJ2, Lib.hid (KeepT.of_below (Below.refl _ _) hTl2)⟩
  case round =>
    obtain ⟨j, hj, rfl, pre, hpre, hJp, hkeep⟩ := hrel
    have le : (entT l).length = l.length := by simp [entT]
    have LE := Lib.hid le
    clear le
    by_cases h1 : j < l.length
    · obtain ⟨⟨rk, rv⟩, hr⟩ : ∃ r, l[j]? = some r := ⟨_, List.getElem?_eq_getElem h1⟩
      obtain ⟨g3, cur3, cap3, e3, hB3, hh3, hk31, hk32, hc3⟩ := row_blk HR1.out (by omega)
      obtain ⟨g4, cur4, cap4, e4, hB4, hh4, hk41, hk42, hc4⟩ := row_blk HR2.out (by omega)
      obtain ⟨rfl, rfl⟩ : p3 = some ⟨g3, 0, none⟩ ∧ c3 = cap3 := by cases e3; exact ⟨rfl, rfl⟩
      obtain ⟨rfl, rfl⟩ : p4 = some ⟨g4, 0, none⟩ ∧ c4 = cap4 := by cases e4; exact ⟨rfl, rfl⟩
      have hb3 := hkeep.out.cells g3 _ _ _ hh3 (HFT.out g3 hB3).1 (HFT.out g3 hB3).2
      have hb4 := hkeep.out.cells g4 _ _ _ hh4 (HFT.out g4 hB4).1 (HFT.out g4 hB4).2
      have q0 : wr.cell? ⟨g3, j, none⟩ = some (.string (nmB rk)) := by simp only [World.cell?, hb3]; exact hc3 j _ (by simp [ksR, hr])
      have q1 : wr.cell? ⟨g4, j, none⟩ = some (.int .i64 rv) := by simp only [World.cell?, hb4]; exact hc4 j _ (by simp [vsR, hr])
      have hz : (entT l)[j]? = some (nmB rk, rv) := by simp [entT, hr]
      have HZ := Lib.hid hz
      have hlen : pre.length < l.length := by
        have := congrArg List.length hpre.out
        rw [List.length_take, LE.out] at this
        omega
      have hbd := Below.drew (Below.refl wr.heap.size wr)
      obtain ⟨fn, tmps, assign, body, hy, hR⟩ := HY.out pre (nmB rk, rv) _ hJp.out hlen
      have HP := Lib.hid (hR.mono (fun e W' h => (show ∃ bb : Bool, e = .returned (.bool bb) ∧ (bb = true → J (pre ++ [(nmB rk, rv)]) W' ∧ KeepT T S wr W') ∧ (bb = false → Jx (pre ++ [(nmB rk, rv)]) W') by
        rcases h with ⟨rfl, hj, hk⟩ | ⟨rfl, hj⟩
        · exact ⟨true, rfl, (fun _ => ⟨hj, hk⟩), (fun h => by cases h)⟩
        · exact ⟨false, rfl, (fun h => by cases h), fun _ => hj⟩)))
      dsimp only [tenc] at hy
      unfold maxLen at hk32 hk42
      clear hR hr hb3 hb4 hh3 hh4 hc3 hc4 e3 e4 hz hbd hB3 hB4
      gi_wp2
      refine ⟨fun h => by first | cases h | (simp [Fence.wide] at h), ?_⟩
      refine HP.out.mono ?_
      rintro e W3 ⟨bb, rfl, hP⟩
      have HPX := Lib.hid hP
      clear hP
      cases bb
      · gi_wp2
        refine bodyPost_ret (results_none rfl _ _ _) rfl ?_
        refine ⟨⟨_, rfl⟩, .inr ⟨_, ?_, HPX.out.2 (by first | rfl | trivial)⟩⟩
        have h : (entT l).take (j + 1) <+: entT l := List.take_prefix _ _
        rw [List.take_add_one, HZ.out, ← hpre.out] at h
        exact h
      · gi_wp2
        go_roundw
        case rel =>
          refine ⟨j + 1, by omega, by go_num, _, Lib.hid ?_, Lib.hid (HPX.out.1 (by first | rfl | trivial)).1, Lib.hid (hkeep.out.trans (HPX.out.1 (by first | rfl | trivial)).2)⟩
          rw [hpre.out, List.take_add_one, HZ.out]
          rfl
        case measure => simp [intOf]; omega
    · have hall := hpre.out
      rw [List.take_of_length_le (by rw [LE.out]; omega)] at hall
      have HALL := Lib.hid hall
      clear hall
      gi_wp2
      go_end0
      exact ⟨⟨_, rfl⟩, .inl ⟨_, HALL.out, hJp.out⟩⟩
end Go.Proofs.YtnmnmkdmnohbmaaDoor
