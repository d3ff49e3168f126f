/- Walk: all parts of a value, one after another, each with its path in new memory. Conditions: none. -/
import Derived.Test.YtnmnmkdmnohbmaaDoorPackF
import Derived.Test.YtnmnmkdmnohbmaaDoorPackG
import Derived.Laws.MakeOwn
namespace Go.Proofs.YtnmnmkdmnohbmaaDoor
open Go Go.RowKit Go.Shelf
attribute [local go_sem] run_store_float Oper.semAt_some

theorem roundIn_wide {n m : Nat} {P : Program} {l : Nat} {f : FuncId} {tmps : Array Value} {assign body : Code} {w : World} {R : Ending → World → Prop} (h : RoundIn Fence.wide n P l f tmps assign body w R) : RoundIn Fence.wide m P l f tmps assign body w R :=
  ⟨trivial, fun c cs _ => h.2 c cs (room_wide _)⟩
theorem yieldAt_wide {n m : Nat} {P : Program} {l : Nat} {args : Array Value} {w : World} {R : Ending → World → Prop} (h : YieldAt Fence.wide n P l args w R) : YieldAt Fence.wide m P l args w R := by
  obtain ⟨fn, tmps, assign, body, hy, hR⟩ := h
  exact ⟨fn, tmps, assign, body, hy, roundIn_wide hR⟩
theorem tells_wide {α : Type} {n m : Nat} {P : Program} {g : Nat} {lb : Array Value} {encs : α → Array Value} {X : Nat → Prop} {Ok : α → World → Prop} {S Sp : List α → Prop} {w : World} (h : Tells Fence.wide n P g lb encs X Ok S Sp w) : Tells Fence.wide m P g lb encs X Ok S Sp w :=
  fun l J Jx W hW hJ hJx hY h0 => callsIn_wide.2 (callsIn_wide.1 (h l J Jx W hW hJ hJx (fun pre x V hj hok => yieldAt_wide (hY pre x V hj hok)) h0))

/-- A part as Walk hands it over: the slice, the path that it holds, the part, its cells. -/
structure Wp where
  sv : Value
  path : List St
  u : V
  cs : Array Value
def Wp.pv (x : Wp) : List St × V := (x.path, x.u)
def wEnc (x : Wp) : Array Value := #[x.sv, .agg x.cs]
/-- What holds of it where it is handed over. -/
def WOk (n₀ s : Nat) (x : Wp) (W : World) : Prop := x.path.length + szV x.u ≤ s ∧ W.ownsRow n₀ 34 3 x.sv x.path.length (flatS x.path) ∧ IsV n₀ W x.u x.cs

theorem Walk_any (cs : Array Value) (w : World) : Calls Tryd.prog 33 #[.agg cs] w (fun e w' => e = .returned (.func (.func 74) #[] #[.pointer (some ⟨w.heap.size, 0, none⟩)]) ∧ w' = w.alloc (.cells cs 27)) := by
  go_enter Tryd.func33, Tryd.ntmps33
  have hmf : ∀ (fn : Fn) (first cap : Array Value) (w : World), (Instr.makeFunc fn first cap).run Tryd.prog w = .ok (.func fn first cap) w := fun _ _ _ _ => rfl
  go_wp2
  go_ret
  exact ⟨rfl, rfl⟩

theorem ownFrom_mono {β : Type} {B C : Nat} {I : β → World → Prop} (h : OwnFrom B I) (hBC : B ≤ C) : OwnFrom C I := fun s A B' row hs hg hr => h s A B' row hs hg (fun r e => ⟨Nat.le_trans hBC (hr r e).1, (hr r e).2⟩)
theorem keepsFrom_mono {B C : Nat} {V V' : World} (h : KeepsFrom B V V') (hBC : B ≤ C) : KeepsFrom C V V' := ⟨h.size, fun k o hk => h.same k o (Nat.le_trans hBC hk)⟩
theorem ownFrom_grow {β : Type} {B : Nat} {I : β → World → Prop} (h : OwnFrom B I) {s : β} {V V' : World} (hs : I s V) (hb : Below V.heap.size V V') : I s V' := h s V V' none hs (grown_of_below hb none) (fun r e => by cases e)
section
variable {F : Fence} {n : Nat} {P : Program} (w : World) {ops : Array Oper} {rest : List Oper} {o : Oper} {a : Act} {Q : Exit → Act → World → Prop}
theorem wpListIn_make (hg : o.guard = none) (t : TypeId) (l c : Operand) (hop : o.op = Op.makeSlice t l c) (m : Nat) (hl : a.eval l = .int .i64 0) (hc : a.eval c = .int .i64 (m : Int))
    (base : Nat) (e : TypeId) (z : Value) (size bytes : Nat) (ht : P.underlying t = some (.slice e)) (hi : (P.info? e).map (fun i => (i.zero, i.size, i.bytes)) = some (some z, size, bytes))
    (hcells : m * size ≤ 16777216) (hbytes : bytes * m ≤ 281474976710656) (h63 : m ≤ maxLen) (hbase : base ≤ w.heap.size)
    (hK : ∀ w', w'.ownsRow base e size (.slice (some ⟨w.heap.size, 0, none⟩) 0 m) 0 [] → w.grownBy w' none → wpListIn F n P ops Q rest (a.put o.dst (.slice (some ⟨w.heap.size, 0, none⟩) 0 m)) w') : wpListIn F n P ops Q (o :: rest) a w := by
  obtain ⟨i, hi', hz, hsize, hby⟩ := info_parts hi
  refine wpListIn_plain hg fun K hK' => ?_
  obtain ⟨w', hrun, h2, h3⟩ := run_makeSlice_owned (P := P) w base t e i z size ht hi' hz hsize .i64 .i64 m hcells (by rw [hby]; exact hbytes) h63 hbase
  unfold Oper.wpIn
  refine ⟨?_, ?_⟩
  · simp [Oper.about, hop]
  · rw [Oper.semAt_plain F _ _ (by rw [hop]; intro c hc'; cases hc')]
    simp [execOp, hop, hl, hc, hrun, Result.andThen]
    exact hK' _ _ (hK w' h2 h3)
end
/-- A world where one cell and a value's eight stand. -/
structure NineW (Y B : Nat) (y u0 u1 u2 u3 u4 u5 u6 u7 : Value) where
  w : World
  hy : w.cell? ⟨Y, 0, none⟩ = some y
  h0 : w.cell? ⟨B, 0, none⟩ = some u0
  h1 : w.cell? ⟨B, 1, none⟩ = some u1
  h2 : w.cell? ⟨B, 2, none⟩ = some u2
  h3 : w.cell? ⟨B, 3, none⟩ = some u3
  h4 : w.cell? ⟨B, 4, none⟩ = some u4
  h5 : w.cell? ⟨B, 5, none⟩ = some u5
  h6 : w.cell? ⟨B, 6, none⟩ = some u6
  h7 : w.cell? ⟨B, 7, none⟩ = some u7
abbrev NineCls (Y B : Nat) (y u0 u1 u2 u3 u4 u5 u6 u7 : Value) : World → Prop := fun w' => ∃ z : NineW Y B y u0 u1 u2 u3 u4 u5 u6 u7, w' = z.w
theorem nine_of {Y B : Nat} {y u0 u1 u2 u3 u4 u5 u6 u7 : Value} {w : World} (hy : w.cell? ⟨Y, 0, none⟩ = some y) (h : CellsAt w B 0 #[u0, u1, u2, u3, u4, u5, u6, u7]) : NineCls Y B y u0 u1 u2 u3 u4 u5 u6 u7 w :=
  ⟨⟨w, hy, h 0 _ rfl, h 1 _ rfl, h 2 _ rfl, h 3 _ rfl, h 4 _ rfl, h 5 _ rfl, h 6 _ rfl, h 7 _ rfl⟩, rfl⟩
theorem wok_own {n₀ s B : Nat} (z : Wp) (hB : n₀ ≤ B) : OwnFrom B (fun (_ : Unit) V => WOk n₀ s z V ∧ n₀ ≤ V.heap.size) := fun _ A A' row hs hg hr => by
  obtain ⟨⟨h1, h2, h3⟩, h4⟩ := hs
  exact ⟨⟨h1, row_not_block h2 hg (fun r e => (hr r e).2), h3.below (grown_below hg h4 (fun y hy => Nat.le_trans hB (hr y hy).1)) (Nat.le_refl _)⟩, Nat.le_trans h4 hg.size⟩
theorem cells_own {B g : Nat} {cs : Array Value} {t : TypeId} : OwnFrom B (fun (_ : Unit) V => V.heap[g]? = some (Obj.cells cs t (0, 0))) := fun _ A A' row hs hg hr =>
  (hg.block g (Array.getElem?_eq_some_iff.1 hs).1 (fun e => by
    obtain ⟨_, o, ho, hc⟩ := hr g e.symm
    rw [hs] at ho
    cases ho
    cases hc)).trans hs
theorem empty_row {n₀ g : Nat} {W : World} (hn : n₀ ≤ g) (h : W.heap[g]? = some (.cells #[] 34 (0, 0))) : W.ownsRow n₀ 34 3 (.slice (some ⟨g, 0, none⟩) 0 0) 0 [] :=
  ⟨rfl, .inr ⟨g, 0, #[], rfl, hn, h, Nat.le_refl _, by decide, rfl, rfl⟩⟩

set_option maxRecDepth 100000 in
set_option maxHeartbeats 4000000 in
theorem walk_tells : ∀ (N : Nat) (v : V), szV v ≤ N → ∀ (m n₀ Bv : Nat) (cs : Array Value) (w : World), Bv < w.heap.size → n₀ ≤ w.heap.size → CellsAt w Bv 0 cs → IsV n₀ w v cs → szV v ≤ 1000000 →
    Tells Fence.wide m Tryd.prog 74 #[.pointer (some ⟨Bv, 0, none⟩)] wEnc (fun k => k < n₀ ∨ k = Bv) (WOk n₀ (szV v)) (fun xs => xs.map Wp.pv = partsV [] v) (fun pre => pre.map Wp.pv <+: partsV [] v) w := by
  intro N
  induction N with
  | zero => intro v hv; have := szV_pos v; omega
  | succ N ih =>
    intro v hN m n₀ Bv cs w hBv hn₀ hb hv hm
    refine tells_wide (n := 20) ?_
    intro l J Jx W hW hJ hJx hY h0
    have hbW := hb.below hW hBv
    have hvW := hv.below (hW.mono hn₀) (Nat.le_refl _)
    have hBW : Bv < W.heap.size := Nat.lt_of_lt_of_le hBv hW.size
    have hnW : n₀ ≤ W.heap.size := Nat.le_trans hn₀ hW.size
    obtain ⟨W0, hW0, hb0, hs0, hyb, hem⟩ : ∃ W0, (W.alloc (.cells #[.func (.yield l) #[] #[]] 119)).alloc (.cells #[] 34) = W0 ∧ Below W.heap.size W W0 ∧ W0.heap.size = W.heap.size + 2 ∧ Boxed W0 W.heap.size 119 (.func (.yield l) #[] #[]) ∧ W0.heap[W.heap.size + 1]? = some (.cells #[] 34 (0, 0)) := by
      refine ⟨_, rfl, ((Below.refl _ _).alloc (Nat.le_refl _) _).alloc (by simp) _, by simp, (Boxed.new W _ _).alloc _, ?_⟩
      have := heap_new (W.alloc (.cells #[.func (.yield l) #[] #[]] 119)) (.cells #[] 34)
      rwa [World.size_alloc] at this
    have hcb0 := hbW.below hb0 hBW
    have hv0 := hvW.below (hb0.mono hnW) (Nat.le_refl _)
    have hJ0 : J [] W0 := ownFrom_grow hJ h0 hb0
    have hok : WOk n₀ (szV v) ⟨.slice (some ⟨W.heap.size + 1, 0, none⟩) 0 0, [], v, cs⟩ W0 := ⟨by simp, empty_row (by omega) hem, hv0⟩
    obtain ⟨fn, tmps, assign, body, hy, hR⟩ := hY [] ⟨.slice (some ⟨W.heap.size + 1, 0, none⟩) 0 0, [], v, cs⟩ W0 hJ0 hok
    have HR := Lib.hid hR
    have HY := Lib.hid hY
    have HJ := Lib.hid hJ
    have HJX := Lib.hid hJx
    have HV := Lib.hid hv
    have HB0 := Lib.hid hb0
    have HYB := Lib.hid hyb
    have HCB := Lib.hid hcb0
    have HV0 := Lib.hid hv0
    have IH := Lib.hid ih
    have HN := Lib.hid hN
    have hcb1 := hcb0
    clear hR hY hJ hJx h0 hb0 hem hbW hvW hcb0 hv0 hJ0 hok hb ih hN hyb hW
    obtain ⟨k, b, i, f, t, ty, its, fs⟩ := v
    obtain ⟨p, c, q, d, rfl, _, _, _, _⟩ := hv
    obtain ⟨a0, a1, a2, a3, a4, a5, a6, a7⟩ := hcb1.all0
    clear hcb1
    dsimp only [wEnc] at hy
    have hBW0 : Bv < W0.heap.size := by omega
    refine callsIn_of_wp_marks Tryd.func74 rfl trivial ?_ rfl
    simp only [Tryd.ntmps74, List.size_toArray, List.length_cons, List.length_nil, Nat.reduceAdd, Nat.reduceSub, Array.replicate_succ, Array.replicate_zero, List.push_toArray, List.append_toArray, List.nil_append, List.cons_append]
    gi_wp2
    refine (roundIn_wide HR.out).mono ?_
    rintro e W3 (⟨rfl, hJ3, hk3⟩ | ⟨rfl, hJx3, hk3⟩)
    · have hcB : CellsAt W3 Bv 0 (vcells k b i f t ty p its.length c q fs.length d) := fun j x hx => (World.cell?_of_block (hk3.block Bv (.inl (.inr rfl)) hBW0)).trans (HCB.out j x hx)
      have hyb3 : Boxed W3 W.heap.size 119 (.func (.yield l) #[] #[]) := (hk3.block _ (.inr (Nat.le_refl _)) (by omega)).trans HYB.out
      have hv3 : IsV n₀ W3 (.mk k b i f t ty its fs) (vcells k b i f t ty p its.length c q fs.length d) := HV0.out.below (hk3.below (fun k h => .inl (.inl h)) (by omega)) (Nat.le_refl _)
      have hs3 : W0.heap.size ≤ W3.heap.size := hk3.size
      have HJ3 := Lib.hid hJ3
      have HK3 := Lib.hid hk3
      clear a0 a1 a2 a3 a4 a5 a6 a7
      obtain ⟨a0, a1, a2, a3, a4, a5, a6, a7⟩ := hcB.all0
      have hB3 : Bv < W3.heap.size := by omega
      clear hJ3 hk3 hcB hW0 hy HR HV0 HCB
      gi_wp2_with (refine ⟨trivial, ?_⟩; gi_at_call 53; refine (callsIn_wide.2 (children_any _ _ rfl)).mono ?_; rintro e wk ⟨rfl, rfl⟩)
      obtain ⟨W4, hW4, hb4, hs4, hc4⟩ : ∃ W4, W3.alloc (.cells (vcells k b i f t ty p its.length c q fs.length d) 27) = W4 ∧ Below W3.heap.size W3 W4 ∧ W4.heap.size = W3.heap.size + 1 ∧ CellsAt W4 W3.heap.size 0 (vcells k b i f t ty p its.length c q fs.length d) := ⟨_, rfl, (Below.refl _ _).alloc (Nat.le_refl _) _, by simp, cellsAt_alloc _ _ _ _⟩
      rw [hW4]
      clear hW4 a0 a1 a2 a3 a4 a5 a6 a7
      have hv4 := hv3.below (hb4.mono (by omega : n₀ ≤ W3.heap.size)) (Nat.le_refl _)
      have hyb4 : Boxed W4 W.heap.size 119 (.func (.yield l) #[] #[]) := (hb4.block _ (by omega)).trans hyb3
      have hn4 : n₀ ≤ W4.heap.size := by omega
      have hJ4 := ownFrom_grow HJ.out HJ3.out hb4
      have HJ4 : Hid (∃ ys : List Wp, ys.map Wp.pv = ([], .mk k b i f t ty its fs) :: (([] : List (St × V))).flatMap under ∧ J ys W4) := Lib.hid ⟨_, rfl, hJ4⟩
      clear hJ4 hb4 hyb3 hv3 HJ3
      have hJo : OwnFrom W4.heap.size J := ownFrom_mono HJ.out (by omega)
      have hJxo : OwnFrom W4.heap.size Jx := ownFrom_mono HJX.out (by omega)
      have HPU := Lib.hid (parts_under (.mk k b i f t ty its fs))
      refine wpIn_rangeFunc_ownH rfl (by decide) (gf := 99) (lb := #[.pointer (some ⟨W3.heap.size, 0, none⟩)]) rfl trivial (enters_of Tryd.func99 (by kernel_rfl) rfl)
        (kids_stops 19 (by decide) n₀ W3.heap.size (.mk k b i f t ty its fs) (vcells k b i f t ty p its.length c q fs.length d) W4 (by omega) hn4 hc4 hv4) belowK_t (belowK_b hn4) (Below.refl _ _) (fun _ => rfl)
        (fun pre V => ((∃ ys : List Wp, ys.map Wp.pv = ([], .mk k b i f t ty its fs) :: (pre.map Kid.sv).flatMap under ∧ J ys V) ∧ Boxed V W.heap.size 119 (.func (.yield l) #[] #[])) ∧ Below n₀ W4 V)
        (fun cc pre V => cc = .ret ∧ ∃ (ys : List Wp) (pre0 : List (St × YtnmnmkdmnohbmaaDoor.V)) (x0 : St × YtnmnmkdmnohbmaaDoor.V) (t0 : List (List St × YtnmnmkdmnohbmaaDoor.V)), (pre.map Kid.sv = pre0 ++ [x0] ∧ t0 <+: under x0 ∧ ys.map Wp.pv = (([], .mk k b i f t ty its fs) :: pre0.flatMap under) ++ t0) ∧ Jx ys V)
        (OwnFrom.and (OwnFrom.and (fun s A B row hs hg hr => by obtain ⟨ys, h1, h2⟩ := hs; exact ⟨ys, h1, hJo ys A B row h2 hg hr⟩) (Own.from (boxed_own _ _ _) _)) (ownFrom_below hn4 hn4))
        (fun cc s A B row hs hg hr => by obtain ⟨h0, ys, q0, q1, q2, h1, h2⟩ := hs; exact ⟨h0, ys, q0, q1, q2, h1, hJxo ys A B row h2 hg hr⟩)
        ⟨⟨HJ4.out, hyb4⟩, Below.refl _ _⟩
        (fun x a' V => ∃ B1 B2, W4.heap.size ≤ B1 ∧ B1 < B2 ∧ V.heap[B1]? = some (.cells x.1.1.cells 34 (0, 0)) ∧ V.heap[B2]? = some (.cells x.1.2.2 27 (0, 0)) ∧ a' = { tmps := #[.func (.yield l) #[] #[], .pointer (some ⟨Bv, 0, none⟩), .pointer (some ⟨W.heap.size, 0, none⟩), .pointer (some ⟨B1, 0, none⟩), .pointer (some ⟨B2, 0, none⟩), undef, undef, undef, .func (.yield l) #[] #[], .slice (some ⟨W.heap.size + 1, 0, none⟩) 0 0, .agg (vcells k b i f t ty p its.length c q fs.length d), .bool true, .bool false, .agg (vcells k b i f t ty p its.length c q fs.length d), .func (.func 99) #[] #[.pointer (some ⟨W3.heap.size, 0, none⟩)], .agg x.1.1.cells, .agg x.1.2.2, undef, undef, undef, undef, undef, undef, undef, undef, undef, undef, undef, undef, undef, undef, undef, undef, undef, undef, undef], defers := [] })
        ?hAx ?assign ?body ?done ?stop
      case hAx =>
        rintro x a' _ A B row ⟨B1, B2, h1, h2, h3, h4, h5⟩ hg hr
        have hk : ∀ (g : Nat) (cs : Array Value) (ty : TypeId), A.heap[g]? = some (Obj.cells cs ty (0, 0)) → B.heap[g]? = some (Obj.cells cs ty (0, 0)) := fun g cs ty hh => (hg.block g (Array.getElem?_eq_some_iff.1 hh).1 (fun e => by
          obtain ⟨_, o, ho, hc⟩ := hr g e.symm
          rw [hh] at ho
          cases ho
          cases hc)).trans hh
        exact ⟨B1, B2, h1, h2, hk _ _ _ h3, hk _ _ _ h4, h5⟩
      case assign =>
        rintro l2 pre ⟨⟨⟨sn, si, sb⟩, xv, xcs⟩, hx⟩ V K ⟨⟨⟨ys, hys, hjy⟩, hyb⟩, hB⟩ hK
        have hx0 := hx
        obtain ⟨xk, xb, xi, xf, xt, xty, xits, xfs⟩ := xv
        obtain ⟨⟨xp, xc, xq, xd, hcs, _⟩, _⟩ := hx0
        dsimp only at hcs
        subst hcs
        dsimp only [kidEnc, St.cells]
        have hbs := hB.size
        gi_wp2
        have hbV : Below V.heap.size V ((V.alloc (.cells #[.string sn, .int .i64 si, .bool sb] 34)).alloc (.cells (vcells xk xb xi xf xt xty xp xits.length xc xq xfs.length xd) 27)) := ((Below.refl _ V).alloc (Nat.le_refl _) _).alloc (by simp) _
        refine hK _ _ (((KeepsOthers.alloc _ _).from _).trans ((KeepsOthers.alloc _ _).from _)) (hbV.mono (by omega)) ⟨⟨⟨ys, hys, ownFrom_grow hJo hjy hbV⟩, (hyb.alloc _).alloc _⟩, hB.trans (hbV.mono (by omega))⟩ ⟨V.heap.size, V.heap.size + 1, hbs, by omega, ?_, ?_, rfl⟩
        · exact (Below.heap_alloc _ _ _ (by simp)).trans (heap_new _ _)
        · have := heap_new (V.alloc (.cells #[.string sn, .int .i64 si, .bool sb] 34)) (.cells (vcells xk xb xi xf xt xty xp xits.length xc xq xfs.length xd) 27)
          rw [World.size_alloc] at this
          exact this
      case body =>
        rintro l2 pre ⟨⟨s, xv, xcs⟩, hx⟩ a' V hl2 hrl ⟨⟨⟨ys, hys, hjy⟩, hyb⟩, hB⟩ ⟨B1, B2, hB1, hB12, bS, bX, rfl⟩ _
        obtain ⟨rr, hrl⟩ := hrl
        replace bX : V.heap[B2]? = some (.cells xcs 27 (0, 0)) := bX
        replace bS : V.heap[B1]? = some (.cells s.cells 34 (0, 0)) := bS
        have hx0 := hx
        obtain ⟨hvx, hkx⟩ := hx0
        have hsz := isKid_size hkx
        dsimp only at hvx hkx hsz
        have hxN : szV xv ≤ N ∧ szV xv ≤ 1000000 := by have := HN.out; omega
        have hbs := hB.size
        have hlX : B2 < V.heap.size := (Array.getElem?_eq_some_iff.1 bX).1
        have hnx : (([], YtnmnmkdmnohbmaaDoor.V.mk k b i f t ty its fs) :: ((pre ++ [(⟨(s, xv, xcs), hx⟩ : Kid n₀ W4 (.mk k b i f t ty its fs))]).map Kid.sv).flatMap under) = (([], .mk k b i f t ty its fs) :: (pre.map Kid.sv).flatMap under) ++ (partsV [] xv).map (fun y => (s :: y.1, y.2)) := by
          rw [List.map_append, List.flatMap_append, List.cons_append]
          simp [Kid.sv, under]
        have HNX := Lib.hid hnx
        clear hnx
        have HPRE : Hid ((pre ++ [(⟨(s, xv, xcs), hx⟩ : Kid n₀ W4 (.mk k b i f t ty its fs))]).map Kid.sv = pre.map Kid.sv ++ [(s, xv)]) := Lib.hid (by rw [List.map_append]; rfl)
        have HUND : Hid (under (s, xv) = (partsV [] xv).map (fun y => (s :: y.1, y.2))) := Lib.hid rfl
        have HL0 : Hid ((([], YtnmnmkdmnohbmaaDoor.V.mk k b i f t ty its fs) :: (pre.map Kid.sv).flatMap under) = (([], YtnmnmkdmnohbmaaDoor.V.mk k b i f t ty its fs) :: (pre.map Kid.sv).flatMap under)) := Lib.hid rfl
        generalize pre ++ [(⟨(s, xv, xcs), hx⟩ : Kid n₀ W4 (.mk k b i f t ty its fs))] = pre' at *
        dsimp only
        obtain ⟨xk, xb, xi, xf, xt, xty, xits, xfs⟩ := xv
        have HVX := Lib.hid (hvx.below hB (Nat.le_refl _))
        obtain ⟨xp, xc, xq, xd, hcs, _⟩ := hvx
        subst hcs
        obtain ⟨d0, d1, d2, d3, d4, d5, d6, d7⟩ := (block_of_cells bX).all0
        have HBV := Lib.hid hB
        have HJY := Lib.hid hjy
        have HYS := Lib.hid hys
        have HYV := Lib.hid hyb
        have HBS := Lib.hid bS
        have HRL := Lib.hid hrl
        have HKX := Lib.hid hsz
        clear hx hkx hsz hB hjy hys hyb bS bX hrl
        gi_wp2_with (refine ⟨trivial, ?_⟩; gi_at_call 33; refine (CallsIn.inRound l2 (callsIn_wide.2 (Walk_any _ _))).mono ?_; rintro e wk ⟨rfl, rfl⟩)
        obtain ⟨W5, hW5, hb5, hs5, hc5⟩ : ∃ W5, V.alloc (.cells #[.int .i64 xk, .bool xb, .int .i64 xi, .float .f64 xf, .string xt, .string xty, .slice xp xits.length xc, .slice xq xfs.length xd] 27) = W5 ∧ Below V.heap.size V W5 ∧ W5.heap.size = V.heap.size + 1 ∧ CellsAt W5 V.heap.size 0 (vcells xk xb xi xf xt xty xp xits.length xc xq xfs.length xd) := ⟨_, rfl, (Below.refl _ _).alloc (Nat.le_refl _) _, by simp, cellsAt_alloc _ _ _ _⟩
        rw [hW5]
        clear hW5 d0 d1 d2 d3 d4 d5 d6 d7
        have hnV : n₀ ≤ V.heap.size := by omega
        have hlS : B1 < V.heap.size := (Array.getElem?_eq_some_iff.1 HBS.out).1
        have hv5 := HVX.out.below (hb5.mono hnV) (Nat.le_refl _)
        have hn5 : n₀ ≤ W5.heap.size := by omega
        have HT := Lib.hid (show Tells (Fence.wide.inRound l2) 17 Tryd.prog 74 #[.pointer (some ⟨V.heap.size, 0, none⟩)] wEnc (fun k => k < n₀ ∨ k = V.heap.size) (WOk n₀ (szV (.mk xk xb xi xf xt xty xits xfs))) (fun xs => xs.map Wp.pv = partsV [] (.mk xk xb xi xf xt xty xits xfs)) (fun pre2 => pre2.map Wp.pv <+: partsV [] (.mk xk xb xi xf xt xty xits xfs)) W5 from IH.out (.mk xk xb xi xf xt xty xits xfs) hxN.1 17 n₀ V.heap.size (vcells xk xb xi xf xt xty xp xits.length xc xq xfs.length xd) W5 (by omega) hn5 hc5 hv5 hxN.2)
        have hJ5 := ownFrom_grow hJo HJY.out hb5
        have hyb5 : Boxed W5 W.heap.size 119 (.func (.yield l) #[] #[]) := (hb5.block _ HYV.out.lt).trans HYV.out
        have hS5 : W5.heap[B1]? = some (.cells s.cells 34 (0, 0)) := (hb5.block _ hlS).trans HBS.out
        have hr5 : W5.heap[l2]? = some (.loop rr) := (hb5.block _ (Array.getElem?_eq_some_iff.1 HRL.out).1).trans HRL.out
        have HNX2 := Lib.hid (show ∀ xs : List Wp, xs.map Wp.pv = partsV [] (.mk xk xb xi xf xt xty xits xfs) → xs.map (fun z => (s :: z.path, z.u)) = (partsV [] (.mk xk xb xi xf xt xty xits xfs)).map (fun y => (s :: y.1, y.2)) from fun xs h => by rw [← h, List.map_map]; rfl)
        have hk5 : KeepsFrom W4.heap.size V W5 := ⟨hb5.size, fun k o _ hk _ => (hb5.block k (Array.getElem?_eq_some_iff.1 hk).1).trans hk⟩
        have hb5n := hb5.mono hnV
        generalize szV (.mk xk xb xi xf xt xty xits xfs) = SX at *
        generalize partsV [] (.mk xk xb xi xf xt xty xits xfs) = PX at *
        clear HL0
        obtain ⟨L0, hL0⟩ : ∃ L0, (([], YtnmnmkdmnohbmaaDoor.V.mk k b i f t ty its fs) :: (pre.map Kid.sv).flatMap under) = L0 := ⟨_, rfl⟩
        have HL0 := Lib.hid hL0
        rw [hL0] at HNX HYS
        clear hL0
        have HJo := Lib.hid hJo
        have HJxo := Lib.hid hJxo
        have hsY : W.heap.size < V.heap.size := HYV.out.lt
        refine wpIn_range_in (l₀ := l2) (r₀ := rr) rfl hr5 (by decide) (gf := 74) (lb := #[.pointer (some ⟨V.heap.size, 0, none⟩)]) rfl trivial (enters_of Tryd.func74 (by kernel_rfl) rfl) HT.out
          (fun k hk => by rcases hk with hk | hk <;> omega) (Below.refl _ _) (fun _ => rfl)
          (fun pre2 V' => ((((∃ ys : List Wp, ys.map Wp.pv = L0 ++ pre2.map (fun z => (s :: z.path, z.u)) ∧ J ys V') ∧ Boxed V' W.heap.size 119 (.func (.yield l) #[] #[])) ∧ V'.heap[B1]? = some (.cells s.cells 34 (0, 0))) ∧ Below n₀ V V') ∧ KeepsFrom W4.heap.size V V')
          (fun cc pre2 V' => (cc = .ret ∧ ∃ ys : List Wp, ys.map Wp.pv = L0 ++ pre2.map (fun z => (s :: z.path, z.u)) ∧ Jx ys V') ∧ KeepsFrom W4.heap.size V V')
          (OwnFrom.and (OwnFrom.and (OwnFrom.and (OwnFrom.and (fun s A B row hs hg hr => by obtain ⟨ys, h1, h2⟩ := hs; exact ⟨ys, h1, ownFrom_mono hJo (by omega) ys A B row h2 hg hr⟩) (Own.from (boxed_own _ _ _) _)) (fun _ => cells_own ())) (ownFrom_below hnV (by omega))) (ownFrom_keepsFrom (by omega)))
          (fun cc => OwnFrom.and (fun s A B row hs hg hr => by obtain ⟨h0, ys, h1, h2⟩ := hs; exact ⟨h0, ys, h1, ownFrom_mono hJxo (by omega) ys A B row h2 hg hr⟩) (ownFrom_keepsFrom (by omega)))
          ⟨⟨⟨⟨⟨ys, by rw [HYS.out]; simp, hJ5⟩, hyb5⟩, hS5⟩, hb5n⟩, hk5⟩
          (fun z a' V' => (WOk n₀ SX z V' ∧ n₀ ≤ V'.heap.size) ∧ ∃ B3, V'.heap[B3]? = some (.cells z.cs 27 (0, 0)) ∧ a' = { tmps := #[.func (.yield l) #[] #[], .pointer (some ⟨Bv, 0, none⟩), .pointer (some ⟨W.heap.size, 0, none⟩), .pointer (some ⟨B1, 0, none⟩), .pointer (some ⟨B2, 0, none⟩), z.sv, .pointer (some ⟨B3, 0, none⟩), undef, .func (.yield l) #[] #[], .slice (some ⟨W.heap.size + 1, 0, none⟩) 0 0, .agg (vcells k b i f t ty p its.length c q fs.length d), .bool true, .bool false, .agg (vcells k b i f t ty p its.length c q fs.length d), .func (.func 99) #[] #[.pointer (some ⟨W3.heap.size, 0, none⟩)], .agg s.cells, .agg (vcells xk xb xi xf xt xty xp xits.length xc xq xfs.length xd), .agg (vcells xk xb xi xf xt xty xp xits.length xc xq xfs.length xd), .func (.func 74) #[] #[.pointer (some ⟨V.heap.size, 0, none⟩)], z.sv, .agg z.cs, undef, undef, undef, undef, undef, undef, undef, undef, undef, undef, undef, undef, undef, undef, undef], defers := [] })
          ?hAx2 ?assign2 ?body2 ?done2 ?stop2
        case hAx2 =>
          rintro z a' _ A B row ⟨h1, B3, h3, h4⟩ hg hr
          exact ⟨wok_own z hn5 () A B row h1 hg hr, B3, cells_own () A B row h3 hg hr, h4⟩
        case assign2 =>
          rintro l3 pre2 ⟨zsv, zpath, zu, zcs⟩ V' K ⟨⟨⟨⟨⟨ys', hys', hjy'⟩, hyb'⟩, hS'⟩, hB'⟩, hk'⟩ hok hK
          have hok0 := hok
          obtain ⟨hok1, hok2, hok3⟩ := hok
          dsimp only at hok1 hok2 hok3
          obtain ⟨zk, zb, zi, zf, zt, zty, zits, zfs⟩ := zu
          obtain ⟨zp, zc, zq, zd, hcs, _⟩ := hok3
          subst hcs
          dsimp only [wEnc]
          gi_wp2
          have hbA : Below V'.heap.size V' (V'.alloc (.cells #[.int .i64 zk, .bool zb, .int .i64 zi, .float .f64 zf, .string zt, .string zty, .slice zp zits.length zc, .slice zq zfs.length zd] 27)) := (Below.refl _ _).alloc (Nat.le_refl _) _
          have hnV' : n₀ ≤ V'.heap.size := Nat.le_trans hnV hB'.size
          refine hK _ _ (Still.of_below hbA) ⟨⟨⟨⟨⟨ys', hys', ownFrom_grow hJo hjy' hbA⟩, hyb'.alloc _⟩, (hbA.block _ (Array.getElem?_eq_some_iff.1 hS').1).trans hS'⟩, hB'.trans (hbA.mono hnV')⟩, hk'.trans ⟨hbA.size, fun k o _ hk _ => (hbA.block k (Array.getElem?_eq_some_iff.1 hk).1).trans hk⟩⟩ ⟨⟨⟨hok0.1, hok0.2.1.kept (grown_b hbA none) (by cases zsv.ownBlock <;> simp), hok0.2.2.below (hbA.mono hnV') (Nat.le_refl _)⟩, Nat.le_trans hnV' hbA.size⟩, V'.heap.size, heap_new _ _, rfl⟩
        case body2 =>
          rintro l3 pre2 ⟨zsv, zpath, zu, zcs⟩ a' V' hl3 _ ⟨⟨⟨⟨⟨ys', hys', hjy'⟩, hyb'⟩, hS'⟩, hB'⟩, hk'⟩ ⟨⟨⟨hok1, hok2, hok3⟩, hnV'⟩, B3, bZ, rfl⟩
          dsimp only at hok1 hok2 hok3 bZ
          obtain ⟨pp, pc, rfl, hp0, hsrc⟩ := row_src hok2
          have HP0 := Lib.hid hp0
          have HSRC := Lib.hid hsrc
          have HOK3 := Lib.hid hok3
          have HBZ := Lib.hid bZ
          have HYS' := Lib.hid hys'
          have HJY' := Lib.hid hjy'
          have HYB' := Lib.hid hyb'
          have HS' := Lib.hid hS'
          have HB' := Lib.hid hB'
          have HK' := Lib.hid hk'
          have HOK2 := Lib.hid hok2
          obtain ⟨zk, zb, zi, zf, zt, zty, zits, zfs⟩ := zu
          obtain ⟨zp, zc, zq, zd, hcs, _⟩ := hok3
          subst hcs
          obtain ⟨sn, si, sb⟩ := s
          have hlen : zpath.length + 1 ≤ 1000000 := by have := szV_pos (YtnmnmkdmnohbmaaDoor.V.mk zk zb zi zf zt zty zits zfs); omega
          have hlB1 : B1 < V'.heap.size := (Array.getElem?_eq_some_iff.1 hS').1
          clear hp0 hsrc bZ hys' hjy' hyb' hS' hB' hk' hok2
          dsimp only [St.cells]
          have tk := trivial
          have hS'l := HS'.out
          gi_wp2_with (first
            | (refine wpListIn_make _ rfl 29 _ _ rfl (zpath.length + 1) rfl (by first | rfl | (simp [Act.eval]; done)) V'.heap.size 34 (.agg #[.string ⟨#[]⟩, .int .i64 0, .bool false]) 3 32 Tryd.underlying29 (by kernel_rfl) (by omega) (by omega) (by unfold maxLen; omega) (Nat.le_refl _) ?_; intro w6 hrow6 hgr6; have hS6 : w6.heap[B1]? = some (.cells (St.mk sn si sb).cells 34 (0, 0)) := (hgr6.block _ hlB1 (fun e => by cases e)).trans hS'l; obtain ⟨e0, e1, e2⟩ := step_reads hS6; have hl6 : B1 < w6.heap.size := Nat.lt_of_lt_of_le hlB1 hgr6.size; have HROW6 := Lib.hid hrow6; have HGR6 := Lib.hid hgr6; clear hrow6 hgr6 hS6)
            | (gi_at_builtin; go_loud (clear tk; have hb7 := heap_new w6 (.cells #[.string sn, .int .i64 si, .bool sb] 34); obtain ⟨f0, f1, f2⟩ := step_reads (x := St.mk sn si sb) hb7; refine wpListIn_append_y _ rfl _ _ 29 rfl V'.heap.size 34 (.agg #[.string ⟨#[]⟩, .int .i64 0, .bool false]) 3 32 Tryd.underlying29 (by kernel_rfl) rfl (by decide) _ 0 _ rfl (HROW6.out.kept (World.grownBy_alloc w6 _ none) (by simp [Value.ownBlock])) (some ⟨w6.heap.size, 0, none⟩) 1 1 [.string sn, .int .i64 si, .bool sb] rfl rfl (fun e => by cases e) (fun a ha j u hu => by cases ha; rw [addr_add, Nat.zero_add]; match j, hu with | 0, hu => cases hu; exact f0 | 1, hu => cases hu; exact f1 | 2, hu => cases hu; exact f2 | j + 3, hu => simp at hu) (by intro u hu; simp at hu; rcases hu with rfl | rfl | rfl <;> rfl) (by unfold maxLen; omega) (by omega) (by have := HGR6.out.size; simp; omega) ?_; intro v7 w7 hrow7 hgr7; clear f0 f1 f2 hb7; have HROW7 := Lib.hid hrow7; have HGR7 := Lib.hid hgr7; obtain ⟨p7, c7, rfl⟩ := row_slice hrow7; clear hrow7 hgr7)))
          have hvl7 : w6.heap.size < w7.heap.size := by have := HGR7.out.size; simp at this; omega
          have hb67 : Below V'.heap.size V' w7 := ((Below.refl _ V').grown HGR6.out (Nat.le_refl _) (fun y hy => by cases hy)).trans (((Below.refl _ w6).alloc HGR6.out.size _).grown HGR7.out (by have := HGR6.out.size; simp; omega) (fun y hy => by cases hy; exact Nat.le_refl _))
          have hY7 : Boxed w7 W.heap.size 119 (.func (.yield l) #[] #[]) := (hb67.block _ HYB'.out.lt).trans HYB'.out
          have hlB3 : B3 < V'.heap.size := (Array.getElem?_eq_some_iff.1 HBZ.out).1
          have hZ7 : CellsAt w7 B3 0 (vcells zk zb zi zf zt zty zp zits.length zc zq zfs.length zd) := block_of_cells ((hb67.block _ hlB3).trans HBZ.out)
          have HB67 := Lib.hid hb67
          have HY7 := Lib.hid hY7
          have HZ7 := Lib.hid hZ7
          clear e0 e1 e2 hb67 hY7 hZ7
          have hF : (Fence.wide.inRound l2).inRound l3 = Fence.wide.inRound l3 := rfl
          rw [hF]
          clear hF
          refine wpD_region_plan 5 [(0, [0, 1, 2, 4]), (1, [3]), (2, [5, 6])] (NineCls W.heap.size B3 (.func (.yield l) #[] #[]) (.int .i64 zk) (.bool zb) (.int .i64 zi) (.float .f64 zf) (.string zt) (.string zty) (.slice zp zits.length zc) (.slice zq zfs.length zd)) (by kernel_rfl) (by kernel_rfl) (by kernel_rfl) (nine_of (w := { w7 with drawn := w7.drawn + 1 }) HY7.out.cell HZ7.out) (fun _ _ _ _ h => h) ?_
          simp only [wpSegsD, pickOps, List.getElem?_toArray, List.getElem?_cons_zero, List.getElem?_cons_succ]
          have kc0 := fun z : NineW W.heap.size B3 (.func (.yield l) #[] #[]) (.int .i64 zk) (.bool zb) (.int .i64 zi) (.float .f64 zf) (.string zt) (.string zty) (.slice zp zits.length zc) (.slice zq zfs.length zd) => z.hy
          have kc1 := fun z : NineW W.heap.size B3 (.func (.yield l) #[] #[]) (.int .i64 zk) (.bool zb) (.int .i64 zi) (.float .f64 zf) (.string zt) (.string zty) (.slice zp zits.length zc) (.slice zq zfs.length zd) => z.h0
          have kc2 := fun z : NineW W.heap.size B3 (.func (.yield l) #[] #[]) (.int .i64 zk) (.bool zb) (.int .i64 zi) (.float .f64 zf) (.string zt) (.string zty) (.slice zp zits.length zc) (.slice zq zfs.length zd) => z.h1
          have kc3 := fun z : NineW W.heap.size B3 (.func (.yield l) #[] #[]) (.int .i64 zk) (.bool zb) (.int .i64 zi) (.float .f64 zf) (.string zt) (.string zty) (.slice zp zits.length zc) (.slice zq zfs.length zd) => z.h2
          have kc4 := fun z : NineW W.heap.size B3 (.func (.yield l) #[] #[]) (.int .i64 zk) (.bool zb) (.int .i64 zi) (.float .f64 zf) (.string zt) (.string zty) (.slice zp zits.length zc) (.slice zq zfs.length zd) => z.h3
          have kc5 := fun z : NineW W.heap.size B3 (.func (.yield l) #[] #[]) (.int .i64 zk) (.bool zb) (.int .i64 zi) (.float .f64 zf) (.string zt) (.string zty) (.slice zp zits.length zc) (.slice zq zfs.length zd) => z.h4
          have kc6 := fun z : NineW W.heap.size B3 (.func (.yield l) #[] #[]) (.int .i64 zk) (.bool zb) (.int .i64 zi) (.float .f64 zf) (.string zt) (.string zty) (.slice zp zits.length zc) (.slice zq zfs.length zd) => z.h5
          have kc7 := fun z : NineW W.heap.size B3 (.func (.yield l) #[] #[]) (.int .i64 zk) (.bool zb) (.int .i64 zi) (.float .f64 zf) (.string zt) (.string zty) (.slice zp zits.length zc) (.slice zq zfs.length zd) => z.h6
          have kc8 := fun z : NineW W.heap.size B3 (.func (.yield l) #[] #[]) (.int .i64 zk) (.bool zb) (.int .i64 zi) (.float .f64 zf) (.string zt) (.string zty) (.slice zp zits.length zc) (.slice zq zfs.length zd) => z.h7
          have hne : Nonempty (NineW W.heap.size B3 (.func (.yield l) #[] #[]) (.int .i64 zk) (.bool zb) (.int .i64 zi) (.float .f64 zf) (.string zt) (.string zty) (.slice zp zits.length zc) (.slice zq zfs.length zd)) := by
            obtain ⟨z, _⟩ := nine_of (Y := W.heap.size) HY7.out.cell HZ7.out
            exact ⟨z⟩
          iterate 4 (go_big_quiet_step (fail))
          refine wpQuiet_nil ?_
          clear kc0 kc1 kc2 kc3 kc4 kc5 kc6 kc7 kc8 hne
          have hrow8 : ({ w7 with drawn := w7.drawn + 1 } : World).ownsRow V'.heap.size 34 3 (.slice p7 1 c7) 1 ([] ++ [.string sn, .int .i64 si, .bool sb]) := HROW7.out
          have hb8 : Below V'.heap.size V' { w7 with drawn := w7.drawn + 1 } := HB67.out.trans (Below.drew (Below.refl _ w7))
          have hY8 : Boxed { w7 with drawn := w7.drawn + 1 } W.heap.size 119 (.func (.yield l) #[] #[]) := HY7.out
          have hZ8 : CellsAt { w7 with drawn := w7.drawn + 1 } B3 0 (vcells zk zb zi zf zt zty zp zits.length zc zq zfs.length zd) := HZ7.out
          have hss8 : V'.heap.size ≤ ({ w7 with drawn := w7.drawn + 1 } : World).heap.size := hb8.size
          clear hvl7
          generalize ({ w7 with drawn := w7.drawn + 1 } : World) = w8 at *
          have HROW8 := Lib.hid hrow8
          have HB8 := Lib.hid hb8
          have HY8 := Lib.hid hY8
          have HZ8 := Lib.hid hZ8
          clear hrow8 hb8 hY8 hZ8 HROW7 HB67 HY7 HZ7 HGR7 HROW6 HGR6
          refine wpListC_plain rfl (fun K hK => ?_)
          refine wp_append_y (P := Tryd.prog) (w := w8) (.tmp 30) (.tmp 31) 29 rfl V'.heap.size 34 (.agg #[.string ⟨#[]⟩, .int .i64 0, .bool false]) 3 32 Tryd.underlying29 (by kernel_rfl) rfl (by decide) _ 1 _ rfl HROW8.out pp zpath.length pc (flatS zpath) rfl (flatS_len zpath) HP0.out ?s1 (flatS_one zpath) ?s2 ?s3 hss8 ?_
          case s1 =>
            intro a ha j u hu
            have h1 := HSRC.out a ha j u hu
            have h2 := World.block_lt_of_cell? V' _ h1
            exact (HB8.out.cell h2).trans h1
          case s2 => unfold maxLen; omega
          case s3 => omega
          intro v9 w9 hrow9 hgr9
          obtain ⟨p9, c9, rfl⟩ := row_slice hrow9
          have hne : ∀ kk, kk < V'.heap.size → some kk ≠ (Value.slice p7 1 c7).ownBlock := fun kk hkk e => by have := (HROW8.out.lt _ e.symm).1; omega
          have hb9 : Below V'.heap.size V' w9 := HB8.out.grown hgr9 hss8 (fun y hy => (HROW8.out.lt y hy).1)
          have hY9 : Boxed w9 W.heap.size 119 (.func (.yield l) #[] #[]) := (hb9.block _ HYB'.out.lt).trans HYB'.out
          have hZ9 : CellsAt w9 B3 0 (vcells zk zb zi zf zt zty zp zits.length zc zq zfs.length zd) := block_of_cells ((hb9.block _ hlB3).trans HBZ.out)
          refine hK _ _ (nine_of hY9.cell hZ9) ?_
          clear hK K
          have hJ9 := ownFrom_grow hJo HJY'.out hb9
          have hok9 : WOk n₀ (szV (YtnmnmkdmnohbmaaDoor.V.mk k b i f t ty its fs)) ⟨.slice p9 (1 + zpath.length) c9, ⟨sn, si, sb⟩ :: zpath, .mk zk zb zi zf zt zty zits zfs, vcells zk zb zi zf zt zty zp zits.length zc zq zfs.length zd⟩ w9 := by
            refine ⟨?_, ?_, HOK3.out.below (hb9.mono hnV') (Nat.le_refl _)⟩
            · have := HKX.out
              simp only [List.length_cons]
              omega
            · have h1 : w9.ownsRow n₀ 34 3 (.slice p9 (1 + zpath.length) c9) (1 + zpath.length) ([] ++ [.string sn, .int .i64 si, .bool sb] ++ flatS zpath) := ownsRow_base hrow9 hnV'
              have h2 : flatS ((⟨sn, si, sb⟩ : St) :: zpath) = [] ++ [.string sn, .int .i64 si, .bool sb] ++ flatS zpath := by simp [flatS, St.cells]
              have h3 : ((⟨sn, si, sb⟩ : St) :: zpath).length = 1 + zpath.length := by simp only [List.length_cons]; omega
              dsimp only
              rw [h2, h3]
              exact h1
          obtain ⟨fn2, tmps2, assign3, body3, hy2, hR2⟩ := HY.out ys' ⟨.slice p9 (1 + zpath.length) c9, ⟨sn, si, sb⟩ :: zpath, .mk zk zb zi zf zt zty zits zfs, vcells zk zb zi zf zt zty zp zits.length zc zq zfs.length zd⟩ w9 hJ9 hok9
          have HR2 := Lib.hid hR2
          dsimp only [wEnc] at hy2
          have HB9 := Lib.hid hb9
          have HY9 := Lib.hid hY9
          clear hrow9 hgr9 hne hZ9 hJ9 hok9 hR2 hb9 hY9
          refine wpListC_nil ?_
          simp only [wpSegsD, pickOps, List.getElem?_toArray, List.getElem?_cons_zero, List.getElem?_cons_succ]
          gi_wp2
          refine (roundIn_wide (n := 19) HR2.out).mono ?_
          rintro e w10 (⟨rfl, hJ10, hk10⟩ | ⟨rfl, hJx10, hk10⟩)
          · gi_wp2
            have hst1 : Still (fun kk => kk < n₀ ∨ kk = V.heap.size) W5.heap.size V' w9 := Still.of_below HB9.out
            have hst2 : Still (fun kk => kk < n₀ ∨ kk = V.heap.size) W5.heap.size w9 w10 := hk10.mono (fun kk h => by rcases h with h | h; exact .inl (.inl h); exact .inr (by omega)) (by omega)
            have hl9 := HB9.out.size
            have hbn : Below n₀ V' w10 := (HB9.out.mono hnV').trans (hk10.below (fun kk h => .inl (.inl h)) (by omega))
            have hkk : KeepsFrom W4.heap.size V' w10 := keepsFrom_mono ((Still.of_below (X := fun kk => kk < n₀ ∨ kk = Bv) (B := W.heap.size) HB9.out).trans hk10).keeps (by omega)
            refine ⟨hst1.trans hst2, ⟨⟨⟨⟨ys' ++ [⟨.slice p9 (1 + zpath.length) c9, ⟨sn, si, sb⟩ :: zpath, .mk zk zb zi zf zt zty zits zfs, vcells zk zb zi zf zt zty zp zits.length zc zq zfs.length zd⟩], ?_, hJ10⟩, (hk10.block _ (.inr (Nat.le_refl _)) HY9.out.lt).trans HY9.out⟩, ?_⟩, HB'.out.trans hbn⟩, HK'.out.trans hkk⟩
            · rw [List.map_append, HYS'.out, List.map_append, List.append_assoc]
              rfl
            · exact (hk10.block _ (.inr (by omega)) (by omega)).trans ((HB9.out.block _ hlB1).trans HS'.out)
          · gi_wp2
            have hst1 : Still (fun kk => kk < n₀ ∨ kk = V.heap.size) W5.heap.size V' w9 := Still.of_below HB9.out
            have hst2 : Still (fun kk => kk < n₀ ∨ kk = V.heap.size) W5.heap.size w9 w10 := hk10.mono (fun kk h => by rcases h with h | h; exact .inl (.inl h); exact .inr (by omega)) (by omega)
            have hkk : KeepsFrom W4.heap.size V' w10 := keepsFrom_mono ((Still.of_below (X := fun kk => kk < n₀ ∨ kk = Bv) (B := W.heap.size) HB9.out).trans hk10).keeps (by omega)
            refine ⟨hst1.trans hst2, ⟨rfl, _, ?_, hJx10⟩, HK'.out.trans hkk⟩
            rw [List.map_append, HYS'.out, List.map_append, List.append_assoc]
            rfl
        case done2 =>
          rintro xs V' hS ⟨⟨⟨⟨⟨ys', hys', hjy'⟩, hyb'⟩, hS'⟩, hB'⟩, hk'⟩
          gi_wp2
          exact ⟨hk', hB', ⟨⟨ys', by rw [HNX.out, hys', HNX2.out xs hS], hjy'⟩, hyb'⟩, HBV.out.trans hB'⟩
        case stop2 =>
          rintro cc pre2 V' hsp ⟨⟨rfl, ys', hys', hjx'⟩, hk'⟩
          have hpf : pre2.map (fun z => (s :: z.path, z.u)) <+: under (s, YtnmnmkdmnohbmaaDoor.V.mk xk xb xi xf xt xty xits xfs) := by
            rw [HUND.out]
            have := List.IsPrefix.map (fun y : List St × YtnmnmkdmnohbmaaDoor.V => (s :: y.1, y.2)) hsp
            rw [List.map_map] at this
            exact this
          gi_wp2
          exact ⟨hk', rfl, ys', _, _, _, ⟨HPRE.out, hpf, by rw [hys', HL0.out]⟩, hjx'⟩
      case done =>
        rintro D xs V hD hS ⟨⟨⟨ys, hys, hjy⟩, hyb⟩, hB⟩ hK
        gi_wp2
        refine ⟨by simp, .inl ⟨_, _, rfl, run_takeDeferred hK, ?_⟩⟩
        refine ⟨_, results_none rfl _ _ _, ⟨_, rfl⟩, .inl ⟨ys, ?_, hJo.putObj _ hjy hD hK rfl⟩⟩
        rw [HPU.out, ← hS]
        exact hys
      case stop =>
        rintro D cc pre V hD hpre ⟨rfl, ys, pre0, x0, t0, ⟨h1, h2, h3⟩, hjx⟩ hK
        have hpf : ys.map Wp.pv <+: partsV [] (.mk k b i f t ty its fs) := by
          rw [h3, HPU.out]
          obtain ⟨r1, hr1⟩ := hpre
          obtain ⟨r2, hr2⟩ := h2
          rw [h1] at hr1
          refine ⟨r2 ++ r1.flatMap under, ?_⟩
          rw [← hr1, List.flatMap_append, List.flatMap_append, List.flatMap_singleton, ← hr2]
          simp
        gi_wp2
        refine ⟨by simp, .inl ⟨_, _, rfl, run_takeDeferred hK, ?_⟩⟩
        exact ⟨_, results_none rfl _ _ _, ⟨_, rfl⟩, .inr ⟨ys, hpf, hJxo.putObj _ hjx hD hK rfl⟩⟩
    · gi_wp2
      refine ⟨_, results_none rfl _ _ _, ⟨_, rfl⟩, .inr ⟨_, ?_, hJx3⟩⟩
      rw [parts_under]
      exact ⟨_, rfl⟩
end Go.Proofs.YtnmnmkdmnohbmaaDoor
