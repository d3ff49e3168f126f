/- Several texts in one: A range over an iterator that hands over elements in memory laid while it runs: the iterator's word, and the law of the statement, at a function's own level and within a round. Helper text: a rule for regions that draw their order, where two operations may come in either order. Helper text: plans for regions that draw their order, with forks. Helper text: a plan for a region that draws its order, inside the round of a range over a function. A region that draws its order within a round, whose last operations may call yield: reads first, a chain, then the rest in its forced order. Conditions: none. -/
import Derived.RangeFuncNested
import Derived.Test.YtnmnmkdmnohbmaaDoorDraw
import Derived.OrdersIn
import Derived.TacticsIn
namespace Go.Proofs.YtnmnmkdmnohbmaaDoor
open Go Go.RowKit

/-- What a round leaves as it is: the blocks of X, and all from B on. -/
structure Still (X : Nat → Prop) (B : Nat) (V V' : World) : Prop where
  os : V'.os = V.os
  tape : V'.tape = V.tape
  output : V'.output = V.output
  size : V.heap.size ≤ V'.heap.size
  block : ∀ k, X k ∨ B ≤ k → k < V.heap.size → V'.heap[k]? = V.heap[k]?
theorem Still.refl (X : Nat → Prop) (B : Nat) (V : World) : Still X B V V := ⟨rfl, rfl, rfl, Nat.le_refl _, fun _ _ _ => rfl⟩
theorem Still.trans {X : Nat → Prop} {B : Nat} {V V1 V2 : World} (h1 : Still X B V V1) (h2 : Still X B V1 V2) : Still X B V V2 :=
  ⟨h2.os.trans h1.os, h2.tape.trans h1.tape, h2.output.trans h1.output, Nat.le_trans h1.size h2.size, fun k hk hl => (h2.block k hk (Nat.lt_of_lt_of_le hl h1.size)).trans (h1.block k hk hl)⟩
theorem Still.mono {X Y : Nat → Prop} {B C : Nat} {V V1 : World} (h : Still X B V V1) (hX : ∀ k, Y k → X k ∨ B ≤ k) (hC : B ≤ C) : Still Y C V V1 :=
  ⟨h.os, h.tape, h.output, h.size, fun k hk hl => h.block k (by rcases hk with hk | hk; exact hX k hk; exact .inr (Nat.le_trans hC hk)) hl⟩
theorem Still.of_below {X : Nat → Prop} {B : Nat} {V V1 : World} (h : Below V.heap.size V V1) : Still X B V V1 := ⟨h.os, h.tape, h.output, h.size, fun k _ hl => h.block k hl⟩
theorem Still.keeps {X : Nat → Prop} {B : Nat} {V V1 : World} (h : Still X B V V1) : KeepsFrom B V V1 :=
  ⟨h.size, fun k _ hk ho _ => (h.block k (.inr hk) (Array.getElem?_eq_some_iff.1 ho).1).trans ho⟩
theorem Still.below {X : Nat → Prop} {B n : Nat} {V V1 : World} (h : Still X B V V1) (hn : ∀ k, k < n → X k ∨ B ≤ k) (hV : n ≤ V.heap.size) : Below n V V1 :=
  ⟨h.os, h.tape, h.output, h.size, fun k hk => h.block k (hn k hk) (Nat.lt_of_lt_of_le hk hV)⟩

/-- How a round may be left. -/
def stillPost {α : Type} (X : Nat → Prop) (B : Nat) (I : List α → World → Prop) (Ix : Code → List α → World → Prop) (xs : List α) (V : World) : Exit → Act → World → Prop
  | .normal, _, V' => Still X B V V' ∧ I xs V'
  | .ret, _, V' => Still X B V V' ∧ Ix .ret xs V'
  | .exit id, _, V' => Still X B V V' ∧ Ix (.exit id) xs V'
  | .goto t, _, V' => Still X B V V' ∧ Ix (.goto t) xs V'
  | .panic _, _, _ => False
  | .outgrown, _, _ => False

/-- The iterator's word: at each call of yield it tells what holds there of the element. -/
def Tells {α : Type} (F : Fence) (n : Nat) (P : Program) (g : Nat) (lb : Array Value) (encs : α → Array Value) (X : Nat → Prop) (Ok : α → World → Prop) (S Sp : List α → Prop) (w : World) : Prop :=
  ∀ (l : Nat) (J Jx : List α → World → Prop) (W : World), Below w.heap.size w W → OwnFrom W.heap.size J → OwnFrom W.heap.size Jx →
    (∀ pre x V, J pre V → Ok x V → YieldAt F (n - 1) P l (encs x) V fun e V' =>
      (e = .returned (.bool true) ∧ J (pre ++ [x]) V' ∧ Still X W.heap.size V V') ∨ (e = .returned (.bool false) ∧ Jx (pre ++ [x]) V' ∧ Still X W.heap.size V V')) →
    J [] W →
    CallsIn F n P g (#[.func (.yield l) #[] #[]] ++ lb) W fun e W' => (∃ v, e = .returned v) ∧ ((∃ xs, S xs ∧ J xs W') ∨ (∃ pre, Sp pre ∧ Jx pre W'))

section
variable {α : Type} {F : Fence} {n : Nat} {P : Program}

theorem still_putObj {X : Nat → Prop} {B L : Nat} {V : World} {o' : Obj} (hn : ¬ X L) (hB : L < B) : Still X B V (V.putObj L o') := by
  refine ⟨rfl, rfl, rfl, by simp, fun k hk _ => World.putObj_heap_other (fun e => ?_)⟩
  subst e
  rcases hk with hk | hk
  · exact hn hk
  · omega

/-- The one call of the statement, between the loop's record laid and the record read. -/
theorem tells_core {fn : FuncId} {a : Act} {ps : Array Tmp} {assign body : Code} {gf : Nat} {lb : Array Value} {encs : α → Array Value} {Ok : α → World → Prop} {S Sp : List α → Prop} {X : Nat → Prop} {w0 w W1 : World} {L : Nat} {D : Option Nat}
    (recd : LoopState → Option Code → Loop) (df : Nat) (hrec : recd = fun st pe => { state := st, pending := pe, fn, tmps := a.tmps, params := ps, assign, body, defers := df })
    (hfn : F.fn fn) (hseq : Tells F (n - 1) P gf lb encs X Ok S Sp w0) (hX : ∀ k, X k → k < w.heap.size) (hb1 : Below w0.heap.size w0 W1) (hps : ∀ x, (encs x).size = ps.size)
    (hL : w.heap.size ≤ L) (hL1 : W1.heap[L]? = some (.loop (recd .ready none))) (hD : ∀ d, D = some d → w.heap.size ≤ d ∧ d ≠ L ∧ W1.heap[d]? = some (.deferred (some [])))
    (I : List α → World → Prop) (Ix : Code → List α → World → Prop) (hI : OwnFrom w.heap.size I) (hIx : ∀ c, OwnFrom w.heap.size (Ix c)) (h0 : I [] W1) (Ax : α → Act → World → Prop) (hAx : ∀ x a', OwnFrom w.heap.size (fun (_ : Unit) W => Ax x a' W))
    (hassign : ∀ (l : Nat) (pre : List α) (x : α) (V : World) (K : Act → World → Prop), I pre V → Ok x V → (∀ a' V', Still X w.heap.size V V' → I pre V' → Ax x a' V' → K a' V') →
      assign.wpIn (F.inRound l) (n - 1 - 1) P (Exit.then K (fun _ _ _ => False)) { tmps := (ps.zip (encs x)).foldl (fun t (p, v) => t.setIfInBounds p v) a.tmps, defers := [] } V)
    (hbody : ∀ (l : Nat) (pre : List α) (x : α) (a' : Act) (V : World), w.heap.size ≤ l → (∃ r, V.heap[l]? = some (.loop r)) → I pre V → Ax x a' V → body.wpIn (F.inRound l) (n - 1 - 1) P (stillPost X w.heap.size I Ix (pre ++ [x]) V) a' V) :
    CallsIn F (n - 1) P gf (#[.func (.yield L) #[] #[]] ++ lb) W1 fun e W' => (∃ v, e = .returned v) ∧
      ((∃ xs, S xs ∧ I xs W' ∧ W'.heap[L]? = some (.loop (recd .ready none)) ∧ ∀ d, D = some d → W'.heap[d]? = some (.deferred (some []))) ∨
       (∃ pre c, Sp pre ∧ Ix c pre W' ∧ W'.heap[L]? = some (.loop (recd .done (some c))) ∧ ∀ d, D = some d → W'.heap[d]? = some (.deferred (some [])))) := by
  have hLlt : L < W1.heap.size := (Array.getElem?_eq_some_iff.1 hL1).1
  have hw1 : w.heap.size ≤ W1.heap.size := by omega
  have hkeep : ∀ {A B : World} {row : Option Nat} {k : Nat} {o : Obj}, A.grownBy B row → (∀ r, row = some r → W1.heap.size ≤ r ∧ ∃ o : Obj, A.heap[r]? = some o ∧ o.isCells = false) → k < W1.heap.size → A.heap[k]? = some o → B.heap[k]? = some o := fun hg hr hk ho =>
    (hg.block _ (Array.getElem?_eq_some_iff.1 ho).1 (fun e => by have := (hr _ e.symm).1; omega)).trans ho
  have hDlt : ∀ d, D = some d → d < W1.heap.size := fun d e => (Array.getElem?_eq_some_iff.1 (hD d e).2.2).1
  have hrow : ∀ {A : World} {row : Option Nat}, (∀ r, row = some r → W1.heap.size ≤ r ∧ ∃ o : Obj, A.heap[r]? = some o ∧ o.isCells = false) → (∀ r, row = some r → w.heap.size ≤ r ∧ ∃ o : Obj, A.heap[r]? = some o ∧ o.isCells = false) := fun hr r e => ⟨Nat.le_trans hw1 (hr r e).1, (hr r e).2⟩
  refine (hseq L (fun pre W => I pre W ∧ W.heap[L]? = some (.loop (recd .ready none)) ∧ ∀ d, D = some d → W.heap[d]? = some (.deferred (some [])))
    (fun pre W => ∃ c, Ix c pre W ∧ W.heap[L]? = some (.loop (recd .done (some c))) ∧ ∀ d, D = some d → W.heap[d]? = some (.deferred (some []))) W1 hb1
    (fun s A B row hs hg hr => ⟨hI s A B row hs.1 hg (hrow hr), hkeep hg hr hLlt hs.2.1, fun d e => hkeep hg hr (hDlt d e) (hs.2.2 d e)⟩)
    (fun s A B row hs hg hr => by
      obtain ⟨c, h1, h2, h3⟩ := hs
      exact ⟨c, hIx c s A B row h1 hg (hrow hr), hkeep hg hr hLlt h2, fun d e => hkeep hg hr (hDlt d e) (h3 d e)⟩)
    ?_ ⟨h0, hL1, fun d e => (hD d e).2.2⟩).mono ?_
  · rintro pre x V ⟨hi, hl, hd⟩ hok
    have hy := run_yield (P := P) (args := encs x) hl (by rw [hrec]; exact hps x)
    rw [hrec] at hy
    refine ⟨fn, _, assign, body, hy, roundIn_of_wpIn hfn (hassign _ pre x V _ hi hok ?_)⟩
    clear hy hok hi
    intro a' Va hs1 hi hax
    replace hl := (hs1.block L (.inr hL) (Array.getElem?_eq_some_iff.1 hl).1).trans hl
    replace hd : ∀ d, D = some d → Va.heap[d]? = some (.deferred (some [])) := fun d e => (hs1.block d (.inr (hD d e).1) (Array.getElem?_eq_some_iff.1 (hd d e)).1).trans (hd d e)
    have hLV : L < Va.heap.size := (Array.getElem?_eq_some_iff.1 hl).1
    refine ⟨_, run_beginRound hl (by rw [hrec]), ?_⟩
    have hl2 : (Va.putObj L (.loop { recd .ready none with state := .busy })).heap[L]? = some (.loop { recd .ready none with state := .busy }) := World.putObj_heap_same hLV
    have hd2 : ∀ d, D = some d → (Va.putObj L (.loop { recd .ready none with state := .busy })).heap[d]? = some (.deferred (some [])) := fun d e => (World.putObj_heap_other (hD d e).2.1).trans (hd d e)
    have hs2 : Still X W1.heap.size V (Va.putObj L (.loop { recd .ready none with state := .busy })) := (hs1.mono (fun _ h => .inl h) hw1).trans (still_putObj (fun h => by have := hX _ h; omega) hLlt)
    refine wpIn_mono (hbody _ pre x a' _ hL ⟨_, hl2⟩ (hI.putObj _ hi hL hl rfl) ((hAx x a').putObj (s := ()) _ hax hL hl rfl)) ?_
    have fin : ∀ (jump : Option Code) (V3 : World), Still X w.heap.size (Va.putObj L (.loop { recd .ready none with state := .busy })) V3 →
        (Instr.endRound L jump).run P V3 = .ok (.bool jump.isNone) (V3.putObj L (.loop (recd (if jump.isNone then .ready else .done) jump))) ∧
        V3.heap[L]? = some (.loop { recd .ready none with state := .busy }) ∧
        (V3.putObj L (.loop (recd (if jump.isNone then .ready else .done) jump))).heap[L]? = some (.loop (recd (if jump.isNone then .ready else .done) jump)) ∧
        (∀ d, D = some d → (V3.putObj L (.loop (recd (if jump.isNone then .ready else .done) jump))).heap[d]? = some (.deferred (some []))) ∧
        Still X W1.heap.size V (V3.putObj L (.loop (recd (if jump.isNone then .ready else .done) jump))) := fun jump V3 h3 => by
      have hl3 := (h3.block L (.inr hL) (Array.getElem?_eq_some_iff.1 hl2).1).trans hl2
      have hr := run_endRound (P := P) jump hl3
      refine ⟨?_, hl3, World.putObj_heap_same (Array.getElem?_eq_some_iff.1 hl3).1, fun d e => (World.putObj_heap_other (hD d e).2.1).trans ((h3.block d (.inr (hD d e).1) (Array.getElem?_eq_some_iff.1 (hd2 d e)).1).trans (hd2 d e)), (hs2.trans (h3.mono (fun _ h => .inl h) hw1)).trans (still_putObj (fun h => by have := hX _ h; omega) hLlt)⟩
      rw [hrec] at hr ⊢
      exact hr
    rintro e a3 V3 hp
    cases e with
    | normal =>
      obtain ⟨h3, hi3⟩ := hp
      obtain ⟨hr, hl3, hl4, hd4, hs4⟩ := fin none V3 h3
      exact ⟨_, _, hr, .inl ⟨rfl, ⟨hI.putObj _ hi3 hL hl3 rfl, hl4, hd4⟩, hs4⟩⟩
    | ret =>
      obtain ⟨h3, hi3⟩ := hp
      obtain ⟨hr, hl3, hl4, hd4, hs4⟩ := fin (some .ret) V3 h3
      exact ⟨_, _, hr, .inr ⟨rfl, ⟨.ret, (hIx _).putObj _ hi3 hL hl3 rfl, hl4, hd4⟩, hs4⟩⟩
    | exit id =>
      obtain ⟨h3, hi3⟩ := hp
      obtain ⟨hr, hl3, hl4, hd4, hs4⟩ := fin (some (.exit id)) V3 h3
      exact ⟨_, _, hr, .inr ⟨rfl, ⟨.exit id, (hIx _).putObj _ hi3 hL hl3 rfl, hl4, hd4⟩, hs4⟩⟩
    | goto t =>
      obtain ⟨h3, hi3⟩ := hp
      obtain ⟨hr, hl3, hl4, hd4, hs4⟩ := fin (some (.goto t)) V3 h3
      exact ⟨_, _, hr, .inr ⟨rfl, ⟨.goto t, (hIx _).putObj _ hi3 hL hl3 rfl, hl4, hd4⟩, hs4⟩⟩
    | panic ch => exact hp.elim
    | outgrown => exact hp.elim
  · rintro e W2 ⟨hv, (⟨xs, hS, hi, hl, hd⟩ | ⟨pre, hSp, c, hi, hl, hd⟩)⟩
    · exact ⟨hv, .inl ⟨xs, hS, hi, hl, hd⟩⟩
    · exact ⟨hv, .inr ⟨pre, c, hSp, hi, hl, hd⟩⟩

/-- The statement at a function's own level. -/
theorem wpIn_range_out {g : Operand} {ps : Array Tmp} {assign body : Code} {Q : Exit → Act → World → Prop} {a : Act} {w : World}
    (hro : F.round = none) (h1 : 1 ≤ n) {gf : Nat} {lb : Array Value} (hg : a.eval g = .func (.func gf) #[] lb) (hFg : F.fn gf) (eg : ∀ args w, (callFunc gf args).run P w = .ok (.enter gf args) w)
    {encs : α → Array Value} {Ok : α → World → Prop} {S Sp : List α → Prop} {X : Nat → Prop} {w0 : World} (hseq : Tells F (n - 1) P gf lb encs X Ok S Sp w0) (hX : ∀ k, X k → k < w.heap.size) (hb0 : Below w0.heap.size w0 w) (hps : ∀ x, (encs x).size = ps.size)
    (I : List α → World → Prop) (Ix : Code → List α → World → Prop) (hI : OwnFrom w.heap.size I) (hIx : ∀ c, OwnFrom w.heap.size (Ix c)) (h0 : I [] w) (Ax : α → Act → World → Prop) (hAx : ∀ x a', OwnFrom w.heap.size (fun (_ : Unit) W => Ax x a' W))
    (hassign : ∀ (l : Nat) (pre : List α) (x : α) (V : World) (K : Act → World → Prop), I pre V → Ok x V → (∀ a' V', Still X w.heap.size V V' → I pre V' → Ax x a' V' → K a' V') →
      assign.wpIn (F.inRound l) (n - 1 - 1) P (Exit.then K (fun _ _ _ => False)) { tmps := (ps.zip (encs x)).foldl (fun t (p, v) => t.setIfInBounds p v) a.tmps, defers := [] } V)
    (hbody : ∀ (l : Nat) (pre : List α) (x : α) (a' : Act) (V : World), w.heap.size ≤ l → (∃ r, V.heap[l]? = some (.loop r)) → I pre V → Ax x a' V → body.wpIn (F.inRound l) (n - 1 - 1) P (stillPost X w.heap.size I Ix (pre ++ [x]) V) a' V)
    (hdone : ∀ (D : Nat) (xs : List α) (W : World), w.heap.size ≤ D → S xs → I xs W → W.heap[D]? = some (.deferred (some [])) → Q .normal { a with defers := { target := .collected D, args := #[] } :: a.defers } W)
    (hstop : ∀ (D : Nat) (c : Code) (pre : List α) (W : World), w.heap.size ≤ D → Sp pre → Ix c pre W → W.heap[D]? = some (.deferred (some [])) → c.wpIn F n P Q { a with defers := { target := .collected D, args := #[] } :: a.defers } W) :
    (Code.rangeFunc g ps assign body).wpIn F n P Q a w := by
  refine wpIn_rangeFunc ?_
  intro fn hfn
  rw [hro]
  obtain ⟨recd, hrec⟩ : ∃ recd : LoopState → Option Code → Loop, recd = fun st pe => { state := st, pending := pe, fn, tmps := a.tmps, params := ps, assign, body, defers := w.heap.size } := ⟨_, rfl⟩
  have hA := World.alloc_heap_new (w.alloc (.deferred (some []))) (.loop (recd .ready none))
  rw [World.size_alloc] at hA
  have hB : ((w.alloc (.deferred (some []))).alloc (.loop (recd .ready none))).heap[w.heap.size]? = some (.deferred (some [])) := (Below.heap_alloc _ _ _ (by simp)).trans (World.alloc_heap_new w _)
  have hbw : Below w.heap.size w ((w.alloc (.deferred (some []))).alloc (.loop (recd .ready none))) := ((Below.refl _ w).alloc (Nat.le_refl _) _).alloc (by simp) _
  refine ⟨w.heap.size + 1, [{ target := .collected w.heap.size, args := #[] }], (w.alloc (.deferred (some []))).alloc (.loop (recd .ready none)), { target := .fn (.func gf) lb, args := #[.func (.yield (w.heap.size + 1)) #[] #[]] }, (w.alloc (.deferred (some []))).alloc (.loop (recd .ready none)), gf,
    #[.func (.yield (w.heap.size + 1)) #[] #[]] ++ lb, (w.alloc (.deferred (some []))).alloc (.loop (recd .ready none)), ?_, ?_, ?_, ?_, fun _ => h1, ?_⟩
  · rw [hrec]; exact run_enterLoop_outer _ _ _ _ _
  · simp only [resolve, hg]
    simp [go_sem]
  · intro f' hf'; simp [Target.leads] at hf'; subst hf'; exact hFg
  · simp [invoke, go_sem, eg]
  · refine (tells_core (w := w) (D := some w.heap.size) recd w.heap.size hrec hfn hseq hX (hb0.trans (hbw.mono hb0.size)) hps (by omega) hA (fun d e => by cases e; exact ⟨Nat.le_refl _, by omega, hB⟩) I Ix hI hIx (hI.alloc _ (hI.alloc _ h0)) Ax hAx hassign hbody).mono ?_
    rintro e W2 ⟨⟨v, rfl⟩, (⟨xs, hS, hi, hl, hd⟩ | ⟨pre, c, hSp, hi, hl, hd⟩)⟩
    · exact ⟨none, _, by have := run_endLoop (P := P) hl (by rw [hrec]; simp); rw [hrec] at this; exact this, hdone _ xs _ (Nat.le_refl _) hS (hI.putObj _ hi (by omega) hl rfl) ((World.putObj_heap_other (by omega)).trans (hd _ rfl))⟩
    · exact ⟨some c, _, by have := run_endLoop (P := P) hl (by rw [hrec]; simp); rw [hrec] at this; exact this, hstop _ c pre _ (Nat.le_refl _) hSp ((hIx c).putObj _ hi (by omega) hl rfl) ((World.putObj_heap_other (by omega)).trans (hd _ rfl))⟩

/-- The statement within a round. -/
theorem wpIn_range_in {g : Operand} {ps : Array Tmp} {assign body : Code} {Q : Exit → Act → World → Prop} {a : Act} {w : World} {l₀ : Nat} {r₀ : Loop}
    (hro : F.round = some l₀) (hl₀ : w.heap[l₀]? = some (.loop r₀)) (h1 : 1 ≤ n) {gf : Nat} {lb : Array Value} (hg : a.eval g = .func (.func gf) #[] lb) (hFg : F.fn gf) (eg : ∀ args w, (callFunc gf args).run P w = .ok (.enter gf args) w)
    {encs : α → Array Value} {Ok : α → World → Prop} {S Sp : List α → Prop} {X : Nat → Prop} {w0 : World} (hseq : Tells F (n - 1) P gf lb encs X Ok S Sp w0) (hX : ∀ k, X k → k < w.heap.size) (hb0 : Below w0.heap.size w0 w) (hps : ∀ x, (encs x).size = ps.size)
    (I : List α → World → Prop) (Ix : Code → List α → World → Prop) (hI : OwnFrom w.heap.size I) (hIx : ∀ c, OwnFrom w.heap.size (Ix c)) (h0 : I [] w) (Ax : α → Act → World → Prop) (hAx : ∀ x a', OwnFrom w.heap.size (fun (_ : Unit) W => Ax x a' W))
    (hassign : ∀ (l : Nat) (pre : List α) (x : α) (V : World) (K : Act → World → Prop), I pre V → Ok x V → (∀ a' V', Still X w.heap.size V V' → I pre V' → Ax x a' V' → K a' V') →
      assign.wpIn (F.inRound l) (n - 1 - 1) P (Exit.then K (fun _ _ _ => False)) { tmps := (ps.zip (encs x)).foldl (fun t (p, v) => t.setIfInBounds p v) a.tmps, defers := [] } V)
    (hbody : ∀ (l : Nat) (pre : List α) (x : α) (a' : Act) (V : World), w.heap.size ≤ l → (∃ r, V.heap[l]? = some (.loop r)) → I pre V → Ax x a' V → body.wpIn (F.inRound l) (n - 1 - 1) P (stillPost X w.heap.size I Ix (pre ++ [x]) V) a' V)
    (hdone : ∀ (xs : List α) (W : World), S xs → I xs W → Q .normal a W)
    (hstop : ∀ (c : Code) (pre : List α) (W : World), Sp pre → Ix c pre W → c.wpIn F n P Q a W) :
    (Code.rangeFunc g ps assign body).wpIn F n P Q a w := by
  refine wpIn_rangeFunc ?_
  intro fn hfn
  rw [hro]
  obtain ⟨recd, hrec⟩ : ∃ recd : LoopState → Option Code → Loop, recd = fun st pe => { state := st, pending := pe, fn, tmps := a.tmps, params := ps, assign, body, defers := r₀.defers } := ⟨_, rfl⟩
  have hA := World.alloc_heap_new w (.loop (recd .ready none))
  have hbw : Below w.heap.size w (w.alloc (.loop (recd .ready none))) := (Below.refl _ w).alloc (Nat.le_refl _) _
  refine ⟨w.heap.size, [], w.alloc (.loop (recd .ready none)), { target := .fn (.func gf) lb, args := #[.func (.yield w.heap.size) #[] #[]] }, w.alloc (.loop (recd .ready none)), gf,
    #[.func (.yield w.heap.size) #[] #[]] ++ lb, w.alloc (.loop (recd .ready none)), ?_, ?_, ?_, ?_, fun _ => h1, ?_⟩
  · rw [hrec]; exact run_enterLoop_inner hl₀ _ _ _ _ _
  · simp only [resolve, hg]
    simp [go_sem]
  · intro f' hf'; simp [Target.leads] at hf'; subst hf'; exact hFg
  · simp [invoke, go_sem, eg]
  · refine (tells_core (w := w) (D := none) recd r₀.defers hrec hfn hseq hX (hb0.trans (hbw.mono hb0.size)) hps (Nat.le_refl _) hA (fun d e => by cases e) I Ix hI hIx (hI.alloc _ h0) Ax hAx hassign hbody).mono ?_
    rintro e W2 ⟨⟨v, rfl⟩, (⟨xs, hS, hi, hl, hd⟩ | ⟨pre, c, hSp, hi, hl, hd⟩)⟩
    · exact ⟨none, _, by have := run_endLoop (P := P) hl (by rw [hrec]; simp); rw [hrec] at this; exact this, hdone xs _ hS (hI.putObj _ hi (Nat.le_refl _) hl rfl)⟩
    · exact ⟨some c, _, by have := run_endLoop (P := P) hl (by rw [hrec]; simp); rw [hrec] at this; exact this, hstop c pre _ hSp ((hIx c).putObj _ hi (Nat.le_refl _) hl rfl)⟩
end
end Go.Proofs.YtnmnmkdmnohbmaaDoor

namespace Go.Proofs.YtnmnmkdmnohbmaaDoor
open Go Go.RowKit
section
variable {P : Program} {ops : Array Oper} {Q : Exit → Act → World → Prop} {md : Region.Mode} {C : World → Prop} {m : Nat}

theorem wpOp_of_listC {N : Act → World → Prop} {i fuel : Nat} {listed : Array Bool} {a : Act} {w : World} (hC : C w) (hi : i ∈ Region.ready md ops listed)
    (hN : ∀ a' w', C w' → N a' w' → wpAnyC P md ops C m Q fuel (listed.setIfInBounds i true) a' w') (h : wpListC P ops C Q N (pickOps ops [i]) a w) :
    wpOp P ops Q i (fun a' w' => (i < m → C w') ∧ wpAnyC P md ops C m Q fuel (listed.setIfInBounds i true) a' w') a w := by
  obtain ⟨_, o, ho, _⟩ := mem_ready.1 hi
  rw [pickOps_cons ho] at h
  unfold wpOp
  rw [ho]
  simp only []
  unfold wpListC at h
  by_cases hw : Region.wanted o (yielded ops a.tmps) = true
  · rw [if_pos hw] at h
    rw [if_pos hw]
    exact .inl (Oper.wp_mono (fun a' w' h' => ⟨fun _ => h'.1, hN a' w' h'.1 h'.2⟩) h)
  · rw [if_neg hw] at h
    rw [if_neg hw]
    exact ⟨fun _ => hC, hN _ w hC h⟩

/-- The Bool that the kernel is asked: heads, then a fork. -/
def forkB (ops : Array Oper) (m : Nat) (l0 : List Nat) (i1 i2 : Nat) (s1 s2 : List (Nat × List Nat)) : Bool :=
  Region.noSelect ops && decide (l0.length + (segsLen s1 + 1) = ops.size) && decide (segsLen s1 = segsLen s2) && headsB .any ops m l0 (Array.replicate ops.size false) &&
    decide (Region.ready .any ops (listAll l0 (Array.replicate ops.size false)) = [i1, i2]) &&
    segsB .any ops m s1 ((listAll l0 (Array.replicate ops.size false)).setIfInBounds i1 true) && segsB .any ops m s2 ((listAll l0 (Array.replicate ops.size false)).setIfInBounds i2 true)

theorem wp_region_fork_below {id : Nat} {a : Act} {w : World} {l : List Oper} (m : Nat) (l0 : List Nat) (i1 i2 : Nat) (s1 s2 : List (Nat × List Nat)) (hm : P.follows .mixedOrders = true) (hB : forkB l.toArray m l0 i1 i2 s1 s2 = true)
    (hQ : ∀ c a t w, Q (.panic c) { a with tmps := t } w → Q (.panic c) a w)
    (h : wpQuiet P l.toArray (Cls w) (fun a' => wpListC P l.toArray (Cls w) Q (wpSegs P l.toArray (Cls w) Q s1) (pickOps l.toArray [i1]) a' { w with drawn := w.drawn + 1 } ∧
      wpListC P l.toArray (Cls w) Q (wpSegs P l.toArray (Cls w) Q s2) (pickOps l.toArray [i2]) a' { w with drawn := w.drawn + 1 }) (pickOps l.toArray l0) a) : (Code.region id l.toArray true).wp P Q a w := by
  simp only [forkB, Bool.and_eq_true, decide_eq_true_eq] at hB
  obtain ⟨⟨⟨⟨⟨⟨hs, hl⟩, he⟩, hh⟩, hr⟩, h1⟩, h2⟩ := hB
  refine wp_region_any hm (wpAny_of_C (m := m) (C := Cls w) _ _ _ _ ?_)
  rw [← hl]
  refine wpAnyC_heads hs hQ (cls_drew w) l0 _ a (by rw [Array.size_replicate]; exact hl) (by rw [hl]; exact hh) (fun a' h' => ?_) h
  rw [hl]
  refine ⟨fun h0 => (by rw [hr] at h0; cases h0), fun j hj => ?_⟩
  have hj' := hj
  rw [hr] at hj
  simp only [List.mem_cons, List.not_mem_nil, or_false] at hj
  rcases hj with rfl | rfl
  · exact wpOp_of_listC (cls_drew w) hj' (fun a'' w'' hC hN => wpAnyC_segs hs hQ s1 _ a'' w'' (by simp [listAll_size]) hC h1 hN) h'.1
  · rw [he]
    exact wpOp_of_listC (cls_drew w) hj' (fun a'' w'' hC hN => wpAnyC_segs hs hQ s2 _ a'' w'' (by simp [listAll_size]) hC h2 hN) h'.2
end
end Go.Proofs.YtnmnmkdmnohbmaaDoor

namespace Go.Proofs.YtnmnmkdmnohbmaaDoor
open Go Go.RowKit
section
variable {P : Program} {ops : Array Oper} {Q : Exit → Act → World → Prop} {md : Region.Mode} {C : World → Prop} {m : Nat}

/-- A plan: heads that are only read, operations in their forced order that stay in the class, a tail, a fork of two operations of the class. -/
inductive Plan where
  | done
  | heads (l : List Nat) (p : Plan)
  | chain (l : List Nat) (p : Plan)
  | tail (l : List Nat)
  | fork (i : Nat) (p : Plan) (j : Nat) (q : Plan)

def wpPlan (P : Program) (ops : Array Oper) (C : World → Prop) (Q : Exit → Act → World → Prop) : Plan → Act → World → Prop
  | .done, a, w => Q .normal a w
  | .heads l p, a, w => wpQuiet P ops C (fun a' => wpPlan P ops C Q p a' w) (pickOps ops l) a
  | .chain l p, a, w => wpListC P ops C Q (wpPlan P ops C Q p) (pickOps ops l) a w
  | .tail l, a, w => wpList P ops Q (pickOps ops l) a w
  | .fork i p j q, a, w => wpListC P ops C Q (wpPlan P ops C Q p) (pickOps ops [i]) a w ∧ wpListC P ops C Q (wpPlan P ops C Q q) (pickOps ops [j]) a w

def planLen : Plan → Nat
  | .done => 0
  | .heads l p => l.length + planLen p
  | .chain l p => l.length + planLen p
  | .tail l => l.length
  | .fork _ p _ _ => planLen p + 1

def planOk (md : Region.Mode) (ops : Array Oper) (m : Nat) : Plan → Array Bool → Bool
  | .done, listed => (Region.ready md ops listed).isEmpty
  | .heads l p, listed => headsB md ops m l listed && planOk md ops m p (listAll l listed)
  | .chain l p, listed => chainB md ops l listed && planOk md ops m p (listAll l listed)
  | .tail l, listed => l.all (fun i => decide (m ≤ i)) && chainB md ops l listed && (Region.ready md ops (listAll l listed)).isEmpty
  | .fork i p j q, listed => decide (Region.ready md ops listed = [i, j]) && decide (planLen p = planLen q) && planOk md ops m p (listed.setIfInBounds i true) && planOk md ops m q (listed.setIfInBounds j true)

theorem wpAnyC_plan (hs : Region.noSelect ops = true) (hQ : ∀ c a t w, Q (.panic c) { a with tmps := t } w → Q (.panic c) a w) :
    ∀ (p : Plan) (listed : Array Bool) (a : Act) (w : World), listed.size = ops.size → C w → planOk md ops m p listed = true →
      wpPlan P ops C Q p a w → wpAnyC P md ops C m Q (planLen p) listed a w
  | .done, listed, a, w, _, _, hB, h => ⟨by simpa [planOk] using hB, h⟩
  | .heads l p, listed, a, w, hz, hC, hB, h => by
    simp only [planOk, Bool.and_eq_true] at hB
    exact wpAnyC_heads hs hQ hC l listed a hz hB.1 (fun a' h' => wpAnyC_plan hs hQ p _ a' w (by rw [listAll_size]; exact hz) hC hB.2 h') h
  | .chain l p, listed, a, w, hz, hC, hB, h => by
    simp only [planOk, Bool.and_eq_true] at hB
    exact wpAnyC_listC l listed a w hC hB.1 (fun a' w' hC' h' => wpAnyC_plan hs hQ p _ a' w' (by rw [listAll_size]; exact hz) hC' hB.2 h') h
  | .tail l, listed, a, w, hz, hC, hB, h => by
    simp only [planOk, Bool.and_eq_true] at hB
    exact wpAnyC_list l listed a w hB.1.1 hB.1.2 (by simpa using hB.2) h
  | .fork i p j q, listed, a, w, hz, hC, hB, h => by
    simp only [planOk, Bool.and_eq_true, decide_eq_true_eq] at hB
    obtain ⟨⟨⟨hr, he⟩, h1⟩, h2⟩ := hB
    refine ⟨fun h0 => (by rw [hr] at h0; cases h0), fun x hx => ?_⟩
    have hx' := hx
    rw [hr] at hx
    simp only [List.mem_cons, List.not_mem_nil, or_false] at hx
    rcases hx with rfl | rfl
    · exact wpOp_of_listC hC hx' (fun a'' w'' hC hN => wpAnyC_plan hs hQ p _ a'' w'' (by simpa using hz) hC h1 hN) h.1
    · show wpOp P ops Q x (fun a' w' => (x < m → C w') ∧ wpAnyC P md ops C m Q (planLen p) (listed.setIfInBounds x true) a' w') a w
      rw [he]
      exact wpOp_of_listC hC hx' (fun a'' w'' hC hN => wpAnyC_plan hs hQ q _ a'' w'' (by simpa using hz) hC h2 hN) h.2

def planBool (ops : Array Oper) (m : Nat) (p : Plan) : Bool :=
  Region.noSelect ops && decide (planLen p = ops.size) && planOk .any ops m p (Array.replicate ops.size false)

theorem wp_region_tree_below {id : Nat} {a : Act} {w : World} {l : List Oper} (m : Nat) (p : Plan) (hm : P.follows .mixedOrders = true) (hB : planBool l.toArray m p = true)
    (hQ : ∀ c a t w, Q (.panic c) { a with tmps := t } w → Q (.panic c) a w) (h : wpPlan P l.toArray (Cls w) Q p a { w with drawn := w.drawn + 1 }) : (Code.region id l.toArray true).wp P Q a w := by
  simp only [planBool, Bool.and_eq_true, decide_eq_true_eq] at hB
  refine wp_region_any hm (wpAny_of_C (m := m) (C := Cls w) _ _ _ _ ?_)
  rw [← hB.1.2]
  exact wpAnyC_plan hB.1.1 hQ p _ a _ (by rw [Array.size_replicate]; exact hB.1.2) (cls_drew w) (by rw [hB.1.2]; exact hB.2) h
end
end Go.Proofs.YtnmnmkdmnohbmaaDoor

namespace Go.Proofs.YtnmnmkdmnohbmaaDoor
open Go Go.RowKit
section
variable {P : Program} {ops : Array Oper} {Q : Exit → Act → World → Prop} {md : Region.Mode}

def plainOps (ops : Array Oper) : Bool := ops.all fun o => match o.op with | .defer _ => false | _ => true

theorem plainOps_spec (h : plainOps ops = true) {i : Nat} {o : Oper} (ho : ops[i]? = some o) : ∀ c, o.op ≠ .defer c := by
  intro c hc
  have hm := Array.all_eq_true'.1 h o (Array.mem_of_getElem? ho)
  rw [hc] at hm
  cases hm

theorem wpOpIn_of_wpOp {n l i : Nat} {K : Act → World → Prop} {a : Act} {w : World} (hd : plainOps ops = true) (hL : ∀ a w, ¬ Q .outgrown a w) (h : wpOp P ops Q i K a w) : wpOpIn (Fence.wide.inRound l) n P ops Q i K a w := by
  unfold wpOp at h
  unfold wpOpIn
  cases ho : ops[i]? with
  | none => rw [ho] at h; exact h
  | some o =>
    rw [ho] at h
    simp only [] at h ⊢
    split
    · rename_i hw
      rw [if_pos hw] at h
      rcases h with h | ⟨_, a', w', h⟩
      · refine ⟨fun _ _ => trivial, ?_⟩
        rw [Oper.semAt_eq _ _ _ (plainOps_spec hd ho)]
        unfold Oper.wp at h
        generalize (execOp a.eval o).run P w = r at *
        cases r with
        | ok x w' =>
          cases x <;> simp only [Oper.upon, Oper.uponIn] at h ⊢
          case value u => exact h
          case skip => exact h
          case defer d => exact h
          case enter f args => exact ⟨fun hx => absurd hx (by simp [Fence.inRound, Fence.wide]), CallsIn.inRound l (callsIn_wide.2 h)⟩
          case row row args =>
            refine ⟨fun hx => absurd hx (by simp [Fence.inRound, Fence.wide]), fun c cs _ => ?_⟩
            obtain ⟨v, w', r, s⟩ := h c cs
            exact ⟨v, w', r, (stepsIn_wide (P := P)).2 s⟩
        | halt x w' =>
          cases x <;> exact h
      · exact absurd h (hL a' w')
    · rename_i hw
      rw [if_neg hw] at h
      exact ⟨fun _ _ => trivial, h⟩

theorem wpAnyIn_of_wpAny {n l : Nat} (hd : plainOps ops = true) (hL : ∀ a w, ¬ Q .outgrown a w) : ∀ (fuel : Nat) (listed : Array Bool) (a : Act) (w : World), wpAny P md ops Q fuel listed a w → wpAnyIn (Fence.wide.inRound l) n P md ops Q fuel listed a w
  | 0, _, _, _, h => h
  | fuel + 1, listed, a, w, h => ⟨h.1, fun i hi => wpOpIn_of_wpOp hd hL (wpOp_mono (fun a' w' h' => wpAnyIn_of_wpAny hd hL fuel _ a' w' h') (h.2 i hi))⟩

theorem wpR_region_plan {id n r : Nat} {a : Act} {w : World} {l : List Oper} (m : Nat) (segs : List (Nat × List Nat)) (C : World → Prop) (hm : P.follows .mixedOrders = true) (hB : planB l.toArray m segs = true) (hd : plainOps l.toArray = true) (hL : ∀ a w, ¬ Q .outgrown a w)
    (hC : C { w with drawn := w.drawn + 1 }) (hQ : ∀ c a t w, Q (.panic c) { a with tmps := t } w → Q (.panic c) a w)
    (h : wpSegs P l.toArray C Q segs a { w with drawn := w.drawn + 1 }) : (Code.region id l.toArray true).wpIn (Fence.wide.inRound r) n P Q a w := by
  simp only [planB, Bool.and_eq_true, decide_eq_true_eq] at hB
  refine wpIn_region_any hm (wpAnyIn_of_wpAny hd hL _ _ _ _ (wpAny_of_C (m := m) (C := C) _ _ _ _ ?_))
  rw [← hB.1.2]
  exact wpAnyC_segs hB.1.1 hQ segs _ a _ (by simp [hB.1.2]) hC (by rw [hB.1.2]; exact hB.2) h

theorem wpR_region_plan_below {id n r : Nat} {a : Act} {w : World} {l : List Oper} (m : Nat) (segs : List (Nat × List Nat)) (hm : P.follows .mixedOrders = true) (hB : planB l.toArray m segs = true) (hd : plainOps l.toArray = true) (hL : ∀ a w, ¬ Q .outgrown a w)
    (hQ : ∀ c a t w, Q (.panic c) { a with tmps := t } w → Q (.panic c) a w) (h : wpSegs P l.toArray (Cls w) Q segs a { w with drawn := w.drawn + 1 }) : (Code.region id l.toArray true).wpIn (Fence.wide.inRound r) n P Q a w :=
  wpR_region_plan m segs (Cls w) hm hB hd hL (cls_drew w) hQ h
end
end Go.Proofs.YtnmnmkdmnohbmaaDoor

namespace Go.Proofs.YtnmnmkdmnohbmaaDoor
open Go Go.RowKit
section
variable {n r : Nat} {P : Program} {ops : Array Oper} {Q : Exit → Act → World → Prop} {md : Region.Mode} {C : World → Prop} {m : Nat}

/-- Whatever order is picked; each operation with a number below m lands in the class C. -/
def wpAnyD (n r : Nat) (P : Program) (md : Region.Mode) (ops : Array Oper) (C : World → Prop) (m : Nat) (Q : Exit → Act → World → Prop) : Nat → Array Bool → Act → World → Prop
  | 0, listed, a, w => Region.ready md ops listed = [] ∧ Q .normal a w
  | fuel + 1, listed, a, w =>
    (Region.ready md ops listed = [] → Q .normal a w) ∧
    ∀ i ∈ Region.ready md ops listed, wpOpIn (Fence.wide.inRound r) n P ops Q i (fun a' w' => (i < m → C w') ∧ wpAnyD n r P md ops C m Q fuel (listed.setIfInBounds i true) a' w') a w

theorem wpAnyIn_of_D : ∀ (fuel : Nat) (listed : Array Bool) (a : Act) (w : World), wpAnyD n r P md ops C m Q fuel listed a w → wpAnyIn (Fence.wide.inRound r) n P md ops Q fuel listed a w
  | 0, _, _, _, h => h
  | fuel + 1, _, _, _, h => ⟨h.1, fun i hi => wpOpIn_mono (fun a' w' h' => wpAnyIn_of_D fuel _ a' w' h'.2) (h.2 i hi)⟩

theorem YieldsC.wpOpIn {i : Nat} {o : Oper} {v : Value} {a : Act} (hd : plainOps ops = true) (hi : ops[i]? = some o) (hy : YieldsC P ops C o v a)
    {K : Act → World → Prop} {w : World} (hC : C w) (h : K (a.put o.dst v) w) : wpOpIn (Fence.wide.inRound r) n P ops Q i K a w := by
  unfold Go.wpOpIn
  simp only [hi]
  rcases hy with ⟨hw, hv⟩ | ⟨hw, rfl⟩
  · simp only [hw, if_true]
    refine ⟨fun _ _ => trivial, ?_⟩
    rw [Oper.semAt_eq _ _ _ (plainOps_spec hd hi), hv w hC]
    exact h
  · simp only [hw, Bool.false_eq_true, if_false]
    exact ⟨fun _ _ => trivial, h⟩

theorem wpOpIn_putC {j : Nat} {oi oj : Oper} {v : Value} (hd : plainOps ops = true) (hj : ops[j]? = some oj) (hap : oi.apart ops oj = true)
    (hsi : ∀ cs b, oi.op ≠ .select cs b) (hsj : ∀ cs b, oj.op ≠ .select cs b)
    (hQ : ∀ c a t w, Q (.panic c) { a with tmps := t } w → Q (.panic c) a w) {K : Act → World → Prop} {a : Act} {w : World}
    (hy : YieldsC P ops C oi v a) (h : wpOpIn (Fence.wide.inRound r) n P ops Q j K (a.put oi.dst v) w) :
    wpOpIn (Fence.wide.inRound r) n P ops Q j (fun a' w' => YieldsC P ops C oi v a' ∧ K (a'.put oi.dst v) w') a w := by
  obtain ⟨h1, h2, h3⟩ := Oper.apart_spec hap
  have keep : ∀ (a : Act), YieldsC P ops C oi v a → ∀ u, YieldsC P ops C oi v (a.put oj.dst u) := fun a hy u =>
    hy.of_same (execOp_put oi hsi a oj.dst u h3) (wanted_put oi a oj.dst u h3)
  have keepD : ∀ d, YieldsC P ops C oi v { a with defers := d :: a.defers } := fun d => hy.of_same rfl rfl
  have hpl := plainOps_spec hd hj
  unfold wpOpIn at *
  simp only [hj] at *
  rw [wanted_put oj a oi.dst v h1] at h
  split
  · rename_i hw
    simp only [hw, if_true] at h
    refine ⟨fun _ _ => trivial, ?_⟩
    have h := h.2
    rw [Oper.semAt_eq _ _ _ hpl] at h ⊢
    rw [execOp_put oj hsj a oi.dst v h1] at h
    generalize (execOp a.eval oj).run P w = x at *
    cases x with
    | ok x w' =>
      cases x <;> simp only [Oper.uponIn] at h ⊢
      case value u => exact ⟨keep a hy u, by rw [← Act.put_comm a v u h2]; exact h⟩
      case skip => exact ⟨keep a hy _, by rw [← Act.put_comm a v undef h2]; exact h⟩
      case defer d =>
        refine ⟨keep _ (keepD d) _, ?_⟩
        rw [← Act.put_comm _ v undef h2, ← Act.put_defers]
        exact h
      case enter f args =>
        refine ⟨h.1, CallsIn.mono h.2 fun e w'' he => ?_⟩
        cases e with
        | returned u => exact ⟨keep a hy u, by rw [← Act.put_comm a v u h2]; exact he⟩
        | panicked c => exact panic_put hQ he
        | outgrown => exact he
      case row row args => exact ⟨h.1, RowsIn.mono h.2 fun u w'' he => ⟨keep a hy u, by rw [← Act.put_comm a v u h2]; exact he⟩⟩
      case round l f tmps assign body =>
        refine ⟨h.1, RoundIn.mono h.2 fun e w'' he => ?_⟩
        cases e with
        | returned u => exact ⟨keep a hy u, by rw [← Act.put_comm a v u h2]; exact he⟩
        | panicked c => exact panic_put hQ he
        | outgrown => exact he
    | halt x w' =>
      cases x <;> simp only [Oper.uponIn] at h ⊢
      case panic u => exact panic_put hQ h
  · rename_i hw
    simp only [hw] at h
    exact ⟨fun _ _ => trivial, keep a hy _, by rw [← Act.put_comm a v undef h2]; exact h.2⟩

theorem wpAnyD_first {i : Nat} {oi : Oper} {v : Value} (hd : plainOps ops = true) (hi : ops[i]? = some oi) (hsel : ∀ (j : Nat) (o : Oper) cs b, ops[j]? = some o → o.op ≠ .select cs b)
    (hQ : ∀ c a t w, Q (.panic c) { a with tmps := t } w → Q (.panic c) a w) (D : Nat → Bool)
    (hD : ∀ j, D j = true → ∃ oj, ops[j]? = some oj ∧ ∃ e ∈ oj.after, Region.binds md e = true ∧ (e.on = i ∨ D e.on = true)) :
    ∀ (fuel : Nat) (listed : Array Bool) (a : Act) (w : World),
      (∀ j oj, ops[j]? = some oj → j ≠ i → listed.getD j true = false → (∀ e ∈ oj.after, Region.binds md e = true → e.on ≠ i) → oi.apart ops oj = true) →
      (∀ j, D j = true → listed.getD j true = false) →
      (∀ j, j ≠ i → listed.getD j true = false → D j = false → j < m) →
      i ∈ Region.ready md ops listed → YieldsC P ops C oi v a → C w →
      wpAnyD n r P md ops C m Q fuel (listed.setIfInBounds i true) (a.put oi.dst v) w → wpAnyD n r P md ops C m Q (fuel + 1) listed a w := by
  intro fuel
  induction fuel with
  | zero =>
    intro listed a w _ _ _ hr hy hC H
    refine ⟨fun h => (by rw [h] at hr; cases hr), fun j hj => ?_⟩
    by_cases hji : j = i
    · subst hji; exact hy.wpOpIn hd hi hC ⟨fun _ => hC, H⟩
    · have := ready_mono hj hji
      rw [H.1] at this
      cases this
  | succ fuel ih =>
    intro listed a w hfree hDl hE hr hy hC H
    refine ⟨fun h => (by rw [h] at hr; cases hr), fun j hj => ?_⟩
    by_cases hji : j = i
    · subst hji; exact hy.wpOpIn hd hi hC ⟨fun _ => hC, H⟩
    · have h1 := H.2 j (ready_mono hj hji)
      obtain ⟨hjun, oj, hoj, hall⟩ := mem_ready.1 hj
      have hiun := (mem_ready.1 hr).1
      have hDj : D j = false := by
        cases hd : D j with
        | false => rfl
        | true =>
          obtain ⟨oj', hoj', e, he, hb, hon⟩ := hD j hd
          have : oj' = oj := Option.some.inj (hoj'.symm.trans hoj)
          subst this
          have h0 := hall e he hb
          rcases hon with hon | hon
          · rw [hon, getD_both hiun] at h0; cases h0
          · rw [getD_both (hDl _ hon)] at h0; cases h0
      have hjm : j < m := hE j hji hjun hDj
      have hnot : ∀ e ∈ oj.after, Region.binds md e = true → e.on ≠ i := fun e he hb heq => by
        have h1 := hall e he hb
        rw [heq, getD_both hiun] at h1
        cases h1
      have h2 := wpOpIn_putC hd hoj (hfree j oj hoj hji hjun hnot) (fun cs b => hsel i oi cs b hi) (fun cs b => hsel j oj cs b hoj) hQ hy h1
      have hfree' : ∀ k ok, ops[k]? = some ok → k ≠ i → (listed.setIfInBounds j true).getD k true = false →
          (∀ e ∈ ok.after, Region.binds md e = true → e.on ≠ i) → oi.apart ops ok = true := fun k ok hk hki hun hno => by
        refine hfree k ok hk hki ?_ hno
        by_cases hjk : j = k
        · subst hjk; exact hjun
        · rw [getD_set_ne true hjk] at hun; exact hun
      have hDl' : ∀ k, D k = true → (listed.setIfInBounds j true).getD k true = false := fun k hk => by
        rw [getD_set_ne true (fun h => by subst h; rw [hDj] at hk; cases hk)]
        exact hDl k hk
      have hE' : ∀ k, k ≠ i → (listed.setIfInBounds j true).getD k true = false → D k = false → k < m := fun k hki hun hd => by
        by_cases hjk : j = k
        · subst hjk; exact hjm
        · rw [getD_set_ne true hjk] at hun; exact hE k hki hun hd
      refine wpOpIn_mono (fun a' w' h3 => ⟨h3.2.1, ih (listed.setIfInBounds j true) a' w' hfree' hDl' hE' (ready_mono hr (Ne.symm hji)) h3.1 (h3.2.1 hjm) ?_⟩) h2
      rw [Array.setIfInBounds_comm _ _ hji]
      exact h3.2.2

theorem wpAnyD_take {i : Nat} {oi : Oper} {v : Value} {fuel : Nat} {listed : Array Bool} {a : Act} {w : World} (hd : plainOps ops = true) (hi : ops[i]? = some oi)
    (hs : Region.noSelect ops = true) (hf : firstB md ops m listed i = true) (hsz : listed.size = ops.size)
    (hQ : ∀ c a t w, Q (.panic c) { a with tmps := t } w → Q (.panic c) a w) (hy : YieldsC P ops C oi v a) (hC : C w)
    (h : wpAnyD n r P md ops C m Q fuel (listed.setIfInBounds i true) (a.put oi.dst v) w) : wpAnyD n r P md ops C m Q (fuel + 1) listed a w := by
  simp only [firstB, Bool.and_eq_true, List.all_eq_true, List.mem_range] at hf
  obtain ⟨⟨hr, hfr⟩, hall⟩ := hf
  refine wpAnyD_first hd hi (Region.noSelect_spec hs) hQ (fun j => decide (j < ops.size) && ((Region.before ops).getD j 0).testBit i) ?_ fuel listed a w (Region.free_spec hi hfr) ?_ ?_ (by simpa using hr) hy hC h
  · intro j hj
    simp only [Bool.and_eq_true, decide_eq_true_eq] at hj
    have h0 := hall j hj.1
    rw [if_pos hj.2] at h0
    simp only [Bool.and_eq_true] at h0
    cases ho : ops[j]? with
    | none => rw [ho] at h0; exact absurd h0.2 (by simp)
    | some oj =>
      rw [ho] at h0
      obtain ⟨e, he, hb⟩ := Array.any_eq_true'.1 h0.2
      rw [Bool.and_eq_true, Bool.or_eq_true, beq_iff_eq] at hb
      exact ⟨oj, rfl, e, he, hb.1, hb.2⟩
  · intro j hj
    simp only [Bool.and_eq_true, decide_eq_true_eq] at hj
    have h0 := hall j hj.1
    rw [if_pos hj.2] at h0
    simp only [Bool.and_eq_true, Bool.not_eq_true'] at h0
    exact h0.1
  · intro j hji hun hdd
    have hlt : j < ops.size := by
      rcases Nat.lt_or_ge j listed.size with h' | h'
      · omega
      · simp [Array.getElem?_eq_none h'] at hun
    have hb : ¬ ((Region.before ops).getD j 0).testBit i = true := by
      simp only [hlt, decide_true, Bool.true_and] at hdd
      rw [hdd]; simp
    have h0 := hall j hlt
    rw [if_neg hb, hun] at h0
    simp only [Bool.or_eq_true, beq_iff_eq, hji, false_or, Bool.false_eq_true, decide_eq_true_eq] at h0
    exact h0

/-- The segments of a plan, the last within the fence. -/
def wpSegsD (n r : Nat) (P : Program) (ops : Array Oper) (C : World → Prop) (Q : Exit → Act → World → Prop) : List (Nat × List Nat) → Act → World → Prop
  | [], a, w => Q .normal a w
  | (0, l) :: s, a, w => wpQuiet P ops C (fun a' => wpSegsD n r P ops C Q s a' w) (pickOps ops l) a
  | (1, l) :: s, a, w => wpListC P ops C (fun e a w => e ≠ .outgrown ∧ Q e a w) (wpSegsD n r P ops C Q s) (pickOps ops l) a w
  | (_ + 2, l) :: _, a, w => wpListIn (Fence.wide.inRound r) n P ops Q (pickOps ops l) a w

theorem wpAnyD_heads (hd : plainOps ops = true) (hs : Region.noSelect ops = true) (hQ : ∀ c a t w, Q (.panic c) { a with tmps := t } w → Q (.panic c) a w) {w : World} (hC : C w) {N : Act → Prop} {fuel : Nat} :
    ∀ (l : List Nat) (listed : Array Bool) (a : Act), listed.size = ops.size → headsB md ops m l listed = true →
      (∀ a', N a' → wpAnyD n r P md ops C m Q fuel (listAll l listed) a' w) → wpQuiet P ops C N (pickOps ops l) a → wpAnyD n r P md ops C m Q (l.length + fuel) listed a w
  | [], listed, a, _, _, hN, h => by simp only [List.length_nil, Nat.zero_add]; exact hN _ h
  | i :: s, listed, a, hz, hB, hN, h => by
    simp only [headsB, Bool.and_eq_true] at hB
    obtain ⟨⟨hr, hf⟩, hB'⟩ := hB
    unfold readAt at hr
    cases ho : ops[i]? with
    | none => rw [ho] at hr; cases hr
    | some o =>
      rw [ho] at hr
      simp only [Bool.and_eq_true] at hr
      rw [pickOps_cons ho] at h
      rw [show (i :: s).length + fuel = (s.length + fuel) + 1 by simp only [List.length_cons]; omega]
      have hz' : (listed.setIfInBounds i true).size = ops.size := by simp [hz]
      by_cases hw : Region.wanted o (yielded ops a.tmps) = true
      · simp only [wpQuiet, if_pos hw] at h
        obtain ⟨v, h1, h2⟩ := h
        exact wpAnyD_take hd ho hs hf hz hQ (yields_of_quiet hr.1 hw h1) hC (wpAnyD_heads hd hs hQ hC s _ _ hz' hB' hN h2)
      · have hw' : Region.wanted o (yielded ops a.tmps) = false := by simpa using hw
        simp only [wpQuiet, if_neg hw] at h
        exact wpAnyD_take hd ho hs hf hz hQ (.inr ⟨hw', rfl⟩) hC (wpAnyD_heads hd hs hQ hC s _ _ hz' hB' hN h)

theorem readyD_one {i : Nat} {listed : Array Bool} {fuel : Nat} {a : Act} {w : World} (hr : Region.ready md ops listed = [i])
    (h : wpOpIn (Fence.wide.inRound r) n P ops Q i (fun a' w' => (i < m → C w') ∧ wpAnyD n r P md ops C m Q fuel (listed.setIfInBounds i true) a' w') a w) : wpAnyD n r P md ops C m Q (fuel + 1) listed a w :=
  ⟨fun h0 => (by rw [hr] at h0; cases h0), fun j hj => by rw [hr] at hj; obtain rfl := List.mem_singleton.1 hj; exact h⟩

/-- One operation of a chain: walked plainly, it holds within the fence. -/
theorem wpIn_of_wp {o : Oper} {K : Act → World → Prop} {a : Act} {w : World} (hd : ∀ c, o.op ≠ .defer c) (h : o.wp P a w K (fun e a w => e ≠ .outgrown ∧ Q e a w)) : o.wpIn (Fence.wide.inRound r) n P a w K Q := by
  refine ⟨fun _ _ => trivial, ?_⟩
  rw [Oper.semAt_eq _ _ _ hd]
  unfold Oper.wp at h
  generalize (execOp a.eval o).run P w = x at *
  cases x with
  | ok x w' =>
    cases x <;> simp only [Oper.upon, Oper.uponIn] at h ⊢
    case value u => exact h
    case skip => exact h
    case defer d => exact h
    case enter f args =>
      refine ⟨fun hx => absurd hx (by simp [Fence.inRound, Fence.wide]), CallsIn.inRound r (callsIn_wide.2 (h.mono fun e w'' he => ?_))⟩
      cases e with
      | returned u => exact he
      | panicked c => exact he.2
      | outgrown => obtain ⟨_, _, h1, _⟩ := (show LetsOut _ from he); exact absurd rfl h1
    case row row args =>
      refine ⟨fun hx => absurd hx (by simp [Fence.inRound, Fence.wide]), fun c cs _ => ?_⟩
      obtain ⟨v, w', r, s⟩ := h c cs
      exact ⟨v, w', r, (stepsIn_wide (P := P)).2 s⟩
  | halt x w' =>
    cases x <;> simp only [Oper.upon, Oper.uponIn] at h ⊢
    case panic u => exact h.2

theorem wpAnyD_listC (hd : plainOps ops = true) {N : Act → World → Prop} {fuel : Nat} :
    ∀ (l : List Nat) (listed : Array Bool) (a : Act) (w : World), C w → chainB md ops l listed = true →
      (∀ a' w', C w' → N a' w' → wpAnyD n r P md ops C m Q fuel (listAll l listed) a' w') → wpListC P ops C (fun e a w => e ≠ .outgrown ∧ Q e a w) N (pickOps ops l) a w → wpAnyD n r P md ops C m Q (l.length + fuel) listed a w
  | [], listed, a, w, hC, _, hN, h => by simp only [List.length_nil, Nat.zero_add]; exact hN _ _ hC h
  | i :: s, listed, a, w, hC, hB, hN, h => by
    simp only [chainB, Bool.and_eq_true, decide_eq_true_eq] at hB
    obtain ⟨hr, hB'⟩ := hB
    have hi : i ∈ Region.ready md ops listed := by rw [hr]; simp
    obtain ⟨_, o, ho, _⟩ := mem_ready.1 hi
    rw [pickOps_cons ho] at h
    rw [show (i :: s).length + fuel = (s.length + fuel) + 1 by simp only [List.length_cons]; omega]
    refine readyD_one hr ?_
    unfold wpOpIn
    rw [ho]
    simp only []
    unfold wpListC at h
    by_cases hw : Region.wanted o (yielded ops a.tmps) = true
    · rw [if_pos hw] at h
      rw [if_pos hw]
      exact wpIn_of_wp (plainOps_spec hd ho) (Oper.wp_mono (fun a' w' h' => ⟨fun _ => h'.1, wpAnyD_listC hd s _ a' w' h'.1 hB' hN h'.2⟩) h)
    · rw [if_neg hw] at h
      rw [if_neg hw]
      exact ⟨fun _ _ => trivial, fun _ => hC, wpAnyD_listC hd s _ _ w hC hB' hN h⟩

theorem wpAnyD_list :
    ∀ (l : List Nat) (listed : Array Bool) (a : Act) (w : World), l.all (fun i => decide (m ≤ i)) = true → chainB md ops l listed = true →
      Region.ready md ops (listAll l listed) = [] → wpListIn (Fence.wide.inRound r) n P ops Q (pickOps ops l) a w → wpAnyD n r P md ops C m Q l.length listed a w
  | [], listed, a, w, _, _, he, h => ⟨he, h⟩
  | i :: s, listed, a, w, hm, hB, he, h => by
    simp only [chainB, Bool.and_eq_true, decide_eq_true_eq] at hB
    simp only [List.all_cons, Bool.and_eq_true, decide_eq_true_eq] at hm
    obtain ⟨hr, hB'⟩ := hB
    have hi : i ∈ Region.ready md ops listed := by rw [hr]; simp
    obtain ⟨_, o, ho, _⟩ := mem_ready.1 hi
    rw [pickOps_cons ho] at h
    refine readyD_one hr ?_
    unfold wpOpIn
    rw [ho]
    simp only []
    unfold wpListIn at h
    by_cases hw : Region.wanted o (yielded ops a.tmps) = true
    · rw [if_pos hw] at h
      rw [if_pos hw]
      exact Oper.wpIn_mono (fun a' w' h' => ⟨fun hlt => absurd hm.1 (by omega), wpAnyD_list s _ a' w' hm.2 hB' he h'⟩) h
    · rw [if_neg hw] at h
      rw [if_neg hw]
      exact ⟨h.1, fun hlt => absurd hm.1 (by omega), wpAnyD_list s _ _ w hm.2 hB' he h.2⟩

theorem wpAnyD_segs (hd : plainOps ops = true) (hs : Region.noSelect ops = true) (hQ : ∀ c a t w, Q (.panic c) { a with tmps := t } w → Q (.panic c) a w) :
    ∀ (segs : List (Nat × List Nat)) (listed : Array Bool) (a : Act) (w : World), listed.size = ops.size → C w → segsB md ops m segs listed = true →
      wpSegsD n r P ops C Q segs a w → wpAnyD n r P md ops C m Q (segsLen segs) listed a w
  | [], listed, a, w, _, _, hB, h => ⟨by simpa [segsB] using hB, h⟩
  | (0, l) :: s, listed, a, w, hz, hC, hB, h => by
    simp only [segsB, Bool.and_eq_true] at hB
    exact wpAnyD_heads hd hs hQ hC l listed a hz hB.1 (fun a' h' => wpAnyD_segs hd hs hQ s _ a' w (by rw [listAll_size]; exact hz) hC hB.2 h') h
  | (1, l) :: s, listed, a, w, hz, hC, hB, h => by
    simp only [segsB, Bool.and_eq_true] at hB
    exact wpAnyD_listC hd l listed a w hC hB.1 (fun a' w' hC' h' => wpAnyD_segs hd hs hQ s _ a' w' (by rw [listAll_size]; exact hz) hC' hB.2 h') h
  | (_ + 2, l) :: s, listed, a, w, hz, hC, hB, h => by
    simp only [segsB, Bool.and_eq_true] at hB
    exact wpAnyD_list l listed a w hB.1.1 hB.1.2 (by simpa using hB.2) h

/-- A drawing region within a round, along a plan. -/
theorem wpD_region_plan {id : Nat} {a : Act} {w : World} {l : List Oper} (m : Nat) (segs : List (Nat × List Nat)) (C : World → Prop) (hm : P.follows .mixedOrders = true) (hB : planB l.toArray m segs = true) (hd : plainOps l.toArray = true)
    (hC : C { w with drawn := w.drawn + 1 }) (hQ : ∀ c a t w, Q (.panic c) { a with tmps := t } w → Q (.panic c) a w)
    (h : wpSegsD n r P l.toArray C Q segs a { w with drawn := w.drawn + 1 }) : (Code.region id l.toArray true).wpIn (Fence.wide.inRound r) n P Q a w := by
  simp only [planB, Bool.and_eq_true, decide_eq_true_eq] at hB
  refine wpIn_region_any hm (wpAnyIn_of_D (m := m) (C := C) _ _ _ _ ?_)
  rw [← hB.1.2]
  exact wpAnyD_segs hd hB.1.1 hQ segs _ a _ (by simp [hB.1.2]) hC (by rw [hB.1.2]; exact hB.2) h
end
theorem wpIn_noexit {F : Fence} {n : Nat} {P : Program} {c : Code} {K : Act → World → Prop} {Q : Exit → Act → World → Prop} {a : Act} {w : World} (h : c.wpIn F n P (Exit.then K (fun _ _ _ => False)) a w) : c.wpIn F n P (Exit.then K Q) a w :=
  wpIn_mono h (fun e a w h => by cases e <;> first | exact h | exact h.elim)
end Go.Proofs.YtnmnmkdmnohbmaaDoor
