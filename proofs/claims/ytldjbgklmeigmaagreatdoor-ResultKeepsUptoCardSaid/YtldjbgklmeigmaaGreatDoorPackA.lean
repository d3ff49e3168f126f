/- Several texts in one: Helper text: a rule for regions that draw their order: reads of a stable class of worlds may be taken first, the rest goes in its forced order. Helper text: walks over the path functions of tree and of the reference: bare, stepOrder, Compare, Under. Conditions: none. -/
import Derived.Deep.Quiet
import Derived.Lib.QuietBelow
import Derived.StillTail
import Derived.Test.YtldjbgklmeigmaaGreatDoorProg
import Derived.WalkKit
import Derived.WalkSpells
import Derived.WalkLawsBesides
import Derived.Lib.Hide
import Derived.BigQuiet
namespace Go.Proofs.YtldjbgklmeigmaaGreatDoor
open Go Go.RowKit
section
variable {P : Program} {ops : Array Oper} {Q : Exit → Act → World → Prop} {md : Region.Mode} {C : World → Prop} {m : Nat}

/-- Whatever order is picked; each operation with a number below m lands in the class C. -/
def wpAnyC (P : Program) (md : Region.Mode) (ops : Array Oper) (C : World → Prop) (m : Nat) (Q : Exit → Act → World → Prop) : Nat → Array Bool → Act → World → Prop
  | 0, listed, a, w => Region.ready md ops listed = [] ∧ Q .normal a w
  | fuel + 1, listed, a, w =>
    (Region.ready md ops listed = [] → Q .normal a w) ∧
    ∀ i ∈ Region.ready md ops listed, wpOp P ops Q i (fun a' w' => (i < m → C w') ∧ wpAnyC P md ops C m Q fuel (listed.setIfInBounds i true) a' w') a w

theorem wpAny_of_C : ∀ (fuel : Nat) (listed : Array Bool) (a : Act) (w : World), wpAnyC P md ops C m Q fuel listed a w → wpAny P md ops Q fuel listed a w
  | 0, _, _, _, h => h
  | fuel + 1, _, _, _, h => ⟨h.1, fun i hi => wpOp_mono (fun a' w' h' => wpAny_of_C fuel _ a' w' h'.2) (h.2 i hi)⟩

/-- In state a, in every world of the class, the operation yields v and leaves the world. -/
def YieldsC (P : Program) (ops : Array Oper) (C : World → Prop) (o : Oper) (v : Value) (a : Act) : Prop :=
  (Region.wanted o (yielded ops a.tmps) = true ∧ ∀ w, C w → (execOp a.eval o).run P w = .ok (.value v) w) ∨
  (Region.wanted o (yielded ops a.tmps) = false ∧ v = undef)

theorem YieldsC.of_same {o : Oper} {v : Value} {a a' : Act} (hy : YieldsC P ops C o v a) (he : execOp a'.eval o = execOp a.eval o)
    (hw : Region.wanted o (yielded ops a'.tmps) = Region.wanted o (yielded ops a.tmps)) : YieldsC P ops C o v a' := by
  unfold YieldsC at *
  rw [he, hw]
  exact hy

theorem YieldsC.wpOp {i : Nat} {o : Oper} {v : Value} {a : Act} (hi : ops[i]? = some o) (hy : YieldsC P ops C o v a)
    {K : Act → World → Prop} {w : World} (hC : C w) (h : K (a.put o.dst v) w) : wpOp P ops Q i K a w := by
  unfold Go.wpOp
  simp only [hi]
  rcases hy with ⟨hw, hv⟩ | ⟨hw, rfl⟩
  · simp only [hw, if_true, Oper.wp, hv w hC, Oper.upon]; exact .inl h
  · simp only [hw, Bool.false_eq_true, if_false]; exact h

theorem panic_put (hQ : ∀ c a t w, Q (.panic c) { a with tmps := t } w → Q (.panic c) a w) {c : List PanicEntry} {a : Act} {d : Option Tmp} {v : Value} {w : World} (h : Q (.panic c) (a.put d v) w) : Q (.panic c) a w := by
  cases d with
  | none => exact h
  | some d => exact hQ c a _ w h

theorem wpOp_putC {j : Nat} {oi oj : Oper} {v : Value} (hj : ops[j]? = some oj) (hap : oi.apart ops oj = true)
    (hsi : ∀ cs b, oi.op ≠ .select cs b) (hsj : ∀ cs b, oj.op ≠ .select cs b)
    (hQ : ∀ c a t w, Q (.panic c) { a with tmps := t } w → Q (.panic c) a w) {K : Act → World → Prop} {a : Act} {w : World}
    (hy : YieldsC P ops C oi v a) (h : wpOp P ops Q j K (a.put oi.dst v) w) :
    wpOp P ops Q j (fun a' w' => YieldsC P ops C oi v a' ∧ K (a'.put oi.dst v) w') a w := by
  obtain ⟨h1, h2, h3⟩ := Oper.apart_spec hap
  have keep : ∀ (a : Act), YieldsC P ops C oi v a → ∀ u, YieldsC P ops C oi v (a.put oj.dst u) := fun a hy u =>
    hy.of_same (execOp_put oi hsi a oj.dst u h3) (wanted_put oi a oj.dst u h3)
  have keepD : ∀ d, YieldsC P ops C oi v { a with defers := d :: a.defers } := fun d => hy.of_same rfl rfl
  unfold wpOp at *
  simp only [hj] at *
  rw [wanted_put oj a oi.dst v h1] at h
  split
  · rename_i hw
    simp only [hw, if_true] at h
    rcases h with h | ⟨hasks, hlets⟩
    case inr => exact .inr ⟨by unfold Oper.asks at *; rw [execOp_put oj hsj a oi.dst v h1] at hasks; exact hasks, hlets⟩
    refine .inl ?_
    unfold Oper.wp at *
    rw [execOp_put oj hsj a oi.dst v h1] at h
    generalize (execOp a.eval oj).run P w = r at *
    cases r with
    | ok n w' =>
      cases n <;> simp only [Oper.upon] at h ⊢
      case value u => exact ⟨keep a hy u, by rw [← Act.put_comm a v u h2]; exact h⟩
      case skip => exact ⟨keep a hy _, by rw [← Act.put_comm a v undef h2]; exact h⟩
      case defer d =>
        refine ⟨keep _ (keepD d) _, ?_⟩
        rw [← Act.put_comm _ v undef h2, ← Act.put_defers]
        exact h
      case enter f args =>
        refine Calls.mono h fun e w'' he => ?_
        cases e with
        | returned u => exact ⟨keep a hy u, by rw [← Act.put_comm a v u h2]; exact he⟩
        | panicked c => exact panic_put hQ he
        | outgrown => exact he
      case row row args => exact Rows.mono h fun u w'' he => ⟨keep a hy u, by rw [← Act.put_comm a v u h2]; exact he⟩
    | halt x w' =>
      cases x <;> simp only [Oper.upon] at h ⊢
      case panic u => exact panic_put hQ h
  · rename_i hw
    simp only [hw] at h
    exact ⟨keep a hy _, by rw [← Act.put_comm a v undef h2]; exact h⟩

theorem wpAnyC_first {i : Nat} {oi : Oper} {v : Value} (hi : ops[i]? = some oi) (hsel : ∀ (j : Nat) (o : Oper) cs b, ops[j]? = some o → o.op ≠ .select cs b)
    (hQ : ∀ c a t w, Q (.panic c) { a with tmps := t } w → Q (.panic c) a w) (D : Nat → Bool)
    (hD : ∀ j, D j = true → ∃ oj, ops[j]? = some oj ∧ ∃ e ∈ oj.after, Region.binds md e = true ∧ (e.on = i ∨ D e.on = true)) :
    ∀ (fuel : Nat) (listed : Array Bool) (a : Act) (w : World),
      (∀ j oj, ops[j]? = some oj → j ≠ i → listed.getD j true = false → (∀ e ∈ oj.after, Region.binds md e = true → e.on ≠ i) → oi.apart ops oj = true) →
      (∀ j, D j = true → listed.getD j true = false) →
      (∀ j, j ≠ i → listed.getD j true = false → D j = false → j < m) →
      i ∈ Region.ready md ops listed → YieldsC P ops C oi v a → C w →
      wpAnyC P md ops C m Q fuel (listed.setIfInBounds i true) (a.put oi.dst v) w → wpAnyC P md ops C m Q (fuel + 1) listed a w := by
  intro fuel
  induction fuel with
  | zero =>
    intro listed a w _ _ _ hr hy hC H
    refine ⟨fun h => (by rw [h] at hr; cases hr), fun j hj => ?_⟩
    by_cases hji : j = i
    · subst hji; exact hy.wpOp hi hC ⟨fun _ => hC, H⟩
    · have := ready_mono hj hji
      rw [H.1] at this
      cases this
  | succ fuel ih =>
    intro listed a w hfree hDl hE hr hy hC H
    refine ⟨fun h => (by rw [h] at hr; cases hr), fun j hj => ?_⟩
    by_cases hji : j = i
    · subst hji; exact hy.wpOp hi hC ⟨fun _ => hC, H⟩
    · have h1 := H.2 j (ready_mono hj hji)
      obtain ⟨hjun, oj, hoj, hall⟩ := mem_ready.1 hj
      have hiun := (mem_ready.1 hr).1
      have hDj : D j = false := by
        cases hd : D j with
        | false => rfl
        | true =>
          obtain ⟨oj', hoj', e, he, hb, hon⟩ := hD j hd
          have : oj' = oj := Option.some.inj (hoj'.symm.trans hoj)
          subst this
          have h0 := hall e he hb
          rcases hon with hon | hon
          · rw [hon, getD_both hiun] at h0; cases h0
          · rw [getD_both (hDl _ hon)] at h0; cases h0
      have hjm : j < m := hE j hji hjun hDj
      have hnot : ∀ e ∈ oj.after, Region.binds md e = true → e.on ≠ i := fun e he hb heq => by
        have h1 := hall e he hb
        rw [heq, getD_both hiun] at h1
        cases h1
      have h2 := wpOp_putC hoj (hfree j oj hoj hji hjun hnot) (fun cs b => hsel i oi cs b hi) (fun cs b => hsel j oj cs b hoj) hQ hy h1
      have hfree' : ∀ k ok, ops[k]? = some ok → k ≠ i → (listed.setIfInBounds j true).getD k true = false →
          (∀ e ∈ ok.after, Region.binds md e = true → e.on ≠ i) → oi.apart ops ok = true := fun k ok hk hki hun hno => by
        refine hfree k ok hk hki ?_ hno
        by_cases hjk : j = k
        · subst hjk; exact hjun
        · rw [getD_set_ne true hjk] at hun; exact hun
      have hDl' : ∀ k, D k = true → (listed.setIfInBounds j true).getD k true = false := fun k hk => by
        rw [getD_set_ne true (fun h => by subst h; rw [hDj] at hk; cases hk)]
        exact hDl k hk
      have hE' : ∀ k, k ≠ i → (listed.setIfInBounds j true).getD k true = false → D k = false → k < m := fun k hki hun hd => by
        by_cases hjk : j = k
        · subst hjk; exact hjm
        · rw [getD_set_ne true hjk] at hun; exact hE k hki hun hd
      refine wpOp_mono (fun a' w' h3 => ⟨h3.2.1, ih (listed.setIfInBounds j true) a' w' hfree' hDl' hE' (ready_mono hr (Ne.symm hji)) h3.1 (h3.2.1 hjm) ?_⟩) h2
      rw [Array.setIfInBounds_comm _ _ hji]
      exact h3.2.2

/-- May operation i be taken first: whoever does not wait for it has a number below m. -/
def firstB (md : Region.Mode) (ops : Array Oper) (m : Nat) (listed : Array Bool) (i : Nat) : Bool :=
  (Region.ready md ops listed).contains i && Region.free md ops listed i &&
  (List.range ops.size).all fun j =>
    if ((Region.before ops).getD j 0).testBit i then
      !listed.getD j true && (match ops[j]? with
        | some oj => oj.after.any fun e => Region.binds md e && (e.on == i || (decide (e.on < ops.size) && ((Region.before ops).getD e.on 0).testBit i))
        | none => false)
    else j == i || listed.getD j true || decide (j < m)

theorem wpAnyC_take {i : Nat} {oi : Oper} {v : Value} {fuel : Nat} {listed : Array Bool} {a : Act} {w : World} (hi : ops[i]? = some oi)
    (hs : Region.noSelect ops = true) (hf : firstB md ops m listed i = true) (hsz : listed.size = ops.size)
    (hQ : ∀ c a t w, Q (.panic c) { a with tmps := t } w → Q (.panic c) a w) (hy : YieldsC P ops C oi v a) (hC : C w)
    (h : wpAnyC P md ops C m Q fuel (listed.setIfInBounds i true) (a.put oi.dst v) w) : wpAnyC P md ops C m Q (fuel + 1) listed a w := by
  simp only [firstB, Bool.and_eq_true, List.all_eq_true, List.mem_range] at hf
  obtain ⟨⟨hr, hfr⟩, hall⟩ := hf
  refine wpAnyC_first hi (Region.noSelect_spec hs) hQ (fun j => decide (j < ops.size) && ((Region.before ops).getD j 0).testBit i) ?_ fuel listed a w (Region.free_spec hi hfr) ?_ ?_ (by simpa using hr) hy hC h
  · intro j hj
    simp only [Bool.and_eq_true, decide_eq_true_eq] at hj
    have h0 := hall j hj.1
    rw [if_pos hj.2] at h0
    simp only [Bool.and_eq_true] at h0
    cases ho : ops[j]? with
    | none => rw [ho] at h0; exact absurd h0.2 (by simp)
    | some oj =>
      rw [ho] at h0
      obtain ⟨e, he, hb⟩ := Array.any_eq_true'.1 h0.2
      rw [Bool.and_eq_true, Bool.or_eq_true, beq_iff_eq] at hb
      exact ⟨oj, rfl, e, he, hb.1, hb.2⟩
  · intro j hj
    simp only [Bool.and_eq_true, decide_eq_true_eq] at hj
    have h0 := hall j hj.1
    rw [if_pos hj.2] at h0
    simp only [Bool.and_eq_true, Bool.not_eq_true'] at h0
    exact h0.1
  · intro j hji hun hd
    have hlt : j < ops.size := by
      rcases Nat.lt_or_ge j listed.size with h' | h'
      · omega
      · simp [Array.getElem?_eq_none h'] at hun
    have hb : ¬ ((Region.before ops).getD j 0).testBit i = true := by
      simp only [hlt, decide_true, Bool.true_and] at hd
      rw [hd]; simp
    have h0 := hall j hlt
    rw [if_neg hb, hun] at h0
    simp only [Bool.or_eq_true, beq_iff_eq, hji, false_or, Bool.false_eq_true, decide_eq_true_eq] at h0
    exact h0

/-- The operations by number. -/
def pickOps (ops : Array Oper) : List Nat → List Oper
  | [] => []
  | i :: r => match ops[i]? with
    | some o => o :: pickOps ops r
    | none => pickOps ops r

/-- A list of operations in its order; behind each the world is of the class. -/
def wpListC (P : Program) (ops : Array Oper) (C : World → Prop) (Q : Exit → Act → World → Prop) (N : Act → World → Prop) : List Oper → Act → World → Prop
  | [], a, w => N a w
  | o :: rest, a, w =>
    if Region.wanted o (yielded ops a.tmps) then o.wp P a w (fun a' w' => C w' ∧ wpListC P ops C Q N rest a' w') Q
    else wpListC P ops C Q N rest (a.put o.dst undef) w

theorem wpListC_nil {N : Act → World → Prop} {a : Act} {w : World} (h : N a w) : wpListC P ops C Q N [] a w := h

theorem wpListC_plain {N : Act → World → Prop} {a : Act} {w : World} {o : Oper} {rest : List Oper} (hg : o.guard = none)
    (h : ∀ K : Act → World → Prop, (∀ a w, C w → wpListC P ops C Q N rest a w → K a w) → o.wp P a w K Q) : wpListC P ops C Q N (o :: rest) a w := by
  have h0 := h (fun a' w' => C w' ∧ wpListC P ops C Q N rest a' w') (fun _ _ h1 h2 => ⟨h1, h2⟩)
  unfold wpListC
  rw [if_pos (by simp [Region.wanted, hg])]
  exact h0

theorem wpListC_want {N : Act → World → Prop} {a : Act} {w : World} {o : Oper} {rest : List Oper} (hg : Region.wanted o (yielded ops a.tmps) = true)
    (h : ∀ K : Act → World → Prop, (∀ a w, C w → wpListC P ops C Q N rest a w → K a w) → o.wp P a w K Q) : wpListC P ops C Q N (o :: rest) a w := by
  have h0 := h (fun a' w' => C w' ∧ wpListC P ops C Q N rest a' w') (fun _ _ h1 h2 => ⟨h1, h2⟩)
  unfold wpListC
  rw [if_pos hg]
  exact h0

theorem wpListC_skip {N : Act → World → Prop} {a : Act} {w : World} {o : Oper} {rest : List Oper} (hg : Region.wanted o (yielded ops a.tmps) = false)
    (h : wpListC P ops C Q N rest (a.put o.dst undef) w) : wpListC P ops C Q N (o :: rest) a w := by
  unfold wpListC
  rw [if_neg (by rw [hg]; simp)]
  exact h

/-- The segments of a plan: (0, heads that are only read), (1, operations in their forced order that stay in the class), (2, operations in their forced order). -/
def wpSegs (P : Program) (ops : Array Oper) (C : World → Prop) (Q : Exit → Act → World → Prop) : List (Nat × List Nat) → Act → World → Prop
  | [], a, w => Q .normal a w
  | (0, l) :: r, a, w => wpQuiet P ops C (fun a' => wpSegs P ops C Q r a' w) (pickOps ops l) a
  | (1, l) :: r, a, w => wpListC P ops C Q (wpSegs P ops C Q r) (pickOps ops l) a w
  | (_ + 2, l) :: _, a, w => wpList P ops Q (pickOps ops l) a w

def isRead : Op → Bool
  | .call { callee := .builtin .len, .. } => true
  | .move _ | .assign _ | .pick .. | .load .. | .nilCheck _ | .binOp .. | .unOp .. | .convert .. | .fieldAddr .. | .field .. | .indexAddr .. | .index .. | .build .. | .extract .. | .lookup .. | .slice .. => true
  | _ => false

def readAt (ops : Array Oper) (i : Nat) : Bool := match ops[i]? with | some o => isRead o.op && o.dst.isSome | none => false

def headsB (md : Region.Mode) (ops : Array Oper) (m : Nat) : List Nat → Array Bool → Bool
  | [], _ => true
  | i :: r, listed => readAt ops i && firstB md ops m listed i && headsB md ops m r (listed.setIfInBounds i true)
def chainB (md : Region.Mode) (ops : Array Oper) : List Nat → Array Bool → Bool
  | [], _ => true
  | i :: r, listed => decide (Region.ready md ops listed = [i]) && chainB md ops r (listed.setIfInBounds i true)
def listAll : List Nat → Array Bool → Array Bool
  | [], listed => listed
  | i :: r, listed => listAll r (listed.setIfInBounds i true)
def segsB (md : Region.Mode) (ops : Array Oper) (m : Nat) : List (Nat × List Nat) → Array Bool → Bool
  | [], listed => (Region.ready md ops listed).isEmpty
  | (0, l) :: r, listed => headsB md ops m l listed && segsB md ops m r (listAll l listed)
  | (1, l) :: r, listed => chainB md ops l listed && segsB md ops m r (listAll l listed)
  | (_ + 2, l) :: _, listed => l.all (fun i => decide (m ≤ i)) && chainB md ops l listed && (Region.ready md ops (listAll l listed)).isEmpty
def segsLen : List (Nat × List Nat) → Nat
  | [] => 0
  | (0, l) :: r => l.length + segsLen r
  | (1, l) :: r => l.length + segsLen r
  | (_ + 2, l) :: _ => l.length

theorem run_skipless {α : Type} (s : Sem α) (f : α → Next) (w w' : World) (n : Next) (h : (do pure (f (← s)) : Sem Next).run P w = .ok n w') : ∃ x, n = f x := by
  rw [Sem.run_bind] at h
  cases hs : s.run P w with
  | ok x w1 =>
    rw [hs] at h
    simp only [Result.andThen, Sem.run_pure] at h
    exact ⟨x, by injection h with h1 h2; exact h1.symm⟩
  | halt x w1 =>
    rw [hs] at h
    simp only [Result.andThen] at h
    cases h

theorem nilDeref_not_ok {α : Type} (w w' : World) (n : α) : (runtimePanic .nilDeref : Sem α).run P w ≠ .ok n w' := by
  simp [runtimePanic, goPanic, program, Sem.run_bind, Sem.run, Result.andThen]

theorem read_value {o : Oper} (hr : isRead o.op = true) {ρ : Operand → Value} {w w' : World} {n : Next} (h : (execOp ρ o).run P w = .ok n w') : ∃ x, n = .value x := by
  obtain ⟨dst, op, type, pos, after, guard⟩ := o
  cases op <;> simp only [isRead, Bool.false_eq_true] at hr <;> simp only [execOp] at h
  case move x => simp only [Sem.run_pure] at h; exact ⟨_, by injection h with h1 h2; exact h1.symm⟩
  case assign x => simp only [Sem.run_pure] at h; exact ⟨_, by injection h with h1 h2; exact h1.symm⟩
  case pick c x y => obtain ⟨b, hb⟩ := run_skipless (asBool (ρ c)) (fun b => Next.value (if b = true then ρ x else ρ y)) w w' n h; exact ⟨_, hb⟩
  case nilCheck x =>
    split at h
    · exact absurd h (nilDeref_not_ok _ _ _)
    · exact absurd h (nilDeref_not_ok _ _ _)
    · exact absurd h (nilDeref_not_ok _ _ _)
    · split at h
      · exact absurd h (nilDeref_not_ok _ _ _)
      · rename_i t w1 _
        simp only [program, Sem.run_bind, Sem.run, Result.andThen] at h
        split at h
        · split at h
          · simp [unsupported, Sem.run, Result.andThen] at h
          · simp only [Sem.run_pure] at h; exact ⟨_, by injection h with h1 h2; exact h1.symm⟩
        · cases h
      · simp only [Sem.run_pure] at h; exact ⟨_, by injection h with h1 h2; exact h1.symm⟩
    · simp only [Sem.run_pure] at h; exact ⟨_, by injection h with h1 h2; exact h1.symm⟩
  case call c =>
    obtain ⟨callee, args, argTypes⟩ := c
    cases callee with
    | builtin b =>
      cases b <;> simp only [Bool.false_eq_true] at hr
      simp only [resolve, invoke, builtin, Sem.run_bind, Sem.run_pure, Result.andThen] at h
      exact run_skipless (Builtin.len_ argTypes type (args.map ρ)) Next.value w w' n (by rw [Sem.run_bind]; exact h)
    | _ => simp at hr
  all_goals exact run_skipless _ Next.value w w' n h

theorem yields_of_quiet {o : Oper} (hr : isRead o.op = true) {a : Act} {v : Value} (hw : Region.wanted o (yielded ops a.tmps) = true) (h : ∀ w, C w → o.quietAt P a C w v) : YieldsC P ops C o v a := by
  refine .inl ⟨hw, fun w hC => ?_⟩
  have h0 := h w hC
  unfold Oper.quietAt at h0
  cases hx : (execOp a.eval o).run P w with
  | ok n w' =>
    obtain ⟨x, rfl⟩ := read_value hr hx
    rw [hx] at h0
    simp only [Oper.quietUpon] at h0
    rw [h0.1, h0.2]
  | halt x w' => rw [hx] at h0; simp only [Oper.quietUpon] at h0

theorem pickOps_cons {i : Nat} {o : Oper} (h : ops[i]? = some o) (r : List Nat) : pickOps ops (i :: r) = o :: pickOps ops r := by
  simp only [pickOps, h]

theorem listAll_size : ∀ (l : List Nat) (listed : Array Bool), (listAll l listed).size = listed.size
  | [], _ => rfl
  | i :: r, listed => by rw [listAll, listAll_size r]; simp

theorem wpAnyC_heads (hs : Region.noSelect ops = true) (hQ : ∀ c a t w, Q (.panic c) { a with tmps := t } w → Q (.panic c) a w) {w : World} (hC : C w) {N : Act → Prop} {fuel : Nat} :
    ∀ (l : List Nat) (listed : Array Bool) (a : Act), listed.size = ops.size → headsB md ops m l listed = true →
      (∀ a', N a' → wpAnyC P md ops C m Q fuel (listAll l listed) a' w) → wpQuiet P ops C N (pickOps ops l) a → wpAnyC P md ops C m Q (l.length + fuel) listed a w
  | [], listed, a, _, _, hN, h => by simp only [List.length_nil, Nat.zero_add]; exact hN _ h
  | i :: r, listed, a, hz, hB, hN, h => by
    simp only [headsB, Bool.and_eq_true] at hB
    obtain ⟨⟨hr, hf⟩, hB'⟩ := hB
    unfold readAt at hr
    cases ho : ops[i]? with
    | none => rw [ho] at hr; cases hr
    | some o =>
      rw [ho] at hr
      simp only [Bool.and_eq_true] at hr
      rw [pickOps_cons ho] at h
      rw [show (i :: r).length + fuel = (r.length + fuel) + 1 by simp only [List.length_cons]; omega]
      have hz' : (listed.setIfInBounds i true).size = ops.size := by simp [hz]
      by_cases hw : Region.wanted o (yielded ops a.tmps) = true
      · simp only [wpQuiet, if_pos hw] at h
        obtain ⟨v, h1, h2⟩ := h
        exact wpAnyC_take ho hs hf hz hQ (yields_of_quiet hr.1 hw h1) hC (wpAnyC_heads hs hQ hC r _ _ hz' hB' hN h2)
      · have hw' : Region.wanted o (yielded ops a.tmps) = false := by simpa using hw
        simp only [wpQuiet, if_neg hw] at h
        exact wpAnyC_take ho hs hf hz hQ (.inr ⟨hw', rfl⟩) hC (wpAnyC_heads hs hQ hC r _ _ hz' hB' hN h)

theorem ready_one {i : Nat} {listed : Array Bool} {fuel : Nat} {a : Act} {w : World} (hr : Region.ready md ops listed = [i])
    (h : wpOp P ops Q i (fun a' w' => (i < m → C w') ∧ wpAnyC P md ops C m Q fuel (listed.setIfInBounds i true) a' w') a w) : wpAnyC P md ops C m Q (fuel + 1) listed a w :=
  ⟨fun h0 => (by rw [hr] at h0; cases h0), fun j hj => by rw [hr] at hj; obtain rfl := List.mem_singleton.1 hj; exact h⟩

theorem wpAnyC_listC {N : Act → World → Prop} {fuel : Nat} :
    ∀ (l : List Nat) (listed : Array Bool) (a : Act) (w : World), C w → chainB md ops l listed = true →
      (∀ a' w', C w' → N a' w' → wpAnyC P md ops C m Q fuel (listAll l listed) a' w') → wpListC P ops C Q N (pickOps ops l) a w → wpAnyC P md ops C m Q (l.length + fuel) listed a w
  | [], listed, a, w, hC, _, hN, h => by simp only [List.length_nil, Nat.zero_add]; exact hN _ _ hC h
  | i :: r, listed, a, w, hC, hB, hN, h => by
    simp only [chainB, Bool.and_eq_true, decide_eq_true_eq] at hB
    obtain ⟨hr, hB'⟩ := hB
    have hi : i ∈ Region.ready md ops listed := by rw [hr]; simp
    obtain ⟨_, o, ho, _⟩ := mem_ready.1 hi
    rw [pickOps_cons ho] at h
    rw [show (i :: r).length + fuel = (r.length + fuel) + 1 by simp only [List.length_cons]; omega]
    refine ready_one hr ?_
    unfold wpOp
    rw [ho]
    simp only []
    unfold wpListC at h
    by_cases hw : Region.wanted o (yielded ops a.tmps) = true
    · rw [if_pos hw] at h
      rw [if_pos hw]
      exact .inl (Oper.wp_mono (fun a' w' h' => ⟨fun _ => h'.1, wpAnyC_listC r _ a' w' h'.1 hB' hN h'.2⟩) h)
    · rw [if_neg hw] at h
      rw [if_neg hw]
      exact ⟨fun _ => hC, wpAnyC_listC r _ _ w hC hB' hN h⟩

theorem wpAnyC_list :
    ∀ (l : List Nat) (listed : Array Bool) (a : Act) (w : World), l.all (fun i => decide (m ≤ i)) = true → chainB md ops l listed = true →
      Region.ready md ops (listAll l listed) = [] → wpList P ops Q (pickOps ops l) a w → wpAnyC P md ops C m Q l.length listed a w
  | [], listed, a, w, _, _, he, h => ⟨he, h⟩
  | i :: r, listed, a, w, hm, hB, he, h => by
    simp only [chainB, Bool.and_eq_true, decide_eq_true_eq] at hB
    simp only [List.all_cons, Bool.and_eq_true, decide_eq_true_eq] at hm
    obtain ⟨hr, hB'⟩ := hB
    have hi : i ∈ Region.ready md ops listed := by rw [hr]; simp
    obtain ⟨_, o, ho, _⟩ := mem_ready.1 hi
    rw [pickOps_cons ho] at h
    refine ready_one hr ?_
    unfold wpOp
    rw [ho]
    simp only []
    unfold wpList at h
    by_cases hw : Region.wanted o (yielded ops a.tmps) = true
    · rw [if_pos hw] at h
      rw [if_pos hw]
      exact h.imp (Oper.wp_mono (fun a' w' h' => ⟨fun hlt => absurd hm.1 (by omega), wpAnyC_list r _ a' w' hm.2 hB' he h'⟩)) id
    · rw [if_neg hw] at h
      rw [if_neg hw]
      exact ⟨fun hlt => absurd hm.1 (by omega), wpAnyC_list r _ _ w hm.2 hB' he h⟩

theorem wpAnyC_segs (hs : Region.noSelect ops = true) (hQ : ∀ c a t w, Q (.panic c) { a with tmps := t } w → Q (.panic c) a w) :
    ∀ (segs : List (Nat × List Nat)) (listed : Array Bool) (a : Act) (w : World), listed.size = ops.size → C w → segsB md ops m segs listed = true →
      wpSegs P ops C Q segs a w → wpAnyC P md ops C m Q (segsLen segs) listed a w
  | [], listed, a, w, _, _, hB, h => ⟨by simpa [segsB] using hB, h⟩
  | (0, l) :: r, listed, a, w, hz, hC, hB, h => by
    simp only [segsB, Bool.and_eq_true] at hB
    exact wpAnyC_heads hs hQ hC l listed a hz hB.1 (fun a' h' => wpAnyC_segs hs hQ r _ a' w (by rw [listAll_size]; exact hz) hC hB.2 h') h
  | (1, l) :: r, listed, a, w, hz, hC, hB, h => by
    simp only [segsB, Bool.and_eq_true] at hB
    exact wpAnyC_listC l listed a w hC hB.1 (fun a' w' hC' h' => wpAnyC_segs hs hQ r _ a' w' (by rw [listAll_size]; exact hz) hC' hB.2 h') h
  | (_ + 2, l) :: r, listed, a, w, hz, hC, hB, h => by
    simp only [segsB, Bool.and_eq_true] at hB
    exact wpAnyC_list l listed a w hB.1.1 hB.1.2 (by simpa using hB.2) h

/-- The Bool that the kernel is asked. -/
def planB (ops : Array Oper) (m : Nat) (segs : List (Nat × List Nat)) : Bool :=
  Region.noSelect ops && decide (segsLen segs = ops.size) && segsB .any ops m segs (Array.replicate ops.size false)

theorem wp_region_plan {id : Nat} {a : Act} {w : World} {l : List Oper} (m : Nat) (segs : List (Nat × List Nat)) (C : World → Prop) (hm : P.follows .mixedOrders = true) (hB : planB l.toArray m segs = true)
    (hC : C { w with drawn := w.drawn + 1 }) (hQ : ∀ c a t w, Q (.panic c) { a with tmps := t } w → Q (.panic c) a w)
    (h : wpSegs P l.toArray C Q segs a { w with drawn := w.drawn + 1 }) : (Code.region id l.toArray true).wp P Q a w := by
  simp only [planB, Bool.and_eq_true, decide_eq_true_eq] at hB
  refine wp_region_any hm (wpAny_of_C (m := m) (C := C) _ _ _ _ ?_)
  rw [← hB.1.2]
  exact wpAnyC_segs hB.1.1 hQ segs _ a _ (by simp [hB.1.2]) hC (by rw [hB.1.2]; exact hB.2) h

/-- The class of worlds used here: w, with whatever count of draws, with some blocks behind it. -/
abbrev Cls (w : World) : World → Prop := fun w' => ∃ p : Regrown, w' = Go.Sort.grow (redrawn w p.d) p.os

theorem cls_drew (w : World) : Cls w { w with drawn := w.drawn + 1 } := regrown_of_below (Below.drew (Below.refl _ w))
theorem cls_of_below {w w' : World} (h : Below w.heap.size w w') : Cls w w' := regrown_of_below h
theorem wp_region_plan_below {id : Nat} {a : Act} {w : World} {l : List Oper} (m : Nat) (segs : List (Nat × List Nat)) (hm : P.follows .mixedOrders = true) (hB : planB l.toArray m segs = true)
    (hQ : ∀ c a t w, Q (.panic c) { a with tmps := t } w → Q (.panic c) a w) (h : wpSegs P l.toArray (Cls w) Q segs a { w with drawn := w.drawn + 1 }) : (Code.region id l.toArray true).wp P Q a w :=
  wp_region_plan m segs (Cls w) hm hB (cls_drew w) hQ h
end
end Go.Proofs.YtldjbgklmeigmaaGreatDoor

namespace Go.Proofs.YtldjbgklmeigmaaGreatDoor
open Go.RowKit

/-- The post of most contracts: it returns v and nothing that lay there has turned. -/
def RetB (v : Value) (w : World) (e : Ending) (w' : World) : Prop := e = .returned v ∧ Below w.heap.size w w'
/-- It returns v and the world is the same. -/
def RetS (v : Value) (w : World) (e : Ending) (w' : World) : Prop := e = .returned v ∧ w = w'

structure St where
  nm : ByteArray
  ix : Int
  it : Bool

def St.cells (s : St) : Array Value := #[.string s.nm, .int .i64 s.ix, .bool s.it]

theorem ret_eq {a b : Value} (h : a = b) : Ending.returned a = .returned b := by rw [h]

attribute [local go_sem] St.cells

/-- Paths in memory. -/
def StepsAt (B : Nat) (w : World) (p : Option Addr) (l : List St) : Prop :=
  l = [] ∨ ∃ b o, p = some ⟨b, o, none⟩ ∧ b < B ∧ ∀ i s, l[i]? = some s →
    w.cell? ⟨b, o + i * 3, none⟩ = some (.string s.nm) ∧ w.cell? ⟨b, o + i * 3 + 1, none⟩ = some (.int .i64 s.ix) ∧ w.cell? ⟨b, o + i * 3 + 2, none⟩ = some (.bool s.it)

theorem StepsAt.below {B : Nat} {w w' : World} {p : Option Addr} {l : List St} (h : StepsAt B w p l) (hb : Below B w w') : StepsAt B w' p l := by
  rcases h with h | ⟨b, o, rfl, hB, hc⟩
  · exact .inl h
  · refine .inr ⟨b, o, rfl, hB, fun i s hs => ?_⟩
    obtain ⟨h1, h2, h3⟩ := hc i s hs
    exact ⟨(hb.cell (p := ⟨b, _, none⟩) hB).trans h1, (hb.cell (p := ⟨b, _, none⟩) hB).trans h2, (hb.cell (p := ⟨b, _, none⟩) hB).trans h3⟩

theorem drop_some {α : Type} {l : List α} {k : Nat} {x : α} (h : l[k]? = some x) : l.drop k = x :: l.drop (k + 1) := by
  obtain ⟨hk, rfl⟩ := List.getElem?_eq_some_iff.1 h
  exact List.drop_eq_getElem_cons hk

theorem cell_cls (w : World) : ∀ d os b o, b < w.heap.size → (Go.Sort.grow (redrawn w d) os).cell? ⟨b, o, none⟩ = w.cell? ⟨b, o, none⟩ := fun d os b o h => (below_regrown w d os).cell (p := ⟨b, o, none⟩) h

end Go.Proofs.YtldjbgklmeigmaaGreatDoor
