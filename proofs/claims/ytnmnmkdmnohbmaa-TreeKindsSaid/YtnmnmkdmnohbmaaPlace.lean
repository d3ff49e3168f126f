/- Keys that are places: their law, what placed answers. Conditions: none. -/
import Derived.Test.YtnmnmkdmnohbmaaTabl
import Derived.DeepKeys4
namespace Go.Proofs.Ytnmnmkdmnohbmaa
open Go.RowKit Go.Maps Go.WideMaps
attribute [local go_sem] run_store_float

theorem laidOutP : laidOutB Try.prog = true := by kernel_rfl
theorem wideP : (match Try.prog.underlying 32 with | some (.array _ _) | some (.struct _) => true | _ => false) = true := by rw [Try.underlying32]
theorem rowP : (32 : TypeId) < Try.prog.types.size := of_decide_eq_true (by kernel_rfl)
theorem keyedP : Try.prog.keyTypeAt (2 + 1) 32 = true := by kernel_rfl
set_option maxRecDepth 100000 in
theorem lawP : Keyed Try.prog 32 := Keyed.of_law (deep_law_laid laidOutP (m := 2) (by decide) rowP (by kernel_rfl) wideP)

/-- The key of a place. -/
def pkey (r c : Int) (f : Bool) : Lit := .string (keyBytes [.int .i8 r, .int .i8 c, .bool f])

theorem cellsP : Try.prog.cellsOf 32 = 3 := by kernel_rfl
theorem sizeP : ∃ n, Try.prog.types.size + 1 = n + 2 := ⟨Try.prog.types.size - 1, by have : 1 ≤ Try.prog.types.size := of_decide_eq_true (by kernel_rfl); omega⟩

theorem keyLitsP {r c : Int} {f : Bool} (hr : (Lit.int .i8 r).wf = true) (hc : (Lit.int .i8 c).wf = true) (d : Nat) : Try.prog.keyLits (d + 2) 32 [.int .i8 r, .int .i8 c, .bool f] = some [.int .i8 r, .int .i8 c, .bool f] := by
  have h8 : Try.prog.underlying 30 = some (.int .i8) := by kernel_rfl
  have c8 : Try.prog.cellsOf 30 = 1 := by kernel_rfl
  have cb : Try.prog.cellsOf 4 = 1 := by kernel_rfl
  simp [Try.underlying32, cellsP, Program.keyLits, h8, c8, cb, Try.underlying4, hr, hc]

theorem keyP {r c : Int} {f : Bool} (hr : (Lit.int .i8 r).wf = true) (hc : (Lit.int .i8 c).wf = true) : keyOf Try.prog 32 (.agg #[.int .i8 r, .int .i8 c, .bool f]) = some (pkey r c f) := by
  obtain ⟨n, hn⟩ := sizeP
  have hk : Try.prog.keyType 32 = true := by kernel_rfl
  have hf : (Value.agg #[.int .i8 r, .int .i8 c, .bool f]).formed Try.prog 32 = true := by simp [Value.formed, Try.underlying32, cellsP]
  unfold keyOf
  rw [Try.underlying32]
  simp only [hk, hf, Bool.and_self, if_true, hn, Value.cells]
  rw [keyLitsP hr hc n]
  rfl

theorem pkey_inj {r c r' c' : Int} {f f' : Bool} (hr : (Lit.int .i8 r).wf = true) (hc : (Lit.int .i8 c).wf = true) (hr' : (Lit.int .i8 r').wf = true) (hc' : (Lit.int .i8 c').wf = true) (h : pkey r c f = pkey r' c' f') : r = r' ∧ c = c' ∧ f = f' := by
  have e : keyBytes [Lit.int .i8 r, .int .i8 c, .bool f] = keyBytes [.int .i8 r', .int .i8 c', .bool f'] := by
    unfold pkey at h
    simpa using h
  have := keyLits_inj (keyLitsP hr hc 0) (keyLitsP hr' hc' 0) e
  simpa using this

theorem pkey_lit (r c : Int) (f : Bool) : WideAt.IsKeyLit (pkey r c f) := trivial

def kR (k : Int) : Int := IntKind.i8.wrap k
def kC (k : Int) : Int := IntKind.i8.wrap (k / 256)
def kF (k : Int) : Bool := Go.bits .and .i64 k 1 == 1

/-- The cells of a number's place. -/
@[reducible] def pcells (k : Int) : Array Value := #[.int .i8 (kR k), .int .i8 (kC k), .bool (kF k)]
def pk (k : Int) : Lit := pkey (kR k) (kC k) (kF k)

theorem placed_any (k : Int) (w : World) : Calls Try.prog 15 #[.int .i64 k] w (RetB (.agg (pcells k)) w) := by
  go_enter Try.func15, Try.ntmps15
  go_wp2_with fail
  have hg := heap_new w (.cells #[.int .i8 (IntKind.i8.wrap k), .int .i8 (IntKind.i8.wrap (k / 256)), .bool (Go.bits BinOp.and IntKind.i64 k 1 == 1)] 32)
  refine bodyPost_ret (results_cell_row rfl _ _ w.heap.size _ _ _ _ rfl hg Try.underlying32 rfl (by kernel_rfl)) rfl ?_
  exact ⟨rfl, (Below.refl _ _).alloc (Nat.le_refl _) _⟩

theorem wrap8 (k : Int) : IntKind.i8.wrap k = if k % 256 ≥ 128 then k % 256 - 256 else k % 256 := by
  simp only [IntKind.wrap]
  show (if (true && decide (k % 2 ^ 8 ≥ 2 ^ 7)) = true then k % 2 ^ 8 - 2 ^ 8 else k % 2 ^ 8) = _
  simp

theorem wfR (k : Int) : (Lit.int .i8 (kR k)).wf = true := by
  unfold kR
  rw [wrap8]
  show (decide (-128 ≤ _) && decide (_ ≤ (127 : Int))) = true
  simp only [Bool.and_eq_true]
  refine ⟨decide_eq_true ?_, decide_eq_true ?_⟩ <;> split <;> omega
theorem wfC (k : Int) : (Lit.int .i8 (kC k)).wf = true := wfR (k / 256)
theorem key_pk (k : Int) : keyOf Try.prog 32 (.agg (pcells k)) = some (pk k) := keyP (wfR k) (wfC k)

theorem pk_inj {a b : Int} (ha : 0 ≤ a) (ha' : a < 65536) (hb : 0 ≤ b) (hb' : b < 65536) (h : pk a = pk b) : a = b := by
  obtain ⟨h1, h2, _⟩ := pkey_inj (wfR a) (wfC a) (wfR b) (wfC b) h
  unfold kR at h1
  unfold kC at h2
  rw [wrap8, wrap8] at h1 h2
  split at h1 <;> split at h1 <;> split at h2 <;> split at h2 <;> omega

theorem p_far : pcells 131072 = pcells 0 := by
  have h1 : kR 131072 = kR 0 := by decide
  have h2 : kC 131072 = kC 0 := by decide
  have h3 : kF 131072 = kF 0 := by decide +kernel
  simp only [pcells, h1, h2, h3]
end Go.Proofs.Ytnmnmkdmnohbmaa
