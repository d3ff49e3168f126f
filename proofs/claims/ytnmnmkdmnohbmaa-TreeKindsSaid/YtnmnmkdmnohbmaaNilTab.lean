/- The calls of a nil table of texts. Conditions: none. -/
import Derived.Test.YtnmnmkdmnohbmaaCount
namespace Go.Proofs.Ytnmnmkdmnohbmaa
open Go.RowKit

theorem put_nil (s : ByteArray) (v : Int) (w : World) : Calls Try.prog 33 #[.pointer none, .string s, .int .i64 v] w (RetS (.bool false) w) := by
  go_enter Try.func33, Try.ntmps33
  go_wp2_with fail
  go_ret
  exact ⟨rfl, rfl⟩

theorem drop_nil (s : ByteArray) (w : World) : Calls Try.prog 35 #[.pointer none, .string s] w (RetS (.bool false) w) := by
  go_enter Try.func35, Try.ntmps35
  go_wp2_with fail
  go_ret
  exact ⟨rfl, rfl⟩

theorem len_nil_any (w : World) : Calls Try.prog 34 #[.pointer none] w (RetS (.int .i64 0) w) := by
  go_enter Try.func34, Try.ntmps34
  go_wp2_with fail
  go_ret
  exact ⟨rfl, rfl⟩

theorem keys_nil (w : World) : Calls Try.prog 36 #[.pointer none] w (RetS (.slice none 0 0) w) := by
  go_enter Try.func36, Try.ntmps36
  go_wp2_with fail
  go_ret
  exact ⟨rfl, rfl⟩

theorem get_nil (s : ByteArray) (w : World) : Calls Try.prog 37 #[.pointer none, .string s] w (RetS (.tuple #[.int .i64 0, .bool false]) w) := by
  go_enter Try.func37, Try.ntmps37
  go_wp2_with fail
  go_ret2
  exact ⟨rfl, rfl⟩

theorem at_nil (i : Int) (w : World) : Calls Try.prog 38 #[.pointer none, .int .i64 i] w (RetS (.tuple #[.string ⟨#[]⟩, .int .i64 0, .bool false]) w) := by
  by_cases hi : i < 0
  · go_enter Try.func38, Try.ntmps38
    go_wp2_with fail
    refine bodyPost_ret (v := .tuple #[.string ⟨#[]⟩, .int .i64 0, .bool false]) (by simp [results, Try.results38, go_sem]) rfl ?_
    exact ⟨rfl, rfl⟩
  · have hi2 : 0 ≤ i := by omega
    go_enter Try.func38, Try.ntmps38
    go_wp2_with (go_at_call 34; refine (len_nil_any _).mono ?_; rintro _ w1 ⟨rfl, rfl⟩)
    refine bodyPost_ret (v := .tuple #[.string ⟨#[]⟩, .int .i64 0, .bool false]) (by simp [results, Try.results38, go_sem]) rfl ?_
    exact ⟨rfl, rfl⟩

theorem all_any (p : Option Addr) (w : World) : Calls Try.prog 39 #[.pointer p] w (fun e w' => e = .returned (.func (.func 69) #[] #[.pointer (some ⟨w.heap.size, 0, none⟩)]) ∧ w' = w.alloc (.cells #[.pointer p] 68)) := by
  go_enter Try.func39, Try.ntmps39
  have hmf : ∀ (fn : Fn) (first cap : Array Value) (w : World), (Instr.makeFunc fn first cap).run Try.prog w = .ok (.func fn first cap) w := fun _ _ _ _ => rfl
  go_wp2
  go_ret
  exact ⟨rfl, rfl⟩

/-- A range over a nil table's entries: no round. -/
theorem all_stops (n n₀ Bv : Nat) (w : World) (enc : Empty → Array Value) (hBv : Bv < w.heap.size) (hb : CellsAt w Bv 0 #[.pointer none]) :
    SeqStopsK Fence.wide n Try.prog 69 #[.pointer (some ⟨Bv, 0, none⟩)] enc (Below n₀) (fun xs => xs = []) (fun _ => True) 0 w := by
  intro l J Jx W hW hJ hJx hY h0
  have a0 : W.cell? ⟨Bv, 0, none⟩ = some (.pointer none) := hb.below hW hBv 0 _ rfl
  have HJ := Lib.hid h0
  refine callsIn_of_wp Try.func69 rfl trivial ?_ rfl
  simp only [Try.ntmps69, List.size_toArray, List.length_cons, List.length_nil, Nat.reduceAdd, Nat.reduceSub, Array.replicate_succ, Array.replicate_zero, List.push_toArray, List.append_toArray, List.nil_append, List.cons_append]
  clear hJ hJx hY h0
  gi_wp2
  refine bodyPost_ret (results_none rfl _ _ _) rfl ?_
  exact ⟨⟨_, rfl⟩, .inl ⟨[], rfl, HJ.out⟩⟩
end Go.Proofs.Ytnmnmkdmnohbmaa
