/- Helper text: walks over Under of tree and of the reference, Compare of the reference. Conditions: none. -/
import Derived.Test.YtnmnmkdmnohbmaaDoorSteps
namespace Go.Proofs.YtnmnmkdmnohbmaaDoor
open Go.RowKit
attribute [local go_sem] St.cells

theorem Compare_n (a b : List St) (p q : Option Addr) (n m c d : Nat) (w : World) (hn : n = a.length) (hm : m = b.length) (ha : StepsAt w.heap.size w p a) (hb : StepsAt w.heap.size w q b) (la : a.length ≤ maxLen) (lb : b.length ≤ maxLen) :
    Calls Tryd.prog 36 #[.slice p n c, .slice q m d] w (RetB (.int .i64 (cmpP a b)) w) := by
  subst hn hm
  exact Compare_any a b p q c d w ha hb la lb

def underP (a b : List St) : Bool := decide (b.length ≤ a.length) && (cmpP (a.take b.length) b == 0)

theorem StepsAt.take {B : Nat} {w : World} {p : Option Addr} {l : List St} (h : StepsAt B w p l) (n : Nat) : StepsAt B w p (l.take n) := by
  rcases h with rfl | ⟨b, o, rfl, hB, hc⟩
  · exact .inl (by simp)
  · refine .inr ⟨b, o, rfl, hB, fun i s hs => hc i s ?_⟩
    rw [List.getElem?_take] at hs
    split at hs
    · exact hs
    · cases hs

set_option maxRecDepth 100000 in
set_option maxHeartbeats 400000 in
theorem Under_any (a b : List St) (p q : Option Addr) (c d : Nat) (w : World) (ha : StepsAt w.heap.size w p a) (hb : StepsAt w.heap.size w q b) (lc : a.length ≤ c) (la : c ≤ maxLen) (lb : b.length ≤ maxLen) :
    Calls Tryd.prog 37 #[.slice p a.length c, .slice q b.length d] w (RetB (.bool (underP a b)) w) := by
  have hla : (a.take b.length).length ≤ maxLen := by rw [List.length_take]; omega
  unfold maxLen at la lb
  by_cases h : b.length ≤ a.length
  · have hu : underP a b = (cmpP (a.take b.length) b == 0) := by simp [underP, h]
    have HU := Lib.hid hu
    have hcap : b.length ≤ c := by omega
    have hn : b.length = (a.take b.length).length := by rw [List.length_take]; omega
    have HN := Lib.hid hn
    have HT := Lib.hid (ha.take b.length)
    have HL := Lib.hid hla
    clear hu hn hla
    go_enter Tryd.func37, Tryd.ntmps37
    go_wp2_with (go_at_call 36; refine (Compare_n (a.take b.length) b _ _ _ _ _ _ _ HN.out rfl HT.out hb HL.out lb).mono ?_; rintro e w3 ⟨rfl, hb3⟩)
    go_ret
    exact ⟨ret_eq (by rw [HU.out]; rfl), hb3⟩
  · have hu : underP a b = false := by simp [underP, h]
    have HU := Lib.hid hu
    clear hu
    go_enter Tryd.func37, Tryd.ntmps37
    go_wp2
    go_ret
    exact ⟨ret_eq (by rw [HU.out]; rfl), Below.refl _ _⟩

theorem underP_step {a b : List St} {k : Nat} {x y : St} (hx : a[k]? = some x) (hy : b[k]? = some y) (hxy : stepOrd x y = 0)
    (h : (cmpP ((a.drop k).take (b.length - k)) (b.drop k) == 0) = underP a b) : (cmpP ((a.drop (k + 1)).take (b.length - (k + 1))) (b.drop (k + 1)) == 0) = underP a b := by
  have hk := (List.getElem?_eq_some_iff.1 hy).1
  rw [← h, drop_some hx, drop_some hy, show b.length - k = (b.length - (k + 1)) + 1 by omega, List.take_succ_cons, cmpP, if_pos hxy]

theorem underP_stop {a b : List St} {k : Nat} {x y : St} (hx : a[k]? = some x) (hy : b[k]? = some y) (hxy : ¬ stepOrd x y = 0)
    (h : (cmpP ((a.drop k).take (b.length - k)) (b.drop k) == 0) = underP a b) : underP a b = false := by
  have hk := (List.getElem?_eq_some_iff.1 hy).1
  rw [← h, drop_some hx, drop_some hy, show b.length - k = (b.length - (k + 1)) + 1 by omega, List.take_succ_cons, cmpP, if_neg hxy]
  simpa using hxy

theorem cmpP_refl : ∀ a : List St, cmpP a a = 0
  | [] => rfl
  | x :: a => by rw [cmpP, if_pos (stepOrd_zero.2 ⟨rfl, rfl, rfl⟩)]; exact cmpP_refl a

theorem underP_refl (a : List St) : underP a a = true := by simp [underP, cmpP_refl]

theorem steps_one {w : World} {g : Nat} {s : St} {e : TypeId} {f : Nat × Nat} (h : w.heap[g]? = some (.cells s.cells e f)) : StepsAt w.heap.size w (some ⟨g, 0, none⟩) [s] := by
  refine .inr ⟨g, 0, rfl, (Array.getElem?_eq_some_iff.1 h).1, fun i t ht => ?_⟩
  cases i with
  | zero =>
    obtain rfl : s = t := by simpa using ht
    exact ⟨by simp [World.cell?, h, St.cells], by simp [World.cell?, h, St.cells], by simp [World.cell?, h, St.cells]⟩
  | succ i => simp at ht

theorem heap_new (w : World) (o : Obj) : (w.alloc o).heap[w.heap.size]? = some o := by
  show (w.heap.push o)[w.heap.size]? = some o
  simp
theorem heap_old {w : World} {k : Nat} {o : Obj} (h : w.heap[k]? = some o) (o' : Obj) : (w.alloc o').heap[k]? = some o := by
  have hk := (Array.getElem?_eq_some_iff.1 h).1
  rw [Below.heap_alloc w o' k hk]
  exact h

theorem StepsAt.mono {B B' : Nat} {w : World} {p : Option Addr} {l : List St} (h : StepsAt B w p l) (hB : B ≤ B') : StepsAt B' w p l := by
  rcases h with h | ⟨b, o, rfl, hb, hc⟩
  · exact .inl h
  · exact .inr ⟨b, o, rfl, by omega, hc⟩

theorem StepsAt.on {w w' : World} {p : Option Addr} {l : List St} (h : StepsAt w.heap.size w p l) (hb : Below w.heap.size w w') : StepsAt w'.heap.size w' p l := (h.below hb).mono hb.size

end Go.Proofs.YtnmnmkdmnohbmaaDoor
