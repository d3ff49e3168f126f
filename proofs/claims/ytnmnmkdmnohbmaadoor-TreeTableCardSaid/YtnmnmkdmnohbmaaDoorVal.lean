/- Helper text: values as trees, and what it is for memory to hold one. Conditions: none. -/
import Derived.Test.YtnmnmkdmnohbmaaDoorSteps
namespace Go.Proofs.YtnmnmkdmnohbmaaDoor
open Go.RowKit

/-- A value of the program's data. -/
inductive V where
  | mk (k : Int) (b : Bool) (i : Int) (f : Nat) (t ty : ByteArray) (its : List V) (fs : List (ByteArray × V))

instance : Inhabited V := ⟨.mk 0 false 0 0 ByteArray.empty ByteArray.empty [] []⟩

def V.kind : V → Int | .mk k _ _ _ _ _ _ _ => k
def V.its : V → List V | .mk _ _ _ _ _ _ its _ => its
def V.fs : V → List (ByteArray × V) | .mk _ _ _ _ _ _ _ fs => fs

/-- The kind, where one outside the table counts as null. -/
def kd (k : Int) : Int := if k < 0 ∨ 7 < k then 0 else k

/-- The cells of a value. -/
@[reducible] def vcells (k : Int) (b : Bool) (i : Int) (f : Nat) (t ty : ByteArray) (p : Option Addr) (n c : Nat) (q : Option Addr) (m d : Nat) : Array Value :=
  #[.int .i64 k, .bool b, .int .i64 i, .float .f64 f, .string t, .string ty, .slice p n c, .slice q m d]

def CellsAt (w : World) (g o : Nat) (cs : Array Value) : Prop := ∀ j x, cs[j]? = some x → w.cell? ⟨g, o + j, none⟩ = some x

theorem run_store_float {P : Program} {w : World} {a : Addr} {m : Mode} (k : FloatKind) (b : Nat) : (store a (.float k b) m).run P w = stored P w a (.float k b) m := run_store P w a _ m rfl

def lenMax : Nat := 2199023255552

mutual
/-- The cells cs are those of v; what they lead to lies in w below block B. -/
def IsV (B : Nat) (w : World) : V → Array Value → Prop
  | .mk k b i f t ty its fs, cs => ∃ p c q d, cs = vcells k b i f t ty p its.length c q fs.length d ∧
      (its = [] ∨ ∃ g o, p = some ⟨g, o, none⟩ ∧ g < B ∧ IsVs B w its g o) ∧ (fs = [] ∨ ∃ g o, q = some ⟨g, o, none⟩ ∧ g < B ∧ IsFs B w fs g o) ∧
      its.length ≤ lenMax ∧ fs.length ≤ lenMax
def IsVs (B : Nat) (w : World) : List V → Nat → Nat → Prop
  | [], _, _ => True
  | v :: r, g, o => (∃ cs, CellsAt w g o cs ∧ IsV B w v cs) ∧ IsVs B w r g (o + 8)
def IsFs (B : Nat) (w : World) : List (ByteArray × V) → Nat → Nat → Prop
  | [], _, _ => True
  | x :: r, g, o => (w.cell? ⟨g, o, none⟩ = some (.string x.1) ∧ ∃ cs, CellsAt w g (o + 1) cs ∧ IsV B w x.2 cs) ∧ IsFs B w r g (o + 9)
end

theorem CellsAt.below {B : Nat} {w w' : World} {g o : Nat} {cs : Array Value} (h : CellsAt w g o cs) (hb : Below B w w') (hg : g < B) : CellsAt w' g o cs :=
  fun j x hx => (hb.cell (p := ⟨g, _, none⟩) hg).trans (h j x hx)

mutual
theorem IsV.below {B C : Nat} {w w' : World} (hb : Below B w w') (hC : B ≤ C) : ∀ {v : V} {cs : Array Value}, IsV B w v cs → IsV C w' v cs
  | .mk k b i f t ty its fs, cs, h => by
    obtain ⟨p, c, q, d, hcs, hi, hf, l1, l2⟩ := h
    refine ⟨p, c, q, d, hcs, ?_, ?_, l1, l2⟩
    · rcases hi with h0 | ⟨g, o, hp, hg, hv⟩
      · exact .inl h0
      · exact .inr ⟨g, o, hp, by omega, IsVs.below hb hC hg hv⟩
    · rcases hf with h0 | ⟨g, o, hp, hg, hv⟩
      · exact .inl h0
      · exact .inr ⟨g, o, hp, by omega, IsFs.below hb hC hg hv⟩
theorem IsVs.below {B C : Nat} {w w' : World} (hb : Below B w w') (hC : B ≤ C) : ∀ {l : List V} {g o : Nat}, g < B → IsVs B w l g o → IsVs C w' l g o
  | [], _, _, _, _ => trivial
  | v :: r, g, o, hg, h => by
    obtain ⟨⟨cs, h1, h2⟩, h3⟩ := h
    exact ⟨⟨cs, h1.below hb hg, IsV.below hb hC h2⟩, IsVs.below hb hC hg h3⟩
theorem IsFs.below {B C : Nat} {w w' : World} (hb : Below B w w') (hC : B ≤ C) : ∀ {l : List (ByteArray × V)} {g o : Nat}, g < B → IsFs B w l g o → IsFs C w' l g o
  | [], _, _, _, _ => trivial
  | (n, v) :: r, g, o, hg, h => by
    obtain ⟨⟨h0, cs, h1, h2⟩, h3⟩ := h
    exact ⟨⟨(hb.cell (p := ⟨g, _, none⟩) hg).trans h0, cs, h1.below hb hg, IsV.below hb hC h2⟩, IsFs.below hb hC hg h3⟩
end

theorem IsV.on {w w' : World} {v : V} {cs : Array Value} (h : IsV w.heap.size w v cs) (hb : Below w.heap.size w w') : IsV w'.heap.size w' v cs := h.below hb hb.size

theorem IsVs.get {B : Nat} {w : World} : ∀ {l : List V} {g o n : Nat} {v : V}, IsVs B w l g o → l[n]? = some v → ∃ cs, CellsAt w g (o + n * 8) cs ∧ IsV B w v cs
  | [], _, _, _, _, _, h => by simp at h
  | x :: r, g, o, 0, v, h, hv => by
    obtain rfl : x = v := by simpa using hv
    simpa using h.1
  | x :: r, g, o, n + 1, v, h, hv => by
    obtain ⟨cs, h1, h2⟩ := IsVs.get (n := n) h.2 (by simpa using hv)
    exact ⟨cs, by rw [show o + (n + 1) * 8 = o + 8 + n * 8 by omega]; exact h1, h2⟩

theorem IsFs.get {B : Nat} {w : World} : ∀ {l : List (ByteArray × V)} {g o n : Nat} {x : ByteArray × V}, IsFs B w l g o → l[n]? = some x →
    w.cell? ⟨g, o + n * 9, none⟩ = some (.string x.1) ∧ ∃ cs, CellsAt w g (o + n * 9 + 1) cs ∧ IsV B w x.2 cs
  | [], _, _, _, _, _, h => by simp at h
  | y :: r, g, o, 0, x, h, hv => by
    obtain rfl : y = x := by simpa using hv
    simpa using h.1
  | y :: r, g, o, n + 1, x, h, hv => by
    obtain ⟨h0, cs, h1, h2⟩ := IsFs.get (n := n) h.2 (by simpa using hv)
    have e : o + (n + 1) * 9 = o + 9 + n * 9 := by omega
    exact ⟨by rw [e]; exact h0, cs, by rw [e]; exact h1, h2⟩

/-- What the walk is told of eight cells. -/
theorem CellsAt.all {w : World} {g o : Nat} {k : Int} {b : Bool} {i : Int} {f : Nat} {t ty : ByteArray} {p : Option Addr} {n c : Nat} {q : Option Addr} {m d : Nat} (h : CellsAt w g o (vcells k b i f t ty p n c q m d)) :
    w.cell? ⟨g, o, none⟩ = some (.int .i64 k) ∧ w.cell? ⟨g, o + 1, none⟩ = some (.bool b) ∧ w.cell? ⟨g, o + 2, none⟩ = some (.int .i64 i) ∧ w.cell? ⟨g, o + 3, none⟩ = some (.float .f64 f) ∧
    w.cell? ⟨g, o + 4, none⟩ = some (.string t) ∧ w.cell? ⟨g, o + 5, none⟩ = some (.string ty) ∧ w.cell? ⟨g, o + 6, none⟩ = some (.slice p n c) ∧ w.cell? ⟨g, o + 7, none⟩ = some (.slice q m d) :=
  ⟨by simpa using h 0 _ rfl, h 1 _ rfl, h 2 _ rfl, h 3 _ rfl, h 4 _ rfl, h 5 _ rfl, h 6 _ rfl, h 7 _ rfl⟩

/-- How many parts are laid out: a value counts one, and one for each of its items and fields, and these count anew. -/
def szV : V → Nat
  | .mk _ _ _ _ _ _ its fs => 1 + its.length + fs.length + szVs its + szFs fs
where
  szVs : List V → Nat
  | [] => 0
  | v :: r => szV v + szVs r
  szFs : List (ByteArray × V) → Nat
  | [] => 0
  | x :: r => szV x.2 + szFs r

theorem szV_pos (v : V) : 1 ≤ szV v := by cases v; simp only [szV]; omega

theorem szVs_get : ∀ {l : List V} {n : Nat} {v : V}, l[n]? = some v → szV v ≤ szV.szVs l
  | [], _, _, h => by simp at h
  | x :: r, 0, v, h => by obtain rfl : x = v := by simpa using h
                          simp only [szV.szVs]; omega
  | x :: r, n + 1, v, h => by have := szVs_get (l := r) (n := n) (by simpa using h); simp only [szV.szVs]; omega
theorem szFs_get : ∀ {l : List (ByteArray × V)} {n : Nat} {x : ByteArray × V}, l[n]? = some x → szV x.2 ≤ szV.szFs l
  | [], _, _, h => by simp at h
  | y :: r, 0, x, h => by obtain rfl : y = x := by simpa using h
                          simp only [szV.szFs]; omega
  | y :: r, n + 1, x, h => by have := szFs_get (l := r) (n := n) (by simpa using h); simp only [szV.szFs]; omega

theorem kind_any (k : Int) (b : Bool) (i : Int) (f : Nat) (t ty : ByteArray) (p : Option Addr) (n c : Nat) (q : Option Addr) (m d : Nat) (w : World) :
    Calls Tryd.prog 75 #[.agg (vcells k b i f t ty p n c q m d)] w (RetB (.int .i64 (kd k)) w) := by
  by_cases h1 : k < 0
  · have hk : kd k = 0 := by simp [kd, h1]
    rw [hk]
    clear hk
    go_enter Tryd.func75, Tryd.ntmps75
    go_wp2
    go_ret
    exact ⟨rfl, (Below.refl _ _).alloc (Nat.le_refl _) _⟩
  · by_cases h2 : 7 < k
    · have hk : kd k = 0 := by simp [kd, h2]
      rw [hk]
      clear hk
      go_enter Tryd.func75, Tryd.ntmps75
      go_wp2
      go_ret
      exact ⟨rfl, (Below.refl _ _).alloc (Nat.le_refl _) _⟩
    · have hk : kd k = k := by simp [kd, h1, h2]
      rw [hk]
      clear hk
      go_enter Tryd.func75, Tryd.ntmps75
      go_wp2
      go_ret
      exact ⟨rfl, (Below.refl _ _).alloc (Nat.le_refl _) _⟩
end Go.Proofs.YtnmnmkdmnohbmaaDoor
