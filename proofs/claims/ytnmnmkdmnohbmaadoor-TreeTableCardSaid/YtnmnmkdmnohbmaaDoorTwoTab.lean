/- Helper text: two tables and two rows apart from one another, while one of the tables moves. Conditions: none. -/
import Derived.Test.YtnmnmkdmnohbmaaDoorChgLaw
namespace Go.Proofs.YtnmnmkdmnohbmaaDoor
open Go Go.RowKit Go.Maps

/-- Two tables and their two lists of entries, all apart. -/
structure TwoT (w : World) (B BR X bx Y b2 : Nat) (l m : List (Int × Int)) (lv mv : Value) : Prop where
  tx : TS w B X bx l
  ty : TS w B Y b2 m
  rl : w.ownsRow BR 60 2 lv l.length (rowsC l)
  rm : w.ownsRow BR 60 2 mv m.length (rowsC m)
  dxy : ∀ g, footW X w g → ¬ footW Y w g
  dl : ∀ g, lv.ownBlock = some g → ¬ footW X w g ∧ ¬ footW Y w g
  dm : ∀ g, mv.ownBlock = some g → ¬ footW X w g ∧ ¬ footW Y w g
theorem TwoT.swap {w : World} {B BR X bx Y b2 : Nat} {l m : List (Int × Int)} {lv mv : Value} (h : TwoT w B BR X bx Y b2 l m lv mv) : TwoT w B BR Y b2 X bx m l mv lv :=
  ⟨h.ty, h.tx, h.rm, h.rl, fun g hy hx => h.dxy g hx hy, fun g hg => (h.dm g hg).symm, fun g hg => (h.dl g hg).symm⟩
theorem TwoT.step {w w' : World} {B BR X bx Y b2 : Nat} {l m l' : List (Int × Int)} {lv mv v' : Value} (h : TwoT w B BR X bx Y b2 l m lv mv) (hs : TStep X w w') (ht : TS w' B X bx l')
    (hr : w'.ownsRow BR 60 2 v' l'.length (rowsC l')) (hd : ∀ g, v'.ownBlock = some g → ¬ footW X w' g ∧ g < w'.heap.size ∧ (lv.ownBlock = some g ∨ w.heap.size ≤ g)) : TwoT w' B BR X bx Y b2 l' m v' mv := by
  obtain ⟨hy, fy⟩ := h.ty.other hs (fun g h1 h2 => h.dxy g h2 h1)
  obtain ⟨hm, dm⟩ := row_step h.rm (fun g hg => (h.dm g hg).1) hs
  refine ⟨ht, hy, hr, hm, fun g hx hy' => ?_, fun g hg => ⟨(hd g hg).1, fun hy' => ?_⟩, fun g hg => ⟨dm g hg, fun hy' => (h.dm g hg).2 ((fy g).1 hy')⟩⟩
  · have h1 := (fy g).1 hy'
    rcases hs.2 g hx with q | q
    · exact h.dxy g q h1
    · have := (h.ty.foot_lt h1).2
      omega
  · have h1 := (fy g).1 hy'
    rcases (hd g hg).2.2 with q | q
    · exact (h.dl g q).2 h1
    · have := (h.ty.foot_lt h1).2
      omega
theorem TwoT.on {w w' : World} {B BR X bx Y b2 : Nat} {l m : List (Int × Int)} {lv mv : Value} (h : TwoT w B BR X bx Y b2 l m lv mv) (hb : Below w.heap.size w w') : TwoT w' B BR X bx Y b2 l m lv mv := by
  have hs := TStep.of_below hb h.tx.lt
  refine h.step hs (h.tx.on hb) (tabrow_at h.rl (fun g hg => hb.block g (h.rl.lt g hg).2)) (fun g hg => ⟨fun hf => ?_, Nat.lt_of_lt_of_le (h.rl.lt g hg).2 hb.size, .inl hg⟩)
  rcases hs.2 g hf with q | q
  · exact (h.dl g hg).1 q
  · have := (h.rl.lt g hg).2
    omega
theorem TS.step_below {w w' : World} {B T bm : Nat} {l : List (Int × Int)} (h : TS w B T bm l) (hs : TStep T w w') (hB : B ≤ w.heap.size) : Below B w w' :=
  hs.1.below hB (fun k hk => (h.foot_lt hk).1)
theorem TS.base {w : World} {B B' T bm : Nat} {l : List (Int × Int)} (h : TS w B T bm l) (hb : B' ≤ B) : TS w B' T bm l := by
  obtain ⟨kv, vv, D, ht⟩ := h.ex
  exact ⟨⟨kv, vv, D, ht.block, ht.map, row_base ht.keys hb, ⟨row_base ht.vals.1 hb, ht.vals.2⟩, ht.len, ht.has, ht.ix, Nat.le_trans hb ht.geT, Nat.le_trans hb ht.gem, ht.d1, ht.d2, ht.d3, ht.d4, ht.few⟩, h.nd, h.ok⟩
/-- Two tables apart. -/
structure PairT (w : World) (B X bx Y b2 : Nat) (l m : List (Int × Int)) : Prop where
  tx : TS w B X bx l
  ty : TS w B Y b2 m
  d : ∀ g, footW X w g → ¬ footW Y w g
theorem PairT.swap {w : World} {B X bx Y b2 : Nat} {l m : List (Int × Int)} (h : PairT w B X bx Y b2 l m) : PairT w B Y b2 X bx m l := ⟨h.ty, h.tx, fun g hy hx => h.d g hx hy⟩
theorem PairT.step {w w' : World} {B X bx Y b2 : Nat} {l m l' : List (Int × Int)} (h : PairT w B X bx Y b2 l m) (hs : TStep X w w') (ht : TS w' B X bx l') : PairT w' B X bx Y b2 l' m := by
  obtain ⟨hy, fy⟩ := h.ty.other hs (fun g h1 h2 => h.d g h2 h1)
  refine ⟨ht, hy, fun g hx hy' => ?_⟩
  have h1 := (fy g).1 hy'
  rcases hs.2 g hx with q | q
  · exact h.d g q h1
  · have := (h.ty.foot_lt h1).2
    omega
theorem PairT.two {w w' : World} {B BR X bx Y b2 : Nat} {l m : List (Int × Int)} {lv mv : Value} (h : PairT w B X bx Y b2 l m) (hb : Below w.heap.size w w') (rl : w'.ownsRow w.heap.size 60 2 lv l.length (rowsC l)) (rm : w'.ownsRow w.heap.size 60 2 mv m.length (rowsC m)) (hBR : BR ≤ w.heap.size) : TwoT w' B BR X bx Y b2 l m lv mv := by
  refine ⟨h.tx.on hb, h.ty.on hb, row_base rl hBR, row_base rm hBR, fun g hx hy => h.d g (foot_below hb h.tx.lt hx) (foot_below hb h.ty.lt hy), fun g hg => ⟨fun hf => ?_, fun hf => ?_⟩, fun g hg => ⟨fun hf => ?_, fun hf => ?_⟩⟩
  · have := (h.tx.foot_lt (foot_below hb h.tx.lt hf)).2
    have := (rl.lt g hg).1
    omega
  · have := (h.ty.foot_lt (foot_below hb h.ty.lt hf)).2
    have := (rl.lt g hg).1
    omega
  · have := (h.tx.foot_lt (foot_below hb h.tx.lt hf)).2
    have := (rm.lt g hg).1
    omega
  · have := (h.ty.foot_lt (foot_below hb h.ty.lt hf)).2
    have := (rm.lt g hg).1
    omega
theorem two_new {w1 w2 : World} {B B2 X bx Y b2 : Nat} (hx : TS w1 B X bx []) (hy : TS w2 B2 Y b2 []) (hb : Below w1.heap.size w1 w2) (hB : B ≤ w1.heap.size) (hB2 : w1.heap.size ≤ B2) : PairT w2 B X bx Y b2 [] [] :=
  ⟨hx.on hb, hy.base (Nat.le_trans hB hB2), fun g h1 h2 => by
    have := (hx.foot_lt (foot_below hb hx.lt h1)).2
    have := (hy.foot_lt h2).1
    omega⟩
end Go.Proofs.YtnmnmkdmnohbmaaDoor
