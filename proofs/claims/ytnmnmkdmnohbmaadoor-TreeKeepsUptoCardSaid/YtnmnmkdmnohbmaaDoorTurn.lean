/- Helper text: a value with its members turned round: the walk over turned. Conditions: none. -/
import Derived.Test.YtnmnmkdmnohbmaaDoorRefCopy
import Derived.Test.YtnmnmkdmnohbmaaDoorPackM
import Derived.Test.YtnmnmkdmnohbmaaDoorSet
import Derived.Test.YtnmnmkdmnohbmaaDoorEqual
namespace Go.Proofs.YtnmnmkdmnohbmaaDoor
open Go.RowKit
attribute [local go_sem] run_store_float

mutual
/-- The members of every object in the opposite order. -/
def turnV : V → V
  | .mk k b i f t ty its fs => .mk k b i f t ty (turnVs its) (turnFs fs).reverse
def turnVs : List V → List V
  | [] => []
  | v :: r => turnV v :: turnVs r
def turnFs : List (ByteArray × V) → List (ByteArray × V)
  | [] => []
  | x :: r => (x.1, turnV x.2) :: turnFs r
end

theorem turnVs_map : ∀ l : List V, turnVs l = l.map turnV
  | [] => by rw [turnVs]; rfl
  | v :: r => by rw [turnVs, turnVs_map r]; rfl
theorem turnFs_map : ∀ l : List (ByteArray × V), turnFs l = l.map (fun x => (x.1, turnV x.2))
  | [] => by rw [turnFs]; rfl
  | v :: r => by rw [turnFs, turnFs_map r]; rfl

mutual
theorem sz_turnV : ∀ v : V, szV (turnV v) = szV v
  | .mk k b i f t ty its fs => by
    have h1 := sz_turnVs its
    have h2 := sz_turnFs fs
    have h3 : szV.szFs (turnFs fs).reverse = szV.szFs (turnFs fs) := by
      have : ∀ (l m : List (ByteArray × V)), szV.szFs (l ++ m) = szV.szFs l + szV.szFs m := by
        intro l m
        induction l with
        | nil => simp [szV.szFs]
        | cons x r ih => simp only [List.cons_append, szV.szFs, ih]; omega
      induction turnFs fs with
      | nil => rfl
      | cons x r ih => rw [List.reverse_cons, this, ih]; simp only [szV.szFs]; omega
    rw [turnV]
    simp only [szV, h1, h3, h2, List.length_reverse]
    rw [turnVs_map, turnFs_map, List.length_map, List.length_map]
theorem sz_turnVs : ∀ l : List V, szV.szVs (turnVs l) = szV.szVs l
  | [] => by rw [turnVs]
  | v :: r => by rw [turnVs]; simp only [szV.szVs, sz_turnV v, sz_turnVs r]
theorem sz_turnFs : ∀ l : List (ByteArray × V), szV.szFs (turnFs l) = szV.szFs l
  | [] => by rw [turnFs]
  | x :: r => by rw [turnFs]; simp only [szV.szFs, sz_turnV x.2, sz_turnFs r]
end

/-- How far the items are turned behind j rounds. -/
def itsAt (its : List V) (j : Nat) : List V := (turnVs its).take j ++ its.drop j
def fsAt (fs : List (ByteArray × V)) (j : Nat) : List (ByteArray × V) := (turnFs fs).reverse.take j ++ fs.drop j

theorem itsAt_length (its : List V) {j : Nat} (h : j ≤ its.length) : (itsAt its j).length = its.length := by simp [itsAt, turnVs_map]; omega
theorem fsAt_length (fs : List (ByteArray × V)) {j : Nat} (h : j ≤ fs.length) : (fsAt fs j).length = fs.length := by simp [fsAt, turnFs_map]; omega
theorem itsAt_get {its : List V} {j : Nat} {x : V} (h : its[j]? = some x) : (itsAt its j)[j]? = some x := by
  have hj := (List.getElem?_eq_some_iff.1 h).1
  unfold itsAt
  rw [List.getElem?_append_right (by simp [turnVs_map]; omega)]
  simp [turnVs_map, Nat.min_eq_left (Nat.le_of_lt hj), h]
theorem itsAt_set {its : List V} {j : Nat} {x : V} (h : its[j]? = some x) : (itsAt its j).set j (turnV x) = itsAt its (j + 1) := by
  have hj := (List.getElem?_eq_some_iff.1 h).1
  have ht : (turnVs its)[j]? = some (turnV x) := by simp [turnVs_map, h]
  unfold itsAt
  rw [List.set_append, if_neg (by simp [turnVs_map]; omega), List.take_add_one, ht, drop_some h]
  simp [turnVs_map, Nat.min_eq_left (Nat.le_of_lt hj)]
theorem fsAt_some {fs : List (ByteArray × V)} {j : Nat} (hj : j < fs.length) : ∃ y, (fsAt fs j)[j]? = some y := ⟨(fsAt fs j)[j]'(by rw [fsAt_length fs (by omega)]; exact hj), by simp⟩
theorem fsAt_set {fs : List (ByteArray × V)} {j : Nat} {x : ByteArray × V} (hj : j < fs.length) (h : fs[fs.length - 1 - j]? = some x) : (fsAt fs j).set j (x.1, turnV x.2) = fsAt fs (j + 1) := by
  have ht : (turnFs fs).reverse[j]? = some (x.1, turnV x.2) := by
    rw [List.getElem?_reverse (by simp [turnFs_map, hj])]
    simp [turnFs_map, h]
  obtain ⟨y, hy⟩ : ∃ y, fs[j]? = some y := ⟨fs[j], by simp [hj]⟩
  unfold fsAt
  rw [List.set_append, if_neg (by simp [turnFs_map]; omega), List.take_add_one, ht, drop_some hy]
  simp [turnFs_map, Nat.min_eq_left (Nat.le_of_lt hj)]
theorem itsAt_zero (its : List V) : itsAt its 0 = its := by simp [itsAt]
theorem fsAt_zero (fs : List (ByteArray × V)) : fsAt fs 0 = fs := by simp [fsAt]
theorem itsAt_all (its : List V) : itsAt its its.length = turnVs its := by simp [itsAt, turnVs_map, List.take_of_length_le]
theorem fsAt_all (fs : List (ByteArray × V)) : fsAt fs fs.length = (turnFs fs).reverse := by simp [fsAt, turnFs_map, List.take_of_length_le]

set_option maxRecDepth 100000 in
set_option maxHeartbeats 2000000 in
theorem turned_any : ∀ (N : Nat) (v : V), szV v ≤ N → ∀ (cs : Array Value) (w : World), IsV w.heap.size w v cs → szV v ≤ 1000000 →
    Calls Tryd.prog 73 #[.agg cs] w (CopyPost (turnV v) w) := by
  intro N
  induction N with
  | zero => intro v hv; have := szV_pos v; omega
  | succ N ih =>
    intro v hN cs w hv hm
    obtain ⟨k, b, i, f, t, ty, its, fs⟩ := v
    have hv0 := hv
    obtain ⟨p, c, q, d, rfl, hi, hf, l1, l2⟩ := hv
    unfold lenMax at l1 l2
    have IH := Lib.hid ih
    have HI := Lib.hid hi
    have HF := Lib.hid hf
    have HN := Lib.hid hN
    have KC := Lib.hid (fun wx (h : Below w.heap.size w wx) => refCopy_any _ _ (Nat.le_refl _) _ wx (hv0.on h) hm)
    clear ih hi hf hN hv0
    obtain ⟨wa, e, hwa, hs0, hs1, hal, hal'⟩ := two_allocs w (vcells k b i f t ty p its.length c q fs.length d) (vcells 0 false 0 0 ⟨#[]⟩ ⟨#[]⟩ none 0 0 none 0 0) 27 27
    obtain ⟨a0, a1, a2, a3, a4, a5, a6, a7⟩ := hal.all0
    have HWA := Lib.hid hwa
    have hR0 : wa.heap[w.heap.size + 1]? = some (.cells (vcells 0 false 0 0 ⟨#[]⟩ ⟨#[]⟩ none 0 0 none 0 0) 27 (0, 0)) := by rw [← e]; have := heap_new (w.alloc (.cells (vcells k b i f t ty p its.length c q fs.length d) 27)) (.cells (vcells 0 false 0 0 ⟨#[]⟩ ⟨#[]⟩ none 0 0 none 0 0) 27); rwa [World.size_alloc] at this
    have HR0 := Lib.hid hR0
    clear hR0
    go_enter Tryd.func73, Tryd.ntmps73
    go_wp2_with (go_at_call 17; refine (KC.out _ HWA.out).mono ?_; clear KC; rintro e w1 ⟨cs1, bs1, rfl, hown, hnod, hlow, hb1⟩; obtain ⟨p1, c1, q1, d1, b1, b2, rfl, rfl, _, _, hIO, hFO⟩ := hown)
    obtain ⟨W2, hW⟩ : ∃ W2, w1.alloc (.cells (vcells k b i f t ty p1 its.length c1 q1 fs.length d1) 27) = W2 := ⟨_, rfl⟩
    have hb2 : Below w1.heap.size w1 W2 := by rw [← hW]; exact (Below.refl _ _).alloc (Nat.le_refl _) _
    have hs2 : w1.heap.size < W2.heap.size := by rw [← hW]; simp
    have hG0 : W2.heap[w1.heap.size]? = some (.cells (vcells k b i f t ty p1 its.length c1 q1 fs.length d1) 27 (0, 0)) := by rw [← hW]; exact heap_new _ _
    have e : w1.alloc (.cells (vcells k b i f t ty p1 its.length c1 q1 fs.length d1) 27) = W2 := hW
    clear hW
    rw [e]
    clear e a0 a1 a2 a3 a4 a5 a6 a7
    have hlow1 : ∀ y ∈ b1 ++ b2, wa.heap.size ≤ y ∧ y < w1.heap.size := hlow
    have hIO2 : ItemsOwn W2 its p1 c1 b1 := (show ItemsOwn w1 its p1 c1 b1 from hIO).kept (Kept.below hb2 (fun y hy => (hlow1 y (by simp [hy])).2))
    have hFO2 : FieldsOwn W2 fs q1 d1 b2 := (show FieldsOwn w1 fs q1 d1 b2 from hFO).kept (Kept.below hb2 (fun y hy => (hlow1 y (by simp [hy])).2))
    have hbW : Below wa.heap.size wa W2 := hb1.trans (hb2.mono hb1.size)
    have hGw : wa.heap.size ≤ w1.heap.size := hb1.size
    have hlow2 : ∀ y ∈ b1 ++ b2, wa.heap.size ≤ y ∧ y < W2.heap.size ∧ y ≠ w1.heap.size := fun y hy => by have := hlow1 y hy; omega
    have HG0 := Lib.hid hG0
    have HIO := Lib.hid hIO2
    have HFO := Lib.hid hFO2
    have HND := Lib.hid hnod
    have HLOW := Lib.hid hlow2
    clear hG0 hIO2 hFO2 hnod hlow2 hlow hlow1 hIO hFO hb2 hb1
    generalize w1.heap.size = G at *
    go_loopw [12] (fun ii wr => ∃ j : Nat, j ≤ its.length ∧ ii = .int .i64 j ∧ ∃ bI, Hid (wr.heap[G]? = some (.cells (vcells k b i f t ty p1 its.length c1 q1 fs.length d1) 27 (0, 0))) ∧ Hid (ItemsOwn wr (itsAt its j) p1 c1 bI ∧ FieldsOwn wr fs q1 d1 b2 ∧ (bI ++ b2).Nodup ∧ ∀ y ∈ bI ++ b2, wa.heap.size ≤ y ∧ y < wr.heap.size ∧ y ≠ G) ∧ Below wa.heap.size wa wr) (fun ii _ => its.length - (intOf ii).toNat)
    case atStart => exact ⟨0, by omega, rfl, b1, HG0, Lib.hid ⟨by rw [itsAt_zero]; exact HIO.out, HFO.out, HND.out, HLOW.out⟩, hbW⟩
    case round =>
      clear hbW HG0 HIO HFO HND HLOW hs2
      obtain ⟨j, hj, rfl, bI, hG, hI, hbel⟩ := hrel
      have hGl : G < wr.heap.size := (Array.getElem?_eq_some_iff.1 hG.out).1
      obtain ⟨e0, e1, e2, e3, e4, e5, e6, e7⟩ := (block_of_cells hG.out).all0
      by_cases h1 : j < its.length
      · obtain ⟨x, hx⟩ : ∃ x, its[j]? = some x := ⟨its[j], by simp [h1]⟩
        obtain ⟨hIO, hFO, hnd, hlw⟩ := hI.out
        obtain ⟨n1, n2, n3⟩ := List.nodup_append.1 hnd
        obtain ⟨g, rfl, hgm, ⟨ucs, B, hcu, hou, hBm⟩, hput⟩ := hIO.putAt n1 (itsAt_get hx)
        have hgl : g < wr.heap.size := (hlw g (by simp [hgm])).2.1
        have hgG : g ≠ G := (hlw g (by simp [hgm])).2.2
        have hga : wa.heap.size ≤ g := (hlw g (by simp [hgm])).1
        have hvx : IsV wr.heap.size wr x ucs := hou.isV (fun y hy => (hlw y (by simp [hBm y hy])).2.1)
        have hxs : szV x ≤ N ∧ szV x ≤ 1000000 := by
          have := szVs_get hx
          have := HN.out
          simp only [szV] at this hm
          omega
        have hb0 := (Below.drew (Below.refl wr.heap.size wr))
        have HC := Lib.hid (IH.out x hxs.1 _ _ (hvx.on hb0) hxs.2)
        obtain ⟨xk, xb, xi, xf, xt, xty, xits, xfs⟩ := x
        obtain ⟨xp, xc, xq, xd, rfl, _, _, _, _⟩ := hvx
        obtain ⟨c0, c1', c2, c3, c4, c5, c6, c7⟩ := hcu.all
        have HX := Lib.hid hx
        have HPUT := Lib.hid hput
        have HLW := Lib.hid hlw
        have HFO := Lib.hid hFO
        have HND := Lib.hid hnd
        clear hx hcu hou hput hlw hFO hnd hIO hI hb0 n1 n2 n3 hBm
        go_wp2
        refine wp_region_plan_below 9 [(0, [0, 1, 2, 3, 4, 5, 6, 7]), (1, [8]), (2, [9, 10])] (by kernel_rfl) (by kernel_rfl) (fun _ _ _ _ h => h) ?_
        simp only [wpSegs, pickOps, List.getElem?_toArray, List.getElem?_cons_zero, List.getElem?_cons_succ]
        have kc := cell_cls wr
        repeat (go_big_quiet_step (fail))
        refine wpQuiet_nil ?_
        clear kc
        refine wpListC_plain rfl (fun K hK => ?_)
        go_step
        refine HC.out.mono ?_
        rintro e w2 ⟨cs2, xb', rfl, hown, hnod, hlow, hbc⟩
        have hb2 := (Below.drew (Below.refl wr.heap.size wr)).trans hbc
        refine hK _ _ (cls_of_below hb2) ?_
        clear hK K
        refine wpListC_nil ?_
        have hlow' : ∀ y ∈ xb', wr.heap.size ≤ y ∧ y < w2.heap.size := hlow
        have hdis : ∀ y ∈ xb', y ∉ bI := fun y hy hm => by have := (hlow' y hy).1; have := (HLW.out y (by simp [hm])).2.1; omega
        obtain ⟨hth, bI', hIO', hnd', hsub⟩ := HPUT.out w2 _ cs2 xb' (Kept.below hb2 (fun y hy => (HLW.out y (by simp [hy])).2.1)) hown hnod hdis
        have HOWN := Lib.hid hown
        generalize hz : turnV (V.mk xk xb xi xf xt xty xits xfs) = z at *
        obtain ⟨zk, zb, zi, zf, zt, zty, zits, zfs⟩ := z
        obtain ⟨zp, zc, zq, zd, _, _, rfl, _⟩ := hown
        refine wpList_plain rfl (fun K hK => ?_)
        go_step
        refine hK _ _ ?_
        clear hK K
        refine wpList_plain rfl (fun K hK => ?_)
        refine wp_store_mid (P := Tryd.prog) 27 (.tmp 24) (.tmp 23) rfl g (j * 8) (vcells zk zb zi zf zt zty zp zits.length zc zq zfs.length zd) rfl rfl hth (by kernel_rfl) (vcells_one ..) ?_
        refine hK _ _ ?_
        clear hK K
        have hG2 : (w2.setCells g (j * 8) (vcells zk zb zi zf zt zty zp zits.length zc zq zfs.length zd).toList).heap[G]? = some (.cells (vcells k b i f t ty (some ⟨g, 0, none⟩) its.length c1 q1 fs.length d1) 27 (0, 0)) := by
          rw [heap_setCells_other g (Ne.symm hgG), hb2.block _ hGl]; exact hG.out
        have hbs : Below wa.heap.size wa (w2.setCells g (j * 8) (vcells zk zb zi zf zt zty zp zits.length zc zq zfs.length zd).toList) := below_setCells (hbel.trans (hb2.mono hbel.size)) hga _ _
        have hszs := size_setCells g (vcells zk zb zi zf zt zty zp zits.length zc zq zfs.length zd).toList (j * 8) w2
        have hF2 : FieldsOwn (w2.setCells g (j * 8) (vcells zk zb zi zf zt zty zp zits.length zc zq zfs.length zd).toList) fs q1 d1 b2 := HFO.out.kept (fun y hy => by
          have h1 := HLW.out y (by simp [hy])
          have hne : y ≠ g := fun e => by subst e; exact (List.nodup_append.1 HND.out).2.2 y hgm y hy rfl
          rw [heap_setCells_other g hne, hb2.block _ h1.2.1])
        have hI2 : ItemsOwn (w2.setCells g (j * 8) (vcells zk zb zi zf zt zty zp zits.length zc zq zfs.length zd).toList) (itsAt its (j + 1)) (some ⟨g, 0, none⟩) c1 bI' := by
          rw [← itsAt_set HX.out, hz]; exact hIO'
        have hall : Hid (ItemsOwn (w2.setCells g (j * 8) (vcells zk zb zi zf zt zty zp zits.length zc zq zfs.length zd).toList) (itsAt its (j + 1)) (some ⟨g, 0, none⟩) c1 bI' ∧ FieldsOwn (w2.setCells g (j * 8) (vcells zk zb zi zf zt zty zp zits.length zc zq zfs.length zd).toList) fs q1 d1 b2 ∧ (bI' ++ b2).Nodup ∧ ∀ y ∈ bI' ++ b2, wa.heap.size ≤ y ∧ y < (w2.setCells g (j * 8) (vcells zk zb zi zf zt zty zp zits.length zc zq zfs.length zd).toList).heap.size ∧ y ≠ G) := Lib.hid ⟨hI2, hF2, by
            rw [List.nodup_append]
            refine ⟨hnd', (List.nodup_append.1 HND.out).2.1, fun a ha y hy e => ?_⟩
            subst e
            rcases hsub a ha with h | h
            · exact (List.nodup_append.1 HND.out).2.2 a h a hy rfl
            · have := (hlow' a h).1; have := (HLW.out a (by simp [hy])).2.1; omega, fun y hy => by
            rw [hszs]
            have hs := hb2.size
            have hba := hbel.size
            rcases List.mem_append.1 hy with h | h
            · rcases hsub y h with h | h
              · have := HLW.out y (by simp [h]); omega
              · have := hlow' y h; omega
            · have := HLW.out y (by simp [h]); omega⟩
        have HG2 := Lib.hid hG2
        have HBS := Lib.hid hbs
        clear hG2 hbs hszs hF2 hI2 hIO' hnd' hsub hdis hlow' hth hnod hlow hbc hb2
        generalize w2.setCells g (j * 8) (vcells zk zb zi zf zt zty zp zits.length zc zq zfs.length zd).toList = w3 at *
        go_wp2
        go_roundw
        case rel => exact ⟨j + 1, by omega, by go_num, _, HG2, hall, HBS.out⟩
        case measure => simp [intOf]; omega
      · obtain rfl : j = its.length := by omega
        obtain ⟨hIO, hFO, hnd, hlw⟩ := hI.out
        rw [itsAt_all] at hIO
        have HIO := Lib.hid hIO
        have HFO := Lib.hid hFO
        have HND := Lib.hid hnd
        have HLW := Lib.hid hlw
        clear hI hIO hFO hnd hlw
        go_wp2_with fail
        go_loopw [6] (fun ii wr => ∃ j : Nat, j ≤ fs.length ∧ ii = .int .i64 j ∧ ∃ bF, Hid (wr.heap[G]? = some (.cells (vcells k b i f t ty p1 its.length c1 q1 fs.length d1) 27 (0, 0))) ∧ Hid (ItemsOwn wr (turnVs its) p1 c1 bI ∧ FieldsOwn wr (fsAt fs j) q1 d1 bF ∧ (bI ++ bF).Nodup ∧ ∀ y ∈ bI ++ bF, wa.heap.size ≤ y ∧ y < wr.heap.size ∧ y ≠ G) ∧ Below wa.heap.size wa wr) (fun ii _ => fs.length - (intOf ii).toNat)
        case atStart => exact ⟨0, by omega, rfl, b2, hG, Lib.hid ⟨HIO.out, by rw [fsAt_zero]; exact HFO.out, HND.out, HLW.out⟩, hbel⟩
        case round =>
          clear hbel hGl e0 e1 e2 e3 e4 e5 e6 e7 HIO HFO HND HLW hG
          obtain ⟨j, hj, rfl, bF, hG, hI, hbel⟩ := hrel
          have hGl : G < wr.heap.size := (Array.getElem?_eq_some_iff.1 hG.out).1
          obtain ⟨e0, e1, e2, e3, e4, e5, e6, e7⟩ := (block_of_cells hG.out).all0
          by_cases h1 : j < fs.length
          · obtain ⟨x, hx⟩ : ∃ x, fs[fs.length - 1 - j]? = some x := ⟨fs[fs.length - 1 - j], by simp⟩
            obtain ⟨y, hy⟩ := fsAt_some h1
            obtain ⟨_, _, _, _, _, _, x6, x7⟩ := (hal.below hbel hs0).all0
            have hx0 : w.heap.size < wr.heap.size := Nat.lt_of_lt_of_le hs0 hbel.size
            obtain ⟨hIO, hFO, hnd, hlw⟩ := hI.out
            obtain ⟨n1, n2, n3⟩ := List.nodup_append.1 hnd
            obtain ⟨g, rfl, hgm, hput⟩ := hFO.putAt n2 hy
            rcases HF.out with hf0 | ⟨gq, oq, rfl, hgq, hvs⟩
            · subst hf0; simp at h1
            obtain ⟨hnm, csx, hcx, hvx⟩ := hvs.get hx
            have hbw := HWA.out.trans (hbel.mono HWA.out.size)
            have hnm := (hbw.cell (p := ⟨gq, _, none⟩) hgq).trans hnm
            have hcx := hcx.below hbw hgq
            have hvx := hvx.on hbw
            have hgl : g < wr.heap.size := (hlw g (by simp [hgm])).2.1
            have hgG : g ≠ G := (hlw g (by simp [hgm])).2.2
            have hga : wa.heap.size ≤ g := (hlw g (by simp [hgm])).1
            have hgqr : gq < wr.heap.size := Nat.lt_of_lt_of_le hgq hbw.size
            have hxs : szV x.2 ≤ N ∧ szV x.2 ≤ 1000000 := by
              have := szFs_get hx
              have := HN.out
              simp only [szV] at this hm
              omega
            have hb0 := (Below.drew (Below.refl wr.heap.size wr))
            have HC := Lib.hid (IH.out x.2 hxs.1 _ _ (hvx.on hb0) hxs.2)
            have hidx : (fs.length : Int) - 1 - (j : Int) = ((fs.length - 1 - j : Nat) : Int) := by omega
            have hel : fs.length - 1 - j < fs.length := by omega
            have hln : fs.length ≤ 1000000 := by simp only [szV] at hm; omega
            obtain ⟨xn, xk, xb, xi, xf, xt, xty, xits, xfs⟩ := x
            obtain ⟨xp, xc, xq, xd, rfl, _, _, _, _⟩ := hvx
            have hset := fsAt_set h1 hx
            generalize fs.length - 1 - j = e at *
            obtain ⟨c0, c1', c2, c3, c4, c5, c6, c7⟩ := hcx.all
            have HPUT := Lib.hid hput
            have HLW := Lib.hid hlw
            have HIO := Lib.hid hIO
            have HND := Lib.hid hnd
            have HSET := Lib.hid hset
            clear hx hy hcx hput hlw hFO hnd hIO hI hb0 n1 n2 n3 hvs hset
            go_wp2
            refine wp_region_plan_below 23 [(0, [0, 1, 2, 3, 4, 5, 6, 7, 8, 9, 10, 11, 12, 13, 14, 15, 16, 17, 18, 19, 20]), (1, [21, 22]), (2, [23, 24])] (by kernel_rfl) (by kernel_rfl) (fun _ _ _ _ h => h) ?_
            simp only [wpSegs, pickOps, List.getElem?_toArray, List.getElem?_cons_zero, List.getElem?_cons_succ]
            have kc := cell_cls wr
            repeat (go_big_quiet_step (fail))
            refine wpQuiet_nil ?_
            clear kc
            refine wpListC_plain rfl (fun K hK => ?_)
            go_step
            refine HC.out.mono ?_
            rintro _ w2 ⟨cs2, xb', rfl, hown, hnod, hlow, hbc⟩
            have hb2 := (Below.drew (Below.refl wr.heap.size wr)).trans hbc
            refine hK _ _ (cls_of_below hb2) ?_
            clear hK K
            have hlow' : ∀ y ∈ xb', wr.heap.size ≤ y ∧ y < w2.heap.size := hlow
            have hdis : ∀ y ∈ xb', y ∉ bF := fun y hy hm => by have := (hlow' y hy).1; have := (HLW.out y (by simp [hm])).2.1; omega
            obtain ⟨hth, bF', hFO', hnd', hsub⟩ := HPUT.out w2 (xn, turnV (V.mk xk xb xi xf xt xty xits xfs)) cs2 xb' (Kept.below hb2 (fun y hy => (HLW.out y (by simp [hy])).2.1)) hown hnod hdis
            have HSET := HSET
            try dsimp only at hFO' hth HSET hown
            generalize hz : turnV (V.mk xk xb xi xf xt xty xits xfs) = z at *
            obtain ⟨zk, zb, zi, zf, zt, zty, zits, zfs⟩ := z
            obtain ⟨zp, zc, zq, zd, _, _, rfl, _⟩ := hown
            refine wpListC_plain rfl (fun K hK => ?_)
            go_step
            refine hK _ _ (cls_of_below hb2) ?_
            clear hK K
            refine wpListC_nil ?_
            refine wpList_plain rfl (fun K hK => ?_)
            go_step
            refine hK _ _ ?_
            clear hK K
            refine wpList_plain rfl (fun K hK => ?_)
            refine wp_store_mid (P := Tryd.prog) 79 (.tmp 57) (.tmp 56) rfl g (j * 9) (mcells xn zk zb zi zf zt zty zp zits.length zc zq zfs.length zd) rfl rfl hth (by kernel_rfl) (by simp [Value.oneCell']) ?_
            refine hK _ _ ?_
            clear hK K
            have hFO2 : FieldsOwn (w2.setCells g (j * 9) (mcells xn zk zb zi zf zt zty zp zits.length zc zq zfs.length zd).toList) (fsAt fs (j + 1)) (some ⟨g, 0, none⟩) d1 bF' := by rw [← HSET.out]; exact hFO'
            have hG2 : (w2.setCells g (j * 9) (mcells xn zk zb zi zf zt zty zp zits.length zc zq zfs.length zd).toList).heap[G]? = some (.cells (vcells k b i f t ty p1 its.length c1 (some ⟨g, 0, none⟩) fs.length d1) 27 (0, 0)) := by
              rw [heap_setCells_other g (Ne.symm hgG), hb2.block _ hGl]; exact hG.out
            have hbs : Below wa.heap.size wa (w2.setCells g (j * 9) (mcells xn zk zb zi zf zt zty zp zits.length zc zq zfs.length zd).toList) := below_setCells (hbel.trans (hb2.mono hbel.size)) hga _ _
            have hszs := size_setCells g (mcells xn zk zb zi zf zt zty zp zits.length zc zq zfs.length zd).toList (j * 9) w2
            have hI2 : ItemsOwn (w2.setCells g (j * 9) (mcells xn zk zb zi zf zt zty zp zits.length zc zq zfs.length zd).toList) (turnVs its) p1 c1 bI := HIO.out.kept (fun y hy => by
              have h1 := HLW.out y (by simp [hy])
              have hne : y ≠ g := fun e => by subst e; exact (List.nodup_append.1 HND.out).2.2 y hy y hgm rfl
              rw [heap_setCells_other g hne, hb2.block _ h1.2.1])
            have hall : Hid (ItemsOwn (w2.setCells g (j * 9) (mcells xn zk zb zi zf zt zty zp zits.length zc zq zfs.length zd).toList) (turnVs its) p1 c1 bI ∧ FieldsOwn (w2.setCells g (j * 9) (mcells xn zk zb zi zf zt zty zp zits.length zc zq zfs.length zd).toList) (fsAt fs (j + 1)) (some ⟨g, 0, none⟩) d1 bF' ∧ (bI ++ bF').Nodup ∧ ∀ y ∈ bI ++ bF', wa.heap.size ≤ y ∧ y < (w2.setCells g (j * 9) (mcells xn zk zb zi zf zt zty zp zits.length zc zq zfs.length zd).toList).heap.size ∧ y ≠ G) := Lib.hid ⟨hI2, hFO2, by
                rw [List.nodup_append]
                refine ⟨(List.nodup_append.1 HND.out).1, hnd', fun a ha y hy e => ?_⟩
                subst e
                rcases hsub a hy with h | h
                · exact (List.nodup_append.1 HND.out).2.2 a ha a h rfl
                · have := (hlow' a h).1; have := (HLW.out a (by simp [ha])).2.1; omega, fun y hy => by
                rw [hszs]
                have hs := hb2.size
                have hba := hbel.size
                rcases List.mem_append.1 hy with h | h
                · have := HLW.out y (by simp [h]); omega
                · rcases hsub y h with h | h
                  · have := HLW.out y (by simp [h]); omega
                  · have := hlow' y h; omega⟩
            have HG2 := Lib.hid hG2
            have HBS := Lib.hid hbs
            clear hG2 hbs hszs hFO2 hI2 hFO' hnd' hsub hdis hlow' hth hnod hlow hbc hb2
            generalize w2.setCells g (j * 9) (mcells xn zk zb zi zf zt zty zp zits.length zc zq zfs.length zd).toList = w3 at *
            go_wp2
            go_roundw
            case rel => exact ⟨j + 1, by omega, by go_num, _, HG2, hall, HBS.out⟩
            case measure => simp [intOf]; omega
          · obtain rfl : j = fs.length := by omega
            have hR1 : wr.heap[w.heap.size + 1]? = some (.cells (vcells 0 false 0 0 ⟨#[]⟩ ⟨#[]⟩ none 0 0 none 0 0) 27 (0, 0)) := (hbel.block _ hs1).trans HR0.out
            have HR1 := Lib.hid hR1
            clear hR1
            go_upto_region 12 with (fail)
            go_step
            refine wpList_plain rfl (fun K hK => ?_)
            go_step
            refine hK _ _ ?_
            clear hK K
            refine wpList_plain rfl (fun K hK => ?_)
            refine wp_store_row (P := Tryd.prog) 27 (.tmp 2) (.tmp 58) rfl (w.heap.size + 1) (vcells k b i f t ty p1 its.length c1 q1 fs.length d1) rfl rfl 27 _ HR1.out (by kernel_rfl) rfl (vcells_one ..) ?_
            refine hK _ _ ?_
            clear hK K
            obtain ⟨hIO, hFO, hnd, hlw⟩ := hI.out
            rw [fsAt_all] at hFO
            have hnew : (wr.setRow (w.heap.size + 1) (vcells k b i f t ty p1 its.length c1 q1 fs.length d1)).heap[w.heap.size + 1]? = some (.cells (vcells k b i f t ty p1 its.length c1 q1 fs.length d1) 27 (0, 0)) := setRow_heap _ _ _ _ _ _ HR1.out
            have hbw := HWA.out.trans (hbel.mono HWA.out.size)
            have hwfin : Below w.heap.size w (wr.setRow (w.heap.size + 1) (vcells k b i f t ty p1 its.length c1 q1 fs.length d1)) := below_setRow hbw (by omega) _
            have hkp : Kept (bI ++ bF) wr (wr.setRow (w.heap.size + 1) (vcells k b i f t ty p1 its.length c1 q1 fs.length d1)) := Kept.setRow (fun _ _ => rfl) (fun h => by have := (hlw _ h).1; omega) _
            have hszr := setRow_size wr (w.heap.size + 1) (vcells k b i f t ty p1 its.length c1 q1 fs.length d1)
            have hfin : CopyPost (turnV (.mk k b i f t ty its fs)) w (.returned (.agg (vcells k b i f t ty p1 its.length c1 q1 fs.length d1))) (wr.setRow (w.heap.size + 1) (vcells k b i f t ty p1 its.length c1 q1 fs.length d1)) := by
              have h := OwnV.intro (k := k) (b := b) (i := i) (f := f) (t := t) (ty := ty) (by rw [turnVs_map, List.length_map]; exact l1) (by rw [List.length_reverse, turnFs_map, List.length_map]; exact l2) hIO hFO
              rw [turnVs_map, List.length_map, List.length_reverse, turnFs_map, List.length_map] at h
              rw [turnV, turnVs_map, turnFs_map]
              exact ⟨_, bI ++ bF, rfl, h.kept hkp, hnd, fun y hy => by have := hlw y hy; have := HWA.out.size; rw [hszr]; omega, hwfin⟩
            have HFIN := Lib.hid hfin
            clear hfin hwfin hkp hIO hFO hnd hlw hI
            generalize wr.setRow (w.heap.size + 1) (vcells k b i f t ty p1 its.length c1 q1 fs.length d1) = wz at *
            obtain ⟨r0, r1, r2, r3, r4, r5, r6, r7⟩ := (block_of_cells hnew).all0
            clear hnew
            go_wp2
            exact bodyPost_ret (v := .agg (vcells k b i f t ty p1 its.length c1 q1 fs.length d1)) (by simp [results, Tryd.results73, go_sem, r0, r1, r2, r3, r4, r5, r6, r7]) rfl HFIN.out
end Go.Proofs.YtnmnmkdmnohbmaaDoor
