/- Helper text: a table of texts: Drop. Conditions: none. -/
import Derived.Test.YtnmnmkdmnohbmaaDoorTabGet
import Derived.Test.YtnmnmkdmnohbmaaDoorLayDel
namespace Go.Proofs.YtnmnmkdmnohbmaaDoor
open Go Go.RowKit Go.Maps

/-- No key stands twice. -/
def Dist (ks : List ByteArray) : Prop := ks.Pairwise (fun a b => a.toList ≠ b.toList)
theorem Dist.erase {ks : List ByteArray} (h : Dist ks) (i : Nat) : Dist (ks.eraseIdx i) := List.Pairwise.sublist (List.eraseIdx_sublist _ _) h
theorem Dist.inj {ks : List ByteArray} (h : Dist ks) {i j : Nat} {a b : ByteArray} (ha : ks[i]? = some a) (hb : ks[j]? = some b) (e : a.toList = b.toList) : i = j := by
  unfold Dist at h
  rw [List.pairwise_iff_getElem] at h
  obtain ⟨hi, rfl⟩ := List.getElem?_eq_some_iff.1 ha
  obtain ⟨hj, rfl⟩ := List.getElem?_eq_some_iff.1 hb
  rcases Nat.lt_trichotomy i j with hlt | he | hlt
  · exact absurd e (h i j hi hj hlt)
  · exact he
  · exact absurd e.symm (h j i hj hi hlt)
theorem pos_iff {ks : List ByteArray} (h : Dist ks) {s : ByteArray} {m : Nat} : pos ks s = some m ↔ ∃ t, ks[m]? = some t ∧ t.toList = s.toList := by
  constructor
  · intro hp
    unfold pos at hp
    rw [List.findIdx?_eq_some_iff_getElem] at hp
    obtain ⟨hm, h1, _⟩ := hp
    exact ⟨ks[m], List.getElem?_eq_getElem hm, by simpa using h1⟩
  · rintro ⟨t, ht, e⟩
    unfold pos
    rw [List.findIdx?_eq_some_iff_getElem]
    obtain ⟨hm, rfl⟩ := List.getElem?_eq_some_iff.1 ht
    refine ⟨hm, by simpa using e, fun j hj hc => ?_⟩
    have hc' : (ks[j]'(by omega)).toList = s.toList := by simpa using hc
    have := h.inj (List.getElem?_eq_getElem (by omega)) ht (hc'.trans e.symm)
    omega
theorem pos_none {ks : List ByteArray} {s : ByteArray} : pos ks s = none ↔ ∀ t ∈ ks, t.toList ≠ s.toList := by
  unfold pos
  rw [List.findIdx?_eq_none_iff]
  simp
theorem erase_get {ks : List ByteArray} {i m : Nat} : (ks.eraseIdx i)[m]? = if m < i then ks[m]? else ks[m + 1]? := by
  rw [List.getElem?_eraseIdx]
theorem pos_erase {ks : List ByteArray} (h : Dist ks) {i : Nat} {s0 : ByteArray} (hi : pos ks s0 = some i) (s : ByteArray) (m : Nat) : pos (ks.eraseIdx i) s = some m ↔ s.toList ≠ s0.toList ∧ pos ks s = some (if m < i then m else m + 1) := by
  obtain ⟨t0, ht0, e0⟩ := (pos_iff h).1 hi
  rw [pos_iff (h.erase i), pos_iff h]
  simp only [erase_get]
  constructor
  · rintro ⟨t, ht, e⟩
    refine ⟨fun hc => ?_, t, ?_, e⟩
    · have e2 : t.toList = t0.toList := by rw [e, hc, e0]
      split at ht
      · have := h.inj ht ht0 e2; omega
      · have := h.inj ht ht0 e2; omega
    · split at ht <;> rename_i hm
      · rw [if_pos hm]; exact ht
      · rw [if_neg hm]; exact ht
  · rintro ⟨_, t, ht, e⟩
    refine ⟨t, ?_, e⟩
    split at ht <;> rename_i hm
    · rw [if_pos hm]; exact ht
    · rw [if_neg hm]; exact ht
theorem pos_erase_none {ks : List ByteArray} (h : Dist ks) {i : Nat} {s0 : ByteArray} (hi : pos ks s0 = some i) (s : ByteArray) : (pos (ks.eraseIdx i) s).isSome = (!(decide (s.toList = s0.toList)) && (pos ks s).isSome) := by
  cases hp : pos (ks.eraseIdx i) s with
  | some m =>
    obtain ⟨h1, h2⟩ := (pos_erase h hi s m).1 hp
    simp [h1, h2]
  | none =>
    by_cases e : s.toList = s0.toList
    · simp [e]
    · cases hq : pos ks s with
      | none => simp
      | some q =>
        exfalso
        have hqi : q ≠ i := fun hc => by
          subst hc
          obtain ⟨t, ht, e1⟩ := (pos_iff h).1 hq
          obtain ⟨t0, ht0, e0⟩ := (pos_iff h).1 hi
          rw [ht] at ht0
          cases ht0
          exact e (e1.symm.trans e0)
        have := (pos_erase h hi s (if q < i then q else q - 1)).2 ⟨e, by
          rw [hq]
          congr 1
          by_cases h1 : q < i
          · simp [h1]
          · rw [if_neg h1, if_neg (by omega)]; omega⟩
        rw [hp] at this
        cases this
/-- While the places behind a gap are told anew: j is the next to tell. -/
structure DI (ks : List ByteArray) (j : Nat) (D : DataW Unit) : Prop where
  has : ∀ s : ByteArray, s.size ≤ maxLen → Maps.has D (nkey s) = (pos ks s).isSome
  ix : ∀ (s : ByteArray) (m : Nat), s.size ≤ maxLen → pos ks s = some m → D.atKey (nkey s) (.lit (.int .i64 0)) = .lit (.int .i64 (if m < j then (m : Int) else m + 1))
theorem nkey_ne {a b : ByteArray} (h : a.toList ≠ b.toList) : nkey a ≠ nkey b := fun e => h (nkey_eq.1 e)
theorem nkey_lit (s : ByteArray) : WideAt.IsKeyLit (nkey s) := (trivial : WideAt.IsKeyLit (.string s.data.toList))
theorem DI.start {ks : List ByteArray} {D : DataW Unit} {i : Nat} {s0 : ByteArray} (hd : Dist ks) (hi : pos ks s0 = some i) (hhas : ∀ s : ByteArray, s.size ≤ maxLen → Maps.has D (nkey s) = (pos ks s).isSome)
    (hix : ∀ (s : ByteArray) (m : Nat), s.size ≤ maxLen → pos ks s = some m → D.atKey (nkey s) (.lit (.int .i64 0)) = .lit (.int .i64 m)) : DI (ks.eraseIdx i) i (D.del (nkey s0)) := by
  refine ⟨fun s hs => ?_, fun s m hs hm => ?_⟩
  · rw [pos_erase_none hd hi]
    by_cases e : s.toList = s0.toList
    · rw [nkey_eq.2 e, has_del_same]; simp [e]
    · rw [has_del_other (nkey_ne e), hhas s hs]; simp [e]
  · obtain ⟨e, h2⟩ := (pos_erase hd hi s m).1 hm
    rw [atKey_del_other (nkey_ne e), hix s _ hs h2]
    split <;> simp
theorem DI.step {ks : List ByteArray} {D : DataW Unit} {j : Nat} {t : ByteArray} (h : DI ks j D) (hd : Dist ks) (ht : ks[j]? = some t) (hm : IsMap D) : DI ks (j + 1) (D.put (nkey t) (.lit (.int .i64 j))) := by
  refine ⟨fun s hs => ?_, fun s m hs hp => ?_⟩
  · by_cases e : s.toList = t.toList
    · rw [nkey_eq.2 e, has_put_same hm (nkey_lit t), (pos_iff hd).2 ⟨t, ht, e.symm⟩]
      rfl
    · rw [has_put_other (nkey_ne e), h.has s hs]
  · by_cases e : s.toList = t.toList
    · have hj : pos ks s = some j := (pos_iff hd).2 ⟨t, ht, e.symm⟩
      rw [hj] at hp
      cases hp
      rw [nkey_eq.2 e, atKey_put_same hm (nkey_lit t), if_pos (by omega)]
    · have hne : m ≠ j := fun hc => by
        subst hc
        obtain ⟨t', ht', e'⟩ := (pos_iff hd).1 hp
        rw [ht] at ht'
        cases ht'
        exact e e'.symm
      rw [atKey_put_other (nkey_ne e), h.ix s m hs hp]
      by_cases hmj : m < j
      · rw [if_pos hmj, if_pos (by omega)]
      · rw [if_neg hmj, if_neg (by omega)]
theorem DI.size_step {ks : List ByteArray} {D : DataW Unit} {j : Nat} {t : ByteArray} (h : DI ks j D) (hd : Dist ks) (ht : ks[j]? = some t) (hm : Tidy D) (hst : t.size ≤ maxLen) (d : DataW Unit) : size (D.put (nkey t) d) = size D := by
  rw [size_put hm, h.has t hst, (pos_iff hd).2 ⟨t, ht, rfl⟩]
  rfl
theorem own_reset {H : Type} {P : Program} {k : TypeId} {R : Value → Option (DataW H × List MemPlace)} {w : World} {b n n' : Nat} {D : DataW H} (h : w.ownsMap P k R b n D) (hn : size D ≤ n') : w.ownsMap P k R b n' D := by
  obtain ⟨es, clock, hb, F, _, rfl⟩ := h
  exact ⟨es, clock, hb, F, by simpa [Maps.size, length_sorted] using hn, rfl⟩

def DropPost (w : World) (B T bm : Nat) (kv vv : Value) (ks : List ByteArray) (vs : List Int) (e : Ending) (w' : World) : Prop :=
  e = .returned (.bool true) ∧ ∃ kv' vv' D', IsTab w' B T bm kv' vv' D' ks vs ∧ Moved (fun g => g = T ∨ g = bm ∨ kv.ownBlock = some g ∨ vv.ownBlock = some g) w w' ∧ kv'.ownBlock = kv.ownBlock ∧ vv'.ownBlock = vv.ownBlock

set_option maxRecDepth 100000 in
set_option maxHeartbeats 2000000 in
theorem Drop_none {w : World} {B T bm : Nat} {kv vv : Value} {D : DataW Unit} {ks : List ByteArray} {vs : List Int} (h : IsTab w B T bm kv vv D ks vs) (s : ByteArray) (hs : s.size ≤ maxLen) (hn : pos ks s = none) :
    Calls Tryd.prog 66 #[.pointer (some ⟨T, 0, none⟩), .string s] w (RetS (.bool false) w) := by
  obtain ⟨c0, c1, c2, f1, f2, hT⟩ := h.facts
  have hhas := h.has s hs
  rw [hn] at hhas
  simp only [Option.isSome_none] at hhas
  have hkey := keyS hs
  have hmap := h.map
  clear h hn
  go_enter Tryd.func66, Tryd.ntmps66
  go_wp2_with (at_lookup; refine wpList_lookup_own_ok_int _ rfl _ _ 100 rfl 9 3 .i64 lawS Tryd.underlying100 Tryd.underlying3 (zeroI _) bm ks.length D rfl hmap _ _ rfl hkey ?_; intro x _ _; rw [hhas])
  go_ret
  exact ⟨rfl, rfl⟩

set_option maxRecDepth 100000 in
set_option maxHeartbeats 4000000 in
theorem Drop_some {w : World} {B T bm : Nat} {kv vv : Value} {D : DataW Unit} {ks : List ByteArray} {vs : List Int} (h : IsTab w B T bm kv vv D ks vs) (hd : Dist ks) (hsm : ∀ t ∈ ks, t.size ≤ maxLen) (s : ByteArray) (hs : s.size ≤ maxLen) {i : Nat} (hn : pos ks s = some i) :
    Calls Tryd.prog 66 #[.pointer (some ⟨T, 0, none⟩), .string s] w (DropPost w B T bm kv vv (ks.eraseIdx i) (vs.eraseIdx i)) := by
  obtain ⟨c0, c1, c2, f1, f2, hT⟩ := h.facts
  have hhas := h.has s hs
  have hat0 := h.ix s i hs hn
  rw [hn] at hhas
  simp only [Option.isSome_some] at hhas
  have hi := pos_lt hn
  have hlen := h.len
  have few := h.few
  have hkey := keyS hs
  have hmap := h.map
  have H := Lib.hid h
  have HD := Lib.hid hd
  have HN := Lib.hid hn
  have HSM := Lib.hid hsm
  have HI := Lib.hid hi
  have HLEN := Lib.hid hlen
  have HSZ := Lib.hid h.map.size_le
  have HDI := Lib.hid (DI.start hd hn h.has h.ix)
  have HTD := Lib.hid (h.map.tidy lawS)
  have HH := Lib.hid hhas
  clear h hd hn hsm hi hlen
  go_enter Tryd.func66, Tryd.ntmps66
  go_upto_region 7 with (first
    | (at_lookup; refine wpList_lookup_own_ok_int _ rfl _ _ 100 rfl 9 3 .i64 lawS Tryd.underlying100 Tryd.underlying3 (zeroI _) bm ks.length D rfl hmap _ _ rfl hkey ?_; intro x hat _; rw [hat0] at hat; obtain rfl : (i : Int) = x := (by cases hat; rfl); rw [hhas])
    | (at_delete; refine wpList_delete_own _ rfl _ _ 100 9 rfl 3 lawS Tryd.underlying100 _ bm ks.length D rfl hmap _ _ rfl hkey ?_; intro w1 hown1 hturn1))
  have hg1 := hturn1.grown
  have hgT : (some T : Option Nat) ≠ some bm := fun e => H.out.d1 (by cases e; rfl)
  have hb1 := (hg1.block T hT hgT).trans H.out.block
  have hk1 := H.out.keys.kept hg1 (.inr (row_ne_map H.out.keys H.out.map))
  have hv1 := H.out.vals.kept hg1 (.inr (row_ne_map H.out.vals.1 H.out.map))
  have HMP1 := Lib.hid hown1
  have HB1 := Lib.hid hb1
  have HK1 := Lib.hid hk1
  have HV1 := Lib.hid hv1
  have hi43 : i < 8796093022208 := Nat.lt_trans HI.out few
  have HG1 := Lib.hid hg1
  have c1 : w1.cell? ⟨T, 1, none⟩ = some kv := by simp [World.cell?, hb1]
  clear c0 c2 f1 f2 hhas hat0 hmap hat hown1 hturn1 hg1 hgT hb1 hk1 hv1 hkey
  obtain ⟨p0, q0, rfl⟩ := row_slice HK1.out
  obtain ⟨p1, q1, rfl⟩ := row_slice HV1.out.1
  go_upto_region 8 with (go_at_call 103; refine (del_strings HK1.out HI.out).mono ?_; rintro e w2 ⟨kv', rfl, hrow, hgr, hob⟩; obtain ⟨pk, ck, rfl⟩ := row_slice hrow; have hb2 := (hgr.block T (Array.getElem?_eq_some_iff.1 HB1.out).1 (fun e => H.out.d2 e.symm)).trans HB1.out; have c1' : w2.cell? ⟨T, 1, none⟩ = some (.slice p0 ks.length q0) := (by simp [World.cell?, hb2]); have f1' : w2.frozen? ⟨T, 1, none⟩ = false := (by simp [World.frozen?, hb2]); have HROW := Lib.hid hrow; have HGR := Lib.hid hgr; have HOB := Lib.hid hob; have HB2 := Lib.hid hb2; clear hrow hgr hob hb2)
  have hm2 := HMP1.out.kept HGR.out (fun e => row_ne_map HK1.out HMP1.out e.symm)
  have hv2 := HV1.out.kept HGR.out (by rcases H.out.d4 with h | h; rw [h]; cases (Value.slice p1 vs.length q1).ownBlock <;> simp; exact .inr (Ne.symm h))
  have hneT : (Value.slice pk (ks.eraseIdx i).length ck).ownBlock ≠ some T := by rw [HOB.out]; exact H.out.d2
  have hnem : (Value.slice pk (ks.eraseIdx i).length ck).ownBlock ≠ some bm := by rw [HOB.out]; exact row_ne_map H.out.keys H.out.map
  have hb3 := heap_setCell_same (j := 1) HB2.out (Value.slice pk (ks.eraseIdx i).length ck)
  have hg3 := grown_setCell w2 ⟨T, 1, none⟩ (Value.slice pk (ks.eraseIdx i).length ck)
  generalize w2.setCell ⟨T, 1, none⟩ (Value.slice pk (ks.eraseIdx i).length ck) = w3 at *
  replace hb3 : w3.heap[T]? = some (.cells #[.map (some bm), .slice pk (ks.eraseIdx i).length ck, .slice p1 vs.length q1] 104 (0, 0)) := hb3
  have hk3 := HROW.out.kept hg3 (.inr hneT)
  have hv3 := hv2.kept hg3 (.inr H.out.d3)
  have hm3 := hm2.kept hg3 (fun e => H.out.d1 (by cases e; rfl))
  have HB3 := Lib.hid hb3
  have HK3 := Lib.hid hk3
  have HV3 := Lib.hid hv3
  have HM3 := Lib.hid hm3
  have HG3 := Lib.hid hg3
  have HNT := Lib.hid hneT
  have HNM := Lib.hid hnem
  have c2 : w3.cell? ⟨T, 2, none⟩ = some (.slice p1 vs.length q1) := by simp [World.cell?, hb3]
  have hiv := Lib.hid (show i < vs.length by rw [HLEN.out]; exact HI.out)
  clear hm2 hv2 hneT hnem hb3 hg3 hk3 hv3 hm3 c1' f1' c1
  go_upto_region 9 with (go_at_call 104; refine (del_ints HV3.out hiv.out).mono ?_; rintro e w4 ⟨vv', rfl, hrow, hgr, hob⟩; obtain ⟨pv, cv, rfl⟩ := row_slice hrow.1; have hb4 := (hgr.block T (Array.getElem?_eq_some_iff.1 HB3.out).1 (fun e => H.out.d3 e.symm)).trans HB3.out; have c2' : w4.cell? ⟨T, 2, none⟩ = some (.slice p1 vs.length q1) := (by simp [World.cell?, hb4]); have f2' : w4.frozen? ⟨T, 2, none⟩ = false := (by simp [World.frozen?, hb4]); have HROW2 := Lib.hid hrow; have HGR2 := Lib.hid hgr; have HOB2 := Lib.hid hob; have HB4 := Lib.hid hb4; clear hrow hgr hob hb4)
  have hm4 := HM3.out.kept HGR2.out (fun e => row_ne_map HV3.out.1 HM3.out e.symm)
  have hk4 := HK3.out.kept HGR2.out (by rw [HOB.out]; exact H.out.d4)
  have hneT2 : (Value.slice pv (vs.eraseIdx i).length cv).ownBlock ≠ some T := by rw [HOB2.out]; exact H.out.d3
  have hb5 := heap_setCell_same (j := 2) HB4.out (Value.slice pv (vs.eraseIdx i).length cv)
  have hg5 := grown_setCell w4 ⟨T, 2, none⟩ (Value.slice pv (vs.eraseIdx i).length cv)
  generalize w4.setCell ⟨T, 2, none⟩ (Value.slice pv (vs.eraseIdx i).length cv) = w5 at *
  replace hb5 : w5.heap[T]? = some (.cells #[.map (some bm), .slice pk (ks.eraseIdx i).length ck, .slice pv (vs.eraseIdx i).length cv] 104 (0, 0)) := hb5
  have hk5 := hk4.kept hg5 (.inr HNT.out)
  have hv5 := HROW2.out.kept hg5 (.inr hneT2)
  have hm5 := hm4.kept hg5 (fun e => H.out.d1 (by cases e; rfl))
  have hd4 : (Value.slice pk (ks.eraseIdx i).length ck).ownBlock = none ∨ (Value.slice pk (ks.eraseIdx i).length ck).ownBlock ≠ (Value.slice pv (vs.eraseIdx i).length cv).ownBlock := by rw [HOB.out, HOB2.out]; exact H.out.d4
  have M5 : Moved (fun g => g = T ∨ g = bm ∨ (Value.slice p0 ks.length q0).ownBlock = some g ∨ (Value.slice p1 vs.length q1).ownBlock = some g) w w5 :=
    ((((Moved.of_grown HG1.out (fun g e => .inl (.inr (.inl (by cases e; rfl))))).trans (Moved.of_grown HGR.out (fun g e => .inl (.inr (.inr (.inl e)))))).trans (Moved.of_grown HG3.out (fun g e => .inl (.inl (by cases e; rfl))))).trans (Moved.of_grown HGR2.out (fun g e => .inl (.inr (.inr (.inr e)))))).trans (Moved.of_grown hg5 (fun g e => .inl (.inl (by cases e; rfl))))
  have hl' : (ks.eraseIdx i).length + 1 = ks.length := by rw [List.length_eraseIdx, if_pos HI.out]; have := HI.out; omega
  have hlv : (vs.eraseIdx i).length = (ks.eraseIdx i).length := by rw [List.length_eraseIdx, List.length_eraseIdx, if_pos HI.out, if_pos hiv.out, HLEN.out]
  have hsz : size (D.del (nkey s)) ≤ (ks.eraseIdx i).length := by
    have h1 := size_del (k := nkey s) HTD.out
    rw [HH.out] at h1
    have := HSZ.out
    simp only [if_true] at h1
    omega
  have hm5' := own_reset hm5 hsz
  have hmem : ∀ t ∈ ks.eraseIdx i, t.size ≤ maxLen := fun t ht => HSM.out t (List.mem_of_mem_eraseIdx ht)
  have hdd := HD.out.erase i
  have hdi := HDI.out
  have few' : (ks.eraseIdx i).length < 8796093022208 := by omega
  have hil : i ≤ (ks.eraseIdx i).length := by have := HI.out; omega
  have HB5 := Lib.hid hb5
  have HK5 := Lib.hid hk5
  have HV5 := Lib.hid hv5
  have HM5 := Lib.hid hm5'
  have HD4 := Lib.hid hd4
  have HMV := Lib.hid M5
  have HLV := Lib.hid hlv
  have HMEM := Lib.hid hmem
  have HDD := Lib.hid hdd
  have HDI5 := Lib.hid hdi
  have HNT2 := Lib.hid hneT2
  clear hm4 hk4 hneT2 hb5 hg5 hk5 hv5 hm5 hd4 M5 hl' hlv hsz hm5' hmem hdd hdi HB4 HGR2 HROW2 HB3 HK3 HV3 HM3 HG3 HB2 HGR HROW HMP1 HK1 HV1 HB1 HSZ HDI HTD HH HN HD HSM HLEN HI hiv few c2 c2' f2'
  generalize ks.eraseIdx i = ks' at *
  generalize vs.eraseIdx i = vs' at *
  go_wp2_with fail
  go_loopw [7] (fun ii wr => ∃ j : Nat, i ≤ j ∧ j ≤ ks'.length ∧ ii = .int .i64 j ∧ ∃ Dj, Hid (wr.ownsMap Tryd.prog 9 (plainElem Tryd.prog 3) bm ks'.length Dj) ∧ Hid (DI ks' j Dj) ∧ Hid (w5.grownBy wr (some bm))) (fun ii _ => ks'.length - (intOf ii).toNat)
  case atStart => exact ⟨i, Nat.le_refl _, hil, rfl, _, HM5, HDI5, Lib.hid ⟨rfl, rfl, rfl, Nat.le_refl _, fun _ _ _ => rfl⟩⟩
  case round =>
    obtain ⟨j, hij, hj, rfl, Dj, hmj, hdj, hgj⟩ := hrel
    have hbT := (hgj.out.block T (Array.getElem?_eq_some_iff.1 HB5.out).1 (fun e => H.out.d1 (by cases e; rfl))).trans HB5.out
    have c0 : wr.cell? ⟨T, 0, none⟩ = some (.map (some bm)) := by simp [World.cell?, hbT]
    have c1 : wr.cell? ⟨T, 1, none⟩ = some (.slice pk ks'.length ck) := by simp [World.cell?, hbT]
    have hTr : T < wr.heap.size := (Array.getElem?_eq_some_iff.1 hbT).1
    clear hbT
    by_cases hlt : j < ks'.length
    · obtain ⟨t, ht⟩ : ∃ t, ks'[j]? = some t := ⟨_, List.getElem?_eq_getElem hlt⟩
      have hkr := HK5.out.kept hgj.out (.inr HNM.out)
      obtain ⟨p, cap, e1, hc1, hc2, hcs⟩ := texts_cells hkr
      obtain ⟨g, rfl, hg, q0c⟩ := hcs j t ht
      cases e1
      have hst := HMEM.out t (List.mem_of_getElem? ht)
      have hkeyt := keyS hst
      unfold maxLen at hc2
      have HT := Lib.hid ht
      have HST := Lib.hid hst
      clear ht hkr hcs hst
      go_upto_region 12 with (fail)
      refine wp_region_plan_below 12 [(0, [0, 1, 2, 3, 4, 5, 6, 7, 8, 9, 10, 11]), (2, [12])] (by kernel_rfl) (by kernel_rfl) (fun _ _ _ _ h => h) ?_
      simp only [wpSegs, pickOps, List.getElem?_toArray, List.getElem?_cons_zero, List.getElem?_cons_succ]
      have kc := cell_cls wr
      iterate 12 (go_big_quiet_step (fail))
      refine wpQuiet_nil ?_
      clear kc
      change wpList _ _ _ _ _ wr.drew
      refine wpList_mapUpdate_in _ rfl _ _ _ 100 rfl 9 3 lawS Tryd.underlying100 _ bm ks'.length Dj rfl hmj.out.drew (by unfold maxLen; omega) _ _ _ rfl rfl hkeyt _ [] (plainElem_int Tryd.underlying3 (WalkArith.wf_i64 (by omega))) ?_
      intro w6 hown6 hturn6
      have hg6 := hturn6.grown
      have HG6 := Lib.hid (show w5.grownBy w6 (some bm) from ⟨hg6.os.trans hgj.out.os, hg6.tape.trans hgj.out.tape, hg6.output.trans hgj.out.output, Nat.le_trans hgj.out.size hg6.size, fun k hk hne => (hg6.block k (Nat.lt_of_lt_of_le hk hgj.out.size) hne).trans (hgj.out.block k hk hne)⟩)
      have HM6 := Lib.hid (own_reset hown6 (by rw [hdj.out.size_step HDD.out HT.out (hmj.out.tidy lawS) HST.out]; exact hmj.out.size_le))
      have HD6 := Lib.hid (hdj.out.step HDD.out HT.out hmj.out.isMap)
      clear hg6 hown6 hturn6 hkeyt c0 c1
      go_wp2_with fail
      go_roundw
      case rel => exact ⟨j + 1, by omega, by omega, by go_num, _, HM6, HD6, HG6⟩
      case measure => simp [intOf]; omega
    · obtain rfl : j = ks'.length := by omega
      have HFIN := Lib.hid (show DropPost w B T bm (.slice p0 ks.length q0) (.slice p1 vs.length q1) ks' vs' (.returned (.bool true)) wr from by
        have hbT := (hgj.out.block T (Array.getElem?_eq_some_iff.1 HB5.out).1 (fun e => H.out.d1 (by cases e; rfl))).trans HB5.out
        refine ⟨rfl, _, _, Dj, ⟨hbT, hmj.out, HK5.out.kept hgj.out (.inr HNM.out), HV5.out.kept hgj.out (.inr (by rw [HOB2.out]; exact row_ne_map H.out.vals.1 H.out.map)), HLV.out, hdj.out.has, fun t m ht hm => ?_, H.out.geT, H.out.gem, H.out.d1, HNT.out, HNT2.out, HD4.out, few'⟩, HMV.out.trans (Moved.of_grown hgj.out (fun g e => .inl (.inr (.inl (by cases e; rfl))))), HOB.out, HOB2.out⟩
        rw [hdj.out.ix t m ht hm, if_pos (pos_lt hm)])
      clear hmj hdj hgj
      go_wp2_with fail
      go_ret
      exact HFIN.out
end Go.Proofs.YtnmnmkdmnohbmaaDoor
