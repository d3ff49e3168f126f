/- Helper text: a table whose keys are the names of numbers, seen as a list of entries: Put, Drop, Get, At, Keys. Conditions: none. -/
import Derived.Test.YtnmnmkdmnohbmaaDoorTabDrop
import Derived.Test.YtnmnmkdmnohbmaaDoorRowT
import Derived.Test.YtnmnmkdmnohbmaaDoorPackF
namespace Go.Proofs.YtnmnmkdmnohbmaaDoor
open Go Go.RowKit Go.Maps

def nmB (k : Int) : ByteArray := ⟨#[107]⟩ ++ ⟨(Lib.itoa k).toArray⟩
theorem nmB_data (k : Int) : (nmB k).data.toList = 107 :: Lib.itoa k := by
  unfold nmB
  rw [ByteArray.data_append]
  simp
theorem nmB_inj {a b : Int} (h : (nmB a).toList = (nmB b).toList) : a = b := by
  have h1 := nkey_eq.2 h
  unfold nkey at h1
  rw [nmB_data, nmB_data] at h1
  simp only [Lit.string.injEq, List.cons.injEq, true_and] at h1
  exact itoa_inj h1
theorem nmB_size {k : Int} (hk : inI k) : (nmB k).size ≤ maxLen := by
  have h1 := itoa_len hk
  have h2 : (nmB k).size = (nmB k).data.toList.length := (Array.length_toList ..).symm
  rw [h2, nmB_data]
  simp only [List.length_cons]
  unfold maxLen
  omega
def ksR (l : List (Int × Int)) : List ByteArray := l.map (fun r => nmB r.1)
def vsR (l : List (Int × Int)) : List Int := l.map (·.2)
theorem pos_rows (l : List (Int × Int)) (k : Int) : pos (ksR l) (nmB k) = l.findIdx? (fun r => r.1 == k) := by
  unfold pos ksR
  rw [List.findIdx?_map]
  congr 1
  funext r
  simp only [Function.comp_apply]
  by_cases h : r.1 = k
  · simp [h]
  · have h1 : (r.1 == k) = false := by simpa using h
    have h2 : ((nmB r.1).toList == (nmB k).toList) = false := by simpa using (fun e => h (nmB_inj e))
    rw [h1, h2]
theorem dist_rows {l : List (Int × Int)} (nd : (l.map (·.1)).Nodup) : Dist (ksR l) := by
  unfold Dist ksR
  rw [List.pairwise_map]
  unfold List.Nodup at nd
  rw [List.pairwise_map] at nd
  exact nd.imp (fun h e => h (nmB_inj e))
theorem any_find (l : List (Int × Int)) (k : Int) : l.any (fun r => r.1 == k) = (l.findIdx? (fun r => r.1 == k)).isSome := by
  rw [Bool.eq_iff_iff, Option.isSome_iff_ne_none, Ne, List.findIdx?_eq_none_iff, List.any_eq_true]
  simp
theorem find_at {l : List (Int × Int)} {k : Int} {i : Nat} (h : l.findIdx? (fun r => r.1 == k) = some i) : ∃ v, l[i]? = some (k, v) := by
  rw [List.findIdx?_eq_some_iff_getElem] at h
  obtain ⟨hi, h1, _⟩ := h
  have : l[i].1 = k := by simpa using h1
  exact ⟨l[i].2, by rw [List.getElem?_eq_getElem hi, ← this]⟩
theorem nd_at {l : List (Int × Int)} (nd : (l.map (·.1)).Nodup) {i j : Nat} {k v v' : Int} (hi : l[i]? = some (k, v)) (hj : l[j]? = some (k, v')) : i = j := by
  have h1 : (l.map (·.1))[i]? = some k := by rw [List.getElem?_map, hi]; rfl
  have h2 : (l.map (·.1))[j]? = some k := by rw [List.getElem?_map, hj]; rfl
  obtain ⟨a1, a2⟩ := List.getElem?_eq_some_iff.1 h1
  obtain ⟨b1, b2⟩ := List.getElem?_eq_some_iff.1 h2
  unfold List.Nodup at nd
  rw [List.pairwise_iff_getElem] at nd
  rcases Nat.lt_trichotomy i j with hl | hl | hl
  · exact absurd (a2.trans b2.symm) (nd i j a1 b1 hl)
  · exact hl
  · exact absurd (b2.trans a2.symm) (nd j i b1 a1 hl)
theorem putR_miss {l : List (Int × Int)} {k v : Int} (h : l.any (fun r => r.1 == k) = false) : putR l k v = l ++ [(k, v)] := by
  unfold putR
  rw [h]
  have : l.map (updR k v) = l := by
    conv => rhs; rw [← List.map_id l]
    apply List.map_congr_left
    intro r hr
    rw [List.any_eq_false] at h
    have := h r hr
    unfold updR
    rw [if_neg (by simpa using this)]
    rfl
  rw [this]
  rfl
theorem putR_hit {l : List (Int × Int)} {k v : Int} (nd : (l.map (·.1)).Nodup) {i : Nat} (h : l.findIdx? (fun r => r.1 == k) = some i) : putR l k v = l.set i (k, v) := by
  obtain ⟨v0, h0⟩ := find_at h
  have ha : l.any (fun r => r.1 == k) = true := by rw [any_find, h]; rfl
  unfold putR
  rw [ha]
  simp only [if_true, List.append_nil]
  apply List.ext_getElem?
  intro j
  rw [List.getElem?_map, List.getElem?_set]
  have hi := (List.getElem?_eq_some_iff.1 h0).1
  by_cases hj : i = j
  · subst hj
    rw [if_pos rfl, if_pos hi, h0]
    simp [updR]
  · rw [if_neg hj]
    cases hr : l[j]? with
    | none => rfl
    | some r =>
      obtain ⟨rk, rv⟩ := r
      have hne : rk ≠ k := fun e => hj (nd_at nd h0 (by rw [hr, e]))
      simp [updR, hne]
theorem dropR_miss {l : List (Int × Int)} {k : Int} (h : l.any (fun r => r.1 == k) = false) : dropR l k = l := by
  unfold dropR
  rw [List.filter_eq_self]
  intro r hr
  rw [List.any_eq_false] at h
  simpa using h r hr
theorem dropR_hit {l : List (Int × Int)} {k : Int} (nd : (l.map (·.1)).Nodup) {i : Nat} (h : l.findIdx? (fun r => r.1 == k) = some i) : dropR l k = l.eraseIdx i := by
  obtain ⟨v0, h0⟩ := find_at h
  have e : l = l.take i ++ ((k, v0) :: l.drop (i + 1)) := by
    conv => lhs; rw [← List.take_append_drop i l]
    rw [List.drop_eq_getElem?_toList_append, h0]
    rfl
  have h1 : (l.take i).filter (fun r => !(r.1 == k)) = l.take i := by
    rw [List.filter_eq_self]
    intro r hr
    obtain ⟨j, hj⟩ := List.mem_iff_getElem?.1 hr
    rw [List.getElem?_take] at hj
    split at hj
    · obtain ⟨rk, rv⟩ := r
      have : rk ≠ k := fun e => by subst e; have := nd_at nd h0 hj; omega
      simpa using this
    · cases hj
  have h2 : (l.drop (i + 1)).filter (fun r => !(r.1 == k)) = l.drop (i + 1) := by
    rw [List.filter_eq_self]
    intro r hr
    obtain ⟨j, hj⟩ := List.mem_iff_getElem?.1 hr
    rw [List.getElem?_drop] at hj
    obtain ⟨rk, rv⟩ := r
    have : rk ≠ k := fun e => by subst e; have := nd_at nd h0 hj; omega
    simpa using this
  rw [List.eraseIdx_eq_take_drop_succ]
  unfold dropR
  conv => lhs; rw [e]
  rw [List.filter_append, List.filter_cons, h1, h2]
  simp
theorem keys_put {l : List (Int × Int)} {k v : Int} {i : Nat} {v0 : Int} (h0 : l[i]? = some (k, v0)) : (l.set i (k, v)).map (·.1) = l.map (·.1) := by
  rw [List.map_set]
  apply List.ext_getElem?
  intro j
  rw [List.getElem?_set]
  have hi := (List.getElem?_eq_some_iff.1 h0).1
  by_cases hj : i = j
  · subst hj
    rw [if_pos rfl, if_pos (by simpa using hi), List.getElem?_map, h0]
    rfl
  · rw [if_neg hj]

/-- The blocks of the table at T. -/
def footW (T : Nat) (w : World) (g : Nat) : Prop := ∃ bm kv vv, w.heap[T]? = some (.cells #[.map (some bm), kv, vv] 104 (0, 0)) ∧ (g = T ∨ g = bm ∨ kv.ownBlock = some g ∨ vv.ownBlock = some g)
/-- Only the table has moved. -/
def TStep (T : Nat) (w w' : World) : Prop := Moved (footW T w) w w' ∧ ∀ g, footW T w' g → footW T w g ∨ w.heap.size ≤ g
theorem TStep.trans {T : Nat} {a b c : World} (h : TStep T a b) (k : TStep T b c) : TStep T a c :=
  ⟨⟨k.1.os.trans h.1.os, k.1.tape.trans h.1.tape, k.1.output.trans h.1.output, Nat.le_trans h.1.size k.1.size, fun i hi hn => (k.1.block i (Nat.lt_of_lt_of_le hi h.1.size) (fun hf => by rcases h.2 i hf with q | q; exact hn q; omega)).trans (h.1.block i hi hn)⟩,
    fun g hg => by
      rcases k.2 g hg with q | q
      · exact h.2 g q
      · exact .inr (Nat.le_trans h.1.size q)⟩
theorem TStep.of_below {T : Nat} {w w' : World} (hb : Below w.heap.size w w') (hT : T < w.heap.size) : TStep T w w' :=
  ⟨⟨hb.os, hb.tape, hb.output, hb.size, fun k hk _ => hb.block k hk⟩, fun g ⟨bm, kv, vv, h1, h2⟩ => .inl ⟨bm, kv, vv, (hb.block T hT).symm.trans h1, h2⟩⟩
/-- The table at T holds the entries l, in their order. -/
structure TS (w : World) (B T bm : Nat) (l : List (Int × Int)) : Prop where
  ex : ∃ kv vv D, IsTab w B T bm kv vv D (ksR l) (vsR l)
  nd : (l.map (·.1)).Nodup
  ok : ∀ r ∈ l, inI r.1 ∧ inI r.2
theorem IsTab.foot {w : World} {B T bm : Nat} {kv vv : Value} {D : DataW Unit} {ks : List ByteArray} {vs : List Int} (h : IsTab w B T bm kv vv D ks vs) (g : Nat) : footW T w g ↔ (g = T ∨ g = bm ∨ kv.ownBlock = some g ∨ vv.ownBlock = some g) := by
  constructor
  · rintro ⟨bm', kv', vv', h1, h2⟩
    rw [h.block] at h1
    simp only [Option.some.injEq, Obj.cells.injEq, List.toArray_eq_iff, List.cons.injEq, Value.map.injEq] at h1
    obtain ⟨⟨rfl, rfl, rfl, _⟩, _⟩ := h1
    exact h2
  · intro h2
    exact ⟨bm, kv, vv, h.block, h2⟩
theorem TS.lt {w : World} {B T bm : Nat} {l : List (Int × Int)} (h : TS w B T bm l) : T < w.heap.size := by
  obtain ⟨kv, vv, D, ht⟩ := h.ex
  exact (Array.getElem?_eq_some_iff.1 ht.block).1
theorem TS.foot_lt {w : World} {B T bm : Nat} {l : List (Int × Int)} (h : TS w B T bm l) {g : Nat} (hg : footW T w g) : B ≤ g ∧ g < w.heap.size := by
  obtain ⟨kv, vv, D, ht⟩ := h.ex
  rcases (ht.foot g).1 hg with rfl | rfl | e | e
  · exact ⟨ht.geT, h.lt⟩
  · exact ⟨ht.gem, ht.map.lt⟩
  · exact ht.keys.lt g e
  · exact ht.vals.1.lt g e
theorem TS.on {w w' : World} {B T bm : Nat} {l : List (Int × Int)} (h : TS w B T bm l) (hb : Below w.heap.size w w') : TS w' B T bm l := by
  obtain ⟨kv, vv, D, ht⟩ := h.ex
  exact ⟨⟨kv, vv, D, ht.on hb⟩, h.nd, h.ok⟩
theorem tabrow_at {w w' : World} {B : Nat} {e : TypeId} {sz n : Nat} {v : Value} {xs : List Value} (h : w.ownsRow B e sz v n xs) (he : ∀ g, v.ownBlock = some g → w'.heap[g]? = w.heap[g]?) : w'.ownsRow B e sz v n xs := by
  refine ⟨h.1, ?_⟩
  rcases h.2 with h0 | ⟨g, cap, cur, rfl, hb, hg, h3⟩
  · exact .inl h0
  · exact .inr ⟨g, cap, cur, rfl, hb, (he g rfl).trans hg, h3⟩
/-- Another table stands while one moves. -/
theorem TS.other {w w' : World} {B T bm T' : Nat} {l : List (Int × Int)} (h : TS w B T bm l) (hs : TStep T' w w') (hd : ∀ g, footW T w g → ¬ footW T' w g) : TS w' B T bm l ∧ ∀ g, footW T w' g ↔ footW T w g := by
  obtain ⟨kv, vv, D, ht⟩ := h.ex
  have keep : ∀ g, footW T w g → w'.heap[g]? = w.heap[g]? := fun g hg => hs.1.block g (h.foot_lt hg).2 (hd g hg)
  have hb := (keep T ((ht.foot T).2 (.inl rfl))).trans ht.block
  have ht' : IsTab w' B T bm kv vv D (ksR l) (vsR l) := by
    refine ⟨hb, ?_, tabrow_at ht.keys (fun g hg => keep g ((ht.foot g).2 (.inr (.inr (.inl hg))))), ⟨tabrow_at ht.vals.1 (fun g hg => keep g ((ht.foot g).2 (.inr (.inr (.inr hg))))), ht.vals.2⟩, ht.len, ht.has, ht.ix, ht.geT, ht.gem, ht.d1, ht.d2, ht.d3, ht.d4, ht.few⟩
    obtain ⟨es, clock, hm, rest⟩ := ht.map
    exact ⟨es, clock, (keep bm ((ht.foot bm).2 (.inr (.inl rfl)))).trans hm, rest⟩
  exact ⟨⟨⟨kv, vv, D, ht'⟩, h.nd, h.ok⟩, fun _ => (ht'.foot _).trans (ht.foot _).symm⟩
theorem step_of {w w' : World} {B T bm : Nat} {kv vv kv' vv' : Value} {D D' : DataW Unit} {ks ks' : List ByteArray} {vs vs' : List Int} (h : IsTab w B T bm kv vv D ks vs) (h' : IsTab w' B T bm kv' vv' D' ks' vs')
    (hm : Moved (fun g => g = T ∨ g = bm ∨ kv.ownBlock = some g ∨ vv.ownBlock = some g) w w') (h1 : kv'.ownBlock = kv.ownBlock ∨ ∃ g, w.heap.size ≤ g ∧ kv'.ownBlock = some g) (h2 : vv'.ownBlock = vv.ownBlock ∨ ∃ g, w.heap.size ≤ g ∧ vv'.ownBlock = some g) : TStep T w w' := by
  refine ⟨hm.mono (fun k _ hk => (h.foot k).2 hk), fun g hg => ?_⟩
  rcases (h'.foot g).1 hg with e | e | e | e
  · exact .inl ((h.foot g).2 (.inl e))
  · exact .inl ((h.foot g).2 (.inr (.inl e)))
  · rcases h1 with q | ⟨g', q1, q2⟩
    · exact .inl ((h.foot g).2 (.inr (.inr (.inl (q ▸ e)))))
    · rw [q2] at e; cases e; exact .inr q1
  · rcases h2 with q | ⟨g', q1, q2⟩
    · exact .inl ((h.foot g).2 (.inr (.inr (.inr (q ▸ e)))))
    · rw [q2] at e; cases e; exact .inr q1
theorem small_rows {l : List (Int × Int)} (h : ∀ r ∈ l, inI r.1 ∧ inI r.2) : ∀ t ∈ ksR l, t.size ≤ maxLen := fun t ht => by
  obtain ⟨r, hr, rfl⟩ := List.mem_map.1 ht
  exact nmB_size (h r hr).1
theorem wf_int {v : Int} (h : inI v) : (Lit.int .i64 v).wf = true := WalkArith.wf_i64 (by unfold inI at h; omega)

theorem Put_row {w : World} {B T bm : Nat} {l : List (Int × Int)} (h : TS w B T bm l) (k v : Int) (hk : inI k) (hv : inI v) (room : l.length + 1 < 8796093022208) (hB : B ≤ w.heap.size) :
    Calls Tryd.prog 27 #[.pointer (some ⟨T, 0, none⟩), .string (nmB k), .int .i64 v] w (fun e w' => e = .returned (.bool (!l.any (fun r => r.1 == k))) ∧ TS w' B T bm (putR l k v) ∧ TStep T w w') := by
  obtain ⟨kv, vv, D, ht⟩ := h.ex
  have hp := pos_rows l k
  cases hf : l.findIdx? (fun r => r.1 == k) with
  | none =>
    rw [hf] at hp
    have ha : l.any (fun r => r.1 == k) = false := by rw [any_find, hf]; rfl
    refine (Put_new ht (nmB k) v (nmB_size hk) hp (by simpa [ksR] using room) (wf_int hv) hB).mono ?_
    rintro e w' ⟨rfl, kv', vv', D', ht', hm, h1, h2⟩
    rw [ha, putR_miss ha]
    refine ⟨rfl, ⟨⟨kv', vv', D', by simpa [ksR, vsR] using ht'⟩, ?_, fun r hr => ?_⟩, step_of ht ht' hm h1 h2⟩
    · rw [List.map_append, List.nodup_append]
      refine ⟨h.nd, by simp, fun a ha' b hb e => ?_⟩
      obtain ⟨r, hr, rfl⟩ := List.mem_map.1 ha'
      rw [List.any_eq_false] at ha
      have hb' : b = k := by simpa using hb
      exact ha r hr (by simp [e, hb'])
    · rcases List.mem_append.1 hr with hr | hr
      · exact h.ok r hr
      · rw [List.mem_singleton] at hr; subst hr; exact ⟨hk, hv⟩
  | some i =>
    rw [hf] at hp
    have ha : l.any (fun r => r.1 == k) = true := by rw [any_find, hf]; rfl
    obtain ⟨v0, h0⟩ := find_at hf
    refine (Put_old ht (nmB k) v (nmB_size hk) hp (wf_int hv)).mono ?_
    rintro e w' ⟨rfl, kv', vv', D', ht', hm, h1, h2⟩
    rw [ha, putR_hit h.nd hf]
    have e1 : ksR (l.set i (k, v)) = ksR l := by
      have := congrArg (List.map nmB) (keys_put (v := v) h0)
      simpa [ksR, List.map_map, Function.comp_def] using this
    have e2 : vsR (l.set i (k, v)) = (vsR l).set i v := by simp [vsR, List.map_set]
    refine ⟨rfl, ⟨⟨kv', vv', D', by rw [e1, e2]; exact ht'⟩, by rw [keys_put h0]; exact h.nd, fun r hr => ?_⟩, step_of ht ht' hm h1 h2⟩
    rcases List.mem_or_eq_of_mem_set hr with hr | rfl
    · exact h.ok r hr
    · exact ⟨hk, hv⟩

theorem Drop_row {w : World} {B T bm : Nat} {l : List (Int × Int)} (h : TS w B T bm l) (k : Int) (hk : inI k) :
    Calls Tryd.prog 66 #[.pointer (some ⟨T, 0, none⟩), .string (nmB k)] w (fun e w' => e = .returned (.bool (l.any (fun r => r.1 == k))) ∧ TS w' B T bm (dropR l k) ∧ TStep T w w') := by
  obtain ⟨kv, vv, D, ht⟩ := h.ex
  have hp := pos_rows l k
  cases hf : l.findIdx? (fun r => r.1 == k) with
  | none =>
    rw [hf] at hp
    have ha : l.any (fun r => r.1 == k) = false := by rw [any_find, hf]; rfl
    refine (Drop_none ht (nmB k) (nmB_size hk) hp).mono ?_
    rintro e w' ⟨rfl, rfl⟩
    rw [ha, dropR_miss ha]
    exact ⟨rfl, h, TStep.of_below (Below.refl _ _) h.lt⟩
  | some i =>
    rw [hf] at hp
    have ha : l.any (fun r => r.1 == k) = true := by rw [any_find, hf]; rfl
    refine (Drop_some ht (dist_rows h.nd) (small_rows h.ok) (nmB k) (nmB_size hk) hp).mono ?_
    rintro e w' ⟨rfl, kv', vv', D', ht', hm, h1, h2⟩
    rw [ha, dropR_hit h.nd hf]
    have e1 : ∀ {β : Type} (f : Int × Int → β), (l.eraseIdx i).map f = (l.map f).eraseIdx i := fun f => by
      rw [List.eraseIdx_eq_take_drop_succ, List.eraseIdx_eq_take_drop_succ, List.map_append, List.map_take, List.map_drop]
    refine ⟨rfl, ⟨⟨kv', vv', D', ?_⟩, ?_, fun r hr => h.ok r (List.mem_of_mem_eraseIdx hr)⟩, step_of ht ht' hm (.inl h1) (.inl h2)⟩
    · unfold ksR vsR
      rw [e1, e1]
      exact ht'
    · rw [e1]
      exact h.nd.sublist (List.eraseIdx_sublist _ _)

theorem Get_row {w : World} {B T bm : Nat} {l : List (Int × Int)} (h : TS w B T bm l) (k : Int) (hk : inI k) :
    Calls Tryd.prog 64 #[.pointer (some ⟨T, 0, none⟩), .string (nmB k)] w (RetS (.tuple #[.int .i64 (getR l k), .bool (l.any (fun r => r.1 == k))]) w) := by
  obtain ⟨kv, vv, D, ht⟩ := h.ex
  have hg := Get_tab ht (nmB k) (nmB_size hk)
  have e : ((pos (ksR l) (nmB k)).bind (fun i => (vsR l)[i]?)).getD 0 = getR l k := by
    rw [pos_rows]
    cases hf : l.findIdx? (fun r => r.1 == k) with
    | none => rw [getR_miss (by rw [any_find, hf]; rfl)]; rfl
    | some i =>
      obtain ⟨v, hv⟩ := find_at hf
      have : getR l k = v := getR_hit hv (fun r hr => by
        obtain ⟨j, hj⟩ := List.mem_iff_getElem?.1 hr
        rw [List.getElem?_take] at hj
        split at hj
        · obtain ⟨rk, rv⟩ := r
          have : rk ≠ k := fun e => by subst e; have := nd_at h.nd hv hj; omega
          simpa using this
        · cases hj)
      rw [this]
      simp [vsR, hv]
  rw [e, pos_rows, ← any_find] at hg
  exact hg
end Go.Proofs.YtnmnmkdmnohbmaaDoor
