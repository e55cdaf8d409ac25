/- Ai, part 9: append. No condition. -/
import Derived.Test.YtbpnlbadgnjmaaaAiOps6
namespace Go.Ai
set_option linter.unusedSimpArgs false
set_option linter.unusedVariables false

section
variable {P : Program} {T : Nat → Option Ty} {S : Sp} {w0 : World} {h0 : H} {st : St} {a : Act} {w w' : World} {β : Beta} {h h' : H} {o : Oper}

/-- Rows and the cells' values. -/
structure RV (h : H) (rows : List (List IV)) (sz : Nat) (xs : List Value) : Prop where
  len : xs.length = rows.length * sz
  each : ∀ (i : Nat) (r : List IV), rows[i]? = some r → r.length = sz
  val : ∀ (i : Nat) (r : List IV) (j : Nat) (x : IV), rows[i]? = some r → r[j]? = some x → ∃ u, xs[i * sz + j]? = some u ∧ IVR h x u

theorem RV.mono {rows : List (List IV)} {sz : Nat} {xs : List Value} (hh : HLe h h') (k : RV h rows sz xs) : RV h' rows sz xs :=
  ⟨k.len, k.each, fun i r j x hi hj => let ⟨u, hu, hr⟩ := k.val i r j x hi hj; ⟨u, hu, hr.mono hh⟩⟩

theorem RV.nil {sz : Nat} : RV h [] sz [] := ⟨by simp, fun i r hi => by simp at hi, fun i r j x hi => by simp at hi⟩

theorem RV.append {rows new : List (List IV)} {sz : Nat} {xs ys : List Value} (k : RV h rows sz xs) (k' : RV h new sz ys) : RV h (rows ++ new) sz (xs ++ ys) := by
  refine ⟨by simp [k.len, k'.len, Nat.add_mul], fun i r hi => ?_, fun i r j x hi hj => ?_⟩
  · rw [List.getElem?_append] at hi
    split at hi
    · exact k.each i r hi
    · exact k'.each _ r hi
  · rw [List.getElem?_append] at hi
    split at hi
    · rename_i hlt
      obtain ⟨u, hu, hr⟩ := k.val i r j x hi hj
      refine ⟨u, ?_, hr⟩
      rw [List.getElem?_append_left (by exact (List.getElem?_eq_some_iff.1 hu).1)]
      exact hu
    · rename_i hge
      obtain ⟨u, hu, hr⟩ := k'.val _ r j x hi hj
      refine ⟨u, ?_, hr⟩
      have e : (i - rows.length) * sz + rows.length * sz = i * sz := by rw [← Nat.add_mul]; congr 1; omega
      rw [List.getElem?_append_right (by rw [k.len]; omega), k.len]
      rw [← hu]
      congr 1
      omega

theorem RV.cell {rows : List (List IV)} {sz : Nat} {xs : List Value} (k : RV h rows sz xs) (hz : 0 < sz) {j : Nat} {u : Value} (hj : xs[j]? = some u) : ∃ (r : List IV) (x : IV), rows[j / sz]? = some r ∧ r[j % sz]? = some x ∧ IVR h x u := by
  have hjl : j < rows.length * sz := by rw [← k.len]; exact (List.getElem?_eq_some_iff.1 hj).1
  have hi : j / sz < rows.length := (Nat.div_lt_iff_lt_mul hz).2 hjl
  have hm : j % sz < sz := Nat.mod_lt _ hz
  have hr := k.each _ _ (List.getElem?_eq_getElem hi)
  have hjr : j % sz < (rows[j / sz]).length := by rw [hr]; exact hm
  obtain ⟨v, hv, hx⟩ := k.val _ _ _ _ (List.getElem?_eq_getElem hi) (List.getElem?_eq_getElem hjr)
  refine ⟨_, _, List.getElem?_eq_getElem hi, List.getElem?_eq_getElem hjr, ?_⟩
  have e : j / sz * sz + j % sz = j := by rw [Nat.mul_comm]; exact Nat.div_add_mod j sz
  rw [e, hj] at hv
  injection hv with hv
  rw [hv]
  exact hx

theorem RV.one {rows : List (List IV)} {sz : Nat} {xs : List Value} (k : RV h rows sz xs) (hz : 0 < sz) : ∀ u ∈ xs, u.oneCell' = true := fun u hu => by
  obtain ⟨j, hj⟩ := List.mem_iff_getElem?.1 hu
  obtain ⟨_, _, _, _, hx⟩ := k.cell hz hj
  exact hx.one

theorem RV.flat {ob : Obs} {rows : List (List IV)} {sz : Nat} {xs : List Value} (k : RV h rows sz xs) (hz : 0 < sz) : PW (LVR β ob h) (rows.flatten.map .imm) xs := by
  have hfl : ∀ (rows : List (List IV)), (∀ (i : Nat) (r : List IV), rows[i]? = some r → r.length = sz) → rows.flatten.length = rows.length * sz ∧ ∀ j, rows.flatten[j]? = (rows[j / sz]?).bind (·[j % sz]?) := by
    intro rows
    induction rows with
    | nil => intro _; exact ⟨by simp, fun j => by simp⟩
    | cons r rows ih =>
      intro hr
      obtain ⟨i1, i2⟩ := ih fun i q hi => hr (i + 1) q (by simpa using hi)
      have hrl : r.length = sz := hr 0 r rfl
      refine ⟨by simp [i1, hrl, Nat.add_mul]; omega, fun j => ?_⟩
      rw [List.flatten_cons, List.getElem?_append]
      by_cases hj : j < sz
      · rw [if_pos (by omega), Nat.div_eq_of_lt hj, Nat.mod_eq_of_lt hj]
        rfl
      · rw [if_neg (by omega), i2, hrl]
        have e1 : j / sz = (j - sz) / sz + 1 := by
          rw [← Nat.add_div_right _ hz]
          congr 1
          omega
        have e2 : j % sz = (j - sz) % sz := Nat.mod_eq_sub_mod (by omega)
        rw [e1, e2, List.getElem?_cons_succ]
  obtain ⟨f1, f2⟩ := hfl rows k.each
  refine ⟨by rw [List.length_map, f1, k.len], fun j l u hj hu => ?_⟩
  obtain ⟨r, x, h1, h2, hx⟩ := k.cell hz hu
  rw [List.getElem?_map, f2, h1] at hj
  simp only [Option.bind_some, h2, Option.map_some, Option.some.injEq] at hj
  subst hj
  exact .imm _ _ hx

/-- The cells that a slice's rows lie in, now. -/
theorem RowsR.cells {A : Option Addr} {n sz : Nat} {rows : List (List IV)} (k : RowsR w h A n rows sz) (hz : 0 < sz) :
    ∃ xs, RV h rows sz xs ∧ (n = 0 ∨ ∃ b p, A = some ⟨b, p, none⟩ ∧ ∀ (j : Nat) (v : Value), xs[j]? = some v → w.cell? ⟨b, p + j, none⟩ = some v) := by
  obtain ⟨k1, k2, k3⟩ := k
  by_cases hn : n = 0
  · subst hn
    have : rows = [] := List.eq_nil_of_length_eq_zero k1
    subst this
    exact ⟨[], RV.nil, .inl rfl⟩
  · obtain ⟨b, p, hA, hc⟩ := k3 (by omega)
    have hget : ∀ i r j x, rows[i]? = some r → r[j]? = some x → ((List.range (n * sz)).map fun j => (w.cell? ⟨b, p + j, none⟩).getD undef)[i * sz + j]? = some ((w.cell? ⟨b, p + (i * sz + j), none⟩).getD undef) := by
      intro i r j x hi hj
      have h1 : i < n := by rw [← k1]; exact (List.getElem?_eq_some_iff.1 hi).1
      have h2 : j < sz := by rw [← k2 i r hi]; exact (List.getElem?_eq_some_iff.1 hj).1
      simp [row_index h1 h2]
    have hrv : RV h rows sz ((List.range (n * sz)).map fun j => (w.cell? ⟨b, p + j, none⟩).getD undef) := by
      refine ⟨by simp [k1], k2, fun i r j x hi hj => ?_⟩
      obtain ⟨u, hu, hx⟩ := hc i r j x hi hj
      exact ⟨u, by rw [hget i r j x hi hj, hu]; rfl, hx⟩
    refine ⟨_, hrv, .inr ⟨b, p, hA, fun j v hj => ?_⟩⟩
    obtain ⟨r, x, h1, h2, hx⟩ := hrv.cell hz hj
    obtain ⟨u, hu, _⟩ := hc _ r _ x h1 h2
    have hg := hget _ r _ x h1 h2
    have e : j / sz * sz + j % sz = j := by rw [Nat.mul_comm]; exact Nat.div_add_mod j sz
    rw [e] at hg hu
    rw [hj, hu] at hg
    injection hg with hg
    rw [hg]
    exact hu

/-- What is appended. -/
structure New (P : Program) (w : World) (sz n : Nat) (u : Nat) (x : Value) (news : List Value) : Prop where
  len : ∀ w', (Builtin.lenOf x).run P w' = .ok n w'
  cells : ∀ w', w'.heap = w.heap → (Builtin.firstCells sz n x).run P w' = .ok news.toArray w'
  und : (∃ e, P.underlying u = some (.slice e)) ∨ P.underlying u = some .string

theorem cell_heap {w w' : World} (e : w'.heap = w.heap) (ad : Addr) : w'.cell? ad = w.cell? ad := by simp [World.cell?, e]

theorem first_cells {A : Option Addr} {n c sz : Nat} {xs : List Value} (hl : xs.length = n * sz) (k : n = 0 ∨ ∃ b p, A = some ⟨b, p, none⟩ ∧ ∀ (j : Nat) (v : Value), xs[j]? = some v → w.cell? ⟨b, p + j, none⟩ = some v) :
    ∀ w', w'.heap = w.heap → (Builtin.firstCells sz n (.slice A n c)).run P w' = .ok xs.toArray w' := by
  intro w' e
  rcases k with rfl | ⟨b, p, rfl, hc⟩
  · have : xs = [] := List.eq_nil_of_length_eq_zero (by rw [hl, Nat.zero_mul])
    subst this
    cases A with
    | none => simp [Builtin.firstCells]
    | some ad => simp [Builtin.firstCells, loadCells, loadCellsFrom]
  · exact run_firstCells_some w' sz n ⟨b, p, none⟩ n c xs hl fun j v hj => by rw [addr_add, cell_heap e]; exact hc j v hj

theorem new_slice {A : Option Addr} {n c sz u : Nat} {rows : List (List IV)} {e : Nat} (hu : P.underlying u = some (.slice e)) (k : RowsR w h A n rows sz) (hz : 0 < sz) : ∃ news, New P w sz n u (.slice A n c) news ∧ RV h rows sz news := by
  obtain ⟨xs, h1, h2⟩ := k.cells hz
  exact ⟨xs, ⟨fun w' => rfl, first_cells (by rw [h1.len, k.1]) h2, .inl ⟨_, hu⟩⟩, h1⟩

theorem new_string {u : Nat} (hu : P.underlying u = some .string) (s : ByteArray) : ∃ news, New P w 1 s.data.toList.length u (.string s) news ∧ RV h (rowsOfBytes s.data.toList) 1 news := by
  refine ⟨s.data.toList.map fun b => .int .u8 b.toNat, ⟨fun w' => by simp [Builtin.lenOf], fun w' _ => ?_, .inr hu⟩, ⟨by simp [rowsOfBytes], fun i r hi => ?_, fun i r j x hi hj => ?_⟩⟩
  · simp only [Builtin.firstCells, Sem.run_pure, Result.ok.injEq, and_true]
    apply Array.ext'
    simp
  · simp only [rowsOfBytes, List.getElem?_map] at hi
    cases hb : s.data.toList[i]? with
    | none => rw [hb] at hi; cases hi
    | some b => rw [hb] at hi; injection hi with hi; subst hi; rfl
  · simp only [rowsOfBytes, List.getElem?_map] at hi
    cases hb : s.data.toList[i]? with
    | none => rw [hb] at hi; cases hi
    | some b =>
      rw [hb] at hi
      injection hi with hi
      subst hi
      have hj0 : j = 0 := by
        have := (List.getElem?_eq_some_iff.1 hj).1
        simpa using this
      subst hj0
      simp at hj
      subst hj
      refine ⟨_, by simp only [Nat.mul_one, Nat.add_zero, List.getElem?_map, hb]; rfl, .int _ _⟩

theorem append_zero {t u e ty : Nat} {i : TypeInfo} (ht : P.underlying t = some (.slice e)) (hi : P.info? e = some i) {A : Option Addr} {n c : Nat} (hc : n ≤ c) {x : Value} (hn : New P w i.size 0 u x []) :
    (Builtin.append_ #[t, u] ty #[.slice A n c, x]).run P w = .ok (.slice A n c) w := by
  have h1 := hn.len w
  have h2 := hn.cells w rfl
  rcases hn.und with ⟨e', hd⟩ | hd <;> cases A <;> simp [Builtin.append_, run_underlying ht, run_underlying hd, sizeOf, typeInfo, hi, h1, h2, hc, storeCells]

theorem append_room {t u e ty : Nat} {i : TypeInfo} (ht : P.underlying t = some (.slice e)) (hi : P.info? e = some i) {g n c m : Nat} {x : Value} {cur : Array Value} {news : List Value} (hg : w.heap[g]? = some (.cells cur e (0, 0)))
    (hn : New P w i.size m u x news) (h1 : ∀ u ∈ news, u.oneCell' = true) (hroom : n + m ≤ c) (hfit : n * i.size + news.length ≤ cur.size) :
    (Builtin.append_ #[t, u] ty #[.slice (some ⟨g, 0, none⟩) n c, x]).run P w = .ok (.slice (some ⟨g, 0, none⟩) (n + m) c) (w.setRow g (cur.toList.take (n * i.size) ++ news ++ cur.toList.drop (n * i.size + news.length)).toArray) := by
  have e1 := hn.len w
  have e2 := hn.cells w rfl
  have hst := run_storeCells_at P g (n * i.size) e news 0 cur w hg (by simpa using hfit) h1
  simp only [Nat.add_zero] at hst
  rcases hn.und with ⟨e', hd⟩ | hd <;> simp [Builtin.append_, run_underlying ht, run_underlying hd, sizeOf, typeInfo, hi, e1, e2, hroom, Addr.add_lit, hst]

theorem append_grow {t u e ty : Nat} {i : TypeInfo} {z : Value} (ht : P.underlying t = some (.slice e)) (hi : P.info? e = some i) (hz : i.zero = some z) {A : Option Addr} {n c m : Nat} {x : Value} {olds news : List Value}
    (hold : ∀ w', w'.heap = w.heap → (Builtin.firstCells i.size n (.slice A n c)).run P w' = .ok olds.toArray w') (hn : New P w i.size m u x news) (hg : c < n + m) (hroom : (n + m) * i.bytes ≤ room) (hb : 0 < i.bytes) :
    (Builtin.append_ #[t, u] ty #[.slice A n c, x]).run P w =
      .ok (.slice (some ⟨w.heap.size, 0, none⟩) (n + m) (grownCap w (n + m) c e)) (w.drew.alloc (.cells (olds.toArray ++ news.toArray ++ Builtin.zeroCells z.cells (grownCap w (n + m) c e - (n + m))) e)) := by
  have e1 := hn.len w
  have e2 := hn.cells w.drew rfl
  have e3 := hold w.drew rfl
  have hgr : ¬ (n + m ≤ c) := by omega
  have h48' : ¬ (281474976710656 < Builtin.nextslicecap (n + m) c * i.bytes) := by
    have := growslice_fits (bytes := i.bytes) hg hroom
    omega
  have hb' : ¬ i.bytes = 0 := by omega
  have ea : ∀ z : Array Value, (olds ++ news).toArray ++ z = olds.toArray ++ (news.toArray ++ z) := fun z => by apply Array.ext'; simp
  rcases hn.und with ⟨e', hd⟩ | hd <;> simp [Builtin.append_, run_underlying ht, run_underlying hd, sizeOf, typeInfo, zeroValue, hi, hz, e1, e2, e3, hgr, h48', hb', Question.forced, newRow, grownCap, ea]

theorem updG {β : Beta} {ob : Obs} {id b m : Nat} {ob1 : AObj} (h1 : ∀ ty v cs, ob id = some (.cells ty v cs) → ∃ ty' v' cs', ob1 = .cells ty' v' cs' ∧ v < v') (h2 : ∀ ty sz n, ob id = some (.tail ty sz n) → ∃ n', ob1 = .tail ty sz n' ∧ n < n') : Grow β ob (updB β id b m) (updO ob id ob1) := fun i o1 ho1 => by
  by_cases hi : i = id
  · subst hi
    cases o1 with
    | cells ty v cs =>
      obtain ⟨ty', v', cs', e, hlt⟩ := h1 _ _ _ ho1
      exact ⟨ty', v', cs', by rw [updO_same, e], by omega, fun e => by omega⟩
    | tail ty sz n =>
      obtain ⟨n', e, hlt⟩ := h2 _ _ _ ho1
      exact ⟨n', by rw [updO_same, e], by omega, fun e => by omega⟩
  · cases o1 with
    | cells ty v cs => exact ⟨ty, v, cs, by rw [updO_other _ _ hi]; exact ho1, Nat.le_refl _, fun _ => updB_other _ _ _ hi⟩
    | tail ty sz n => exact ⟨n, by rw [updO_other _ _ hi]; exact ho1, Nat.le_refl _, fun _ => updB_other _ _ _ hi⟩

theorem size_maxLen {n b : Nat} (hr : n * b ≤ room) (hb : 0 < b) : n ≤ maxLen := by
  have e1 : room = 140737488355328 := rfl
  have e2 : maxLen = 9223372036854775807 := rfl
  have : n ≤ n * b := Nat.le_mul_of_pos_right _ hb
  omega

/-- The object is a tail afterwards. -/
theorem tail_upd (k : RelAt S w0 h0 st a w β h) {id b e sz n cap : Nat} {vs : Array Value} {rows : List (List IV)} {xs : List Value} (d : Option Nat) (hid : id < st.objs.length)
    (hb : b = w.heap.size ∨ ((st.ob id).isSome = true ∧ ∃ m0, β id = some (b, m0))) (hsize : w.heap.size ≤ w'.heap.size) (hw : ∀ i, i ≠ b → i < w.heap.size → w'.heap[i]? = w.heap[i]?) (hos : w'.os = w.os) (htape : w'.tape = w.tape) (hout : w'.output = w.output)
    (hnew : w'.heap[b]? = some (.cells vs e (0, 0))) (hvs : vs.size = cap * sz) (hn : rows.length = n) (hcap : n ≤ cap) (hm : cap ≤ maxLen) (hz : 0 < sz) (hpre : ∀ (j : Nat), j < n * sz → vs[j]? = xs[j]?) (hrv : RV h rows sz xs) (hh : ∀ o v, h b o = some v → o < n * sz ∧ vs[o]? = some v)
    (hcond : (∀ ty v cs, st.ob id ≠ some (.cells ty v cs)) ∧ ∀ ty sz' n', st.ob id = some (.tail ty sz' n') → ty = e ∧ sz' = sz ∧ n' < n) (hbase : w0.heap.size ≤ b ∨ S b) :
    RelAt S w0 h0 (st.put d (.leaf (.ap id rows)) [(id, .tail e sz n)]) (a.put d (.slice (some ⟨b, 0, none⟩) n cap)) w' (updB β id b (cap * sz)) (addH h b fun o => if o < n * sz then vs[o]? else none) := by
  have hle : HLe h (addH h b fun o => if o < n * sz then vs[o]? else none) := addH_le fun o v hv => by
    obtain ⟨h1, h2⟩ := hh o v hv
    rw [if_pos h1, h2]
  have hnc : n * sz ≤ cap * sz := Nat.mul_le_mul_right _ hcap
  have hiv : IVR (addH h b fun o => if o < n * sz then vs[o]? else none) (.sl rows) (.slice (some ⟨b, 0, none⟩) n cap) := by
    have hrv' := hrv.mono hle
    refine IVR.ofRows (sz := sz) (fun j => vs.getD j undef) hn hcap hm hz hrv.each (fun j hj => ?_) (fun i r j x hi hj => ?_)
    · rw [addH_same, Nat.zero_add, if_pos hj]
      simp [Array.getD_eq_getD_getElem?, show j < vs.size by omega]
    · obtain ⟨u, hu, hx⟩ := hrv'.val i r j x hi hj
      have h1 : i < n := by rw [← hn]; exact (List.getElem?_eq_some_iff.1 hi).1
      have h2 : j < sz := by rw [← hrv.each i r hi]; exact (List.getElem?_eq_some_iff.1 hj).1
      have : vs.getD (i * sz + j) undef = u := by
        rw [Array.getD_eq_getD_getElem?, hpre _ (row_index h1 h2), hu]
        rfl
      rw [this]
      exact hx
  refine k.upd d hid hb hsize hw hos htape hout hle (fun i o hi => addH_other _ _ _ hi) (fun o v hv => ?_) (updG (fun ty v cs ho => absurd ho (hcond.1 _ _ _)) fun ty sz' n' ho => ?_) ?_ (.leaf _ _ (.ap id rows _ e sz n hiv (updO_same _ _ _) (by omega) (fun _ => .inr ⟨b, cap, updB_same _ _ _ _, hm, hcap, rfl⟩) hrv.each))
  · rw [addH_same] at hv
    split at hv
    · rw [heap_cell hnew]; exact hv
    · cases hv
  · obtain ⟨rfl, rfl, hlt⟩ := hcond.2 _ _ _ ho
    exact ⟨n, rfl, hlt⟩
  · exact .inr ⟨b, cap * sz, vs, updB_same _ _ _ _, hnew, hvs, hnc, fun o ho => by rw [addH_same, if_neg (by omega)], hbase⟩

/-- The object is an array afterwards, seen whole. -/
theorem cells_upd (k : RelAt S w0 h0 st a w β h) {id b e sz ver n cap : Nat} {vs : Array Value} {cs : List LV} (d : Option Nat) (hid : id < st.objs.length)
    (hb : b = w.heap.size ∨ ((st.ob id).isSome = true ∧ ∃ m0, β id = some (b, m0))) (hsize : w.heap.size ≤ w'.heap.size) (hw : ∀ i, i ≠ b → i < w.heap.size → w'.heap[i]? = w.heap[i]?) (hos : w'.os = w.os) (htape : w'.tape = w.tape) (hout : w'.output = w.output)
    (hnew : w'.heap[b]? = some (.cells vs e (0, 0))) (hvs : vs.size = cap * sz) (hn : cs.length = n * sz) (hcap : n ≤ cap) (hm : cap ≤ maxLen) (hc : ∀ (j : Nat) (l : LV), cs[j]? = some l → ∃ x, vs[j]? = some x ∧ x.oneCell' = true ∧ LVR β st.ob h l x) (hh : ∀ o, h b o = none)
    (hcond : (∀ ty v cs, st.ob id = some (.cells ty v cs) → v < ver) ∧ ∀ ty sz' n', st.ob id ≠ some (.tail ty sz' n')) (hbase : w0.heap.size ≤ b ∨ S b) :
    RelAt S w0 h0 (st.put d (.leaf (.ms id ver sz 0 n)) [(id, .cells e ver cs)]) (a.put d (.slice (some ⟨b, 0, none⟩) n cap)) w' (updB β id b (cap * sz)) h := by
  have hnc : n * sz ≤ cap * sz := Nat.mul_le_mul_right _ hcap
  have hg : Grow β st.ob (updB β id b (cap * sz)) (updO st.ob id (.cells e ver cs)) := updG (fun ty v cs' ho => ⟨_, _, _, rfl, hcond.1 _ _ _ ho⟩) (fun ty sz' n' ho => absurd ho (hcond.2 _ _ _))
  have e0 : (some ⟨b, 0, none⟩ : Option Addr) = some ⟨b, 0 * sz, none⟩ := by rw [Nat.zero_mul]
  refine k.upd d hid hb hsize hw hos htape hout (HLe.refl h) (fun i o hi => rfl) (fun o v hv => by rw [hh] at hv; cases hv) hg ?_ (.leaf _ _ (.ms id ver sz 0 n _ cap e ver cs hcap hm (updO_same _ _ _) (Nat.le_refl _) fun _ => .inl ⟨b, e0, fun _ => ⟨_, updB_same _ _ _ _, fun _ => rfl⟩⟩))
  refine .inr ⟨b, cap * sz, vs, updB_same _ _ _ _, hnew, hvs, by omega, fun j l hj => ?_, hh, hbase⟩
  obtain ⟨x, hx, hs, hr⟩ := hc j l hj
  exact ⟨x, hx, hs, hr.mono hg (HLe.refl h)⟩

end
end Go.Ai
