/- Ai, part 4: operations that read memory or make addresses. No condition. -/
import Derived.Test.YtbpnlbadgnjmaaaAiOps1
import Derived.Laws.Cells
import Derived.Laws.Entries
namespace Go.Ai
set_option linter.unusedSimpArgs false
set_option linter.unusedVariables false

theorem addr_add (b o j : Nat) : (⟨b, o, none⟩ : Addr).add j = ⟨b, o + j, none⟩ := by unfold Addr.add; split <;> simp_all

section
variable {P : Program} {T : Nat → Option Ty} {S : Sp} {w0 : World} {h0 : H} {st : St} {a : Act} {w : World} {β : Beta} {h : H} {o : Oper}

/-- An object of cells: its block, and its cells' values. -/
theorem RelAt.cells (k : RelAt S w0 h0 st a w β h) {id ty ver : Nat} {cs : List LV} (ho : st.ob id = some (.cells ty ver cs)) {b m : Nat} (hb : β id = some (b, m)) :
    ∃ vs : Array Value, w.heap[b]? = some (.cells vs ty (0, 0)) ∧ vs.size = m ∧ cs.length ≤ m ∧ PW (LVR β st.ob h) cs (vs.toList.take cs.length) ∧ (∀ o, h b o = none) ∧ (w0.heap.size ≤ b ∨ S b) := by
  rcases k.objs id _ ho with ⟨hn, _⟩ | ⟨b', m', vs, hb', hw, hm, hl, hc, hh, hs⟩
  · rw [hb] at hn; cases hn
  · rw [hb] at hb'
    injection hb' with hb'
    injection hb' with e1 e2
    subst e1; subst e2
    refine ⟨vs, hw, hm, hl, ⟨?_, fun i l x hi hx => ?_⟩, hh, hs⟩
    · simp; omega
    · rw [List.getElem?_take] at hx
      split at hx
      · obtain ⟨y, hy, _, hr⟩ := hc i l hi
        have : vs.toList[i]? = some y := by simpa using hy
        rw [this] at hx
        injection hx with hx
        subst hx
        exact hr
      · cases hx

theorem heap_cell {b : Nat} {vs : Array Value} {ty : Nat} {fr : Nat × Nat} (hw : w.heap[b]? = some (.cells vs ty fr)) (i : Nat) : w.cell? ⟨b, i, none⟩ = vs[i]? := by simp [World.cell?, hw]

theorem load_run {t : Nat} {ty : Ty} (hty : TyOk P t ty) {b p : Nat} {xs : List Value} (hl : xs.length = ty.size) (hc : ∀ j x, xs[j]? = some x → w.cell? ⟨b, p + j, none⟩ = some x) (h1 : ty.k.agg = false → xs.length = 1) :
    (loadVar t ⟨b, p, none⟩).run P w = .ok (if ty.k.agg then .agg xs.toArray else xs.headD undef) w := by
  have hc' : ∀ j x, xs[j]? = some x → w.cell? ((⟨b, p, none⟩ : Addr).add j) = some x := fun j x hx => by rw [addr_add]; exact hc j x hx
  simp only [loadVar, Sem.run_bind, hty.isAgg w, Result.andThen_ok, Sem.run_ite]
  cases hk : ty.k.agg
  · obtain ⟨x, rfl⟩ := List.length_eq_one_iff.1 (h1 hk)
    have := hc 0 x rfl
    rw [Nat.add_zero] at this
    simp [this]
  · have hr := run_loadCells_list (P := P) w ⟨b, p, none⟩ xs hc'
    rw [hl] at hr
    simp [hty.size w, hr]

theorem mkAV_R {agg : Bool} {ls : List LV} {v : AV} {ob : Obs} {xs : List Value} (hm : mkAV agg ls = some v) (hp : PW (LVR β ob h) ls xs) : AVR β ob h v (if agg then .agg xs.toArray else xs.headD undef) ∧ (agg = false → xs.length = 1) := by
  unfold mkAV at hm
  cases agg
  · simp only [Bool.false_eq_true, if_false] at hm ⊢
    split at hm
    · rename_i l
      injection hm with hm
      subst hm
      obtain ⟨x, rfl⟩ := List.length_eq_one_iff.1 (show xs.length = 1 by rw [← hp.1]; rfl)
      exact ⟨.leaf _ _ hp.head, fun _ => rfl⟩
    · cases hm
  · simp only [if_true] at hm ⊢
    injection hm with hm
    subst hm
    exact ⟨.agg _ _ hp, fun e => by cases e⟩

theorem q_load_ptr (hT : TOk P T) (k : RelAt S w0 h0 st a w β h) {x : Operand} {t : Nat} (hop : o.op = .load t x) {id ver off ct : Nat} {ty : Ty} {cs : List LV} {v : AV}
    (hx : evalOp st.tmps x = some (.leaf (.ptr id ver off))) (ht : T t = some ty) (ho : st.ob id = some (.cells ct ver cs)) (hl : off + ty.size ≤ cs.length) (hv : mkAV ty.k.agg ((cs.drop off).take ty.size) = some v) : Quiet P o a w β st.ob h v := by
  have el := (k.eval hx).lv
  generalize hax : a.eval x = y at el
  cases el with
  | ptr id ver off b ty' v' cs' hob' hle hat =>
    rw [ho] at hob'
    injection hob' with e
    injection e with e1 e2 e3
    subst e1; subst e2; subst e3
    obtain ⟨m, hb⟩ := hat rfl
    obtain ⟨vs, hw, hm, hlen, hp, _⟩ := k.cells ho hb
    have hq := (hp.drop off).take ty.size
    obtain ⟨hr, h1⟩ := mkAV_R hv hq
    refine ⟨_, ?_, hr⟩
    have hrun := load_run (P := P) (w := w) (hT t ty ht) (b := b) (p := off) (xs := ((vs.toList.take cs.length).drop off).take ty.size) (by rw [← hq.1, List.length_take, List.length_drop]; omega)
      (fun j x hx => by
        rw [heap_cell hw]
        rw [List.getElem?_take] at hx
        split at hx
        · rw [List.getElem?_drop, List.getElem?_take] at hx
          split at hx
          · simpa using hx
          · cases hx
        · cases hx) h1
    simp [execOp, hop, hax, Instr.loadAt, Instr.sureAddr, hrun]

theorem q_load_iptr (hT : TOk P T) (k : RelAt S w0 h0 st a w β h) {x : Operand} {t : Nat} (hop : o.op = .load t x) {ty : Ty} {cs : List IV} {v : AV}
    (hx : evalOp st.tmps x = some (.leaf (.iptr cs))) (ht : T t = some ty) (hl : ty.size ≤ cs.length) (hv : mkAV ty.k.agg ((cs.take ty.size).map .imm) = some v) : Quiet P o a w β st.ob h v := by
  have el := (k.eval hx).lv
  generalize hax : a.eval x = y at el
  cases el with
  | iptr cs b p kc =>
    have hget : ∀ j, j < cs.length → ∃ u, w.cell? ⟨b, p + j, none⟩ = some u ∧ ∀ z, cs[j]? = some z → IVR h z u := fun j hj => by
      obtain ⟨u, hu, hi⟩ := kc j _ (List.getElem?_eq_getElem hj)
      exact ⟨u, k.ext _ _ _ hu, fun z hz => by rw [List.getElem?_eq_getElem hj] at hz; injection hz with hz; subst hz; exact hi⟩
    let xs : List Value := (List.range ty.size).map fun j => (w.cell? ⟨b, p + j, none⟩).getD undef
    have hxs : xs.length = ty.size := by simp [xs]
    have hp : PW (LVR β st.ob h) ((cs.take ty.size).map .imm) xs := by
      refine ⟨by simp [xs]; omega, fun i l u hi hu => ?_⟩
      rw [List.getElem?_map, List.getElem?_take] at hi
      split at hi
      · rename_i hlt
        obtain ⟨u', hu', hz⟩ := hget i (by omega)
        have : xs[i]? = some u' := by simp [xs, hlt, hu']
        rw [this] at hu
        injection hu with hu
        subst hu
        cases hc : cs[i]? with
        | none => rw [hc] at hi; cases hi
        | some z => rw [hc] at hi; injection hi with hi; subst hi; exact .imm _ _ (hz z hc)
      · cases hi
    obtain ⟨hr, h1⟩ := mkAV_R hv hp
    refine ⟨_, ?_, hr⟩
    have hrun := load_run (P := P) (w := w) (hT t ty ht) (b := b) (p := p) (xs := xs) hxs
      (fun j u hu => by
        have hj : j < ty.size := by rw [← hxs]; exact (List.getElem?_eq_some_iff.1 hu).1
        obtain ⟨u', hu', _⟩ := hget j (by omega)
        have : xs[j]? = some u' := by simp [xs, hj, hu']
        rw [this] at hu
        injection hu with hu
        rw [← hu]
        exact hu') h1
    simp [execOp, hop, hax, Instr.loadAt, Instr.sureAddr, hrun]

theorem fieldPlace_run (hT : TOk P T) {f : Field} {tf : Ty} (hf : T f.type = some tf) (hpos : 0 < tf.size) (b p : Nat) : (fieldPlace ⟨b, p, none⟩ f).run P w = .ok ⟨b, p + f.offset, none⟩ w := by
  have hne : ¬ tf.size = 0 := by omega
  simp [fieldPlace, (hT _ _ hf).size w, hne, addr_add]

theorem struct_field {t : Nat} {ty : Ty} (hty : TyOk P t ty) {fs : List (Nat × Nat)} (hk : ty.k = .struct fs) {i q ft : Nat} (hf : fs[i]? = some (q, ft)) :
    ∃ (F : Array Field) (f : Field), P.underlying t = some (.struct F) ∧ F[i]? = some f ∧ f.offset = q ∧ f.type = ft := by
  have hu := hty.und
  rw [hk] at hu
  obtain ⟨F, hF, hm, _⟩ := hu
  rw [← hm, List.getElem?_map] at hf
  cases hg : F.toList[i]? with
  | none => rw [hg] at hf; cases hf
  | some f =>
    rw [hg] at hf
    injection hf with hf
    injection hf with e1 e2
    exact ⟨F, f, hF, by simpa using hg, e1, e2⟩

theorem q_field_ptr (hT : TOk P T) (k : RelAt S w0 h0 st a w β h) {x : Operand} {s i : Nat} (hop : o.op = .fieldAddr s x i) {id ver off q ft : Nat} {ty tf : Ty} {fs : List (Nat × Nat)}
    (hx : evalOp st.tmps x = some (.leaf (.ptr id ver off))) (ht : T s = some ty) (hk : ty.k = .struct fs) (hf : fs[i]? = some (q, ft)) (hft : T ft = some tf) (hpos : 0 < tf.size) :
    Quiet P o a w β st.ob h (.leaf (.ptr id ver (off + q))) := by
  have el := (k.eval hx).lv
  generalize hax : a.eval x = y at el
  obtain ⟨F, f, hF, hFi, e1, e2⟩ := struct_field (hT s ty ht) hk hf
  subst e1; subst e2
  cases el with
  | ptr id ver off b ty' v' cs' hob' hle hat =>
    refine ⟨_, ?_, .leaf _ _ (.ptr id ver (off + f.offset) b ty' v' cs' hob' hle hat)⟩
    have hp := fieldPlace_run (P := P) (w := w) hT hft hpos b off
    simp [execOp, hop, hax, Instr.fieldAt, run_underlying hF, hFi, Instr.sureAddr, hp]

theorem q_field_iptr (hT : TOk P T) (k : RelAt S w0 h0 st a w β h) {x : Operand} {s i : Nat} (hop : o.op = .fieldAddr s x i) {q ft : Nat} {ty tf : Ty} {fs : List (Nat × Nat)} {cs : List IV}
    (hx : evalOp st.tmps x = some (.leaf (.iptr cs))) (ht : T s = some ty) (hk : ty.k = .struct fs) (hf : fs[i]? = some (q, ft)) (hft : T ft = some tf) (hpos : 0 < tf.size) : Quiet P o a w β st.ob h (.leaf (.iptr (cs.drop q))) := by
  have el := (k.eval hx).lv
  generalize hax : a.eval x = y at el
  obtain ⟨F, f, hF, hFi, e1, e2⟩ := struct_field (hT s ty ht) hk hf
  subst e1; subst e2
  cases el with
  | iptr cs b p kc =>
    refine ⟨_, ?_, .leaf _ _ (.iptr (cs.drop f.offset) b (p + f.offset) fun j z hz => ?_)⟩
    · have hp := fieldPlace_run (P := P) (w := w) hT hft hpos b p
      simp [execOp, hop, hax, Instr.fieldAt, run_underlying hF, hFi, Instr.sureAddr, hp]
    · rw [List.getElem?_drop] at hz
      obtain ⟨u, hu, hi⟩ := kc _ z hz
      exact ⟨u, by rw [Nat.add_assoc]; exact hu, hi⟩

/-- A slice that can be read now: its rows lie where its value says. -/
def RowsR (w : World) (h : H) (A : Option Addr) (n : Nat) (rows : List (List IV)) (sz : Nat) : Prop :=
  rows.length = n ∧ (∀ (i : Nat) (r : List IV), rows[i]? = some r → r.length = sz) ∧ (0 < n → ∃ b p, A = some ⟨b, p, none⟩ ∧ ∀ (i : Nat) (r : List IV) (j : Nat) (x : IV), rows[i]? = some r → r[j]? = some x → ∃ u, w.cell? ⟨b, p + (i * sz + j), none⟩ = some u ∧ IVR h x u)

theorem row_index {i j sz n : Nat} (hi : i < n) (hj : j < sz) : i * sz + j < n * sz := by
  have : (i + 1) * sz ≤ n * sz := Nat.mul_le_mul_right _ hi
  rw [Nat.add_mul] at this
  omega

theorem IVR.rows (hext : Ext w h) {rows : List (List IV)} {x : Value} (k : IVR h (.sl rows) x) : ∃ A n c, x = .slice A n c ∧ n ≤ c ∧ c ≤ maxLen ∧ rows.length = n ∧ ∀ sz, (∀ (i : Nat) (r : List IV), rows[i]? = some r → r.length = sz) → RowsR w h A n rows sz := by
  cases k with
  | empty A c hm => exact ⟨A, 0, c, rfl, Nat.zero_le _, hm, rfl, fun sz _ => ⟨rfl, fun i r hi => by simp at hi, fun h => by omega⟩⟩
  | sl rows b p n c sz vals hn h0 hc hm hsz hr hcell hrec =>
    refine ⟨_, n, c, rfl, hc, hm, hn, fun sz' hr' => ⟨hn, hr', fun _ => ⟨b, p, rfl, fun i r j x hi hj => ?_⟩⟩⟩
    have e : sz' = sz := by rw [← hr' i r hi, ← hr i r hi]
    subst e
    have hil : i < n := by rw [← hn]; exact (List.getElem?_eq_some_iff.1 hi).1
    have hjl : j < sz' := by rw [← hr' i r hi]; exact (List.getElem?_eq_some_iff.1 hj).1
    exact ⟨_, hext _ _ _ (hcell _ (row_index hil hjl)), hrec i r j x hi hj⟩

/-- The rows that the abstract run reads of a slice, and where they lie. -/
theorem LVR.rows0 {ob : Obs} (hext : Ext w h) {l : LV} {x : Value} (k : LVR β ob h l x) {rows : List (List IV)} (he : rowsOf (fun _ => none) l = some rows) :
    ∃ A n c, x = .slice A n c ∧ n ≤ c ∧ c ≤ maxLen ∧ rows.length = n ∧ IVR h (.sl rows) x ∧ ∀ sz, (∀ (i : Nat) (r : List IV), rows[i]? = some r → r.length = sz) → RowsR w h A n rows sz := by
  have go : IVR h (.sl rows) x → ∃ A n c, x = .slice A n c ∧ n ≤ c ∧ c ≤ maxLen ∧ rows.length = n ∧ IVR h (.sl rows) x ∧ ∀ sz, (∀ (i : Nat) (r : List IV), rows[i]? = some r → r.length = sz) → RowsR w h A n rows sz := fun hi => by
    obtain ⟨A, n, c, e, h1, h2, h3, h4⟩ := hi.rows hext
    exact ⟨A, n, c, e, h1, h2, h3, hi, h4⟩
  unfold rowsOf at he
  split at he
  · injection he with he; subst he
    cases k with | imm v x k => cases k; exact go (.empty none 0 (Nat.zero_le _))
  · injection he with he; subst he
    cases k with | imm v x k => exact go k
  · injection he with he; subst he
    cases k with | ap id rows x ty sz n k => exact go k
  · injection he with he; subst he
    cases k with | clip rows A k => exact go k
  · simp at he
  · cases he

theorem index_run {t e : Nat} {te : Ty} (ht : P.underlying t = some (.slice e)) (hte : TyOk P e te) {b p n c : Nat} {q : IntKind} {i : Int} (h0 : 0 ≤ i) (h1 : i < n) :
    (Instr.indexAt t (.slice (some ⟨b, p, none⟩) n c) (.int q i)).run P w = .ok (.pointer (some ⟨b, p + i.toNat * te.size, none⟩)) w := by
  have hc : 0 ≤ i ∧ i < (n : Int) := ⟨h0, h1⟩
  simp [Instr.indexAt, asIntOf, run_underlying ht, hte.size w, hc, addr_add]

theorem q_index_rows (hT : TOk P T) (k : RelAt S w0 h0 st a w β h) {x y : Operand} {t e : Nat} (hop : o.op = .indexAddr t x y) {l : LV} {q : IntKind} {i : Int} {ty te : Ty} {rows : List (List IV)} {v : AV}
    (hx : evalOp st.tmps x = some (.leaf l)) (hy : evalOp st.tmps y = some (.leaf (.imm (.int q i)))) (ht : T t = some ty) (hk : ty.k = .slice e) (hte : T e = some te) (hr : rowsOf (fun _ => none) l = some rows) (hv : indexRow rows i te.size = some v) :
    Quiet P o a w β st.ob h v := by
  have el := (k.eval hx).lv
  have ei := (k.eval hy).int
  have hu := (hT t ty ht).und
  rw [hk] at hu
  have hu : P.underlying t = some (.slice e) := hu
  obtain ⟨A, n, c, ex, hnc, hcm, hlen, hiv, _⟩ := el.rows0 k.ext hr
  unfold indexRow at hv
  split at hv
  · rename_i hi0
    split at hv
    · rename_i r hri
      split at hv
      · rename_i hrl
        injection hv with hv
        subst hv
        have hin : i.toNat < n := by rw [← hlen]; exact (List.getElem?_eq_some_iff.1 hri).1
        rw [ex] at hiv
        cases hiv with
        | empty A c hm => simp at hri
        | sl rows b p n c sz vals hn h0' hc hm hsz hrr hcell hrec =>
          have es : sz = te.size := by rw [← hrl, hrr _ _ hri]
          subst es
          refine ⟨_, ?_, .leaf _ _ (.iptr r b (p + i.toNat * te.size) fun j z hz => ?_)⟩
          · have hrun := index_run (P := P) (w := w) hu (hT e te hte) (b := b) (p := p) (c := c) (q := q) hi0 (show i < (n : Int) by omega)
            simp [execOp, hop, ex, ei, hrun]
          · have hj : j < te.size := by rw [← hrl]; exact (List.getElem?_eq_some_iff.1 hz).1
            exact ⟨_, by rw [Nat.add_assoc]; exact hcell _ (row_index hin hj), hrec _ _ _ _ hri hz⟩
      · cases hv
    · cases hv
  · cases hv

theorem q_index_ms (hT : TOk P T) (k : RelAt S w0 h0 st a w β h) {x y : Operand} {t e : Nat} (hop : o.op = .indexAddr t x y) {id ver sz off len : Nat} {q : IntKind} {i : Int} {ty te : Ty}
    (hx : evalOp st.tmps x = some (.leaf (.ms id ver sz off len))) (hy : evalOp st.tmps y = some (.leaf (.imm (.int q i)))) (ht : T t = some ty) (hk : ty.k = .slice e) (hte : T e = some te) (h0i : 0 ≤ i) (hi : i < len) (hsz : te.size = sz) :
    Quiet P o a w β st.ob h (.leaf (.ptr id ver ((off + i.toNat) * sz))) := by
  have el := (k.eval hx).lv
  have ei := (k.eval hy).int
  have hu := (hT t ty ht).und
  rw [hk] at hu
  have hu : P.underlying t = some (.slice e) := hu
  subst hsz
  generalize hax : a.eval x = z at el
  cases el with
  | ms id ver sz off len A c ty' v cs hc hm hob hle hat =>
    rcases hat (.inl (by omega)) with ⟨b, rfl, hq⟩ | ⟨_, hl, _⟩
    · refine ⟨_, ?_, .leaf _ _ (.ptr id ver ((off + i.toNat) * te.size) b ty' v cs hob hle fun e => ?_)⟩
      · have hrun := index_run (P := P) (w := w) hu (hT e te hte) (b := b) (p := off * te.size) (c := c) (q := q) h0i hi
        rw [← Nat.add_mul] at hrun
        simp [execOp, hop, hax, ei, hrun]
      · obtain ⟨kk, hkk, _⟩ := hq e
        exact ⟨kk, hkk⟩
    · omega

theorem q_index_arr (hT : TOk P T) (k : RelAt S w0 h0 st a w β h) {x y : Operand} {t e m : Nat} (hop : o.op = .indexAddr t x y) {l : LV} {q : IntKind} {i : Int} {ty te : Ty}
    (hx : evalOp st.tmps x = some (.leaf l)) (hy : evalOp st.tmps y = some (.leaf (.imm (.int q i)))) (ht : T t = some ty) (hk : ty.k = .array m e) (hte : T e = some te) (h0i : 0 ≤ i) (hi : i < m) :
    (∀ id ver off, l = .ptr id ver off → Quiet P o a w β st.ob h (.leaf (.ptr id ver (off + i.toNat * te.size)))) ∧ (∀ cs, l = .iptr cs → Quiet P o a w β st.ob h (.leaf (.iptr (cs.drop (i.toNat * te.size))))) := by
  have el := (k.eval hx).lv
  have ei := (k.eval hy).int
  have hu := (hT t ty ht).und
  rw [hk] at hu
  have hu : P.underlying t = some (.array m e) := hu
  have hc : 0 ≤ i ∧ i < (m : Int) := ⟨h0i, hi⟩
  generalize hax : a.eval x = z at el
  refine ⟨fun id ver off e1 => ?_, fun cs e1 => ?_⟩
  · subst e1
    cases el with
    | ptr id ver off b ty' v cs hob hle hat =>
      refine ⟨_, ?_, .leaf _ _ (.ptr id ver (off + i.toNat * te.size) b ty' v cs hob hle hat)⟩
      simp [execOp, hop, hax, ei, Instr.indexAt, asIntOf, run_underlying hu, Instr.sureAddr, (hT e te hte).size w, hc, addr_add]
  · subst e1
    cases el with
    | iptr cs b p kc =>
      refine ⟨_, ?_, .leaf _ _ (.iptr _ b (p + i.toNat * te.size) fun j z hz => ?_)⟩
      · simp [execOp, hop, hax, ei, Instr.indexAt, asIntOf, run_underlying hu, Instr.sureAddr, (hT e te hte).size w, hc, addr_add]
      · rw [List.getElem?_drop] at hz
        obtain ⟨u, hu, hi⟩ := kc _ z hz
        exact ⟨u, by rw [Nat.add_assoc]; exact hu, hi⟩

theorem q_makeFunc (k : RelAt S w0 h0 st a w β h) {f : Nat} {xs ys : Array Operand} (hop : o.op = .makeFunc (.func f) xs ys) {us vs : List AV} {ls ms : List LV} (hx : mapEval (evalOp st.tmps) xs.toList = some us) (hy : mapEval (evalOp st.tmps) ys.toList = some vs)
    (hl : leafs us = some ls) (hm : leafs vs = some ms) : Quiet P o a w β st.ob h (.leaf (.func f ls ms)) := by
  have go : ∀ (xs : List Operand) (us : List AV) (ls : List LV), mapEval (evalOp st.tmps) xs = some us → leafs us = some ls → PW (LVR β st.ob h) ls (xs.map a.eval) := by
    intro xs
    induction xs with
    | nil => intro us ls h1 h2; simp [mapEval] at h1; subst h1; simp [leafs] at h2; subst h2; exact PW.nil
    | cons x xs ih =>
      intro us ls h1 h2
      simp only [mapEval] at h1
      split at h1
      · rename_i v vs' e1 e2
        injection h1 with h1
        subst h1
        cases v with
        | leaf l =>
          simp only [leafs] at h2
          cases h3 : leafs vs' with
          | none => rw [h3] at h2; cases h2
          | some r => rw [h3] at h2; injection h2 with h2; subst h2; exact PW.cons (k.eval e1).lv (ih _ _ e2 h3)
        | agg ls => simp [leafs] at h2
        | tup vs => simp [leafs] at h2
      · cases h1
  have p1 := go _ _ _ hx hl
  have p2 := go _ _ _ hy hm
  refine ⟨.func (.func f) (xs.toList.map a.eval).toArray (ys.toList.map a.eval).toArray, ?_, .leaf _ _ (.func f ls ms _ _ p1.1 p2.1 p1.2 p2.2)⟩
  have e1 : (xs.toList.map a.eval).toArray = xs.map a.eval := by apply Array.ext'; simp
  have e2 : (ys.toList.map a.eval).toArray = ys.map a.eval := by apply Array.ext'; simp
  rw [e1, e2]
  simp [execOp, hop, Instr.makeFunc]

theorem args_R (k : RelAt S w0 h0 st a w β h) : ∀ (xs : List Operand) (us : List AV), mapEval (evalOp st.tmps) xs = some us → PW (AVR β st.ob h) us (xs.map a.eval) := by
  intro xs
  induction xs with
  | nil => intro us h1; simp [mapEval] at h1; subst h1; exact PW.nil
  | cons x xs ih =>
    intro us h1
    simp only [mapEval] at h1
    split at h1
    · rename_i v vs' e1 e2
      injection h1 with h1
      subst h1
      exact PW.cons (k.eval e1) (ih _ e2)
    · cases h1

theorem map_eval (args : Array Operand) : args.map a.eval = (args.toList.map a.eval).toArray := by apply Array.ext'; simp

theorem builtin_run (b : Builtin) {args : Array Operand} {ts : Array TypeId} (hop : o.op = .call { callee := .builtin b, args := args, argTypes := ts }) :
    ∃ cs, (execOp a.eval o).run P w = (builtin b ts o.type cs (args.toList.map a.eval).toArray).run P w :=
  ⟨args.map fun | .const _ => true | _ => false, by simp only [execOp, hop, resolve, invoke, map_eval, Sem.run_bind, Sem.run_pure, Result.andThen_ok]; rfl⟩

theorem len_run {t : Nat} {d : TypeDesc} (ht : P.underlying t = some d) (hd : (∃ e, d = .slice e) ∨ d = .string) {ob : Obs} {v u : AV} {x : Value} (k : AVR β ob h v x) (he : lenAV v = some u)
    (hs : (∃ s, v = .leaf (.imm (.str s))) ↔ d = .string) (ty : Nat) (ts : Array Nat) (hts : ts[0]? = some t) : ∃ y, (Builtin.len_ ts ty #[x]).run P w = .ok y w ∧ AVR β ob h u y := by
  have go : ∀ (A : Option Addr) (n c : Nat), (∃ e, d = .slice e) → (Builtin.len_ ts ty #[.slice A n c]).run P w = .ok (.int .i64 n) w := by
    intro A n c ⟨e, hd⟩
    subst hd
    simp [Builtin.len_, hts, run_underlying ht, goInt]
  have ns : ¬ (∃ s, v = .leaf (.imm (.str s))) → ∃ e, d = .slice e := fun hn => by
    rcases hd with hd | hd
    · exact hd
    · exact absurd (hs.2 hd) hn
  unfold lenAV at he
  split at he
  · injection he with he; subst he
    have e := k.str
    have hd' := hs.1 ⟨_, rfl⟩
    subst hd'
    subst e
    exact ⟨_, by simp [Builtin.len_, hts, run_underlying ht, goInt], intR _ _⟩
  · injection he with he; subst he
    have e := k.nilv
    subst e
    exact ⟨_, go none 0 0 (ns (by rintro ⟨s, hs⟩; cases hs)), intR _ _⟩
  · injection he with he; subst he
    rename_i rows
    have hd' := ns (by rintro ⟨s, hs⟩; cases hs)
    cases k.lv with
    | imm v x k => cases k with
      | empty A c hm => exact ⟨_, go A 0 c hd', intR _ _⟩
      | sl rows b o n c sz vals hn => subst hn; exact ⟨_, go _ _ c hd', intR _ _⟩
  · injection he with he; subst he
    have hd' := ns (by rintro ⟨s, hs⟩; cases hs)
    cases k.lv with
    | ap id rows x ty sz n k => cases k with
      | empty A c hm => exact ⟨_, go A 0 c hd', intR _ _⟩
      | sl rows b o n c sz vals hn => subst hn; exact ⟨_, go _ _ c hd', intR _ _⟩
  · injection he with he; subst he
    have hd' := ns (by rintro ⟨s, hs⟩; cases hs)
    cases k.lv with
    | clip rows A k => exact ⟨_, go _ _ _ hd', intR _ _⟩
  · injection he with he; subst he
    have hd' := ns (by rintro ⟨s, hs⟩; cases hs)
    cases k.lv with
    | ms id ver sz off len A c => exact ⟨_, go _ _ _ hd', intR _ _⟩
  · cases he

theorem minmax_run (mx : Bool) {ob : Obs} : ∀ (vs : List AV) (v : AV) (xs : List Value) (x : Value) (u : AV), PW (AVR β ob h) vs xs → AVR β ob h v x → minAll mx v vs = some u →
    ∃ y, (xs.foldlM (if mx then Builtin.max2 else Builtin.min2) x).run P w = .ok y w ∧ AVR β ob h u y := by
  intro vs
  induction vs with
  | nil =>
    intro v xs x u hp hv he
    have : xs = [] := List.eq_nil_of_length_eq_zero (by have := hp.1; simp at this; omega)
    subst this
    simp only [minAll] at he
    injection he with he
    subst he
    exact ⟨x, by simp, hv⟩
  | cons v2 vs ih =>
    intro v xs x u hp hv he
    cases xs with
    | nil => have := hp.1; simp at this
    | cons x2 xs =>
      simp only [minAll] at he
      cases hm : minAV mx v v2 with
      | none => rw [hm] at he; cases he
      | some z =>
        rw [hm] at he
        unfold minAV at hm
        split at hm
        · rename_i q m q' n
          injection hm with hm
          subst hm
          have e1 := hv.int
          have e2 := hp.head.int
          subst e1; subst e2
          obtain ⟨y, hy, hr⟩ := ih _ xs (.int q (if (if mx = true then m < n else n < m) then n else m)) u hp.tail (intR _ _) he
          refine ⟨y, ?_, hr⟩
          rw [← hy]
          cases mx <;> simp [Builtin.max2, Builtin.min2]
        · cases hm

theorem q_slice_str (k : RelAt S w0 h0 st a w β h) {x : Operand} {t : Nat} {lo hi : Option Operand} (hop : o.op = .slice t x lo hi none) (hu : P.underlying t = some .string) {s : ByteArray} {l r : Option Int}
    (hx : evalOp st.tmps x = some (.leaf (.imm (.str s)))) (hl : optEval (evalOp st.tmps) lo = some l) (hr : optEval (evalOp st.tmps) hi = some r) (hb : 0 ≤ l.getD 0 ∧ l.getD 0 ≤ r.getD s.size ∧ r.getD s.size ≤ s.size) :
    Quiet P o a w β st.ob h (.leaf (.imm (.str (s.extract (l.getD 0).toNat (r.getD s.size).toNat)))) := by
  have ex := (k.eval hx).str
  obtain ⟨h1, h2, h3⟩ := hb
  have hlo : (lo = none ∧ l = none) ∨ ∃ y q m, lo = some y ∧ l = some m ∧ a.eval y = .int q m := by
    unfold optEval at hl
    split at hl
    · injection hl with hl; exact .inl ⟨rfl, hl.symm⟩
    · split at hl
      · rename_i q m hm; injection hl with hl; exact .inr ⟨_, q, m, rfl, hl.symm, (k.eval hm).int⟩
      · cases hl
  have hhi : (hi = none ∧ r = none) ∨ ∃ y q m, hi = some y ∧ r = some m ∧ a.eval y = .int q m := by
    unfold optEval at hr
    split at hr
    · injection hr with hr; exact .inl ⟨rfl, hr.symm⟩
    · split at hr
      · rename_i q m hm; injection hr with hr; exact .inr ⟨_, q, m, rfl, hr.symm, (k.eval hm).int⟩
      · cases hr
  refine ⟨_, ?_, .leaf _ _ (.imm _ _ (.str _))⟩
  rcases hlo with ⟨rfl, rfl⟩ | ⟨y, q, m, rfl, rfl, hy⟩ <;> rcases hhi with ⟨rfl, rfl⟩ | ⟨y', q', m', rfl, rfl, hy'⟩ <;> simp only [Option.getD_none, Option.getD_some] at h1 h2 h3 ⊢
  · simp [execOp, hop, ex, Instr.sliceAt, Instr.slice, run_underlying hu, Instr.sliceBounds]
  · have hc : 0 ≤ m' ∧ m' ≤ (s.size : Int) := ⟨h2, h3⟩
    simp [execOp, hop, ex, Instr.sliceAt, Instr.slice, run_underlying hu, Instr.sliceBounds, Instr.sliceBound, asIntOf, hy', hc]
  · have hc : 0 ≤ m ∧ m ≤ (s.size : Int) := ⟨h1, h2⟩
    simp [execOp, hop, ex, Instr.sliceAt, Instr.slice, run_underlying hu, Instr.sliceBounds, Instr.sliceBound, asIntOf, hy, hc]
  · have hc : 0 ≤ m' ∧ m' ≤ (s.size : Int) := ⟨by omega, h3⟩
    have hd : 0 ≤ m ∧ m ≤ (m'.toNat : Int) := ⟨h1, by omega⟩
    simp [execOp, hop, ex, Instr.sliceAt, Instr.slice, run_underlying hu, Instr.sliceBounds, Instr.sliceBound, asIntOf, hy, hy', hc, hd]
    intro hlt
    omega

theorem bounds_run (isSlice : Bool) (len cap : Nat) (lo hi mx : Option Value) (l r m : Nat)
    (hlo : (lo = none ∧ l = 0) ∨ ∃ q, lo = some (.int q l)) (hhi : (hi = none ∧ r = len ∧ mx = none) ∨ ∃ q, hi = some (.int q r)) (hmx : (mx = none ∧ m = cap) ∨ ∃ q, mx = some (.int q m))
    (h1 : l ≤ r) (h2 : r ≤ m) (h3 : m ≤ cap) : (Instr.sliceBounds isSlice len cap lo hi mx).run P w = .ok (l, r, m) w := by
  have c1 : (0 : Int) ≤ (l : Int) ∧ (l : Int) ≤ (r : Int) := ⟨by omega, by omega⟩
  have c2 : (0 : Int) ≤ (r : Int) ∧ (r : Int) ≤ (m : Int) := ⟨by omega, by omega⟩
  have c3 : (0 : Int) ≤ (m : Int) ∧ (m : Int) ≤ (cap : Int) := ⟨by omega, by omega⟩
  rcases hmx with ⟨rfl, rfl⟩ | ⟨q3, rfl⟩
  · rcases hhi with ⟨rfl, rfl, _⟩ | ⟨q2, rfl⟩
    · rcases hlo with ⟨rfl, rfl⟩ | ⟨q1, rfl⟩ <;> simp [Instr.sliceBounds, Instr.sliceBound, asIntOf, c1, c2, h1, h2]
    · rcases hlo with ⟨rfl, rfl⟩ | ⟨q1, rfl⟩ <;> simp [Instr.sliceBounds, Instr.sliceBound, asIntOf, c1, c2, h1, h2]
  · rcases hhi with ⟨_, _, hn⟩ | ⟨q2, rfl⟩
    · cases hn
    · rcases hlo with ⟨rfl, rfl⟩ | ⟨q1, rfl⟩ <;> simp [Instr.sliceBounds, Instr.sliceBound, asIntOf, c1, c2, c3, h1, h2, h3]

theorem cut_run {t e : Nat} {te : Ty} (ht : P.underlying t = some (.slice e)) (hte : TyOk P e te) (A : Option Addr) (n c : Nat) (lo hi mx : Option Value) (l r m : Nat)
    (hlo : (lo = none ∧ l = 0) ∨ ∃ q, lo = some (.int q l)) (hhi : (hi = none ∧ r = n ∧ mx = none) ∨ ∃ q, hi = some (.int q r)) (hmx : (mx = none ∧ m = c) ∨ ∃ q, mx = some (.int q m))
    (h1 : l ≤ r) (h2 : r ≤ m) (h3 : m ≤ c) : (Instr.sliceAt t (.slice A n c) lo hi mx).run P w = .ok (.slice (if m = l then A else A.map (·.add (l * te.size))) (r - l) (m - l)) w := by
  have hb := bounds_run (P := P) (w := w) true n c lo hi mx l r m hlo hhi hmx h1 h2 h3
  simp [Instr.sliceAt, Instr.slice, run_underlying ht, hb, hte.size w]

theorem IVR.cut {rows : List (List IV)} {A : Option Addr} {n c sz : Nat} (k : IVR h (.sl rows) (.slice A n c)) (hsz : rows.all (fun r => r.length == sz) = true) (l r m : Nat) (h1 : l ≤ r) (h2 : r ≤ n) (h3 : r ≤ m) (h4 : m ≤ c) :
    IVR h (.sl ((rows.take r).drop l)) (.slice (if m = l then A else A.map (·.add (l * sz))) (r - l) (m - l)) := by
  by_cases he : l = r
  · subst he
    rw [Nat.sub_self]
    have : (rows.take l).drop l = [] := by simp
    rw [this]
    refine .empty _ _ ?_
    cases k with
    | empty A c hm => omega
    | sl => omega
  · cases k with
    | empty A c hm => omega
    | sl rows b p n c sz' vals hn h0 hc hm hs0 hr hcell hrec =>
      have es : sz' = sz := by
        have hlt : 0 < rows.length := by omega
        have := List.all_eq_true.1 hsz rows[0] (List.getElem_mem hlt)
        rw [← hr 0 rows[0] (List.getElem?_eq_getElem hlt)]
        simpa using this
      subst es
      rw [if_neg (by omega)]
      simp only [Option.map_some, addr_add]
      refine .sl _ b (p + l * sz') (r - l) (m - l) sz' (fun j => vals (l * sz' + j)) (by simp; omega) (by omega) (by omega) (by omega) hs0 (fun i q hi => ?_) (fun j hj => ?_) (fun i q j x hi hj => ?_)
      · rw [List.getElem?_drop, List.getElem?_take] at hi
        split at hi
        · exact hr _ _ hi
        · cases hi
      · have : l * sz' + j < n * sz' := by
          have e1 : (r - l) * sz' + l * sz' = r * sz' := by rw [← Nat.add_mul]; congr 1; omega
          have e2 : r * sz' ≤ n * sz' := Nat.mul_le_mul_right _ h2
          omega
        rw [Nat.add_assoc]
        exact hcell _ this
      · rw [List.getElem?_drop, List.getElem?_take] at hi
        split at hi
        · have := hrec _ _ _ _ hi hj
          rw [Nat.add_mul, Nat.add_assoc] at this
          exact this
        · cases hi

/-- The operands of a cut. -/
theorem opt_R (k : RelAt S w0 h0 st a w β h) {x : Option Operand} {z : Option Int} (he : optEval (evalOp st.tmps) x = some z) : (x = none ∧ z = none) ∨ ∃ q m, z = some m ∧ x.map a.eval = some (.int q m) := by
  unfold optEval at he
  split at he
  · injection he with he; exact .inl ⟨rfl, he.symm⟩
  · split at he
    · rename_i q m hm; injection he with he; exact .inr ⟨q, m, he.symm, by simp [(k.eval hm).int]⟩
    · cases he

theorem cutRows_spec {rows : List (List IV)} {lo hi : Option Int} {l r : Nat} (he : cutRows rows lo hi = some (l, r)) : l ≤ r ∧ r ≤ rows.length ∧ lo.getD 0 = l ∧ hi.getD rows.length = r := by
  unfold cutRows at he
  simp only at he
  split at he
  · rename_i hc
    injection he with he
    injection he with e1 e2
    omega
  · cases he

theorem lo_form {x : Option Operand} {z : Option Int} {l : Nat} (k : (x = none ∧ z = none) ∨ ∃ q m, z = some m ∧ x.map a.eval = some (.int q m)) (hl : z.getD 0 = l) : (x.map a.eval = none ∧ l = 0) ∨ ∃ q, x.map a.eval = some (.int q l) := by
  rcases k with ⟨rfl, rfl⟩ | ⟨q, m, rfl, hx⟩
  · exact .inl ⟨rfl, by simp at hl; omega⟩
  · exact .inr ⟨q, by rw [hx]; simp at hl; rw [hl]⟩

theorem hi_form {x y : Option Operand} {z u : Option Int} {n r : Nat} (k : (x = none ∧ z = none) ∨ ∃ q m, z = some m ∧ x.map a.eval = some (.int q m)) (hl : z.getD n = r) (hn : z = none → y = none) : (x.map a.eval = none ∧ r = n ∧ y.map a.eval = none) ∨ ∃ q, x.map a.eval = some (.int q r) := by
  rcases k with ⟨rfl, rfl⟩ | ⟨q, m, rfl, hx⟩
  · exact .inl ⟨rfl, by simp at hl; omega, by rw [hn rfl]; rfl⟩
  · exact .inr ⟨q, by rw [hx]; simp at hl; rw [hl]⟩

theorem slice_exec {x : Operand} {t : Nat} {lo hi mx : Option Operand} (hop : o.op = .slice t x lo hi mx) {y : Value} (hr : (Instr.sliceAt t (a.eval x) (lo.map a.eval) (hi.map a.eval) (mx.map a.eval)).run P w = .ok y w) : (execOp a.eval o).run P w = .ok (.value y) w := by
  simp [execOp, hop, hr]

theorem q_slice_rows (hT : TOk P T) (k : RelAt S w0 h0 st a w β h) {x : Operand} {t e : Nat} {lo hi mx : Option Operand} (hop : o.op = .slice t x lo hi mx) {X : LV} {rows : List (List IV)} {l r m : Option Int} {ty te : Ty} {v : AV}
    (hx : evalOp st.tmps x = some (.leaf X)) (hl : optEval (evalOp st.tmps) lo = some l) (hh : optEval (evalOp st.tmps) hi = some r) (hm : optEval (evalOp st.tmps) mx = some m) (ht : T t = some ty) (hk : ty.k = .slice e) (hte : T e = some te)
    (hr : rowsOf (fun _ => none) X = some rows) (hv : sliceRows X rows te.size l r m = some v) : Quiet P o a w β st.ob h v := by
  have el := (k.eval hx).lv
  have hu := (hT t ty ht).und
  rw [hk] at hu
  have hu : P.underlying t = some (.slice e) := hu
  obtain ⟨A, n, c, ex, hnc, hcm, hlen, hiv, _⟩ := el.rows0 k.ext hr
  have kl := opt_R k hl
  have kh := opt_R k hh
  have km := opt_R k hm
  unfold sliceRows at hv
  split at hv
  · rename_i l' r' hcut
    obtain ⟨c1, c2, c3, c4⟩ := cutRows_spec hcut
    have fl := lo_form (a := a) kl c3
    rw [ex] at hiv
    split at hv
    · have fm : mx = none := by
        rcases km with ⟨e1, _⟩ | ⟨q, m, e1, _⟩
        · exact e1
        · cases e1
      subst fm
      have fh := hi_form (a := a) (y := none) (u := none) (n := n) kh (by rw [← hlen]; exact c4) (fun _ => rfl)
      have hrun := cut_run (P := P) (w := w) hu (hT e te hte) A n c (lo.map a.eval) (hi.map a.eval) ((none : Option Operand).map a.eval) l' r' c fl fh (.inl ⟨rfl, rfl⟩) c1 (by omega) (Nat.le_refl _)
      rw [← ex] at hrun
      split at hv
      · rename_i hz
        injection hv with hv
        subst hv
        obtain ⟨e1, e2⟩ := hz
        subst e1; subst e2
        refine ⟨_, slice_exec hop hrun, ?_⟩
        have : (Value.slice (if c = 0 then A else A.map (·.add (0 * te.size))) (rows.length - 0) (c - 0)) = a.eval x := by
          rw [ex, hlen]
          simp [Addr.add]
        rw [this]
        exact .leaf _ _ el
      · split at hv
        · rename_i hall
          injection hv with hv
          subst hv
          exact ⟨_, slice_exec hop hrun, .leaf _ _ (.imm _ _ (hiv.cut hall l' r' c c1 (by omega) (by omega) (Nat.le_refl _)))⟩
        · cases hv
    · rename_i m'
      split at hv
      · rename_i hz
        obtain ⟨e1, e2, hall⟩ := hz
        injection hv with hv
        subst hv
        obtain ⟨qm, hmx⟩ : ∃ q, mx.map a.eval = some (.int q r') := by
          rcases km with ⟨_, e3⟩ | ⟨q, m, e3, e4⟩
          · cases e3
          · injection e3 with e3
            exact ⟨q, by rw [e4, ← e3, e1]⟩
        have fh := hi_form (a := a) (y := mx) (u := none) (n := n) kh (by rw [← hlen]; exact c4) (fun e => by rw [e] at e2; cases e2)
        have hrun := cut_run (P := P) (w := w) hu (hT e te hte) A n c (lo.map a.eval) (hi.map a.eval) (mx.map a.eval) l' r' r' fl fh (.inr ⟨qm, hmx⟩) c1 (Nat.le_refl _) (by omega)
        rw [← ex] at hrun
        refine ⟨_, slice_exec hop hrun, ?_⟩
        have hcut := hiv.cut hall l' r' r' c1 (by omega) (Nat.le_refl _) (by omega)
        have hl2 : ((rows.take r').drop l').length = r' - l' := by simp; omega
        rw [← hl2] at hcut ⊢
        exact .leaf _ _ (.clip _ _ hcut)
      · cases hv
  · cases hv

theorem q_slice_ms (hT : TOk P T) (k : RelAt S w0 h0 st a w β h) {x : Operand} {t e : Nat} {lo hi mx : Option Operand} (hop : o.op = .slice t x lo hi mx) {id ver sz off len : Nat} {l r m : Option Int} {ty te : Ty} {v : AV}
    (hx : evalOp st.tmps x = some (.leaf (.ms id ver sz off len))) (hl : optEval (evalOp st.tmps) lo = some l) (hh : optEval (evalOp st.tmps) hi = some r) (hm : optEval (evalOp st.tmps) mx = some m) (ht : T t = some ty) (hk : ty.k = .slice e) (hte : T e = some te)
    (hsz : te.size = sz) (hv : sliceMs id ver sz off len l r m = some v) : Quiet P o a w β st.ob h v := by
  have el := (k.eval hx).lv
  have hu := (hT t ty ht).und
  rw [hk] at hu
  have hu : P.underlying t = some (.slice e) := hu
  subst hsz
  have kl := opt_R k hl
  have kh := opt_R k hh
  have km := opt_R k hm
  generalize hax : a.eval x = z at el
  cases el with
  | ms id ver sz off len A c ty' vv cs hc hcm hob hle hat =>
    unfold sliceMs at hv
    split at hv
    · rename_i hb
      obtain ⟨b1, b2, b3⟩ := hb
      obtain ⟨l', hl'⟩ : ∃ l' : Nat, l.getD 0 = l' := ⟨(l.getD 0).toNat, by omega⟩
      obtain ⟨r', hr'⟩ : ∃ r' : Nat, r.getD len = r' := ⟨(r.getD len).toNat, by omega⟩
      rw [hl', hr'] at hv
      rw [hl'] at b1 b2
      rw [hr'] at b2 b3
      have fl := lo_form (a := a) kl hl'
      have done : ∀ m' : Nat, r' ≤ m' → m' ≤ c → (off + l' = 0 → m' = c) → AVR β st.ob h (.leaf (.ms id ver te.size (off + l') (r' - l'))) (.slice (if m' = l' then A else A.map (·.add (l' * te.size))) (r' - l') (m' - l')) := by
        intro m' h1 h2 h3
        refine .leaf _ _ (.ms id ver te.size (off + l') (r' - l') _ (m' - l') ty' vv cs (by omega) (by omega) hob hle fun hq => ?_)
        rcases hat (by omega) with ⟨b, rfl, hz⟩ | ⟨rfl, hz, hz2⟩
        · refine .inl ⟨b, ?_, fun e => ?_⟩
          · by_cases hml : m' = l'
            · rw [if_pos hml]
              have e0 : off + l' = 0 := by clear hz kl kh km fl; omega
              have e1 : off = 0 := Nat.eq_zero_of_add_eq_zero_right e0
              have e2 : l' = 0 := Nat.eq_zero_of_add_eq_zero_left e0
              rw [e1, e2]
            · rw [if_neg hml, Option.map_some, addr_add, Nat.add_mul]
          · obtain ⟨kk, h4, h5⟩ := hz e
            refine ⟨kk, h4, fun e0 => ?_⟩
            have e1 : off = 0 := Nat.eq_zero_of_add_eq_zero_right e0
            have e2 : l' = 0 := Nat.eq_zero_of_add_eq_zero_left e0
            rw [e2, Nat.sub_zero, h3 e0]
            exact h5 e1
        · refine .inr ⟨by split <;> rfl, by clear hz2; omega, fun e => ?_⟩
          obtain ⟨h4, h5⟩ := hz2 e
          exact ⟨h4, by omega⟩
      have e3 : ((r' : Int) - (l' : Int)).toNat = r' - l' := by omega
      have e4 : ((l' : Int)).toNat = l' := by omega
      rw [e3, e4] at hv
      split at hv
      · injection hv with hv
        subst hv
        have fm : mx = none := by
          rcases km with ⟨e1, _⟩ | ⟨q, m, e1, _⟩
          · exact e1
          · cases e1
        subst fm
        have fh := hi_form (a := a) (y := none) (u := none) (n := len) kh hr' (fun _ => rfl)
        have hrun := cut_run (P := P) (w := w) hu (hT e te hte) A len c (lo.map a.eval) (hi.map a.eval) ((none : Option Operand).map a.eval) l' r' c fl fh (.inl ⟨rfl, rfl⟩) (by omega) (by omega) (Nat.le_refl _)
        rw [← hax] at hrun
        exact ⟨_, slice_exec hop hrun, done c (by omega) (Nat.le_refl _) (fun _ => rfl)⟩
      · rename_i m'
        split at hv
        · rename_i hz
          obtain ⟨e1, e2, e5, e6⟩ := hz
          injection hv with hv
          subst hv
          obtain ⟨m2, hm2⟩ : ∃ m2 : Nat, m' = m2 := ⟨m'.toNat, by omega⟩
          subst hm2
          obtain ⟨qm, hmx⟩ : ∃ q, mx.map a.eval = some (.int q m2) := by
            rcases km with ⟨_, e3⟩ | ⟨q, m, e3, e4⟩
            · cases e3
            · injection e3 with e3
              exact ⟨q, by rw [e4, ← e3]⟩
          have fh := hi_form (a := a) (y := mx) (u := none) (n := len) kh hr' (fun e => by rw [e] at e1; cases e1)
          have hrun := cut_run (P := P) (w := w) hu (hT e te hte) A len c (lo.map a.eval) (hi.map a.eval) (mx.map a.eval) l' r' m2 fl fh (.inr ⟨qm, hmx⟩) (by omega) (by omega) (by omega)
          rw [← hax] at hrun
          exact ⟨_, slice_exec hop hrun, done m2 (by omega) (by omega) (fun e => by omega)⟩
        · cases hv
    · cases hv

end
end Go.Ai
