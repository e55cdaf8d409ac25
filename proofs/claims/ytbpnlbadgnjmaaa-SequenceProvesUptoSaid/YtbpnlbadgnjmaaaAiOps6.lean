/- Ai, part 8: new blocks, and stores. No condition. -/
import Derived.Test.YtbpnlbadgnjmaaaAiOps5
namespace Go.Ai
set_option linter.unusedSimpArgs false
set_option linter.unusedVariables false

/-- An operation comes through, to what the abstract run says. -/
def Does (P : Program) (S : Sp) (w0 : World) (h0 : H) (o : Oper) (a : Act) (w : World) (st' : St) : Prop :=
  ∃ n x w' β' h', (execOp a.eval o).run P w = .ok n w' ∧ (n = .value x ∨ (n = .skip ∧ x = undef)) ∧ RelAt S w0 h0 st' (a.put o.dst x) w' β' h'

section
variable {P : Program} {T : Nat → Option Ty} {S : Sp} {w0 : World} {h0 : H} {st : St} {a : Act} {w w' : World} {β : Beta} {h h' : H} {o : Oper}

theorem Quiet.does {v : AV} (k : RelAt S w0 h0 st a w β h) (q : Quiet P o a w β st.ob h v) : Does P S w0 h0 o a w (st.put o.dst v []) := by
  obtain ⟨x, hr, hv⟩ := q
  exact ⟨_, x, w, β, h, hr, .inl rfl, k.put o.dst hv⟩

/-- A pointer to the begin of a block of its own. -/
theorem ptr_new {ob : Obs} {id b m ty : Nat} {cs : List LV} : AVR (updB β id b m) (updO ob id (.cells ty 0 cs)) h (.leaf (.ptr id 0 0)) (.pointer (some ⟨b, 0, none⟩)) :=
  .leaf _ _ (.ptr id 0 0 b ty 0 cs (updO_same _ _ _) (Nat.le_refl _) fun _ => ⟨m, updB_same _ _ _ _⟩)

theorem d_alloc (hT : TOk P T) (k : RelAt S w0 h0 st a w β h) {t d : Nat} (hop : o.op = .alloc t) {ty : Ty} (ht : T t = some ty) (hd : st.ob d = none) (hdl : d < st.objs.length) :
    Does P S w0 h0 o a w (st.put o.dst (.leaf (.ptr d 0 0)) [(d, .cells t 0 (ty.zero.map .imm))]) := by
  obtain ⟨z, hz, hp, hs, hl⟩ := (hT t ty ht).zero (w := w) (h := h) (β := β) st.ob
  refine ⟨_, .pointer (some ⟨w.heap.size, 0, none⟩), w.alloc (.cells z.cells t), _, h, ?_, .inl rfl, k.new o.dst hdl hd (World.size_alloc _ _) (heap_alloc_new _ _) (fun i hi => heap_alloc_old _ _ i hi) rfl rfl rfl (by simp [hs, hl]) (fun l hl => ?_) ?_ ptr_new⟩
  · simp [execOp, hop, Instr.alloc, hz, newVar, newRow]
  · obtain ⟨v, _, rfl⟩ := List.mem_map.1 hl
    rfl
  · have : (z.cells.toList.take (ty.zero.map LV.imm).length) = z.cells.toList := by
      rw [List.take_of_length_le]
      simp [hs, hl]
    rw [this]
    exact hp

theorem solid_all {ls : List LV} (h : ls.all LV.solid = true) : ∀ l ∈ ls, l.solid = true := by simpa using h

theorem d_box (hT : TOk P T) (k : RelAt S w0 h0 st a w β h) {t d : Nat} {x : Operand} (hop : o.op = .box t x) {v : AV} (hx : evalOp st.tmps x = some v) (hd : st.ob d = none) (hdl : d < st.objs.length) (hs : v.leaves.all LV.solid = true) (hne : 0 < v.leaves.length) :
    Does P S w0 h0 o a w (st.put o.dst (.leaf (.ptr d 0 0)) [(d, .cells t 0 v.leaves)]) := by
  have hp := (k.eval hx).leaves hs (by omega)
  have hl : v.leaves.length = (a.eval x).cells.size := by rw [hp.1, Array.length_toList]
  refine ⟨_, .pointer (some ⟨w.heap.size, 0, none⟩), w.alloc (.cells (a.eval x).cells t), _, h, ?_, .inl rfl, k.new o.dst hdl hd (World.size_alloc _ _) (heap_alloc_new _ _) (fun i hi => heap_alloc_old _ _ i hi) rfl rfl rfl (by omega) (solid_all hs) ?_ ptr_new⟩
  · simp [execOp, hop, Instr.box, newVar, newRow]
  · rw [List.take_of_length_le (by simp [hl])]
    exact hp

theorem made_R {e : Nat} {te : Ty} (hty : TyOk P e te) {ob : Obs} (m : Nat) (hz : 0 < te.size) {i : TypeInfo} {z : Value} (hi : P.info? e = some i) (hzr : i.zero = some z) :
    PW (LVR β ob h) ((List.replicate m (te.zero.map LV.imm)).flatten) (madeCells z.cells (m * te.size)).toList := by
  obtain ⟨i', z', hi', hsz, hby, hzr', hp, hzs⟩ := hty.info
  rw [hi] at hi'
  injection hi' with e1
  subst e1
  rw [hzr] at hzr'
  injection hzr' with e1
  subst e1
  have hlen : ((List.replicate m (te.zero.map LV.imm)).flatten).length = m * te.size := by simp [hp.1, hzs]
  have hmc : (madeCells z.cells (m * te.size)).size = m * te.size := size_madeCells _ _
  refine ⟨by simp [hlen, hmc], fun j l x hj hx => ?_⟩
  have hjl : j < m * te.size := by rw [← hlen]; exact (List.getElem?_eq_some_iff.1 hj).1
  have hzl : te.zero.length = te.size := by rw [hp.1, Array.length_toList, hzs]
  have e1 : ((List.replicate m (te.zero.map LV.imm)).flatten)[j]? = (te.zero.map LV.imm)[j % te.size]? := by
    have gen : ∀ (m j : Nat), j < m * te.size → ((List.replicate m (te.zero.map LV.imm)).flatten)[j]? = (te.zero.map LV.imm)[j % te.size]? := by
      intro m
      induction m with
      | zero => intro j hj; omega
      | succ m ih =>
        intro j hj
        rw [List.replicate_succ, List.flatten_cons]
        by_cases hlt : j < te.size
        · rw [List.getElem?_append_left (by simp [hzl]; exact hlt), Nat.mod_eq_of_lt hlt]
        · rw [List.getElem?_append_right (by simp [hzl]; omega)]
          simp only [List.length_map, hzl]
          rw [Nat.add_mul] at hj
          rw [ih (j - te.size) (by omega)]
          have e : j % te.size = (j - te.size) % te.size := Nat.mod_eq_sub_mod (by omega)
          rw [e]
    exact gen m j hjl
  rw [e1, List.getElem?_map] at hj
  have hmod : j % te.size < te.size := Nat.mod_lt _ hz
  cases hv : te.zero[j % te.size]? with
  | none => rw [hv] at hj; cases hj
  | some v =>
    rw [hv] at hj
    injection hj with hj
    subst hj
    obtain ⟨u, hu2, hr⟩ := hp.get hv
    have hx2 : (madeCells z.cells (m * te.size)).toList[j]? = some (z.cells[j % z.cells.size]!) := by simp [madeCells, hjl]
    rw [hx2] at hx
    injection hx with hx
    subst hx
    have : z.cells[j % z.cells.size]! = u := by
      rw [hzs]
      have e : z.cells[j % te.size]? = some u := by simpa using hu2
      rw [Array.getElem!_eq_getD, Array.getD_eq_getD_getElem?, e]
      rfl
    rw [this]
    exact .imm _ _ (hr.mono fun _ _ _ e => by cases e)

theorem zeros_solid {te : Ty} {m : Nat} : ∀ l ∈ (List.replicate m (te.zero.map LV.imm)).flatten, l.solid = true := fun l hl => by
  obtain ⟨r, hr, hl⟩ := List.mem_flatten.1 hl
  obtain ⟨_, rfl⟩ := List.mem_replicate.1 hr
  obtain ⟨v, _, rfl⟩ := List.mem_map.1 hl
  rfl

theorem d_makeSlice (hT : TOk P T) (k : RelAt S w0 h0 st a w β h) {t d e : Nat} {x y : Operand} (hop : o.op = .makeSlice t x y) {n : Int} {ty te : Ty} (ht : T t = some ty) (hk : ty.k = .slice e) (hte : T e = some te)
    (hx : evalOp st.tmps x = some (.leaf (.imm (.int .i64 n)))) (hy : evalOp st.tmps y = some (.leaf (.imm (.int .i64 n)))) (hd : st.ob d = none) (hdl : d < st.objs.length) (hn : 0 ≤ n) (hroom : n.toNat * te.bytes ≤ room) (hz : 0 < te.size) (hb : 0 < te.bytes) :
    Does P S w0 h0 o a w (st.put o.dst (.leaf (.ms d 0 te.size 0 n.toNat)) [(d, .cells e 0 ((List.replicate n.toNat (te.zero.map LV.imm)).flatten))]) := by
  have hu := (hT t ty ht).und
  rw [hk] at hu
  have hu : P.underlying t = some (.slice e) := hu
  obtain ⟨i, z, hi, hsz, hby, hzr, hp, hzs⟩ := (hT e te hte).info
  obtain ⟨m, rfl⟩ : ∃ m : Nat, n = m := ⟨n.toNat, by omega⟩
  simp only [Int.toNat_natCast] at hroom ⊢
  have hm : m ≤ room := Nat.le_trans (Nat.le_mul_of_pos_right m hb) hroom
  have hrun := run_make (P := P) w t e i z hu hi hzr .i64 .i64 m m (by omega) (Int.le_refl _) (by
    rw [hby, Int.mul_comm]
    have : ((m * te.bytes : Nat) : Int) ≤ 140737488355328 := by have := hroom; simp only [room] at this; omega
    rw [Int.natCast_mul] at this
    omega) (by simp only [room] at hm; omega)
  simp only [Int.toNat_natCast, hsz] at hrun
  have hlen : ((List.replicate m (te.zero.map LV.imm)).flatten).length = m * te.size := by simp [hp.1, hzs]
  have hmc : (madeCells z.cells (m * te.size)).size = m * te.size := size_madeCells _ _
  refine ⟨_, .slice (some ⟨w.heap.size, 0, none⟩) m m, w.alloc (.cells (madeCells z.cells (m * te.size)) e), _, h, ?_, .inl rfl, k.new o.dst hdl hd (World.size_alloc _ _) (heap_alloc_new _ _) (fun i hi => heap_alloc_old _ _ i hi) rfl rfl rfl (by omega) zeros_solid ?_ ?_⟩
  · simp [execOp, hop, (k.eval hx).int, (k.eval hy).int, hrun]
  · rw [List.take_of_length_le (by simp [hlen, hmc])]
    exact made_R (hT e te hte) m hz hi hzr
  · have e0 : (some ⟨w.heap.size, 0, none⟩ : Option Addr) = some ⟨w.heap.size, 0 * te.size, none⟩ := by rw [Nat.zero_mul]
    refine .leaf _ _ (.ms d 0 te.size 0 m _ m e 0 _ (Nat.le_refl _) ?_ (updO_same _ _ _) (Nat.le_refl _) fun _ => .inl ⟨w.heap.size, e0, fun _ => ⟨_, updB_same _ _ _ _, fun _ => hmc.symm⟩⟩)
    have e1 : room = 140737488355328 := rfl
    have e2 : maxLen = 9223372036854775807 := rfl
    rw [e1] at hm
    rw [e2]
    omega

theorem setRange_get {cs ls : List LV} {vs xs : List Value} {ob : Obs} (hc : ∀ (j : Nat) (l : LV), cs[j]? = some l → ∃ x, vs[j]? = some x ∧ x.oneCell' = true ∧ LVR β ob h l x) (hl : cs.length ≤ vs.length) (kl : PW (LVR β ob h) ls xs) (hs : ∀ l ∈ ls, l.solid = true) (off : Nat) (hoff : off + ls.length ≤ cs.length) :
    ∀ (j : Nat) (l : LV), (setRange cs off ls)[j]? = some l → ∃ x, (vs.take off ++ xs ++ vs.drop (off + xs.length))[j]? = some x ∧ x.oneCell' = true ∧ LVR β ob h l x := by
  intro j l hj
  have hxl := kl.1
  unfold setRange at hj
  rw [List.append_assoc]
  rw [List.getElem?_append] at hj ⊢
  have e1 : (cs.take off).length = off := by simp; omega
  have e2 : (vs.take off).length = off := by simp; omega
  rw [e1] at hj
  rw [e2]
  split at hj
  · rename_i hlt
    rw [if_pos hlt]
    rw [List.getElem?_take, if_pos hlt] at hj ⊢
    exact hc j l hj
  · rename_i hge
    rw [if_neg hge]
    rw [List.getElem?_append] at hj ⊢
    rw [← hxl]
    split at hj
    · rename_i hlt
      rw [if_pos hlt]
      obtain ⟨y, hy, hr⟩ := kl.get hj
      exact ⟨y, hy, hr.one (hs l (List.mem_of_getElem? hj)), hr⟩
    · rename_i hge2
      rw [if_neg hge2]
      rw [List.getElem?_drop] at hj ⊢
      exact hc _ l hj

theorem d_store (hT : TOk P T) (k : RelAt S w0 h0 st a w β h) {t : Nat} {x y : Operand} (hop : o.op = .store t x y) {id ver off ct : Nat} {v : AV} {ty : Ty} {cs : List LV} (hx : evalOp st.tmps x = some (.leaf (.ptr id ver off))) (hy : evalOp st.tmps y = some v) (ht : T t = some ty)
    (ho : st.ob id = some (.cells ct ver cs)) (hid : id < st.objs.length) (hl : v.leaves.length = ty.size) (hpos : 0 < ty.size) (hoff : off + ty.size ≤ cs.length) (hs : v.leaves.all LV.solid = true) :
    Does P S w0 h0 o a w (st.put o.dst (.leaf .und) [(id, .cells ct ver (setRange cs off v.leaves))]) := by
  have el := (k.eval hx).lv
  have hp := (k.eval hy).leaves hs (by omega)
  have hsz : (a.eval y).cells.size = ty.size := by rw [← hl, hp.1, Array.length_toList]
  generalize hax : a.eval x = z at el
  cases el with
  | ptr id ver off b ty' v' cs' hob' hle hat =>
    rw [ho] at hob'
    injection hob' with e
    injection e with e1 e2 e3
    subst e1; subst e2; subst e3
    obtain ⟨m, hb⟩ := hat rfl
    rcases k.objs id _ ho with ⟨hn, _⟩ | ⟨b', m', vs, hb', hw, hm, hlen, hc, hz, hbase⟩
    · rw [hb] at hn; cases hn
    · rw [hb] at hb'
      injection hb' with e
      injection e with e1 e2
      subst e1; subst e2
      have hcells := solid_all hs
      have hone : ∀ u ∈ (a.eval y).cells.toList, u.oneCell' = true := fun u hu => by
        obtain ⟨i, hi⟩ := List.mem_iff_getElem?.1 hu
        have hil : i < v.leaves.length := by rw [hp.1]; exact (List.getElem?_eq_some_iff.1 hi).1
        exact (hp.2 i _ u (List.getElem?_eq_getElem hil) hi).one (hcells _ (List.getElem_mem hil))
      have hst := run_storeCells_at P b off ct (a.eval y).cells.toList 0 vs w hw (by rw [Array.length_toList, hsz]; omega) hone
      simp only [Nat.add_zero] at hst
      generalize hnew : (vs.toList.take off ++ (a.eval y).cells.toList ++ vs.toList.drop (off + (a.eval y).cells.toList.length)).toArray = cur' at hst
      have hcur : cur'.size = m := by
        rw [← hnew, ← hm]
        simp [hsz]
        omega
      have hrun : (storeVar t ⟨b, off, none⟩ (a.eval y)).run P w = .ok () (w.setRow b cur') := by
        simp [storeVar, (hT t ty ht).size w, hsz, hst]
      have hgrow : Grow β st.ob (updB β id b m) (updO st.ob id (.cells ct ver (setRange cs off v.leaves))) := fun i o1 ho1 => by
        by_cases hi : i = id
        · subst hi
          rw [ho] at ho1
          injection ho1 with ho1
          subst ho1
          exact ⟨_, _, _, updO_same _ _ _, Nat.le_refl _, fun _ => by rw [updB_same]; exact hb.symm⟩
        · cases o1 with
          | cells ty v cs => exact ⟨ty, v, cs, by rw [updO_other _ _ hi]; exact ho1, Nat.le_refl _, fun _ => updB_other _ _ _ hi⟩
          | tail ty sz n => exact ⟨n, by rw [updO_other _ _ hi]; exact ho1, Nat.le_refl _, fun _ => updB_other _ _ _ hi⟩
      refine ⟨.skip, undef, w.setRow b cur', updB β id b m, h, ?_, .inr ⟨rfl, rfl⟩, ?_⟩
      · simp [execOp, hop, hax, Instr.storeAt, Instr.sureAddr, hrun]
      · refine k.upd o.dst hid (.inr ⟨by rw [ho]; rfl, m, hb⟩) (by simp) (fun i hi _ => setRow_other _ _ _ _ hi) rfl rfl rfl (HLe.refl h) (fun _ _ _ => rfl) (fun o v hv => by rw [hz] at hv; cases hv) hgrow ?_ (.leaf _ _ .und)
        refine .inr ⟨b, m, cur', updB_same _ _ _ _, setRow_heap w b vs cur' ct (0, 0) hw, hcur, by rw [setRange_length (by omega)]; exact hlen, fun j l hj => ?_, hz, hbase⟩
        have hg := setRange_get (β := β) (h := h) (ob := st.ob) (cs := cs) (vs := vs.toList) (fun j l hj => by
          obtain ⟨u, hu, hso, hr⟩ := hc j l hj
          exact ⟨u, by simpa using hu, hso, hr⟩) (by simp; omega) hp hcells off (by omega) j l hj
        obtain ⟨u, hu, hso, hr⟩ := hg
        refine ⟨u, ?_, hso, hr.mono hgrow (HLe.refl h)⟩
        rw [← hnew]
        simpa using hu

/-- Cells told of a block more. -/
def addH (h : H) (b : Nat) (f : Nat → Option Value) : H := fun i o => if i = b then f o else h i o
theorem addH_same (h : H) (b : Nat) (f : Nat → Option Value) (o : Nat) : addH h b f b o = f o := if_pos rfl
theorem addH_other (h : H) {b i : Nat} (f : Nat → Option Value) (o : Nat) (hi : i ≠ b) : addH h b f i o = h i o := if_neg hi
theorem addH_le {b : Nat} {f : Nat → Option Value} (hf : ∀ o v, h b o = some v → f o = some v) : HLe h (addH h b f) := fun i o v hv => by
  by_cases e : i = b
  · subst e; rw [addH_same]; exact hf o v hv
  · rw [addH_other _ _ _ e]; exact hv

/-- A new block that nobody will write. -/
theorem RelAt.row (k : RelAt S w0 h0 st a w β h) {ty : Nat} {vs : Array Value} (hsize : w'.heap.size = w.heap.size + 1) (hnew : w'.heap[w.heap.size]? = some (.cells vs ty (0, 0))) (hold : ∀ i, i < w.heap.size → w'.heap[i]? = w.heap[i]?)
    (hos : w'.os = w.os) (htape : w'.tape = w.tape) (hout : w'.output = w.output) : RelAt S w0 h0 st a w' β (addH h w.heap.size (vs[·]?)) ∧ HLe h (addH h w.heap.size (vs[·]?)) := by
  have hh : HLe h (addH h w.heap.size (vs[·]?)) := addH_le fun o v hv => by rw [k.fresh' o] at hv; cases hv
  refine ⟨⟨k.len, fun i v hi => ?_, k.defers, fun i o1 ho => ?_, k.inj, fun b1 o1 v1 hc => ?_, k.up.trans hh, fun b1 o1 hlt hs => ?_, ⟨by rw [hos]; exact k.frame.os, by rw [htape]; exact k.frame.tape, by rw [hout]; exact k.frame.output, Nat.le_trans k.frame.size (by omega), fun i hi hs => ?_⟩, k.pin⟩, hh⟩
  · obtain ⟨y, hy, hr⟩ := k.vals i v hi
    exact ⟨y, hy, hr.mono (Grow.refl _ _) hh⟩
  · refine (k.objs i o1 ho).keep (Grow.refl _ _) hh rfl fun b' m' hb' => ?_
    have := k.lt (by rw [ho]; rfl) hb'
    exact ⟨hold b' this, fun o => addH_other _ _ _ (by omega)⟩
  · by_cases e : b1 = w.heap.size
    · subst e
      rw [addH_same] at hc
      rw [heap_cell hnew]
      exact hc
    · rw [addH_other _ _ _ e] at hc
      have hold' := k.ext _ _ _ hc
      have hlt := block_lt_of_cell hold'
      simp only [World.cell?] at hold' ⊢
      rw [hold b1 hlt]
      exact hold'
  · have := k.frame.size
    rw [addH_other _ _ _ (by omega)]
    exact k.fresh _ _ hlt hs
  · have := k.frame.size
    rw [hold i (by omega)]
    exact k.frame.block i hi hs

/-- The rows of a row of values. -/
theorem IVR.ofRows {rows : List (List IV)} {b o n c sz : Nat} (vals : Nat → Value) (hn : rows.length = n) (hc : n ≤ c) (hm : c ≤ maxLen) (hsz : 0 < sz) (hr : ∀ (i : Nat) (r : List IV), rows[i]? = some r → r.length = sz)
    (hcell : ∀ j, j < n * sz → h b (o + j) = some (vals j)) (hrec : ∀ (i : Nat) (r : List IV) (j : Nat) (x : IV), rows[i]? = some r → r[j]? = some x → IVR h x (vals (i * sz + j))) : IVR h (.sl rows) (.slice (some ⟨b, o, none⟩) n c) := by
  by_cases h0 : n = 0
  · subst h0
    have : rows = [] := List.eq_nil_of_length_eq_zero hn
    subst this
    exact .empty _ _ hm
  · exact .sl rows b o n c sz vals hn (by omega) hc hm hsz hr hcell hrec

theorem d_buildSlice (hT : TOk P T) (k : RelAt S w0 h0 st a w β h) {t len e : Nat} {parts : Array (Nat × Operand)} (hop : o.op = .buildSlice t len parts) {ty te : Ty} {ls : List LV} {rows : List (List IV)} (ht : T t = some ty) (hk : ty.k = .slice e) (hte : T e = some te)
    (hsmall : len * te.size ≤ 16777216) (hz : 0 < te.size) (hf : fillAV (fun i => some (i * te.size, te.size)) ((List.replicate len (te.zero.map LV.imm)).flatten) (parts.toList.map fun p => (p.1, evalOp st.tmps p.2)) = some ls) (hr : rowsAt ls te.size 0 len = some rows) :
    Does P S w0 h0 o a w (st.put o.dst (.leaf (.clip rows)) []) := by
  have hu := (hT t ty ht).und
  rw [hk] at hu
  have hu : P.underlying t = some (.slice e) := hu
  obtain ⟨i, z, hi, hsz, hby, hzr, hp, hzs⟩ := (hT e te hte).info
  obtain ⟨p1, p2⟩ := parts_R k parts
  obtain ⟨out, ho, hpw⟩ := fill_run (place := fun i => some (i * te.size, te.size)) (fun i p hp => hp) _ _ _ _ _ p1 p2 (made_R (hT e te hte) len hz hi hzr) hf
  have hll : ls.length = len * te.size := by
    have gen : ∀ (qs : List (Nat × Option AV)) (cs ls : List LV), fillAV (fun i => some (i * te.size, te.size)) cs qs = some ls → ls.length = cs.length := by
      intro qs
      induction qs with
      | nil => intro cs ls he; simp only [fillAV] at he; injection he with he; subst he; rfl
      | cons q qs ih =>
        intro cs ls he
        obtain ⟨i, v⟩ := q
        simp only [fillAV] at he
        cases v with
        | none => cases he
        | some v =>
          simp only at he
          split at he
          · rename_i hc
            rw [ih _ _ he, setRange_length (by omega)]
          · cases he
    rw [gen _ _ _ hf]
    simp [hp.1, hzs]
  obtain ⟨q1, q2, q3⟩ := rows_cells hpw hr (by rw [Nat.zero_add]; omega)
  have hos : out.size = len * te.size := by rw [← hll, hpw.1, Array.length_toList]
  have hrun : (Instr.buildSlice t len (parts.map fun (x : Nat × Operand) => (x.1, a.eval x.2))).run P w = .ok (.slice (some ⟨w.heap.size, 0, none⟩) len len) (w.alloc (.cells out e)) := by
    by_cases h0 : len * te.size = 0
    · have hl0 : len = 0 := by
        rcases Nat.mul_eq_zero.1 h0 with h | h
        · exact h
        · omega
      subst hl0
      have ho' : Instr.fill (fun i => some (i * te.size, te.size)) #[] (parts.toList.map fun (x : Nat × Operand) => (x.1, a.eval x.2)) = some out := by simpa [madeCells, Array.range_zero'] using ho
      simp [Instr.buildSlice, run_underlying hu, (hT e te hte).size w, ho', newRow, Array.range_zero']
    · have hn : ¬ (len * te.size > 2 ^ 24) := by omega
      have ho' : Instr.fill (fun i => some (i * te.size, te.size)) (madeCells z.cells (len * te.size)) (parts.toList.map fun (x : Nat × Operand) => (x.1, a.eval x.2)) = some out := by simpa using ho
      unfold madeCells at ho'
      simp only [Instr.buildSlice, Sem.run_bind, run_underlying hu, (hT e te hte).size w, Result.andThen_ok, Sem.run_ite, hn, if_false, h0, zeroValue, typeInfo, run_program, hi, hzr, Sem.run_pure]
      simp [ho', newRow]
  obtain ⟨k', hh⟩ := k.row (w' := w.alloc (.cells out e)) (ty := e) (vs := out) (World.size_alloc _ _) (heap_alloc_new _ _) (fun i hi => heap_alloc_old _ _ i hi) rfl rfl rfl
  refine ⟨.value (.slice (some ⟨w.heap.size, 0, none⟩) len len), _, w.alloc (.cells out e), β, _, by simp [execOp, hop, hrun], .inl rfl, k'.put o.dst (.leaf _ _ ?_)⟩
  have hlm : len ≤ maxLen := by
    have e2 : maxLen = 9223372036854775807 := rfl
    have : len ≤ len * te.size := Nat.le_mul_of_pos_right _ hz
    omega
  have hiv : IVR (addH h w.heap.size (out[·]?)) (.sl rows) (.slice (some ⟨w.heap.size, 0, none⟩) len len) := by
    refine IVR.ofRows (sz := te.size) (fun j => out.getD j undef) q1 (Nat.le_refl _) hlm hz q2 (fun j hj => ?_) (fun i r j x hi hj => ?_)
    · rw [addH_same]
      simp [Array.getD_eq_getD_getElem?, show j < out.size by omega]
    · obtain ⟨u, hu, hx⟩ := q3 i r j x hi hj
      have : out.getD (i * te.size + j) undef = u := by
        have : out[i * te.size + j]? = some u := by simpa using hu
        simp [Array.getD_eq_getD_getElem?, this]
      rw [this]
      exact hx.mono hh
  rw [← q1] at hiv ⊢
  exact .clip rows _ hiv

end
end Go.Ai
