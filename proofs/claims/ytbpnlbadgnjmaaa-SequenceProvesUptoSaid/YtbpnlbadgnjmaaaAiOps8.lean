/- Ai, part 10: append, all cases. No condition. -/
import Derived.Test.YtbpnlbadgnjmaaaAiOps7
namespace Go.Ai
set_option linter.unusedSimpArgs false
set_option linter.unusedVariables false

section
variable {P : Program} {T : Nat → Option Ty} {S : Sp} {w0 : World} {h0 : H} {st : St} {a : Act} {w w' : World} {β : Beta} {h h' : H} {o : Oper}

/-- What append does, beside the operation's frame. -/
def App (P : Program) (S : Sp) (w0 : World) (h0 : H) (t u ty : Nat) (s x : Value) (d : Option Nat) (a : Act) (w : World) (st' : St) : Prop :=
  ∃ y w' β' h', (Builtin.append_ #[t, u] ty #[s, x]).run P w = .ok y w' ∧ RelAt S w0 h0 st' (a.put d y) w' β' h'

/-- The block that append makes. -/
theorem grown_block {e sz n : Nat} {z : Value} {olds news : List Value} (hzs : z.cells.size = sz) (hl : (olds ++ news).length = n * sz) (cap : Nat) (hcap : n ≤ cap) :
    (olds.toArray ++ news.toArray ++ Builtin.zeroCells z.cells (cap - n)).size = cap * sz ∧ ∀ j, j < n * sz → (olds.toArray ++ news.toArray ++ Builtin.zeroCells z.cells (cap - n))[j]? = (olds ++ news)[j]? := by
  have e1 : (cap - n) * sz + n * sz = cap * sz := by rw [← Nat.add_mul]; congr 1; omega
  have hl' : olds.length + news.length = n * sz := by rw [← hl, List.length_append]
  refine ⟨by simp [size_zeroCells, hzs]; omega, fun j hj => ?_⟩
  have : (olds.toArray ++ news.toArray ++ Builtin.zeroCells z.cells (cap - n)).toList = (olds ++ news) ++ (Builtin.zeroCells z.cells (cap - n)).toList := by simp
  rw [← Array.getElem?_toList, this, List.getElem?_append_left (by rw [hl]; exact hj)]

structure AppIn (P : Program) (T : Nat → Option Ty) (w : World) (h : H) (t e u : Nat) (te : Ty) (new : List (List IV)) (x : Value) (news : List Value) : Prop where
  und : P.underlying t = some (.slice e)
  tok : TyOk P e te
  size : 0 < te.size
  bytes : 0 < te.bytes
  arg : New P w te.size new.length u x news
  rv : RV h new te.size news

/-- A new block, to be a tail or an array. -/
theorem app_grow (k : RelAt S w0 h0 st a w β h) {t e u ty d : Nat} {te : Ty} {rows new : List (List IV)} {x : Value} {olds news : List Value} (ai : AppIn P T w h t e u te new x news) (dst : Option Nat) (hd : d < st.objs.length) {A : Option Addr} {c : Nat}
    (hold : ∀ w', w'.heap = w.heap → (Builtin.firstCells te.size rows.length (.slice A rows.length c)).run P w' = .ok olds.toArray w') (hrv : RV h rows te.size olds) (hg : c < rows.length + new.length) (hroom : (rows.length + new.length) * te.bytes ≤ room) :
    ((∀ ty v cs, st.ob d ≠ some (.cells ty v cs)) ∧ (∀ ty sz' n', st.ob d = some (.tail ty sz' n') → ty = e ∧ sz' = te.size ∧ n' < rows.length + new.length) → App P S w0 h0 t u ty (.slice A rows.length c) x dst a w (st.put dst (.leaf (.ap d (rows ++ new))) [(d, .tail e te.size (rows.length + new.length))])) ∧
    ∀ ver, (∀ ty v cs, st.ob d = some (.cells ty v cs) → v < ver) ∧ (∀ ty sz' n', st.ob d ≠ some (.tail ty sz' n')) → App P S w0 h0 t u ty (.slice A rows.length c) x dst a w (st.put dst (.leaf (.ms d ver te.size 0 (rows.length + new.length))) [(d, .cells e ver ((rows ++ new).flatten.map .imm))]) := by
  obtain ⟨i, z, hi, hsz, hby, hzr, _, hzs⟩ := ai.tok.info
  have hrun := append_grow (P := P) (w := w) (t := t) (u := u) (ty := ty) ai.und hi hzr (A := A) (n := rows.length) (c := c) (m := new.length) (x := x) (olds := olds) (news := news) (by rw [hsz]; exact hold) (by rw [hsz]; exact ai.arg) hg (by rw [hby]; exact hroom) (by rw [hby]; exact ai.bytes)
  have hm := size_maxLen hroom ai.bytes
  have hcap := grownCap_ge w (rows.length + new.length) c e
  have hcm := grownCap_le_maxLen w (rows.length + new.length) c e hm
  generalize grownCap w (rows.length + new.length) c e = cap at hrun hcap hcm
  have hrv2 := hrv.append ai.rv
  have hlen : (rows ++ new).length = rows.length + new.length := List.length_append
  obtain ⟨hvs, hpre⟩ := grown_block (e := e) (sz := te.size) (n := rows.length + new.length) (z := z) (olds := olds) (news := news) hzs (by rw [hrv2.len, hlen]) cap hcap
  generalize olds.toArray ++ news.toArray ++ Builtin.zeroCells z.cells (cap - (rows.length + new.length)) = vs at hrun hvs hpre
  have hw : ∀ i, i ≠ w.heap.size → i < w.heap.size → (w.drew.alloc (.cells vs e)).heap[i]? = w.heap[i]? := fun i _ hi => heap_alloc_old _ _ i hi
  have hnew : (w.drew.alloc (.cells vs e)).heap[w.heap.size]? = some (.cells vs e (0, 0)) := heap_alloc_new w.drew _
  have hsize : w.heap.size ≤ (w.drew.alloc (.cells vs e)).heap.size := by simp
  refine ⟨fun hc => ?_, fun ver hc => ?_⟩
  · exact ⟨_, _, _, _, hrun, tail_upd k dst hd (.inl rfl) hsize hw rfl rfl rfl hnew hvs hlen hcap hcm ai.size hpre hrv2 (fun o v hv => by rw [k.fresh' o] at hv; cases hv) hc (.inl k.frame.size)⟩
  · refine ⟨_, _, _, _, hrun, cells_upd k dst hd (.inl rfl) hsize hw rfl rfl rfl hnew hvs (by rw [← (hrv2.flat (β := β) (ob := st.ob) ai.size).1.symm, hrv2.len, hlen]) hcap hcm (fun j l hj => ?_) (fun o => k.fresh' o) hc (.inl k.frame.size)⟩
    obtain ⟨x, hx, hr⟩ := (hrv2.flat (β := β) (ob := st.ob) ai.size).get hj
    have hjl : j < (rows.length + new.length) * te.size := by rw [← hlen, ← hrv2.len]; exact (List.getElem?_eq_some_iff.1 hx).1
    refine ⟨x, by rw [hpre j hjl]; exact hx, hr.one ?_, hr⟩
    obtain ⟨v, _, rfl⟩ := List.mem_map.1 (List.mem_of_getElem? hj)
    rfl

theorem app_quiet (k : RelAt S w0 h0 st a w β h) {t e u ty : Nat} {te : Ty} {x : Value} {news : List Value} (ai : AppIn P T w h t e u te [] x news) (dst : Option Nat) {l : LV} {A : Option Addr} {n c : Nat} (hl : LVR β st.ob h l (.slice A n c)) (hc : n ≤ c) :
    App P S w0 h0 t u ty (.slice A n c) x dst a w (st.put dst (.leaf l) []) := by
  obtain ⟨i, z, hi, hsz, hby, hzr, _, hzs⟩ := ai.tok.info
  have hn : news = [] := List.eq_nil_of_length_eq_zero (by rw [ai.rv.len]; simp)
  subst hn
  have hrun := append_zero (P := P) (w := w) (t := t) (u := u) (ty := ty) ai.und hi (A := A) hc (x := x) (by rw [hsz]; exact ai.arg)
  exact ⟨_, _, _, _, hrun, k.put dst (.leaf _ _ hl)⟩

/-- An append to a tail. -/
theorem app_ap (k : RelAt S w0 h0 st a w β h) {t e u ty id : Nat} {te : Ty} {rows new : List (List IV)} {x : Value} {news : List Value} (ai : AppIn P T w h t e u te new x news) (dst : Option Nat) (hid : id < st.objs.length) (hpos : 0 < new.length)
    {sv : Value} (hl : LVR β st.ob h (.ap id rows) sv) (ho : st.ob id = some (.tail e te.size rows.length)) (hroom : (rows.length + new.length) * te.bytes ≤ room) :
    App P S w0 h0 t u ty sv x dst a w (st.put dst (.leaf (.ap id (rows ++ new))) [(id, .tail e te.size (rows.length + new.length))]) := by
  obtain ⟨i, z, hi, hsz, hby, hzr, _, hzs⟩ := ai.tok.info
  have hcond : (∀ ty v cs, st.ob id ≠ some (.cells ty v cs)) ∧ (∀ ty sz' n', st.ob id = some (.tail ty sz' n') → ty = e ∧ sz' = te.size ∧ n' < rows.length + new.length) := by
    rw [ho]
    exact ⟨fun _ _ _ q => (by cases q), fun _ _ _ q => by injection q with q; injection q with q1 q2 q3; exact ⟨q1.symm, q2.symm, by omega⟩⟩
  cases hl with
  | ap id rows sv ty' sz' n' kk hob' hle hat hsz' =>
    rw [ho] at hob'
    injection hob' with q
    injection q with q1 q2 q3
    subst q1; subst q2; subst q3
    rcases hat rfl with ⟨hb, rfl⟩ | ⟨b, c, hb, hcm, hnc, rfl⟩
    · have h0 : rows.length = 0 := by
        cases kk with
        | empty => rfl
      have hr0 : rows = [] := List.eq_nil_of_length_eq_zero h0
      subst hr0
      have := (app_grow (ty := ty) k ai dst hid (A := none) (c := 0) (rows := []) (olds := []) (first_cells (by simp) (.inl rfl)) RV.nil (by simpa using hpos) hroom).1 hcond
      exact this
    · by_cases hg : c < rows.length + new.length
      · have hrr : RowsR w h (some ⟨b, 0, none⟩) rows.length rows te.size := by
          obtain ⟨A, n, c', hx, _, _, _, hf⟩ := kk.rows k.ext
          injection hx with e1 e2 e3
          subst e1; subst e2
          exact hf _ hsz'
        obtain ⟨olds, hrv, hc⟩ := hrr.cells ai.size
        exact (app_grow (ty := ty) k ai dst hid (A := some ⟨b, 0, none⟩) (c := c) (first_cells (by rw [hrv.len]) hc) hrv hg hroom).1 hcond
      · rcases k.objs id _ ho with ⟨hn, _⟩ | ⟨b', m', vs, hb', hw, hm, hfit, hz, hbase⟩
        · rw [hb] at hn; cases hn
        · rw [hb] at hb'
          injection hb' with q
          injection q with q1 q2
          subst q1
          have hrr : RowsR w h (some ⟨b, 0, none⟩) rows.length rows te.size := by
            obtain ⟨A, n, c', hx, _, _, _, hf⟩ := kk.rows k.ext
            injection hx with e1 e2 e3
            subst e1; subst e2
            exact hf _ hsz'
          obtain ⟨olds, hrv, hc⟩ := hrr.cells ai.size
          have hvs : vs.size = c * te.size := by rw [hm, ← q2]
          have hnl : news.length = new.length * te.size := ai.rv.len
          have hfit2 : rows.length * te.size + news.length ≤ vs.size := by
            rw [hnl, hvs, ← Nat.add_mul]
            exact Nat.mul_le_mul_right _ (by omega)
          have hrun := append_room (P := P) (w := w) (t := t) (u := u) (ty := ty) ai.und hi (g := b) (n := rows.length) (c := c) (m := new.length) (x := x) (cur := vs) (news := news) hw (by rw [hsz]; exact ai.arg) (ai.rv.one ai.size) (by omega) (by rw [hsz]; exact hfit2)
          rw [hsz] at hrun
          have hold : ∀ j, j < rows.length * te.size → vs[j]? = olds[j]? := fun j hj => by
            have hjo : j < olds.length := by rw [hrv.len]; exact hj
            rcases hc with h0 | ⟨b2, p2, e2, hcc⟩
            · rw [h0] at hj; simp at hj
            · injection e2 with e2
              injection e2 with e3 e4
              subst e3; subst e4
              have := hcc j _ (List.getElem?_eq_getElem hjo)
              rw [heap_cell hw, Nat.zero_add] at this
              rw [this, List.getElem?_eq_getElem hjo]
          generalize hnewv : (vs.toList.take (rows.length * te.size) ++ news ++ vs.toList.drop (rows.length * te.size + news.length)).toArray = cur' at hrun
          have hlt : (vs.toList.take (rows.length * te.size)).length = rows.length * te.size := by simp; omega
          have hcs : cur'.size = c * te.size := by
            rw [← hnewv]
            simp
            omega
          have hget : ∀ j, cur'[j]? = (vs.toList.take (rows.length * te.size) ++ news ++ vs.toList.drop (rows.length * te.size + news.length))[j]? := fun j => by rw [← hnewv]; exact List.getElem?_toArray
          have hpre : ∀ j, j < (rows.length + new.length) * te.size → cur'[j]? = (olds ++ news)[j]? := fun j hj => by
            rw [hget, List.getElem?_append_left (by simp; rw [Nat.add_mul] at hj; omega)]
            by_cases hjr : j < rows.length * te.size
            · rw [List.getElem?_append_left (by omega), List.getElem?_append_left (by rw [hrv.len]; exact hjr), List.getElem?_take, if_pos hjr]
              have := hold j hjr
              simpa using this
            · rw [List.getElem?_append_right (by omega), List.getElem?_append_right (by rw [hrv.len]; omega), hlt, hrv.len]
          have hb2 : β id = some (b, c * te.size) := hb
          refine ⟨_, w.setRow b cur', _, _, hrun, tail_upd k dst hid (.inr ⟨by rw [ho]; rfl, _, hb2⟩) (by simp) (fun i hi _ => setRow_other _ _ _ _ hi) rfl rfl rfl (setRow_heap w b vs cur' e (0, 0) hw) hcs List.length_append (by omega) hcm ai.size hpre (hrv.append ai.rv) (fun o v hv => ?_) hcond hbase⟩
          have ho1 : o < rows.length * te.size := by
            rcases Nat.lt_or_ge o (rows.length * te.size) with q | q
            · exact q
            · rw [hz o q] at hv; cases hv
          have hcell := k.ext _ _ _ hv
          rw [heap_cell hw] at hcell
          refine ⟨by rw [Nat.add_mul]; omega, ?_⟩
          rw [hpre o (by rw [Nat.add_mul]; omega), List.getElem?_append_left (by rw [hrv.len]; exact ho1), ← hold o ho1]
          exact hcell

theorem New.heap {sz n u : Nat} {x : Value} {news : List Value} (k : New P w sz n u x news) : New P w sz n u x news := k

/-- An append to an array that is seen whole. -/
theorem app_ms (k : RelAt S w0 h0 st a w β h) {t e u ty id ver len : Nat} {te : Ty} {cs : List LV} {new : List (List IV)} {x : Value} {news : List Value} (ai : AppIn P T w h t e u te new x news) (dst : Option Nat) (hid : id < st.objs.length) (hpos : 0 < new.length)
    {sv : Value} (hl : LVR β st.ob h (.ms id ver te.size 0 len) sv) (ho : st.ob id = some (.cells e ver cs)) (hlc : len * te.size = cs.length) (hroom : (len + new.length) * te.bytes ≤ room) :
    App P S w0 h0 t u ty sv x dst a w (st.put dst (.leaf (.ms id (ver + 1) te.size 0 (len + new.length))) [(id, .cells e (ver + 1) (cs ++ new.flatten.map .imm))]) := by
  obtain ⟨i, z, hi, hsz, hby, hzr, _, hzs⟩ := ai.tok.info
  have hcond : (∀ ty v cs, st.ob id = some (.cells ty v cs) → v < ver + 1) ∧ (∀ ty sz' n', st.ob id ≠ some (.tail ty sz' n')) := by
    rw [ho]
    exact ⟨fun _ _ _ q => by injection q with q; injection q with q1 q2 q3; omega, fun _ _ _ q => by cases q⟩
  have hflat := ai.rv.flat (β := β) (ob := st.ob) ai.size
  have hnl : news.length = new.length * te.size := ai.rv.len
  have hclen : (cs ++ new.flatten.map LV.imm).length = (len + new.length) * te.size := by rw [List.length_append, hflat.1, hnl, Nat.add_mul, hlc]
  have hm := size_maxLen hroom ai.bytes
  have himm : ∀ l ∈ new.flatten.map LV.imm, l.solid = true := fun l hl => by obtain ⟨v, _, rfl⟩ := List.mem_map.1 hl; rfl
  have hrun2 : ∀ (A : Option Addr) (c : Nat) (olds : List Value), (∀ w', w'.heap = w.heap → (Builtin.firstCells te.size len (.slice A len c)).run P w' = .ok olds.toArray w') → PW (LVR β st.ob h) cs olds → (∀ y ∈ olds, y.oneCell' = true) → c < len + new.length →
      App P S w0 h0 t u ty (.slice A len c) x dst a w (st.put dst (.leaf (.ms id (ver + 1) te.size 0 (len + new.length))) [(id, .cells e (ver + 1) (cs ++ new.flatten.map .imm))]) := by
    intro A c olds hold hpw hso hg
    have hrun := append_grow (P := P) (w := w) (t := t) (u := u) (ty := ty) ai.und hi hzr (A := A) (n := len) (c := c) (m := new.length) (x := x) (olds := olds) (news := news) (by rw [hsz]; exact hold) (by rw [hsz]; exact ai.arg) hg (by rw [hby]; exact hroom) (by rw [hby]; exact ai.bytes)
    have hcap := grownCap_ge w (len + new.length) c e
    have hcm := grownCap_le_maxLen w (len + new.length) c e hm
    generalize grownCap w (len + new.length) c e = cap at hrun hcap hcm
    have hol : (olds ++ news).length = (len + new.length) * te.size := by rw [← hclen, List.length_append, List.length_append, ← hpw.1, hflat.1]
    obtain ⟨hvs, hpre⟩ := grown_block (e := e) (sz := te.size) (n := len + new.length) (z := z) (olds := olds) (news := news) hzs hol cap hcap
    generalize olds.toArray ++ news.toArray ++ Builtin.zeroCells z.cells (cap - (len + new.length)) = vs at hrun hvs hpre
    have hw : ∀ i, i ≠ w.heap.size → i < w.heap.size → (w.drew.alloc (.cells vs e)).heap[i]? = w.heap[i]? := fun i _ hi => heap_alloc_old _ _ i hi
    have hnew : (w.drew.alloc (.cells vs e)).heap[w.heap.size]? = some (.cells vs e (0, 0)) := heap_alloc_new w.drew _
    have hsize : w.heap.size ≤ (w.drew.alloc (.cells vs e)).heap.size := by simp
    refine ⟨_, _, _, _, hrun, cells_upd k dst hid (.inl rfl) hsize hw rfl rfl rfl hnew hvs hclen hcap hcm (fun j l hj => ?_) (fun o => k.fresh' o) hcond (.inl k.frame.size)⟩
    obtain ⟨y, hy, hr⟩ := (hpw.append hflat).get hj
    have hjl : j < (len + new.length) * te.size := by rw [← hol]; exact (List.getElem?_eq_some_iff.1 hy).1
    refine ⟨y, by rw [hpre j hjl]; exact hy, ?_, hr⟩
    rcases List.mem_append.1 (List.mem_of_getElem? hy) with q | q
    · exact hso y q
    · exact ai.rv.one ai.size y q
  cases hl with
  | ms id ver sz off len A c ty' v cs' hc hcm' hob' hle hat =>
    rw [ho] at hob'
    injection hob' with q
    injection q with q1 q2 q3
    subst q1; subst q2; subst q3
    rcases hat (.inr rfl) with ⟨b, rfl, hq⟩ | ⟨rfl, hz0, hq⟩
    · obtain ⟨kk, hb, hck⟩ := hq rfl
      have hck := hck rfl
      rw [Nat.zero_mul]
      rcases k.objs id _ ho with ⟨hn, _⟩ | ⟨b', m', vs, hb', hw, hm', hlen, hcells, hz, hbase⟩
      · rw [hb] at hn; cases hn
      · rw [hb] at hb'
        injection hb' with q
        injection q with q1 q2
        subst q1; subst q2
        have hso : ∀ y ∈ vs.toList.take cs.length, y.oneCell' = true := fun y hy => by
          obtain ⟨j, hj⟩ := List.mem_iff_getElem?.1 hy
          rw [List.getElem?_take] at hj
          split at hj
          · rename_i hlt
            obtain ⟨y', h1, h3, _⟩ := hcells j _ (List.getElem?_eq_getElem hlt)
            have : vs.toList[j]? = some y' := by simpa using h1
            rw [this] at hj
            injection hj with hj
            subst hj
            exact h3
          · cases hj
        have hpw : PW (LVR β st.ob h) cs (vs.toList.take cs.length) := ⟨by simp; omega, fun j l y hj hy => by
          obtain ⟨y', hy', _, hr⟩ := hcells j l hj
          rw [List.getElem?_take] at hy
          split at hy
          · have : vs.toList[j]? = some y' := by simpa using hy'
            rw [this] at hy
            injection hy with hy
            subst hy
            exact hr
          · cases hy⟩
        by_cases hg : c < len + new.length
        · refine hrun2 _ c (vs.toList.take cs.length) (first_cells (by simp; omega) (.inr ⟨b, 0, rfl, fun j v hj => ?_⟩)) hpw hso hg
          rw [heap_cell hw, Nat.zero_add]
          rw [List.getElem?_take] at hj
          split at hj
          · simpa using hj
          · cases hj
        · have hfit2 : len * te.size + news.length ≤ vs.size := by
            rw [hnl, hm', ← hck, ← Nat.add_mul]
            exact Nat.mul_le_mul_right _ (by omega)
          have hrun := append_room (P := P) (w := w) (t := t) (u := u) (ty := ty) ai.und hi (g := b) (n := len) (c := c) (m := new.length) (x := x) (cur := vs) (news := news) hw (by rw [hsz]; exact ai.arg) (ai.rv.one ai.size) (by omega) (by rw [hsz]; exact hfit2)
          rw [hsz] at hrun
          generalize hnewv : (vs.toList.take (len * te.size) ++ news ++ vs.toList.drop (len * te.size + news.length)).toArray = cur' at hrun
          have hlt : (vs.toList.take (len * te.size)).length = len * te.size := by simp; omega
          have hcs : cur'.size = c * te.size := by
            rw [← hnewv]
            simp
            omega
          have hget : ∀ j, cur'[j]? = (vs.toList.take (len * te.size) ++ news ++ vs.toList.drop (len * te.size + news.length))[j]? := fun j => by rw [← hnewv]; exact List.getElem?_toArray
          have hb2 : β id = some (b, c * te.size) := by rw [hb, hck]
          refine ⟨_, w.setRow b cur', _, _, hrun, cells_upd k dst hid (.inr ⟨by rw [ho]; rfl, _, hb2⟩) (by simp) (fun i hi _ => setRow_other _ _ _ _ hi) rfl rfl rfl (setRow_heap w b vs cur' e (0, 0) hw) hcs hclen (by omega) hcm' (fun j l hj => ?_) hz hcond hbase⟩
          rw [hlc] at hget
          obtain ⟨y, hy, hr⟩ := (hpw.append hflat).get hj
          refine ⟨y, ?_, ?_, hr⟩
          · rw [hget, List.getElem?_append_left (by exact (List.getElem?_eq_some_iff.1 hy).1)]
            exact hy
          · rcases List.mem_append.1 (List.mem_of_getElem? hy) with q | q
            · exact hso y q
            · exact ai.rv.one ai.size y q
    · subst hz0
      obtain ⟨hb, rfl⟩ := hq rfl
      have hcs0 : cs = [] := List.eq_nil_of_length_eq_zero (by rw [← hlc, Nat.zero_mul])
      subst hcs0
      exact hrun2 none 0 [] (first_cells (by simp) (.inl rfl)) PW.nil (fun y hy => by simp at hy) (by omega)

/-- append: as the abstract run says. -/
theorem app_sound (hT : TOk P T) (k : RelAt S w0 h0 st a w β h) {t u ty d : Nat} {grow : Bool} {ob' : Obs} {s : LV} {sv x : Value} {new : List (List IV)} {v : AV} {upd : Upd} (dst : Option Nat) (hl : LVR β st.ob h s sv) (hob : ∀ i o, ob' i = some o → st.ob i = some o)
    (hobd : d < st.objs.length → ob' d = st.ob d) (hup : upd.all (fun p => decide (p.1 < st.objs.length)) = true) (he : appendAV T grow ob' d t s new = some (v, upd))
    (hnew : ∀ e te, T t = some te → te.k = .slice e → ∀ te, T e = some te → 0 < te.size → new.all (fun r => r.length == te.size) = true → ∃ news, New P w te.size new.length u x news ∧ RV h new te.size news) : App P S w0 h0 t u ty sv x dst a w (st.put dst v upd) := by
  unfold appendAV at he
  split at he
  · rename_i e zero size bytes eq htt
    split at he
    · rename_i te hte
      split at he
      · rename_i hc
        simp only [Bool.and_eq_true, decide_eq_true_eq] at hc
        obtain ⟨hall, hz, hb⟩ := hc
        have hu : P.underlying t = some (.slice e) := (hT t _ htt).und
        obtain ⟨news, hn, hrv⟩ := hnew e _ htt rfl te hte hz hall
        have ai : AppIn P T w h t e u te new x news := ⟨hu, hT e te hte, hz, hb, hn, hrv⟩
        split at he
        · split at he
          · rename_i hem
            injection he with he
            injection he with e1 e2
            subst e1; subst e2
            have : new = [] := by simpa using hem
            subst this
            cases hl with
            | imm v x kk => cases kk; exact app_quiet k ai dst (.imm _ _ .nil) (Nat.le_refl _)
          · rename_i hem
            have hpos : 0 < new.length := by
              rcases Nat.eq_zero_or_pos new.length with q | q
              · have := List.eq_nil_of_length_eq_zero q
                subst this
                exact absurd rfl hem
              · exact q
            have hsv : sv = .slice none 0 0 := by cases hl with | imm v x kk => cases kk; rfl
            subst hsv
            split at he
            · rename_i hd
              split at he
              · rename_i hroom
                have hroom' : (([] : List (List IV)).length + new.length) * te.bytes ≤ room := by simpa using hroom
                cases grow
                · simp only [Bool.false_eq_true, if_false] at he
                  injection he with he
                  injection he with e1 e2
                  subst e1; subst e2
                  have hdl : d < st.objs.length := by simpa using hup
                  rw [hobd hdl] at hd
                  have := (app_grow (ty := ty) k ai dst hdl (A := none) (c := 0) (rows := []) (olds := []) (first_cells (by simp) (.inl rfl)) RV.nil (by simpa using hpos) hroom').1 ⟨fun _ _ _ q => (by rw [hd] at q; cases q), fun _ _ _ q => (by rw [hd] at q; cases q)⟩
                  simpa using this
                · simp only [if_true] at he
                  injection he with he
                  injection he with e1 e2
                  subst e1; subst e2
                  have hdl : d < st.objs.length := by simpa using hup
                  rw [hobd hdl] at hd
                  have := (app_grow (ty := ty) k ai dst hdl (A := none) (c := 0) (rows := []) (olds := []) (first_cells (by simp) (.inl rfl)) RV.nil (by simpa using hpos) hroom').2 0 ⟨fun _ _ _ q => (by rw [hd] at q; cases q), fun _ _ _ q => (by rw [hd] at q; cases q)⟩
                  simpa using this
              · cases he
            · cases he
        · rename_i rows
          split at he
          · rename_i hem
            injection he with he
            injection he with e1 e2
            subst e1; subst e2
            have : new = [] := by simpa using hem
            subst this
            cases hl with
            | clip rows A kk => exact app_quiet k ai dst (.clip rows A kk) (Nat.le_refl _)
          · rename_i hem
            have hpos : 0 < new.length := by
              rcases Nat.eq_zero_or_pos new.length with q | q
              · have := List.eq_nil_of_length_eq_zero q
                subst this
                exact absurd rfl hem
              · exact q
            cases hl with
            | clip rows A kk =>
              split at he
              · rename_i hd
                split at he
                · rename_i hroom
                  obtain ⟨hroom, hra⟩ := hroom
                  have hrr : RowsR w h A rows.length rows te.size := by
                    obtain ⟨A', n, c', hx, _, _, _, hf⟩ := kk.rows k.ext
                    injection hx with e1 e2 e3
                    subst e1; subst e2
                    exact hf _ fun i r hi => by
                      have := List.all_eq_true.1 hra r (List.mem_of_getElem? hi)
                      simpa using this
                  obtain ⟨olds, hrv0, hcell⟩ := hrr.cells hz
                  cases grow
                  · simp only [Bool.false_eq_true, if_false] at he
                    injection he with he
                    injection he with e1 e2
                    subst e1; subst e2
                    have hdl : d < st.objs.length := by simpa using hup
                    rw [hobd hdl] at hd
                    exact (app_grow (ty := ty) k ai dst hdl (A := A) (c := rows.length) (first_cells (by rw [hrv0.len]) hcell) hrv0 (by omega) hroom).1 ⟨fun _ _ _ q => (by rw [hd] at q; cases q), fun _ _ _ q => (by rw [hd] at q; cases q)⟩
                  · simp only [if_true] at he
                    injection he with he
                    injection he with e1 e2
                    subst e1; subst e2
                    have hdl : d < st.objs.length := by simpa using hup
                    rw [hobd hdl] at hd
                    exact (app_grow (ty := ty) k ai dst hdl (A := A) (c := rows.length) (first_cells (by rw [hrv0.len]) hcell) hrv0 (by omega) hroom).2 0 ⟨fun _ _ _ q => (by rw [hd] at q; cases q), fun _ _ _ q => (by rw [hd] at q; cases q)⟩
                · cases he
              · cases he
        · rename_i id rows
          split at he
          · rename_i hem
            injection he with he
            injection he with e1 e2
            subst e1; subst e2
            have : new = [] := by simpa using hem
            subst this
            have hl0 := hl
            cases hl with
            | ap id rows sv ty' sz' n' kk => cases kk with
              | empty A c hm => exact app_quiet k ai dst hl0 (Nat.zero_le _)
              | sl rows b o n c sz vals hn h0 hc => exact app_quiet k ai dst hl0 hc
          · rename_i hem
            have hpos : 0 < new.length := by
              rcases Nat.eq_zero_or_pos new.length with q | q
              · have := List.eq_nil_of_length_eq_zero q
                subst this
                exact absurd rfl hem
              · exact q
            split at he
            · rename_i e' sz n hd
              split at he
              · rename_i hc
                obtain ⟨rfl, rfl, rfl, hroom⟩ := hc
                injection he with he
                injection he with e1 e2
                subst e1; subst e2
                exact app_ap k ai dst (by simpa using hup) hpos hl (hob _ _ hd) hroom
              · cases he
            · cases he
        · rename_i id ver sz off len
          split at he
          · rename_i hem
            injection he with he
            injection he with e1 e2
            subst e1; subst e2
            have : new = [] := by simpa using hem
            subst this
            have hl0 := hl
            cases hl with
            | ms id ver sz off len A c ty' v cs' hc => exact app_quiet k ai dst hl0 hc
          · rename_i hem
            have hpos : 0 < new.length := by
              rcases Nat.eq_zero_or_pos new.length with q | q
              · have := List.eq_nil_of_length_eq_zero q
                subst this
                exact absurd rfl hem
              · exact q
            split at he
            · rename_i e' ver' cs hd
              split at he
              · rename_i hc
                obtain ⟨rfl, rfl, rfl, rfl, hlc, hroom⟩ := hc
                injection he with he
                injection he with e1 e2
                subst e1; subst e2
                exact app_ms k ai dst (by simpa using hup) hpos hl (hob _ _ hd) hlc hroom
              · cases he
            · cases he
        · cases he
      · cases he
    · cases he
  · cases he

end
end Go.Ai
