/- Ai, part 2: how the abstract run's values and objects lie in the model's memory. No condition. -/
import Derived.Test.YtbpnlbadgnjmaaaAiDefs
import Derived.Laws.AppendOwn
import Derived.Deep.LoopGhost
import Derived.Orders
namespace Go.Ai

abbrev H := Nat → Nat → Option Value

/-- h' knows all that h knows. -/
def HLe (h h' : H) : Prop := ∀ b o v, h b o = some v → h' b o = some v
theorem HLe.refl (h : H) : HLe h h := fun _ _ _ k => k
theorem HLe.trans {a b c : H} (p : HLe a b) (q : HLe b c) : HLe a c := fun x y v k => q x y v (p x y v k)

inductive IVR (h : H) : IV → Value → Prop
  | bool (b : Bool) : IVR h (.bool b) (.bool b)
  | int (k : IntKind) (n : Int) : IVR h (.int k n) (.int k n)
  | str (s : ByteArray) : IVR h (.str s) (.string s)
  | nil : IVR h .nil (.slice none 0 0)
  | nilf : IVR h .nilf .nilFunc
  | nilp : IVR h .nilp (.pointer none)
  | empty (A : Option Addr) (c : Nat) (hm : c ≤ maxLen) : IVR h (.sl []) (.slice A 0 c)
  | sl (rows : List (List IV)) (b o n c sz : Nat) (vals : Nat → Value) (hn : rows.length = n) (h0 : 0 < n) (hc : n ≤ c) (hm : c ≤ maxLen) (hsz : 0 < sz)
      (hr : ∀ (i : Nat) (r : List IV), rows[i]? = some r → r.length = sz) (hcell : ∀ j, j < n * sz → h b (o + j) = some (vals j))
      (hrec : ∀ (i : Nat) (r : List IV) (j : Nat) (x : IV), rows[i]? = some r → r[j]? = some x → IVR h x (vals (i * sz + j))) : IVR h (.sl rows) (.slice (some ⟨b, o, none⟩) n c)

theorem IVR.mono {h h' : H} (hh : HLe h h') {v : IV} {x : Value} (k : IVR h v x) : IVR h' v x := by
  induction k with
  | bool b => exact .bool b
  | int k n => exact .int k n
  | str s => exact .str s
  | nil => exact .nil
  | nilf => exact .nilf
  | nilp => exact .nilp
  | empty A c hm => exact .empty A c hm
  | sl rows b o n c sz vals hn h0 hc hm hsz hr hcell _ ih => exact .sl rows b o n c sz vals hn h0 hc hm hsz hr (fun j hj => hh _ _ _ (hcell j hj)) ih

theorem IVR.one {h : H} {v : IV} {x : Value} (k : IVR h v x) : x.oneCell' = true := by cases k <;> rfl

theorem IVR.norm {h : H} {v : IV} {x : Value} (k : IVR h v x) : IVR h v.norm x := by
  cases v <;> first | exact k | (cases k; exact .empty none 0 (Nat.zero_le _))

/-- What needs no memory. -/
theorem IVR.plain {h h' : H} {v : IV} {x : Value} (k : IVR h v x) (hp : v.plain = true) : IVR h' v x := by
  cases k <;> first | (simp [IV.plain] at hp; done) | constructor

/-- Immutable cells at a place. -/
def CellsR (h : H) (cs : List IV) (b o : Nat) : Prop := ∀ (j : Nat) (x : IV), cs[j]? = some x → ∃ v, h b (o + j) = some v ∧ IVR h x v

theorem CellsR.mono {h h' : H} (hh : HLe h h') {cs : List IV} {b o : Nat} (k : CellsR h cs b o) : CellsR h' cs b o := fun j x hx =>
  let ⟨v, hv, hi⟩ := k j x hx
  ⟨v, hh _ _ _ hv, hi.mono hh⟩

/-- Pointwise. -/
def PW {α β : Type} (R : α → β → Prop) (l : List α) (m : List β) : Prop := l.length = m.length ∧ ∀ (i : Nat) (x : α) (y : β), l[i]? = some x → m[i]? = some y → R x y

theorem PW.nil {α β : Type} {R : α → β → Prop} : PW R [] [] := ⟨rfl, fun i x y h => by simp at h⟩
theorem PW.cons {α β : Type} {R : α → β → Prop} {x : α} {y : β} {l : List α} {m : List β} (h : R x y) (k : PW R l m) : PW R (x :: l) (y :: m) :=
  ⟨by simp [k.1], fun i a b ha hb => by
    cases i with
    | zero => simp at ha hb; subst ha; subst hb; exact h
    | succ i => exact k.2 i a b (by simpa using ha) (by simpa using hb)⟩
theorem PW.head {α β : Type} {R : α → β → Prop} {x : α} {y : β} {l : List α} {m : List β} (k : PW R (x :: l) (y :: m)) : R x y := k.2 0 x y rfl rfl
theorem PW.tail {α β : Type} {R : α → β → Prop} {x : α} {y : β} {l : List α} {m : List β} (k : PW R (x :: l) (y :: m)) : PW R l m :=
  ⟨by have := k.1; simpa using this, fun i a b ha hb => k.2 (i + 1) a b (by simpa using ha) (by simpa using hb)⟩
theorem PW.imp {α β : Type} {R R' : α → β → Prop} {l : List α} {m : List β} (k : PW R l m) (h : ∀ x y, R x y → R' x y) : PW R' l m := ⟨k.1, fun i x y a b => h _ _ (k.2 i x y a b)⟩
theorem PW.get {α β : Type} {R : α → β → Prop} {l : List α} {m : List β} (k : PW R l m) {i : Nat} {x : α} (hx : l[i]? = some x) : ∃ y, m[i]? = some y ∧ R x y := by
  have hi : i < l.length := (List.getElem?_eq_some_iff.1 hx).1
  have hm : i < m.length := k.1 ▸ hi
  exact ⟨m[i], List.getElem?_eq_getElem hm, k.2 i x _ hx (List.getElem?_eq_getElem hm)⟩
theorem PW.append {α β : Type} {R : α → β → Prop} {l l' : List α} {m m' : List β} (k : PW R l m) (k' : PW R l' m') : PW R (l ++ l') (m ++ m') := by
  induction l generalizing m with
  | nil =>
    have : m = [] := List.eq_nil_of_length_eq_zero (by have := k.1; simp at this; omega)
    subst this
    simpa using k'
  | cons x l ih =>
    cases m with
    | nil => have := k.1; simp at this
    | cons y m => simpa using PW.cons k.head (ih k.tail)
theorem PW.take {α β : Type} {R : α → β → Prop} {l : List α} {m : List β} (k : PW R l m) (n : Nat) : PW R (l.take n) (m.take n) :=
  ⟨by simp [k.1], fun i x y hx hy => by
    rw [List.getElem?_take] at hx hy
    split at hx
    · rename_i hi; rw [if_pos hi] at hy; exact k.2 i x y hx hy
    · cases hx⟩
theorem PW.drop {α β : Type} {R : α → β → Prop} {l : List α} {m : List β} (k : PW R l m) (n : Nat) : PW R (l.drop n) (m.drop n) :=
  ⟨by simp [k.1], fun i x y hx hy => by
    rw [List.getElem?_drop] at hx hy
    exact k.2 _ x y hx hy⟩
theorem PW.map_left {α α' β : Type} {R : α' → β → Prop} {f : α → α'} {l : List α} {m : List β} : PW R (l.map f) m ↔ PW (fun x y => R (f x) y) l m := by
  constructor
  · intro k
    exact ⟨by have := k.1; simpa using this, fun i x y hx hy => k.2 i (f x) y (by simp [hx]) hy⟩
  · intro k
    refine ⟨by simp [k.1], fun i x y hx hy => ?_⟩
    rw [List.getElem?_map] at hx
    cases hl : l[i]? with
    | none => rw [hl] at hx; cases hx
    | some z => rw [hl] at hx; injection hx with hx; subst hx; exact k.2 i z y hl hy

abbrev Beta := Nat → Option (Nat × Nat)   -- an object's block, and how many cells it has
abbrev Obs := Nat → Option AObj

inductive LVR (β : Beta) (ob : Obs) (h : H) : LV → Value → Prop
  | imm (v : IV) (x : Value) (k : IVR h v x) : LVR β ob h (.imm v) x
  | ptr (id ver off b ty v : Nat) (cs : List LV) (hob : ob id = some (.cells ty v cs)) (hle : ver ≤ v)
      (hat : ver = v → ∃ k, β id = some (b, k)) : LVR β ob h (.ptr id ver off) (.pointer (some ⟨b, off, none⟩))
  | iptr (cs : List IV) (b o : Nat) (k : CellsR h cs b o) : LVR β ob h (.iptr cs) (.pointer (some ⟨b, o, none⟩))
  | ms (id ver sz off len : Nat) (A : Option Addr) (c ty v : Nat) (cs : List LV) (hc : len ≤ c) (hm : c ≤ maxLen) (hob : ob id = some (.cells ty v cs)) (hle : ver ≤ v)
      (hat : 0 < len ∨ off = 0 → (∃ b, A = some ⟨b, off * sz, none⟩ ∧ (ver = v → ∃ k, β id = some (b, k) ∧ (off = 0 → c * sz = k))) ∨ (A = none ∧ len = 0 ∧ (ver = v → β id = none ∧ c = 0))) :
      LVR β ob h (.ms id ver sz off len) (.slice A len c)
  | ap (id : Nat) (rows : List (List IV)) (x : Value) (ty sz n : Nat) (k : IVR h (.sl rows) x) (hob : ob id = some (.tail ty sz n)) (hle : rows.length ≤ n)
      (hat : rows.length = n → (β id = none ∧ x = .slice none 0 0) ∨ ∃ b c, β id = some (b, c * sz) ∧ c ≤ maxLen ∧ n ≤ c ∧ x = .slice (some ⟨b, 0, none⟩) n c) (hsz : ∀ (i : Nat) (r : List IV), rows[i]? = some r → r.length = sz) : LVR β ob h (.ap id rows) x
  | clip (rows : List (List IV)) (A : Option Addr) (k : IVR h (.sl rows) (.slice A rows.length rows.length)) : LVR β ob h (.clip rows) (.slice A rows.length rows.length)
  | func (f : Nat) (first cap : List LV) (xs ys : List Value) (h1 : first.length = xs.length) (h2 : cap.length = ys.length)
      (k1 : ∀ (i : Nat) (l : LV) (x : Value), first[i]? = some l → xs[i]? = some x → LVR β ob h l x)
      (k2 : ∀ (i : Nat) (l : LV) (x : Value), cap[i]? = some l → ys[i]? = some x → LVR β ob h l x) : LVR β ob h (.func f first cap) (.func (.func f) xs.toArray ys.toArray)
  | und : LVR β ob h .und undef
  | dead (x : Value) : LVR β ob h .dead x

/-- From one state of the objects to a later one. -/
def Grow (β : Beta) (ob : Obs) (β' : Beta) (ob' : Obs) : Prop := ∀ id o, ob id = some o → match o with
  | .cells _ v _ => ∃ ty' v' cs', ob' id = some (.cells ty' v' cs') ∧ v ≤ v' ∧ (v = v' → β' id = β id)
  | .tail ty sz n => ∃ n', ob' id = some (.tail ty sz n') ∧ n ≤ n' ∧ (n = n' → β' id = β id)

theorem Grow.refl (β : Beta) (ob : Obs) : Grow β ob β ob := fun id o ho => by
  cases o with
  | cells ty v cs => exact ⟨ty, v, cs, ho, Nat.le_refl _, fun _ => rfl⟩
  | tail ty sz n => exact ⟨n, ho, Nat.le_refl _, fun _ => rfl⟩

theorem Grow.trans {β β' β'' : Beta} {ob ob' ob'' : Obs} (k : Grow β ob β' ob') (k' : Grow β' ob' β'' ob'') : Grow β ob β'' ob'' := fun id o ho => by
  have h1 := k id o ho
  cases o with
  | cells ty v cs =>
    obtain ⟨ty', v', cs', e, hv, hb⟩ := h1
    obtain ⟨ty'', v'', cs'', e', hv', hb'⟩ := k' id _ e
    exact ⟨ty'', v'', cs'', e', Nat.le_trans hv hv', fun q => by rw [hb' (by omega), hb (by omega)]⟩
  | tail ty sz n =>
    obtain ⟨n', e, hv, hb⟩ := h1
    obtain ⟨n'', e', hv', hb'⟩ := k' id _ e
    exact ⟨n'', e', Nat.le_trans hv hv', fun q => by rw [hb' (by omega), hb (by omega)]⟩

theorem LVR.mono {β β' : Beta} {ob ob' : Obs} {h h' : H} (hg : Grow β ob β' ob') (hh : HLe h h') {l : LV} {x : Value} (k : LVR β ob h l x) : LVR β' ob' h' l x := by
  induction k with
  | imm v x k => exact .imm v x (k.mono hh)
  | ptr id ver off b ty v cs hob hle hat =>
    obtain ⟨ty', v', cs', ho, hv, hb⟩ := hg id _ hob
    refine .ptr id ver off b ty' v' cs' ho (Nat.le_trans hle hv) fun e => ?_
    have : v = v' := by omega
    rw [hb this]
    exact hat (by omega)
  | iptr cs b o k => exact .iptr cs b o (k.mono hh)
  | ms id ver sz off len A c ty v cs hc hm hob hle hat =>
    obtain ⟨ty', v', cs', ho, hv, hb⟩ := hg id _ hob
    refine .ms id ver sz off len A c ty' v' cs' hc hm ho (Nat.le_trans hle hv) fun e => ?_
    rcases hat e with ⟨b, hA, hq⟩ | ⟨hA, hl, hq⟩
    · exact .inl ⟨b, hA, fun e => by rw [hb (by omega)]; exact hq (by omega)⟩
    · exact .inr ⟨hA, hl, fun e => by rw [hb (by omega)]; exact hq (by omega)⟩
  | ap id rows x ty sz n k hob hle hat hsz =>
    obtain ⟨n', ho, hv, hb⟩ := hg id _ hob
    refine .ap id rows x ty sz n' (k.mono hh) ho (Nat.le_trans hle hv) (fun e => ?_) hsz
    have e2 : n = n' := by omega
    rw [hb e2, ← e2]
    exact hat (by omega)
  | clip rows A k => exact .clip rows A (k.mono hh)
  | func f first cap xs ys h1 h2 _ _ i1 i2 => exact .func f first cap xs ys h1 h2 i1 i2
  | und => exact .und
  | dead x => exact .dead x

theorem LVR.one {β : Beta} {ob : Obs} {h : H} {l : LV} {x : Value} (k : LVR β ob h l x) (hs : l.solid = true) : x.oneCell' = true := by
  cases k with
  | imm v x k => exact k.one
  | ap id rows x ty sz n k hob hle hat => exact k.one
  | und => simp [LV.solid] at hs
  | dead x => simp [LV.solid] at hs
  | _ => rfl

inductive AVR (β : Beta) (ob : Obs) (h : H) : AV → Value → Prop
  | leaf (l : LV) (x : Value) (k : LVR β ob h l x) : AVR β ob h (.leaf l) x
  | agg (ls : List LV) (xs : List Value) (k : PW (LVR β ob h) ls xs) : AVR β ob h (.agg ls) (.agg xs.toArray)
  | tup (vs : List AV) (xs : List Value) (hl : vs.length = xs.length) (k : ∀ (i : Nat) (v : AV) (x : Value), vs[i]? = some v → xs[i]? = some x → AVR β ob h v x) : AVR β ob h (.tup vs) (.tuple xs.toArray)

theorem AVR.mono {β β' : Beta} {ob ob' : Obs} {h h' : H} (hg : Grow β ob β' ob') (hh : HLe h h') {v : AV} {x : Value} (k : AVR β ob h v x) : AVR β' ob' h' v x := by
  induction k with
  | leaf l x k => exact .leaf l x (k.mono hg hh)
  | agg ls xs k => exact .agg ls xs (k.imp fun _ _ r => r.mono hg hh)
  | tup vs xs hl _ ih => exact .tup vs xs hl ih

theorem cells_leaf {x : Value} (h1 : x.oneCell' = true) : x.cells.toList = [x] := by cases x <;> first | rfl | simp [Value.oneCell'] at h1

theorem AVR.leaves {β : Beta} {ob : Obs} {h : H} {v : AV} {x : Value} (k : AVR β ob h v x) (hs : v.leaves.all LV.solid = true) (ht : v.leaves.length ≠ 0) : PW (LVR β ob h) v.leaves x.cells.toList := by
  cases k with
  | leaf l x k =>
    rw [cells_leaf (k.one (by simpa [AV.leaves] using hs))]
    exact PW.cons k PW.nil
  | agg ls xs k => simpa [AV.leaves, Value.cells] using k
  | tup vs xs hl k => simp [AV.leaves] at ht

def ObjR (β : Beta) (ob : Obs) (h : H) (S : Nat → Prop) (base : Nat) (w : World) (id : Nat) : AObj → Prop
  | .cells ty _ cs => (β id = none ∧ cs = []) ∨ ∃ b k vs, β id = some (b, k) ∧ w.heap[b]? = some (.cells vs ty (0, 0)) ∧ vs.size = k ∧ cs.length ≤ k ∧
      (∀ (j : Nat) (l : LV), cs[j]? = some l → ∃ x, vs[j]? = some x ∧ x.oneCell' = true ∧ LVR β ob h l x) ∧ (∀ o, h b o = none) ∧ (base ≤ b ∨ S b)
  | .tail ty sz n => (β id = none ∧ n = 0) ∨ ∃ b k vs, β id = some (b, k) ∧ w.heap[b]? = some (.cells vs ty (0, 0)) ∧ vs.size = k ∧ n * sz ≤ k ∧ (∀ o, n * sz ≤ o → h b o = none) ∧ (base ≤ b ∨ S b)

/-- The frame's promise: blocks that were there at the begin are as they were, but for those in S. -/
structure Frame (S : Nat → Prop) (w0 w : World) : Prop where
  os : w.os = w0.os
  tape : w.tape = w0.tape
  output : w.output = w0.output
  size : w0.heap.size ≤ w.heap.size
  block : ∀ i, i < w0.heap.size → ¬ S i → w.heap[i]? = w0.heap[i]?

theorem Frame.refl (S : Nat → Prop) (w : World) : Frame S w w := ⟨rfl, rfl, rfl, Nat.le_refl _, fun _ _ _ => rfl⟩

/-- What a frame may change of what was there, and the caller's objects that were handed to it. -/
structure Sp where
  set : Nat → Prop
  β0 : Beta
  ob0 : Obs
instance : CoeFun Sp (fun _ => Nat → Prop) := ⟨Sp.set⟩
instance : Coe Sp (Nat → Prop) := ⟨Sp.set⟩
/-- Nothing. -/
def Sp.no : Sp := ⟨fun _ => False, fun _ => none, fun _ => none⟩

def Ext (w : World) (h : H) : Prop := ∀ b o v, h b o = some v → w.cell? ⟨b, o, none⟩ = some v

structure RelAt (S : Sp) (w0 : World) (h0 : H) (st : St) (a : Act) (w : World) (β : Beta) (h : H) : Prop where
  len : a.tmps.size = st.tmps.length
  vals : ∀ (i : Nat) (v : AV), st.tmps[i]? = some v → ∃ x, a.tmps[i]? = some x ∧ AVR β st.ob h v x
  defers : a.defers = []
  objs : ∀ id o, st.ob id = some o → ObjR β st.ob h S w0.heap.size w id o
  inj : ∀ id id' b k k', (st.ob id).isSome → (st.ob id').isSome → β id = some (b, k) → β id' = some (b, k') → id = id'
  ext : Ext w h
  up : HLe h0 h
  fresh : ∀ b o, b < w0.heap.size → ¬ S b → h b o = h0 b o
  frame : Frame S w0 w
  pin : Grow S.β0 S.ob0 β st.ob

theorem upds_length (u : Upd) : ∀ objs : List (Option AObj), (upds objs u).length = objs.length := by
  induction u with
  | nil => intro objs; rfl
  | cons p u ih => intro objs; obtain ⟨i, o⟩ := p; simp [upds, ih]

theorem St.ob_put_nil (st : St) (d : Option Nat) (v : AV) : (st.put d v []).ob = st.ob := rfl

theorem St.ob_set (st : St) (tm : List AV) (id : Nat) (o : AObj) (hid : id < st.objs.length) (i : Nat) : St.ob { tmps := tm, objs := st.objs.set id (some o) } i = if i = id then some o else st.ob i := by
  unfold St.ob
  simp only [List.getElem?_set]
  by_cases h : id = i
  · subst h; simp [hid]
  · rw [if_neg h, if_neg (fun e => h e.symm)]

theorem Act.put_tmps (a : Act) (d : Option Nat) (x : Value) : (a.put d x).defers = a.defers := by cases d <;> rfl

/-- A value goes into a tmp. -/
theorem RelAt.put {S : Sp} {w0 : World} {h0 : H} {st : St} {a : Act} {w : World} {β : Beta} {h : H} (k : RelAt S w0 h0 st a w β h) (d : Option Nat) {v : AV} {x : Value} (hv : AVR β st.ob h v x) :
    RelAt S w0 h0 (st.put d v []) (a.put d x) w β h := by
  cases d with
  | none => exact ⟨k.len, k.vals, k.defers, k.objs, k.inj, k.ext, k.up, k.fresh, k.frame, k.pin⟩
  | some d =>
    refine ⟨by simp [St.put, Act.put, k.len], fun i u hu => ?_, k.defers, k.objs, k.inj, k.ext, k.up, k.fresh, k.frame, k.pin⟩
    have hu' : (st.tmps.set d v)[i]? = some u := hu
    rw [List.getElem?_set] at hu'
    simp only [Act.put]
    by_cases hdi : d = i
    · subst hdi
      rw [if_pos rfl] at hu'
      split at hu'
      · rename_i hlt
        injection hu' with hu'
        subst hu'
        refine ⟨x, ?_, hv⟩
        rw [Array.getElem?_setIfInBounds]
        simp [k.len, hlt]
      · cases hu'
    · rw [if_neg hdi] at hu'
      obtain ⟨y, hy, hr⟩ := k.vals i u hu'
      refine ⟨y, ?_, hr⟩
      rw [Array.getElem?_setIfInBounds]
      rw [if_neg hdi]
      exact hy

/-- An operand's value. -/
theorem RelAt.eval {S : Sp} {w0 : World} {h0 : H} {st : St} {a : Act} {w : World} {β : Beta} {h : H} (k : RelAt S w0 h0 st a w β h) {x : Operand} {v : AV} (hx : evalOp st.tmps x = some v) : AVR β st.ob h v (a.eval x) := by
  cases x with
  | tmp t =>
    obtain ⟨y, hy, hr⟩ := k.vals t v hx
    have : a.eval (.tmp t) = y := by simp [Act.eval, Array.getD_eq_getD_getElem?, hy]
    rw [this]
    exact hr
  | const c =>
    simp only [evalOp] at hx
    unfold ofValue at hx
    split at hx <;> first | (injection hx with hx; subst hx; exact .leaf _ _ (.imm _ _ (by constructor))) | cases hx
  | global g => cases hx
  | func f =>
    simp only [evalOp] at hx
    injection hx with hx
    subst hx
    exact .leaf _ _ (.func f [] [] [] [] rfl rfl (fun i l x hl => by simp at hl) (fun i l x hl => by simp at hl))

end Go.Ai
