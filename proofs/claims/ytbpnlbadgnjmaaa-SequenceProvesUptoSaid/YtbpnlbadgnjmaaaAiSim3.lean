/- Ai, part 29: the rules' last forms. No condition. -/
import Derived.Test.YtbpnlbadgnjmaaaAiSim2
namespace Go.Ai
set_option linter.unusedSimpArgs false
set_option linter.unusedVariables false
set_option linter.constructorNameAsVariable false

namespace Seat
variable {s : Seat} {G : List Nat} {K : Nat → Keep} {Q : Ex → St → Prop} {st : St}
noncomputable def RqK (s : Seat) (G : List Nat) (all os : List Oper) (k : Ex → St → Prop) : Option St → Prop
  | some st => s.Rq G all os st k
  | none => False
noncomputable def RgK (s : Seat) (G : List Nat) (all os : List Oper) (fs : List (List Nat × List Nat)) (k : St → List (List Nat × List Nat) → Prop) : Option St → Prop
  | some st => s.Rg G all os st fs k
  | none => False
theorem env_grow : (s.env G).grow = G := rfl
theorem rq_nil {all k} : s.Rq G all [] st k = k .normal st := rfl
theorem rq_cons {all o os k} : s.Rq G all (o :: os) st k = s.RqK G all os k (stepOp s.T (s.env G) all st o) := rfl
theorem rqK_some {all os k} : s.RqK G all os k (some st) = s.Rq G all os st k := rfl
theorem rg_nil {all fs k} : s.Rg G all [] st fs k = k st fs := rfl
theorem rg_cons {all o os fs k} : s.Rg G all (o :: os) st fs k = s.RgK G all os (fs ++ [footA s.O all st o]) k (stepOp s.T (s.env G) all st o) := rfl
theorem rgK_some {all os fs k} : s.RgK G all os fs k (some st) = s.Rg G all os st fs k := rfl
theorem endQ {ops st fs} : EndQ ops Q st fs = (Ord ops fs ∧ Q .normal st) := rfl
theorem seq_normal {b} : s.SeqQ G K b Q .normal st = s.W G K b st Q := rfl
theorem seq_exit {b i} : s.SeqQ G K b Q (.exit i) st = Q (.exit i) st := rfl
theorem seq_ret {b} : s.SeqQ G K b Q .ret st = Q .ret st := rfl
theorem blk_normal {i} : BlkQ i Q .normal st = Q .normal st := rfl
theorem blk_exit {i j} : BlkQ i Q (.exit j) st = if j = i then Q .normal st else Q (.exit j) st := rfl
theorem blk_ret {i} : BlkQ i Q .ret st = Q .ret st := rfl
/-- The way of a condition. -/
def CondK (s : Seat) (G : List Nat) (K : Nat → Keep) (a b : Code) (st : St) (Q : Ex → St → Prop) : Option AV → Prop
  | some (.leaf (.imm (.bool true))) => s.W G K a st Q
  | some (.leaf (.imm (.bool false))) => s.W G K b st Q
  | _ => False
theorem cond_eq {c a b} : s.W G K (.cond c a b) st Q = s.CondK G K a b st Q (evalOp st.tmps c) := by
  rw [W_cond]
  unfold CondK
  generalize evalOp st.tmps c = x
  split
  · rename_i t
    cases t <;> rfl
  · rename_i h
    split
    · exact (h _ rfl).elim
    · exact (h _ rfl).elim
    · rfl
theorem condK_true {a b} : s.CondK G K a b st Q (some (.leaf (.imm (.bool true)))) = s.W G K a st Q := rfl
theorem condK_false {a b} : s.CondK G K a b st Q (some (.leaf (.imm (.bool false)))) = s.W G K b st Q := rfl
/-- What a function hands back. -/
def RetK (r : AV) (ob : Nat → Option AObj) : Option (List AV) → Prop
  | some vs => ∃ us, lendArgs ob vs = some us ∧ tupleOf us = r
  | none => False
theorem ret_normal {T : Nat → Option Ty} {rs r} : RetQ T rs r .normal st = RetK r st.ob (resultsAV T st rs) := by
  simp only [RetQ, RetK]
  cases resultsAV T st rs with
  | none => simp
  | some vs => simp
theorem ret_ret {T : Nat → Option Ty} {rs r} : RetQ T rs r .ret st = RetK r st.ob (resultsAV T st rs) := by
  simp only [RetQ, RetK]
  cases resultsAV T st rs with
  | none => simp
  | some vs => simp
end Seat
def LoopEnd (K : Keep) (ok : St → Prop) (Q : Ex → St → Prop) : Ex → St → Prop
  | .normal, st => ok (keepSt K st)
  | ex, st => Q ex st
theorem loopEnd_normal {K ok Q st} : LoopEnd K ok Q .normal st = ok (keepSt K st) := rfl
theorem loopEnd_exit {K ok Q st i} : LoopEnd K ok Q (.exit i) st = Q (.exit i) st := rfl
theorem loopEnd_ret {K ok Q st} : LoopEnd K ok Q .ret st = Q .ret st := rfl
namespace Seat
variable {s : Seat} {G : List Nat} {K : Nat → Keep} {Q : Ex → St → Prop} {st : St}
/-- A loop, by what holds at its head and a number that falls. -/
theorem loop_by {α : Type} (S : α → St) (I : α → Prop) (μ : α → Nat) {c : Code} (x0 : α) (h0 : st = S x0) (hi : I x0) (step : ∀ x, I x → s.W G K c (S x) (LoopEnd (K ((firstRegion c).getD 0)) (fun st' => ∃ y, I y ∧ μ y < μ x ∧ st' = S y) Q)) : s.WL G K c st Q := by
  subst h0
  refine WL_inv S I μ (fun x hx => W_mono (step x hx) fun ex st' h => ?_) x0 hi
  cases ex <;> exact h
end Seat

theorem wrap_i64 {n : Int} (h1 : -9223372036854775808 ≤ n) (h2 : n ≤ 9223372036854775807) : IntKind.wrap .i64 n = n := by
  have e : IntKind.wrap .i64 n = if 9223372036854775808 ≤ n % 18446744073709551616 then n % 18446744073709551616 - 18446744073709551616 else n % 18446744073709551616 := by
    unfold IntKind.wrap
    simp [IntKind.bits, IntKind.signed]
  rw [e]
  split <;> omega
theorem solid_imm (v : IV) : (LV.imm v).solid = true := rfl
theorem solid_ptr (id ver off : Nat) : (LV.ptr id ver off).solid = true := rfl
theorem solid_iptr (cs : List IV) : (LV.iptr cs).solid = true := rfl
theorem solid_ms (id ver sz off len : Nat) : (LV.ms id ver sz off len).solid = true := rfl
theorem solid_ap (id : Nat) (rows : List (List IV)) : (LV.ap id rows).solid = true := rfl
theorem solid_clip (rows : List (List IV)) : (LV.clip rows).solid = true := rfl
theorem solid_func (f : Nat) (a b : List LV) : (LV.func f a b).solid = true := rfl
theorem strip_imm (v : IV) : (LV.imm v).strip = some v.norm := rfl
theorem strip_ap (id : Nat) (rows : List (List IV)) : (LV.ap id rows).strip = some (.sl rows) := rfl
theorem strip_clip (rows : List (List IV)) : (LV.clip rows).strip = some (.sl rows) := rfl
theorem strip_ptr (id ver off : Nat) : (LV.ptr id ver off).strip = none := rfl
theorem strip_iptr (cs : List IV) : (LV.iptr cs).strip = none := rfl
theorem strip_ms (id ver sz off len : Nat) : (LV.ms id ver sz off len).strip = none := rfl
theorem strip_func (f : Nat) (a b : List LV) : (LV.func f a b).strip = none := rfl
theorem lend_imm (ob : Nat → Option AObj) (v : IV) : lend ob (LV.imm v) = some v.norm := rfl
theorem lend_ap (ob : Nat → Option AObj) (id : Nat) (rows : List (List IV)) : lend ob (LV.ap id rows) = some (.sl rows) := rfl
theorem lend_clip (ob : Nat → Option AObj) (rows : List (List IV)) : lend ob (LV.clip rows) = some (.sl rows) := rfl
theorem lend_ptr (ob : Nat → Option AObj) (id ver off : Nat) : lend ob (LV.ptr id ver off) = none := rfl
theorem lend_iptr (ob : Nat → Option AObj) (cs : List IV) : lend ob (LV.iptr cs) = none := rfl
theorem lend_ms (ob : Nat → Option AObj) (id ver sz off len : Nat) : lend ob (LV.ms id ver sz off len) = (rowsOf ob (.ms id ver sz off len)).map .sl := rfl
theorem rowsOf_nil (ob : Nat → Option AObj) : rowsOf ob (.imm .nil) = some [] := rfl
theorem rowsOf_sl (ob : Nat → Option AObj) (rows : List (List IV)) : rowsOf ob (.imm (.sl rows)) = some rows := rfl
theorem rowsOf_ap (ob : Nat → Option AObj) (id : Nat) (rows : List (List IV)) : rowsOf ob (.ap id rows) = some rows := rfl
theorem rowsOf_clip (ob : Nat → Option AObj) (rows : List (List IV)) : rowsOf ob (.clip rows) = some rows := rfl
theorem rowsOf_ms (ob : Nat → Option AObj) (id ver sz off len : Nat) : rowsOf ob (.ms id ver sz off len) = match ob id with
    | some (.cells _ ver' cs) => if ver' = ver ∧ 0 < sz ∧ (off + len) * sz ≤ cs.length then rowsAt cs sz off len else none
    | _ => none := rfl
theorem keepLV_imm (ob : Nat → Option AObj) (kp : Nat → Bool) (v : IV) : keepLV ob kp (LV.imm v) = .imm v := rfl
theorem keepLV_ptr (ob : Nat → Option AObj) (kp : Nat → Bool) (id ver off : Nat) : keepLV ob kp (LV.ptr id ver off) = if kp id then .ptr id ver off else .dead := rfl
theorem keepLV_iptr (ob : Nat → Option AObj) (kp : Nat → Bool) (cs : List IV) : keepLV ob kp (LV.iptr cs) = .iptr cs := rfl
theorem keepLV_ap (ob : Nat → Option AObj) (kp : Nat → Bool) (id : Nat) (rows : List (List IV)) : keepLV ob kp (LV.ap id rows) = if kp id then .ap id rows else .imm (.sl rows) := rfl
theorem keepLV_clip (ob : Nat → Option AObj) (kp : Nat → Bool) (rows : List (List IV)) : keepLV ob kp (LV.clip rows) = .clip rows := rfl
theorem keepLV_ms (ob : Nat → Option AObj) (kp : Nat → Bool) (id ver sz off len : Nat) : keepLV ob kp (LV.ms id ver sz off len) = if kp id then .ms id ver sz off len else match rowsOf ob (.ms id ver sz off len) with
    | some rows => .imm (.sl rows)
    | none => .dead := rfl
theorem keepLV_func (ob : Nat → Option AObj) (kp : Nat → Bool) (f : Nat) (a b : List LV) : keepLV ob kp (LV.func f a b) = if (LV.ids.idsAll a).all kp && (LV.ids.idsAll b).all kp then .func f a b else .dead := rfl
theorem keepLV_und (ob : Nat → Option AObj) (kp : Nat → Bool) : keepLV ob kp .und = .und := rfl
theorem keepLV_dead (ob : Nat → Option AObj) (kp : Nat → Bool) : keepLV ob kp .dead = .dead := rfl

/-- A slice that append made out of nothing, of rows that may be none. -/
def nilLV (id : Nat) (rows : List (List IV)) : LV := if rows.isEmpty then .imm .nil else .ap id rows
def nilO (e sz : Nat) (rows : List (List IV)) : Option AObj := if rows.isEmpty then none else some (.tail e sz rows.length)
theorem nilLV_solid {id rows} : (nilLV id rows).solid = true := by unfold nilLV; split <;> rfl
theorem nilLV_strip {id rows} : (nilLV id rows).strip = some (.sl rows) := by
  unfold nilLV; split
  · rename_i h; rw [List.isEmpty_iff.1 h]; rfl
  · rfl
theorem nilLV_lend {ob id rows} : lend ob (nilLV id rows) = some (.sl rows) := by
  have : lend ob (nilLV id rows) = (nilLV id rows).strip := by unfold nilLV; split <;> rfl
  rw [this, nilLV_strip]
theorem nilLV_rows {ob id rows} : rowsOf ob (nilLV id rows) = some rows := by
  unfold nilLV; split
  · rename_i h; rw [List.isEmpty_iff.1 h]; rfl
  · rfl
theorem nilLV_keep {ob kp id rows} (h : kp id = true) : keepLV ob kp (nilLV id rows) = nilLV id rows := by
  unfold nilLV; split
  · rfl
  · simp only [keepLV, h, if_true]
theorem nilLV_ids {id rows} : (nilLV id rows).ids = if rows.isEmpty = true then [] else [id] := by
  unfold nilLV; split <;> rfl
theorem nilO_keep {ob kp e sz rows} : Option.map (keepObj ob kp) (nilO e sz rows) = nilO e sz rows := by
  unfold nilO; split <;> rfl
theorem appE_e {st d g e sz b} (s : LV) : appE st d g e sz b [] s = (match s with
    | .imm .nil => pureS st (some d) (some (.leaf s))
    | .clip _ => pureS st (some d) (some (.leaf s))
    | .ap _ _ => pureS st (some d) (some (.leaf s))
    | .ms _ _ _ _ _ => pureS st (some d) (some (.leaf s))
    | _ => none) := rfl
theorem appE_c {st d g e sz b r rs} {s : LV} : appE st d g e sz b (r :: rs) s = appS st d g e sz b (r :: rs) s := rfl
theorem set_same {α : Type} : ∀ {l : List α} {i : Nat} {x : α}, l[i]? = some x → l.set i x = l := by
  intro l
  induction l with
  | nil => intro i x h; simp at h
  | cons y l ih =>
    intro i x h
    cases i with
    | zero => simp at h; subst h; rfl
    | succ i => simp only [List.set_cons_succ]; rw [ih (by simpa using h)]
theorem appE_nil {st d e sz b} {new : List (List IV)} (h1 : new.length * b ≤ room) (h2 : st.objs[d]? = some none) : appE st d false e sz b new (.imm .nil) = some { tmps := st.tmps.set d (.leaf (nilLV d new)), objs := st.objs.set d (nilO e sz new) } := by
  have h3 : st.objs.getD d none = none := by rw [List.getD_eq_getElem?_getD, h2]; rfl
  have h4 : d < st.objs.length := (List.getElem?_eq_some_iff.1 h2).1
  unfold appE nilLV nilO
  cases hn : new.isEmpty with
  | true => simp only [if_true, pureS, setT]; rw [set_same h2]
  | false =>
    simp only [Bool.false_eq_true, if_false, appS, if_pos h1, h3, app1, appTail, setT]
    rw [if_pos h4]
theorem appE_ap {st d g e sz b id} {rows new : List (List IV)} (h1 : st.objs[id]? = some (some (.tail e sz rows.length))) (h2 : (rows.length + new.length) * b ≤ room) : appE st d g e sz b new (.ap id rows) = some { tmps := st.tmps.set d (.leaf (.ap id (rows ++ new))), objs := st.objs.set id (some (.tail e sz (rows.length + new.length))) } := by
  have h3 : st.objs.getD id none = some (.tail e sz rows.length) := by rw [List.getD_eq_getElem?_getD, h1]; rfl
  have h4 : id < st.objs.length := (List.getElem?_eq_some_iff.1 h1).1
  unfold appE
  cases hn : new.isEmpty with
  | true =>
    have := List.isEmpty_iff.1 hn
    subst this
    simp only [if_true, pureS, setT, List.append_nil, List.length_nil, Nat.add_zero]
    rw [set_same h1]
  | false =>
    simp only [Bool.false_eq_true, if_false, appS, h3, app2, appTail, setT]
    rw [if_pos ⟨trivial, trivial, trivial, h2⟩, if_pos h4]

theorem ord_of {ops : Array Oper} {fs : List (List Nat × List Nat)} (h : (orderOk (Region.before ops) fs && completeOk ops) = true) : Seat.Ord ops fs := h

theorem ba_loop (bs : ByteArray) : ∀ (n i : Nat) (r : List UInt8), bs.size - i = n → ByteArray.toList.loop bs i r = r.reverse ++ bs.data.toList.drop i := by
  intro n
  induction n with
  | zero =>
    intro i r h
    unfold ByteArray.toList.loop
    rw [if_neg (by omega), List.drop_eq_nil_of_le (by simpa using (show bs.size ≤ i by omega))]
    simp
  | succ n ih =>
    intro i r h
    have hi : i < bs.size := by omega
    unfold ByteArray.toList.loop
    rw [if_pos hi, ih (i + 1) _ (by omega)]
    have hi2 : i < bs.data.toList.length := by simpa using hi
    rw [List.drop_eq_getElem_cons hi2]
    have : bs.get! i = bs.data.toList[i] := by
      have h3 : i < bs.data.size := hi
      simp only [ByteArray.get!]
      rw [getElem!_pos bs.data i h3, Array.getElem_toList]
    rw [this]
    simp

theorem ba_toList (bs : ByteArray) : bs.toList = bs.data.toList := by
  unfold ByteArray.toList
  rw [ba_loop bs _ 0 [] rfl]
  simp

theorem str_beq (x y : ByteArray) : (x.toList == y.toList) = decide (x = y) := by
  rw [ba_toList, ba_toList]
  by_cases h : x = y
  · subst h; simp
  · rw [decide_eq_false h]
    cases hb : x.data.toList == y.data.toList with
    | false => rfl
    | true =>
      exfalso
      apply h
      have := eq_of_beq hb
      cases x; cases y
      simp at this
      rw [this]

theorem bq_tf : (true == false) = false := rfl
theorem bq_ft : (false == true) = false := rfl
theorem int_beq (x y : Int) : (x == y) = decide (x = y) := by
  by_cases h : x = y <;> simp [h]
theorem int_bne (x y : Int) : (x != y) = !(decide (x = y)) := by
  by_cases h : x = y <;> simp [h]

end Go.Ai
