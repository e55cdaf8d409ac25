/- Ai, part 3: what the model's operations do that change no memory: the abstract run tells their values. No condition. -/
import Derived.Test.YtbpnlbadgnjmaaaAiRel
import Derived.Tactics
namespace Go.Ai
set_option linter.unusedSimpArgs false
set_option linter.unusedVariables false

def undOk (P : Program) (t : Nat) : TK → Prop
  | .int k => P.underlying t = some (.int k)
  | .bool => P.underlying t = some .bool
  | .str => P.underlying t = some .string
  | .slice e => P.underlying t = some (.slice e)
  | .ptr => ∃ e, P.underlying t = some (.pointer e)
  | .struct fs => ∃ F : Array Field, P.underlying t = some (.struct F) ∧ F.toList.map (fun f => (f.offset, f.type)) = fs ∧ ∀ f ∈ F.toList, (P.info? f.type).isSome = true
  | .array n e => P.underlying t = some (.array n e)
  | .other => ∃ d, P.underlying t = some d ∧ match d with | .struct _ => False | .array _ _ => False | _ => True

/-- Equality of structs and arrays of plain leaves. -/
def EqOk (P : Program) (t : Nat) (zs : List IV) : Prop := ∀ (w : World) (xs ys : List Value) (ls ms : List LV) (β : Beta) (ob : Obs) (h : H) (b : Bool), PW (LVR β ob h) ls xs → PW (LVR β ob h) ms ys → likeAll zs ls = true → likeAll zs ms = true → eqLeaves ls ms = some b →
  (∀ op x y, (eqGuard op t x y (.agg xs.toArray) (.agg ys.toArray)).run P w = .ok () w) ∧ (Op.equalIn 10000 t (.agg xs.toArray) (.agg ys.toArray)).run P w = .ok b w

structure TyOk (P : Program) (t : Nat) (ty : Ty) : Prop where
  info : ∃ i z, P.info? t = some i ∧ i.size = ty.size ∧ i.bytes = ty.bytes ∧ i.zero = some z ∧ PW (IVR fun _ _ => none) ty.zero z.cells.toList ∧ z.cells.size = ty.size
  und : undOk P t ty.k
  eqs : ty.eq = true → EqOk P t ty.zero

def TOk (P : Program) (T : Nat → Option Ty) : Prop := ∀ t ty, T t = some ty → TyOk P t ty

theorem TyOk.size {P : Program} {t : Nat} {ty : Ty} (k : TyOk P t ty) (w : World) : (sizeOf t).run P w = .ok ty.size w := by
  obtain ⟨i, z, hi, hs, _⟩ := k.info
  simp [sizeOf, typeInfo, hi, hs]

theorem TyOk.isAgg {P : Program} {t : Nat} {ty : Ty} (k : TyOk P t ty) (w : World) : (isAgg t).run P w = .ok ty.k.agg w := by
  have hu := k.und
  cases hk : ty.k <;> rw [hk] at hu <;> simp only [undOk] at hu
  case ptr => obtain ⟨e, hu⟩ := hu; simp [Go.isAgg, run_underlying hu, TK.agg]
  case struct fs => obtain ⟨F, hu, _⟩ := hu; simp [Go.isAgg, run_underlying hu, TK.agg]
  case other =>
    obtain ⟨d, hu, hd⟩ := hu
    cases d <;> first | (exact hd.elim) | simp [Go.isAgg, run_underlying hu, TK.agg]
  all_goals simp [Go.isAgg, run_underlying hu, TK.agg]

/-- An operation that leaves the world alone and yields what the abstract run says. -/
def Quiet (P : Program) (o : Oper) (a : Act) (w : World) (β : Beta) (ob : Obs) (h : H) (v : AV) : Prop :=
  ∃ x, (execOp a.eval o).run P w = .ok (.value x) w ∧ AVR β ob h v x

section
variable {P : Program} {T : Nat → Option Ty} {S : Sp} {w0 : World} {h0 : H} {st : St} {a : Act} {w : World} {β : Beta} {h : H} {o : Oper}

theorem AVR.bool {ob : Obs} {b : Bool} {x : Value} (k : AVR β ob h (.leaf (.imm (.bool b))) x) : x = .bool b := by
  cases k with | leaf l x k => cases k with | imm v x k => cases k; rfl
theorem AVR.int {ob : Obs} {q : IntKind} {n : Int} {x : Value} (k : AVR β ob h (.leaf (.imm (.int q n))) x) : x = .int q n := by
  cases k with | leaf l x k => cases k with | imm v x k => cases k; rfl
theorem AVR.str {ob : Obs} {s : ByteArray} {x : Value} (k : AVR β ob h (.leaf (.imm (.str s))) x) : x = .string s := by
  cases k with | leaf l x k => cases k with | imm v x k => cases k; rfl
theorem AVR.nilv {ob : Obs} {x : Value} (k : AVR β ob h (.leaf (.imm .nil)) x) : x = .slice none 0 0 := by
  cases k with | leaf l x k => cases k with | imm v x k => cases k; rfl
theorem AVR.lv {ob : Obs} {l : LV} {x : Value} (k : AVR β ob h (.leaf l) x) : LVR β ob h l x := by
  cases k with | leaf l x k => exact k
theorem boolR {ob : Obs} (b : Bool) : AVR β ob h (boolAV b) (.bool b) := .leaf _ _ (.imm _ _ (.bool b))
theorem intR {ob : Obs} (k : IntKind) (n : Int) : AVR β ob h (intAV k n) (.int k n) := .leaf _ _ (.imm _ _ (.int k n))

theorem q_move (k : RelAt S w0 h0 st a w β h) {x : Operand} (hop : o.op = .move x ∨ o.op = .assign x) {v : AV} (hx : evalOp st.tmps x = some v) : Quiet P o a w β st.ob h v := by
  refine ⟨a.eval x, ?_, k.eval hx⟩
  rcases hop with e | e <;> simp [execOp, e]

theorem q_pick (k : RelAt S w0 h0 st a w β h) {c x y : Operand} (hop : o.op = .pick c x y) {b : Bool} {u v : AV} (hc : evalOp st.tmps c = some (.leaf (.imm (.bool b)))) (hx : evalOp st.tmps x = some u) (hy : evalOp st.tmps y = some v) :
    Quiet P o a w β st.ob h (pickAV b u v) := by
  have ec := (k.eval hc).bool
  have ex := k.eval hx
  have ey := k.eval hy
  refine ⟨if b then a.eval x else a.eval y, ?_, ?_⟩
  · simp [execOp, hop, ec, asBool]
  · unfold pickAV
    split
    · have e1 := ex.bool
      have e2 := ey.bool
      rw [e1, e2]
      cases b <;> exact boolR _
    · cases b
      · exact ey
      · exact ex

theorem q_un (k : RelAt S w0 h0 st a w β h) {op : UnOp} {t : Nat} {x : Operand} (hop : o.op = .unOp op t x) {u v : AV} (hx : evalOp st.tmps x = some u) (he : unAV op u = some v) : Quiet P o a w β st.ob h v := by
  have ex := k.eval hx
  unfold unAV at he
  split at he
  · injection he with he; subst he
    have e1 := ex.int
    refine ⟨_, ?_, intR _ _⟩
    simp [execOp, hop, e1, Op.unary, Op.intArith]
  · rename_i q n
    have e1 := (k.eval hx).int
    simp only [bitsOp, Option.map_some] at he
    injection he with he; subst he
    refine ⟨_, ?_, intR _ _⟩
    simp [execOp, hop, e1, Op.unary, Op.intBits]
  · injection he with he; subst he
    have e1 := (k.eval hx).bool
    refine ⟨_, ?_, boolR _⟩
    simp [execOp, hop, e1, Op.unary]
  · cases he

theorem shift_run (op : BinOp) (hop : op = .shl ∨ op = .shr) {q q' : IntKind} {m n : Int} {v : AV} (he : shiftBin op q m n = some v) : ∃ x, (Op.shift op q m q' n).run P w = .ok x w ∧ ∀ ob, AVR β ob h v x := by
  unfold shiftBin at he
  split at he
  · cases he
  · rename_i hn
    rcases hop with rfl | rfl <;> (injection he with he; subst he; exact ⟨_, by simp [Op.shift, hn], fun ob => intR _ _⟩)

theorem intBin_run (op : BinOp) {t : Nat} {q : IntKind} {m n : Int} {v : AV} (he : intBin op q m n = some v) : ∃ x, (binOp op t (.int q m) (.int q n)).run P w = .ok x w ∧ ∀ ob, AVR β ob h v x := by
  cases op <;> simp only [intBin, bitsOp, Option.map_some, Option.map_none] at he
  case add | sub | mul => injection he with he; subst he; refine ⟨_, ?_, fun ob => intR _ _⟩; simp [binOp, Op.intArith]
  case eql | neq | lss | leq | gtr | geq => injection he with he; subst he; refine ⟨_, ?_, fun ob => boolR _⟩; simp [binOp, Op.intCmp]
  case quo | rem =>
    split at he
    · cases he
    · rename_i hn
      injection he with he; subst he
      refine ⟨_, ?_, fun ob => intR _ _⟩
      simp [binOp, Op.intDiv, hn]
  case and | or | xor | andNot =>
    injection he with he; subst he
    refine ⟨_, ?_, fun ob => intR _ _⟩
    simp only [binOp, ne_eq, not_true_eq_false, if_false]
    rfl
  all_goals (first | cases he | trivial)

theorem strBin_run (op : BinOp) {t : Nat} {m n : ByteArray} {v : AV} (he : strBin op m n = some v) : ∃ x, (binOp op t (.string m) (.string n)).run P w = .ok x w ∧ ∀ ob, AVR β ob h v x := by
  cases op <;> simp only [strBin] at he
  case add =>
    split at he
    · rename_i hn
      injection he with he; subst he
      refine ⟨.string (m ++ n), ?_, fun ob => .leaf _ _ (.imm _ _ (.str _))⟩
      have : ¬ (((m.size + n.size : Nat) : Int) > IntKind.i64.max) := by
        have e : IntKind.i64.max = 9223372036854775807 := by rfl
        rw [e]
        simp only [room] at hn
        omega
      simp only [binOp, Op.stringOp]
      rw [if_neg this]
      simp
    · cases he
  case eql | neq | lss | leq | gtr | geq => injection he with he; subst he; refine ⟨_, ?_, fun ob => boolR _⟩; simp [binOp, Op.stringOp]
  all_goals (first | cases he | trivial)

theorem isNil_run {ob : Obs} {l : LV} {x : Value} {b : Bool} (k : LVR β ob h l x) (he : isNil l = some b) : ∃ A n c, x = .slice A n c ∧ (A.isNone = b) := by
  unfold isNil at he
  split at he
  · injection he with he; subst he
    cases k with | imm v x k => cases k; exact ⟨none, 0, 0, rfl, rfl⟩
  · injection he with he; subst he
    cases k with | imm v x k => cases k with | sl rows b o n c sz vals => exact ⟨_, _, _, rfl, rfl⟩
  · injection he with he; subst he
    cases k with | ap id rows x ty sz n k => cases k with | sl rows b o n c sz vals => exact ⟨_, _, _, rfl, rfl⟩
  · injection he with he; subst he
    cases k with | clip rows A k => cases k with | sl rows b o n c sz vals => exact ⟨_, _, _, rfl, rfl⟩
  · cases he

theorem equalIn_nil {t e : Nat} (ht : P.underlying t = some (.slice e)) (d : Nat) (A : Option Addr) (n c : Nat) :
    (Op.equalIn (d + 1) t (.slice A n c) (.slice none 0 0)).run P w = .ok A.isNone w ∧ (Op.equalIn (d + 1) t (.slice none 0 0) (.slice A n c)).run P w = .ok A.isNone w := by
  cases A <;> simp [Op.equalIn, run_underlying ht]

/-- A slice against nil: the type is asked. -/
theorem nil_run {t : Nat} {e : Nat} (ht : P.underlying t = some (.slice e)) {ob : Obs} {l : LV} {x y : Value} {b : Bool} (k : LVR β ob h l x) (hy : y = .slice none 0 0) (he : isNil l = some b) :
    (binOp .eql t x y).run P w = .ok (.bool b) w ∧ (binOp .eql t y x).run P w = .ok (.bool b) w ∧ (binOp .neq t x y).run P w = .ok (.bool (!b)) w ∧ (binOp .neq t y x).run P w = .ok (.bool (!b)) w := by
  obtain ⟨A, n, c, rfl, rfl⟩ := isNil_run k he
  subst hy
  have h1 := (equalIn_nil (P := P) (w := w) ht 9999 A n c).1
  have h2 := (equalIn_nil (P := P) (w := w) ht 9999 A n c).2
  refine ⟨?_, ?_, ?_, ?_⟩ <;> simp only [binOp, Op.equal, Op.maxDepth, Sem.run_bind, h1, h2, Result.andThen_ok, Sem.run_pure]

theorem q_extract (k : RelAt S w0 h0 st a w β h) {x : Operand} {i : Nat} (hop : o.op = .extract x i) {vs : List AV} {v : AV} (hx : evalOp st.tmps x = some (.tup vs)) (he : vs[i]? = some v) : Quiet P o a w β st.ob h v := by
  have ex := k.eval hx
  generalize hax : a.eval x = y at ex
  cases ex with
  | tup vs xs hl kk =>
    have hi : i < xs.length := hl ▸ (List.getElem?_eq_some_iff.1 he).1
    refine ⟨xs[i], ?_, kk i v _ he (List.getElem?_eq_getElem hi)⟩
    simp [execOp, hop, hax, Instr.extract, hi]

theorem q_nilCheck (k : RelAt S w0 h0 st a w β h) {x : Operand} (hop : o.op = .nilCheck x) {l : LV} (hx : evalOp st.tmps x = some (.leaf l)) (hl : (∃ id ver off, l = .ptr id ver off) ∨ (∃ cs, l = .iptr cs) ∨ ∃ f p q, l = .func f p q) : Quiet P o a w β st.ob h (.leaf l) := by
  have ex := k.eval hx
  have el := ex.lv
  refine ⟨a.eval x, ?_, ex⟩
  rcases hl with ⟨id, ver, off, rfl⟩ | ⟨cs, rfl⟩ | ⟨f, p, q, rfl⟩ <;>
  · generalize hax : a.eval x = y at el
    cases el
    simp [execOp, hop, hax]

theorem q_conv_int (hT : TOk P T) (k : RelAt S w0 h0 st a w β h) {x : Operand} {s d : Nat} (hop : o.op = .convert s d x) {q q' : IntKind} {n : Int} {ts td : Ty} (hx : evalOp st.tmps x = some (.leaf (.imm (.int q' n)))) (hs : T s = some ts) (hd : T d = some td) (hk : td.k = .int q) :
    Quiet P o a w β st.ob h (intAV q (q.wrap n)) := by
  have e1 := (k.eval hx).int
  have hu := (hT d td hd).und
  rw [hk] at hu
  have hu : P.underlying d = some (.int q) := hu
  obtain ⟨u, hsu⟩ : ∃ u, P.underlying s = some u := by
    have hv := (hT s ts hs).und
    cases hks : ts.k <;> rw [hks] at hv <;> simp only [undOk] at hv
    case ptr => obtain ⟨e, hv⟩ := hv; exact ⟨_, hv⟩
    case struct => obtain ⟨e, hv, _⟩ := hv; exact ⟨_, hv⟩
    case other => obtain ⟨e, hv, _⟩ := hv; exact ⟨_, hv⟩
    all_goals exact ⟨_, hv⟩
  refine ⟨_, ?_, intR _ _⟩
  simp [execOp, hop, e1, convert, run_underlying hu, run_underlying hsu, Conv.intToInt]

end
end Go.Ai
