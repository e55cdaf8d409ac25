/- Ai, part 27: the abstract run as rules for rewriting. No condition. -/
import Derived.Test.YtbpnlbadgnjmaaaAiWp
namespace Go.Ai
set_option linter.unusedSimpArgs false
set_option linter.unusedVariables false
set_option linter.constructorNameAsVariable false

def setT (tmps : List AV) : Option Nat → AV → List AV
  | some d, v => tmps.set d v
  | none, _ => tmps

/-- A step that changes no object. -/
def pureS (st : St) (d : Option Nat) : Option AV → Option St
  | some v => some { tmps := setT st.tmps d v, objs := st.objs }
  | none => none

def stepU (T : Nat → Option Ty) (E : Env) (st : St) (d : Option Nat) (op : Op) : Option St :=
  match exec T E (evalOp st.tmps) (fetch ((if looksOp op then idsOf (evalOp st.tmps) op.operands.toList else []) ++ d.toList) st.ob) (d.getD st.objs.length) op with
    | some (v, u) => if u.all (fun p => decide (p.1 < st.objs.length)) && u.all (fun p => ((if looksOp op then idsOf (evalOp st.tmps) op.operands.toList else []) ++ d.toList).contains p.1) then some (st.put d v u) else none
    | none => none

def guardK (st : St) (d : Option Nat) (x : Option St) : Option Bool → Option St
  | some true => x
  | some false => some { tmps := setT st.tmps d (.leaf .und), objs := st.objs }
  | none => none

section
variable {T : Nat → Option Ty} {E : Env} {st : St} {d : Option Nat}

theorem put_setT (v : AV) : st.put d v [] = { tmps := setT st.tmps d v, objs := st.objs } := by
  cases d <;> rfl

theorem s_step {ops : List Oper} {op : Op} {ty : TypeId} {pos : String} {af : Array Edge} {g : Option (Nat × Bool)} :
    stepOp T E ops st { dst := d, op := op, type := ty, pos := pos, after := af, guard := g } = guardK st d (stepU T E st d op) (guardOf ops st.tmps g) := by
  unfold stepOp guardK
  cases h : guardOf ops st.tmps g with
  | none => rfl
  | some b => cases b with
    | true => rfl
    | false => simp only [put_setT]
theorem s_guard_true (x : Option St) : guardK st d x (some true) = x := rfl
theorem s_guard_false (x : Option St) : guardK st d x (some false) = some { tmps := setT st.tmps d (.leaf .und), objs := st.objs } := rfl
theorem s_pure (v : AV) : pureS st d (some v) = some { tmps := setT st.tmps d v, objs := st.objs } := rfl
theorem s_setT (l : List AV) (n : Nat) (v : AV) : setT l (some n) v = l.set n v := rfl
theorem s_setN (l : List AV) (v : AV) : setT l none v = l := rfl

theorem stepU_pure {op : Op} {r : Option AV} (h : ∀ ob d', exec T E (evalOp st.tmps) ob d' op = r.map fun v => (v, [])) : stepU T E st d op = pureS st d r := by
  unfold stepU
  rw [h]
  cases r with
  | none => rfl
  | some v => simp only [Option.map_some, List.all_nil, Bool.and_self, if_true, put_setT, pureS]

theorem s_move {x} : stepU T E st d (.move x) = pureS st d (evalOp st.tmps x) := stepU_pure fun ob d' => rfl
theorem s_assign {x} : stepU T E st d (.assign x) = pureS st d (evalOp st.tmps x) := stepU_pure fun ob d' => rfl

def pickK : Option AV → Option AV → Option AV → Option AV
  | some (.leaf (.imm (.bool c))), some x, some y => some (pickAV c x y)
  | _, _, _ => none
theorem s_pick {c a b} : stepU T E st d (.pick c a b) = pureS st d (pickK (evalOp st.tmps c) (evalOp st.tmps a) (evalOp st.tmps b)) := by
  refine stepU_pure fun ob d' => ?_
  simp only [exec]
  unfold pickK
  split <;> simp_all

def binK (T : Nat → Option Ty) (op : BinOp) (t : Nat) : Option AV → Option AV → Option AV
  | some a, some b => match binAV op a b with
    | some v => some v
    | none => match T t with
      | some ty => cmpAV ty op a b
      | none => none
  | _, _ => none
theorem s_bin {op t x y u} : stepU T E st d (.binOp op t x y u) = pureS st d (binK T op t (evalOp st.tmps x) (evalOp st.tmps y)) := by
  refine stepU_pure fun ob d' => ?_
  simp only [exec]
  unfold binK
  cases h1 : evalOp st.tmps x with
  | none => rfl
  | some a => cases h2 : evalOp st.tmps y with
    | none => rfl
    | some b =>
      simp only
      cases h3 : binAV op a b with
      | some v => rfl
      | none => cases T t <;> rfl

theorem s_un {op t x} : stepU T E st d (.unOp op t x) = pureS st d ((evalOp st.tmps x).bind (unAV op)) := by
  refine stepU_pure fun ob d' => ?_
  simp only [exec]
  cases h1 : evalOp st.tmps x <;> rfl

def extractK (i : Nat) : Option AV → Option AV
  | some (.tup vs) => vs[i]?
  | _ => none
theorem s_extract {x i} : stepU T E st d (.extract x i) = pureS st d (extractK i (evalOp st.tmps x)) := by
  refine stepU_pure fun ob d' => ?_
  simp only [exec]
  unfold extractK
  split <;> simp_all

def fieldAddrK (T : Nat → Option Ty) (f : Nat) : Option AV → Option Ty → Option AV
  | some (.leaf (.ptr id ver off)), some { k := .struct fs, .. } => match fs[f]? with
    | some (o, ft) => match T ft with
      | some tf => if 0 < tf.size then some (.leaf (.ptr id ver (off + o))) else none
      | none => none
    | none => none
  | some (.leaf (.iptr cs)), some { k := .struct fs, .. } => match fs[f]? with
    | some (o, ft) => match T ft with
      | some tf => if 0 < tf.size then some (.leaf (.iptr (cs.drop o))) else none
      | none => none
    | none => none
  | _, _ => none
theorem s_fieldAddr {s x f} : stepU T E st d (.fieldAddr s x f) = pureS st d (fieldAddrK T f (evalOp st.tmps x) (T s)) := by
  refine stepU_pure fun ob d' => ?_
  simp only [exec]
  unfold fieldAddrK
  generalize evalOp st.tmps x = a
  generalize T s = b
  split
  · rename_i id ver off fs _ _ _ _
    simp only
    cases hf : fs[f]? with
    | none => rfl
    | some p =>
      obtain ⟨o, ft⟩ := p
      simp only
      cases hT : T ft with
      | none => rfl
      | some tf => simp only; split <;> rfl
  · rename_i cs fs _ _ _ _
    simp only
    cases hf : fs[f]? with
    | none => rfl
    | some p =>
      obtain ⟨o, ft⟩ := p
      simp only
      cases hT : T ft with
      | none => rfl
      | some tf => simp only; split <;> rfl
  · split <;> first | rfl | grind

def fieldK (T : Nat → Option Ty) (f : Nat) : Option AV → Option Ty → Option AV
  | some (.agg ls), some { k := .struct fs, .. } => match fs[f]? with
    | some (o, ft) => match T ft with
      | some tf => if o + tf.size ≤ ls.length then mkAV tf.k.agg ((ls.drop o).take tf.size) else none
      | none => none
    | none => none
  | _, _ => none
theorem s_field {s x f} : stepU T E st d (.field s x f) = pureS st d (fieldK T f (evalOp st.tmps x) (T s)) := by
  refine stepU_pure fun ob d' => ?_
  simp only [exec]
  unfold fieldK
  generalize evalOp st.tmps x = a
  generalize T s = b
  split
  · rename_i ls fs _ _ _ _
    simp only
    cases hf : fs[f]? with
    | none => rfl
    | some p =>
      obtain ⟨o, ft⟩ := p
      simp only
      cases hT : T ft with
      | none => rfl
      | some tf => simp only; split <;> rfl
  · split <;> first | rfl | grind

def elemK (te : Option Ty) (rows : Option (List (List IV))) (n : Int) : Option AV :=
  match te, rows with
  | some te, some rows => indexRow rows n te.size
  | _, _ => none

def indexAddrK (T : Nat → Option Ty) : Option AV → Option AV → Option Ty → Option AV
  | some (.leaf (.ms id ver sz off len)), some (.leaf (.imm (.int _ n))), some { k := .slice e, .. } => match T e with
    | some te => if 0 ≤ n ∧ n < len ∧ te.size = sz then some (.leaf (.ptr id ver ((off + n.toNat) * sz))) else none
    | none => none
  | some (.leaf (.ptr id ver off)), some (.leaf (.imm (.int _ n))), some { k := .array m e, .. } => match T e with
    | some te => if 0 ≤ n ∧ n < m then some (.leaf (.ptr id ver (off + n.toNat * te.size))) else none
    | none => none
  | some (.leaf (.iptr cs)), some (.leaf (.imm (.int _ n))), some { k := .array m e, .. } => match T e with
    | some te => if 0 ≤ n ∧ n < m then some (.leaf (.iptr (cs.drop (n.toNat * te.size)))) else none
    | none => none
  | some (.leaf l), some (.leaf (.imm (.int _ n))), some { k := .slice e, .. } => elemK (T e) (rowsOf (fun _ => none) l) n
  | _, _, _ => none
theorem s_indexAddr {s x i} : stepU T E st d (.indexAddr s x i) = pureS st d (indexAddrK T (evalOp st.tmps x) (evalOp st.tmps i) (T s)) := by
  refine stepU_pure fun ob d' => ?_
  simp only [exec]
  unfold indexAddrK
  generalize evalOp st.tmps x = a
  generalize evalOp st.tmps i = c
  generalize T s = b
  split
  · rename_i id ver sz off len _ n e _ _ _ _
    simp only
    cases hT : T e with
    | none => rfl
    | some te => simp only; split <;> rfl
  · rename_i id ver off _ n m e _ _ _ _
    simp only
    cases hT : T e with
    | none => rfl
    | some te => simp only; split <;> rfl
  · rename_i cs _ n m e _ _ _ _
    simp only
    cases hT : T e with
    | none => rfl
    | some te => simp only; split <;> rfl
  · rename_i l _ n e _ _ _ _ h4
    have fin : (match T e, rowsOf (fun _ => none) l with
      | some te, some rows => Option.map (fun v => (v, ([] : Upd))) (indexRow rows n te.size)
      | _, _ => none) = Option.map (fun v => (v, [])) (elemK (T e) (rowsOf (fun _ => none) l) n) := by
      unfold elemK
      cases hT : T e with
      | none => rfl
      | some te =>
        cases hr : rowsOf (fun _ => none) l with
        | none => rfl
        | some rows => rfl
    cases l with
    | ms id ver sz off len => exact (h4 id ver sz off len rfl).elim
    | _ => exact fin
  · split <;> first | rfl | grind

def indexK (T : Nat → Option Ty) : Option AV → Option AV → Option Ty → Option AV
  | some (.leaf (.imm (.str s))), some (.leaf (.imm (.int _ n))), some { k := .str, .. } =>
      if 0 ≤ n then (s.data.toList[n.toNat]?).map fun b => intAV .u8 b.toNat else none
  | some (.agg ls), some (.leaf (.imm (.int _ n))), some { k := .array m e, .. } => match T e with
      | some te => if 0 ≤ n ∧ n < m ∧ n.toNat * te.size + te.size ≤ ls.length then mkAV te.k.agg ((ls.drop (n.toNat * te.size)).take te.size) else none
      | none => none
  | _, _, _ => none
theorem s_index {s x i} : stepU T E st d (.index s x i) = pureS st d (indexK T (evalOp st.tmps x) (evalOp st.tmps i) (T s)) := by
  refine stepU_pure fun ob d' => ?_
  simp only [exec]
  unfold indexK
  generalize evalOp st.tmps x = a
  generalize evalOp st.tmps i = c
  generalize T s = b
  split
  · simp only
    split
    · simp only [Option.map_map]; rfl
    · rfl
  · rename_i ls _ n m e _ _ _ _
    simp only
    cases hT : T e with
    | none => rfl
    | some te => simp only; split <;> rfl
  · split <;> first | rfl | grind

def sliceStrK (T : Nat → Option Ty) (v : Option AV) (lo hi mx : Option (Option Int)) (t : Option Ty) : Option AV :=
  match v, lo, hi, mx, t with
    | some (.leaf (.imm (.str s))), some lo, some hi, some none, some { k := .str, .. } => sliceStr s lo hi
    | some (.leaf (.ms id ver sz off len)), some lo, some hi, some mx, some { k := .slice e, .. } => match T e with
      | some te => if te.size = sz then sliceMs id ver sz off len lo hi mx else none
      | none => none
    | some (.leaf x), some lo, some hi, some mx, some { k := .slice e, .. } => match T e, rowsOf (fun _ => none) x with
      | some te, some rows => sliceRows x rows te.size lo hi mx
      | _, _ => none
    | _, _, _, _, _ => none
theorem s_slice {t x lo hi mx} : stepU T E st d (.slice t x lo hi mx) = pureS st d (sliceStrK T (evalOp st.tmps x) (optEval (evalOp st.tmps) lo) (optEval (evalOp st.tmps) hi) (optEval (evalOp st.tmps) mx) (T t)) := by
  refine stepU_pure fun ob d' => ?_
  simp only [exec]
  unfold sliceStrK
  generalize evalOp st.tmps x = a
  generalize optEval (evalOp st.tmps) lo = b
  generalize optEval (evalOp st.tmps) hi = c
  generalize optEval (evalOp st.tmps) mx = e
  generalize T t = f
  split
  · rfl
  · rename_i id ver sz off len _ _ _ e _ _ _ _
    simp only
    cases hT : T e with
    | none => rfl
    | some te => simp only; split <;> rfl
  · rename_i l _ _ _ e _ _ _ _ h4
    have fin : ∀ lo hi mx, (match T e, rowsOf (fun _ => none) l with
      | some te, some rows => Option.map (fun v => (v, ([] : Upd))) (sliceRows l rows te.size lo hi mx)
      | _, _ => none) = Option.map (fun v => (v, [])) (match T e, rowsOf (fun _ => none) l with
      | some te, some rows => sliceRows l rows te.size lo hi mx
      | _, _ => none) := by
      intro lo hi mx
      cases hT : T e with
      | none => rfl
      | some te =>
        cases hr : rowsOf (fun _ => none) l with
        | none => rfl
        | some rows => rfl
    cases l with
    | ms id ver sz off len => exact (h4 id ver sz off len rfl).elim
    | imm v => cases v <;> first | exact fin _ _ _ | (cases T e <;> (simp only [rowsOf]; split <;> first | rfl | grind))
    | _ => exact fin _ _ _
  · split <;> first | rfl | grind

/-- The parts of a struct or of a slice's array, one after another. -/
def evalParts (tmps : List AV) : List (Nat × Operand) → List (Nat × Option AV)
  | [] => []
  | p :: r => (p.1, evalOp tmps p.2) :: evalParts tmps r
theorem evalParts_eq (tmps : List AV) (l : List (Nat × Operand)) : evalParts tmps l = l.map fun p => (p.1, evalOp tmps p.2) := by
  induction l with
  | nil => rfl
  | cons p r ih => simp [evalParts, ih]
def aggK : Option (List LV) → Option AV
  | some ls => some (.agg ls)
  | none => none
def buildK (T : Nat → Option Ty) (parts : List (Nat × Option AV)) : Option Ty → Option AV
  | some { k := .struct fs, zero, .. } => aggK (fillAV (fieldAt T fs) (zero.map .imm) parts)
  | some { k := .array _ e, zero, .. } => match T e with
    | some te => aggK (fillAV (fun i => some (i * te.size, te.size)) (zero.map .imm) parts)
    | none => none
  | _ => none
theorem s_build {t parts} : stepU T E st d (.build t parts) = pureS st d (buildK T (evalParts st.tmps parts.toList) (T t)) := by
  refine stepU_pure fun ob d' => ?_
  simp only [exec, evalParts_eq]
  have m : ∀ x : Option (List LV), Option.map (fun ls => (AV.agg ls, ([] : Upd))) x = Option.map (fun v => (v, [])) (aggK x) := fun x => by cases x <;> rfl
  unfold buildK
  generalize T t = b
  split
  · exact m _
  · rename_i n e zero _ _ _
    simp only
    cases hT : T e with
    | none => rfl
    | some te => exact m _
  · split <;> first | rfl | grind
def clipK : Option (List (List IV)) → Option AV
  | some rows => some (.leaf (.clip rows))
  | none => none
def rowsK (sz len : Nat) : Option (List LV) → Option (List (List IV))
  | some ls => rowsAt ls sz 0 len
  | none => none
def buildSliceK (T : Nat → Option Ty) (len : Nat) (parts : List (Nat × Option AV)) : Option Ty → Option AV
  | some { k := .slice e, .. } => match T e with
    | some te => if len * te.size ≤ 16777216 ∧ 0 < te.size then clipK (rowsK te.size len (fillAV (fun i => some (i * te.size, te.size)) ((List.replicate len (te.zero.map LV.imm)).flatten) parts)) else none
    | none => none
  | _ => none
theorem s_buildSlice {t len parts} : stepU T E st d (.buildSlice t len parts) = pureS st d (buildSliceK T len (evalParts st.tmps parts.toList) (T t)) := by
  refine stepU_pure fun ob d' => ?_
  simp only [exec, evalParts_eq]
  unfold buildSliceK
  generalize T t = b
  split
  · rename_i e zero _ _ _
    simp only
    cases hT : T e with
    | none => rfl
    | some te =>
      simp only
      split
      · cases fillAV (fun i => some (i * te.size, te.size)) ((List.replicate len (te.zero.map LV.imm)).flatten) (parts.toList.map fun p => (p.1, evalOp st.tmps p.2)) with
        | none => rfl
        | some ls =>
          simp only [rowsK]
          cases rowsAt ls te.size 0 len <;> rfl
      · rfl
  · split <;> first | rfl | grind

theorem fetch_hd {ids : List Nat} {ob : Nat → Option AObj} {i : Nat} (h : i ∈ ids) : fetch ids ob i = ob i := if_pos h

/-- A load out of a box. -/
def loadC (ty : Ty) (ver off : Nat) : Option AObj → Option AV
  | some (.cells _ ver' cs) => if ver' = ver ∧ off + ty.size ≤ cs.length then mkAV ty.k.agg ((cs.drop off).take ty.size) else none
  | _ => none
def loadK (objs : List (Option AObj)) : Option AV → Option Ty → Option AV
  | some (.leaf (.ptr id ver off)), some ty => loadC ty ver off (objs.getD id none)
  | some (.leaf (.iptr cs)), some ty => if ty.size ≤ cs.length then mkAV ty.k.agg ((cs.take ty.size).map .imm) else none
  | _, _ => none
theorem ob_getD (i : Nat) : st.ob i = st.objs.getD i none := by simp [St.ob, List.getD]
theorem s_load {t a} : stepU T E st d (.load t a) = pureS st d (loadK st.objs (evalOp st.tmps a) (T t)) := by
  unfold stepU
  have key : exec T E (evalOp st.tmps) (fetch ((if looksOp (.load t a) then idsOf (evalOp st.tmps) (Op.load t a).operands.toList else []) ++ d.toList) st.ob) (d.getD st.objs.length) (.load t a) = (loadK st.objs (evalOp st.tmps a) (T t)).map fun v => (v, []) := by
    simp only [exec]
    unfold loadK
    generalize hA : evalOp st.tmps a = A
    generalize T t = B
    split
    · rename_i id ver off ty
      rw [fetch_hd (by simp [looksOp, Op.operands, idsOf, hA, AV.ids, LV.ids]), ob_getD]
      simp only
      unfold loadC
      generalize st.objs.getD id none = o
      split
      · simp only; split <;> rfl
      · split <;> first | rfl | grind
    · simp only; split <;> rfl
    · split <;> first | rfl | grind
  rw [key]
  cases loadK st.objs (evalOp st.tmps a) (T t) with
  | none => rfl
  | some v => simp only [Option.map_some, List.all_nil, Bool.and_self, if_true, put_setT, pureS]

def setO (objs : List (Option AObj)) (i : Nat) (o : AObj) : List (Option AObj) := objs.set i (some o)
def storeK (st : St) (d : Option Nat) (sz : Nat) (id ver off : Nat) (ls : List LV) : Option AObj → Option St
  | some (.cells ct ver' cs) => if ver' = ver ∧ ls.length = sz ∧ 0 < sz ∧ off + sz ≤ cs.length ∧ ls.all LV.solid = true ∧ id < st.objs.length then some { tmps := setT st.tmps d (.leaf .und), objs := st.objs.set id (some (.cells ct ver (setRange cs off ls))) } else none
  | _ => none
def storeS (st : St) (d : Option Nat) : Option AV → Option AV → Option Ty → Option St
  | some (.leaf (.ptr id ver off)), some v, some ty => storeK st d ty.size id ver off v.leaves (st.objs.getD id none)
  | _, _, _ => none
theorem s_store {t a x} : stepU T E st d (.store t a x) = storeS st d (evalOp st.tmps a) (evalOp st.tmps x) (T t) := by
  unfold stepU
  simp only [exec]
  unfold storeS
  generalize hA : evalOp st.tmps a = A
  generalize evalOp st.tmps x = X
  generalize T t = B
  by_cases hc : ∃ id ver off v ty, A = some (.leaf (.ptr id ver off)) ∧ X = some v ∧ B = some ty
  · obtain ⟨id, ver, off, v, ty, rfl, rfl, rfl⟩ := hc
    have hm : id ∈ (if looksOp (.store t a x) then idsOf (evalOp st.tmps) (Op.store t a x).operands.toList else []) ++ d.toList := by simp [looksOp, Op.operands, idsOf, hA, AV.ids, LV.ids]
    simp only
    rw [fetch_hd hm, ob_getD]
    unfold storeK
    cases ho : st.objs.getD id none with
    | none => rfl
    | some o =>
      cases o with
      | tail _ _ _ => rfl
      | cells ct ver' cs =>
        simp only
        by_cases hq : ver' = ver ∧ v.leaves.length = ty.size ∧ 0 < ty.size ∧ off + ty.size ≤ cs.length ∧ v.leaves.all LV.solid = true
        · rw [if_pos hq]
          simp only
          have hm2 : id ∈ idsOf (evalOp st.tmps) (Op.store t a x).operands.toList ∨ id ∈ d.toList := by simpa [looksOp] using hm
          by_cases hl : id < st.objs.length
          · rw [if_pos (show ver' = ver ∧ v.leaves.length = ty.size ∧ 0 < ty.size ∧ off + ty.size ≤ cs.length ∧ v.leaves.all LV.solid = true ∧ id < st.objs.length from ⟨hq.1, hq.2.1, hq.2.2.1, hq.2.2.2.1, hq.2.2.2.2, hl⟩), if_pos (by simpa [hl, looksOp] using hm2)]
            cases d <;> rfl
          · rw [if_neg (show ¬ (ver' = ver ∧ v.leaves.length = ty.size ∧ 0 < ty.size ∧ off + ty.size ≤ cs.length ∧ v.leaves.all LV.solid = true ∧ id < st.objs.length) from fun q => hl q.2.2.2.2.2), if_neg (by simp [hl])]
        · rw [if_neg hq, if_neg (show ¬ (ver' = ver ∧ v.leaves.length = ty.size ∧ 0 < ty.size ∧ off + ty.size ≤ cs.length ∧ v.leaves.all LV.solid = true ∧ id < st.objs.length) from fun q => hq ⟨q.1, q.2.1, q.2.2.1, q.2.2.2.1, q.2.2.2.2.1⟩)]
  · clear hA
    cases A with
    | none => rfl
    | some v => cases v with
      | agg _ => rfl
      | tup _ => rfl
      | leaf l => cases l with
        | ptr id ver off => cases X with
          | none => rfl
          | some v => cases B with
            | none => rfl
            | some ty => exact (hc ⟨_, _, _, _, _, rfl, rfl, rfl⟩).elim
        | _ => rfl

def allocK (st : St) (d : Nat) (t : Nat) (ls : List LV) : Option AObj → Option St
  | none => if d < st.objs.length then some { tmps := st.tmps.set d (.leaf (.ptr d 0 0)), objs := st.objs.set d (some (.cells t 0 ls)) } else none
  | some _ => none
def allocS (st : St) (d t : Nat) : Option Ty → Option St
  | some ty => allocK st d t (ty.zero.map .imm) (st.objs.getD d none)
  | none => none
theorem s_alloc {d t : Nat} : stepU T E st (some d) (.alloc t) = allocS st d t (T t) := by
  unfold stepU
  simp only [exec, allocS, Option.getD_some]
  rw [fetch_hd (by simp), ob_getD]
  cases hT : T t with
  | none => rfl
  | some ty =>
    cases ho : st.objs.getD d none with
    | some o => rfl
    | none =>
      simp only [allocK]
      by_cases hl : d < st.objs.length
      · rw [if_pos hl, if_pos (by simp [hl])]; rfl
      · rw [if_neg hl, if_neg (by simp [hl])]

def boxS (st : St) (d t : Nat) : Option AV → Option Ty → Option St
  | some v, some ty => if v.leaves.length = ty.size ∧ 0 < ty.size ∧ v.leaves.all LV.solid = true then allocK st d t v.leaves (st.objs.getD d none) else none
  | _, _ => none
theorem s_box {d t : Nat} {x} : stepU T E st (some d) (.box t x) = boxS st d t (evalOp st.tmps x) (T t) := by
  unfold stepU
  simp only [exec, boxS, Option.getD_some]
  rw [fetch_hd (by simp), ob_getD]
  cases hx : evalOp st.tmps x with
  | none => rfl
  | some v =>
    cases hT : T t with
    | none => rfl
    | some ty =>
      cases ho : st.objs.getD d none with
      | some o => simp only; split <;> rfl
      | none =>
        simp only [allocK]
        split
        · rename_i v u he
          split at he
          · rename_i hc
            injection he with he; injection he with he1 he2; subst he1; subst he2
            rw [if_pos hc]
            by_cases hl : d < st.objs.length
            · rw [if_pos hl, if_pos (by simp [hl])]; rfl
            · rw [if_neg hl, if_neg (by simp [hl])]
          · cases he
        · rename_i he
          split at he
          · cases he
          · rename_i hc; rw [if_neg hc]

def lenK (T : Nat → Option Ty) : Option (List AV) → List Nat → Option AV
  | some args, tys => match args, tys with
    | [.leaf (.imm (.str s))], [t] => match T t with
          | some { k := .str, .. } => lenAV (.leaf (.imm (.str s)))
          | _ => none
    | [x], [t] => match T t with
          | some { k := .slice _, .. } => lenAV x
          | _ => none
    | _, _ => none
  | none, _ => none
def minK (mx : Bool) : Option (List AV) → Option AV
  | some (x :: r) => minAll mx x r
  | _ => none
def nilK : Option AV → Option AV
  | some (.leaf (.ptr id ver off)) => some (.leaf (.ptr id ver off))
  | some (.leaf (.iptr cs)) => some (.leaf (.iptr cs))
  | some (.leaf (.func f a b)) => some (.leaf (.func f a b))
  | _ => none
def funcK (f : Nat) : Option (List AV) → Option (List AV) → Option AV
  | some xs, some ys => match leafs xs, leafs ys with
    | some xs, some ys => some (.leaf (.func f xs ys))
    | _, _ => none
  | _, _ => none
def plainK : Option AV → Option AV
  | some r => if r.plain then some r else none
  | none => none
noncomputable def callQ (s : Seat) (g : Nat) (ps : Option (List AV)) : Option AV :=
  match ps with
  | some ps => plainK (s.fn g ps)
  | none => none
noncomputable def callP (s : Seat) (st : St) (g : Nat) (l : List AV) : Option (List AV) → Option AV
  | some ps => s.fn g ps
  | none => callQ s g (lendArgs st.ob l)
noncomputable def callS (s : Seat) (st : St) (d : Option Nat) (g : Nat) : Option (List AV) → Option St
  | some l => pureS st d (callP s st g l (stripArgs l))
  | none => none

theorem s_len {as tys} : stepU T E st d (.call ⟨.builtin .len, as, tys⟩) = pureS st d (lenK T (mapEval (evalOp st.tmps) as.toList) tys.toList) := by
  refine stepU_pure fun ob d' => ?_
  simp only [exec]
  cases mapEval (evalOp st.tmps) as.toList with
  | none => rfl
  | some l =>
    simp only [lenK]
    generalize tys.toList = q
    rcases l with _ | ⟨x, _ | ⟨y, l⟩⟩
    · rfl
    · rcases q with _ | ⟨t, _ | ⟨u, q⟩⟩
      · cases x with
        | leaf l => cases l with
          | imm v => cases v <;> rfl
          | _ => rfl
        | _ => rfl
      · generalize hb : T t = b
        cases x with
        | leaf l => cases l with
          | imm v => cases v <;> (rcases b with _ | ⟨k, _, _, _, _⟩ <;> simp only [hb] <;> first | rfl | (cases k <;> rfl))
          | _ => rcases b with _ | ⟨k, _, _, _, _⟩ <;> simp only [hb] <;> first | rfl | (cases k <;> rfl)
        | _ => rcases b with _ | ⟨k, _, _, _, _⟩ <;> simp only [hb] <;> first | rfl | (cases k <;> rfl)
      · cases x with
        | leaf l => cases l with
          | imm v => cases v <;> rfl
          | _ => rfl
        | _ => rfl
    · cases x with
      | leaf l => cases l with
        | imm v => cases v <;> rfl
        | _ => rfl
      | _ => rfl
theorem s_min {as tys} : stepU T E st d (.call ⟨.builtin .min, as, tys⟩) = pureS st d (minK false (mapEval (evalOp st.tmps) as.toList)) := by
  refine stepU_pure fun ob d' => ?_
  simp only [exec]
  cases mapEval (evalOp st.tmps) as.toList with
  | none => rfl
  | some l => cases l <;> rfl
theorem s_max {as tys} : stepU T E st d (.call ⟨.builtin .max, as, tys⟩) = pureS st d (minK true (mapEval (evalOp st.tmps) as.toList)) := by
  refine stepU_pure fun ob d' => ?_
  simp only [exec]
  cases mapEval (evalOp st.tmps) as.toList with
  | none => rfl
  | some l => cases l <;> rfl

theorem s_nilCheck {x} : stepU T E st d (.nilCheck x) = pureS st d (nilK (evalOp st.tmps x)) := by
  refine stepU_pure fun ob d' => ?_
  simp only [exec]
  unfold nilK
  generalize evalOp st.tmps x = a
  split
  · rfl
  · rfl
  · rfl
  · split <;> first | rfl | grind

theorem s_makeFunc {f xs ys} : stepU T E st d (.makeFunc (.func f) xs ys) = pureS st d (funcK f (mapEval (evalOp st.tmps) xs.toList) (mapEval (evalOp st.tmps) ys.toList)) := by
  refine stepU_pure fun ob d' => ?_
  simp only [exec]
  unfold funcK
  cases mapEval (evalOp st.tmps) xs.toList with
  | none => rfl
  | some a => cases mapEval (evalOp st.tmps) ys.toList with
    | none => rfl
    | some b =>
      simp only
      cases leafs a with
      | none => rfl
      | some a => cases leafs b <;> rfl

theorem lend_congr {ob ob' : Nat → Option AObj} {l : LV} (h : ∀ i ∈ l.ids, ob i = ob' i) : lend ob l = lend ob' l := by
  cases l with
  | ms id ver sz off len => simp only [lend, rowsOf]; rw [h id (by simp [LV.ids])]
  | _ => rfl
theorem lendAll_congr {ob ob' : Nat → Option AObj} : ∀ {ls : List LV}, (∀ i ∈ LV.ids.idsAll ls, ob i = ob' i) → lendAll ob ls = lendAll ob' ls := by
  intro ls
  induction ls with
  | nil => intro _; rfl
  | cons l ls ih =>
    intro h
    simp only [lendAll]
    rw [lend_congr fun i hi => h i (by simp [LV.ids.idsAll, hi]), ih fun i hi => h i (by simp [LV.ids.idsAll, hi])]
theorem lendArgs_congr {ob ob' : Nat → Option AObj} : ∀ {vs : List AV}, (∀ v ∈ vs, ∀ i ∈ v.ids, ob i = ob' i) → lendArgs ob vs = lendArgs ob' vs := by
  intro vs
  induction vs with
  | nil => intro _; rfl
  | cons v vs ih =>
    intro h
    simp only [lendArgs]
    rw [ih fun v hv => h v (List.mem_cons_of_mem _ hv)]
    have : lendArg ob v = lendArg ob' v := by
      cases v with
      | leaf l => simp only [lendArg]; rw [lend_congr (h _ List.mem_cons_self)]
      | agg ls => simp only [lendArg]; rw [lendAll_congr (h _ List.mem_cons_self)]
      | tup vs => rfl
    rw [this]
theorem mapEval_ids {ρ : Operand → Option AV} : ∀ {xs : List Operand} {l : List AV}, mapEval ρ xs = some l → ∀ v ∈ l, ∀ i ∈ v.ids, i ∈ idsOf ρ xs := by
  intro xs
  induction xs with
  | nil => intro l h v hv; simp [mapEval] at h; subst h; cases hv
  | cons x xs ih =>
    intro l h v hv i hi
    simp only [mapEval] at h
    split at h
    · rename_i u us h1 h2
      injection h with h
      subst h
      simp only [idsOf, h1, List.mem_append]
      rcases List.mem_cons.1 hv with rfl | hv
      · exact .inl hi
      · exact .inr (ih h2 v hv i hi)
    · cases h

/-- A call of a function that is handed immutable values. -/
theorem s_call {g : Nat} {as tys} {s : Seat} {G : List Nat} (hO : s.O g = false) : stepU T (s.env G) st d (.call ⟨.value (.func g), as, tys⟩) = callS s st d g (mapEval (evalOp st.tmps) as.toList) := by
  unfold stepU
  simp only [exec, callS]
  cases hev : mapEval (evalOp st.tmps) as.toList with
  | none => rfl
  | some l =>
    simp only [evalOp, List.map_nil, List.append_nil, List.nil_append, callP]
    have hf : ∀ d a ob, (s.env G).full g d a ob = none := fun d a ob => (Seat.env_le 0 G).noF g d a ob hO
    unfold callAV
    cases h1 : stripArgs l with
    | some ps =>
      simp only [hf]
      cases h2 : (s.env G).pure g ps with
      | none =>
        have h2' : s.fn g ps = none := h2
        simp only [h2', pureS]
      | some r =>
        have h2' : s.fn g ps = some r := h2
        simp only [h2', List.all_nil, Bool.and_self, if_true, put_setT, pureS]
    | none =>
      simp only [hf]
      rw [lendArgs_congr (ob' := st.ob) fun v hv i hi => fetch_hd (by
        have := mapEval_ids hev v hv i hi
        simp [looksOp, Op.operands, Call.operands, idsOf, evalOp, AV.ids, LV.ids, this])]
      cases h3 : lendArgs st.ob l with
      | none => rfl
      | some ps =>
        simp only
        cases h2 : (s.env G).pure g ps with
        | none =>
          have h2' : s.fn g ps = none := h2
          simp only [h2', pureS, plainK, callQ]
        | some r =>
          have h2' : s.fn g ps = some r := h2
          simp only [h2', plainK, callQ]
          cases r.plain <;> simp [pureS, put_setT]

end
end Go.Ai
