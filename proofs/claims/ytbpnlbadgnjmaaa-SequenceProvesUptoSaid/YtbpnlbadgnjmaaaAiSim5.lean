/- Ai, part 33: calls of functions that are handed objects, as rules. No condition. -/
import Derived.Test.YtbpnlbadgnjmaaaAiSim4
namespace Go.Ai
set_option linter.unusedSimpArgs false
set_option linter.unusedVariables false
set_option linter.constructorNameAsVariable false

theorem once_mem {x : Nat} : ∀ {l : List Nat}, x ∈ once l ↔ x ∈ l := by
  intro l
  induction l with
  | nil => simp [once]
  | cons y l ih =>
    unfold once
    split
    · rename_i h
      have hy : y ∈ once l := by simpa using h
      rw [ih, List.mem_cons]
      constructor
      · exact .inr
      · rintro (rfl | h)
        · exact ih.1 hy
        · exact h
    · simp [ih]

def callOD (st : St) (d : Nat) (ids : List Nat) : Option (AV × Upd) → Option St
  | some (v, u) => if (u.all (fun p => decide (p.1 < st.objs.length)) && u.all (fun p => ids.contains p.1)) = true then some { tmps := st.tmps.set d v, objs := upds st.objs u } else none
  | none => none
noncomputable def callOS (s : Seat) (st : St) (d : Nat) (ids : List Nat) (g : Nat) : Option (List AV) → Option St
  | some l => callOD st d ids (s.fnO g d l st.ob)
  | none => none

theorem runFull_congr {T : Nat → Option Ty} {F : Nat → Option Fun} {S : Env} (hS : ∀ g d a ob, S.full g d a ob = none) {m g d : Nat} {args : List AV} {ob ob' : Nat → Option AObj} (h : ∀ i ∈ idsAV args, ob i = ob' i) (hd : ob d = ob' d) : runFull T F S m g d args ob = runFull T F S m g d args ob' := by
  cases m with
  | zero => simp [runFull]
  | succ m =>
    have e1 : (idsAV args).filter (fun i => (ob i).isSome) = (idsAV args).filter (fun i => (ob' i).isSome) := List.filter_congr fun i hi => by rw [h i hi]
    have e2 : ∀ f : AObj → AObj, ((idsAV args).filter (fun i => (ob' i).isSome)).map (fun i => (ob i).map f) = ((idsAV args).filter (fun i => (ob' i).isSome)).map (fun i => (ob' i).map f) := fun f => List.map_congr_left fun i hi => by rw [h i (List.mem_filter.1 hi).1]
    simp only [runFull, hS, e1, e2, hd]

section
variable {T : Nat → Option Ty} {st : St}
theorem s_callO {s : Seat} {G : List Nat} {g d : Nat} {xs : Array Operand} {tys : Array TypeId} (hO : s.O g = true) (hS : ∀ g d a ob, s.S.full g d a ob = none) :
    stepU T (s.env G) st (some d) (.call ⟨.value (.func g), xs, tys⟩) = callOS s st d (idsOf (evalOp st.tmps) (.func g :: xs.toList) ++ [d]) g (mapEval (evalOp st.tmps) xs.toList) := by
  unfold stepU
  have hids : (Op.call ⟨.value (.func g), xs, tys⟩).operands.toList = .func g :: xs.toList := by simp [Op.operands, Call.operands]
  have hlook : looksOp (.call ⟨.value (.func g), xs, tys⟩) = true := rfl
  simp only [hlook, if_true, hids, exec, callOS, Option.toList_some, Option.getD_some]
  cases hev : mapEval (evalOp st.tmps) xs.toList with
  | none => rfl
  | some l =>
    simp only [evalOp, List.map_nil, List.append_nil, List.nil_append]
    have hp : ∀ a, (s.env G).pure g a = none := fun a => (Seat.env_le 0 G).noP g a hO
    have hcall : ∀ ob, callAV (s.env G) ob d g l = s.fnO g d l ob := fun ob => by
      unfold callAV
      cases stripArgs l with
      | some ps => simp only [hp]; rfl
      | none => cases lendArgs ob l with
        | none => rfl
        | some ps => simp only [hp]; rfl
    have hmem : ∀ i ∈ idsAV l, i ∈ idsOf (evalOp st.tmps) (.func g :: xs.toList) := fun i hi => by
      unfold idsAV at hi
      rw [once_mem, List.mem_flatMap] at hi
      obtain ⟨v, hv, hiv⟩ := hi
      have := mapEval_ids hev v hv i hiv
      simp only [idsOf, List.mem_append]
      exact .inr this
    have hfn : ∀ ob ob', (∀ i ∈ idsAV l, ob i = ob' i) → ob d = ob' d → s.fnO g d l ob = s.fnO g d l ob' := fun ob ob' h1 h2 => by
      unfold Seat.fnO
      congr 1
      funext m
      exact runFull_congr hS h1 h2
    rw [hcall, hfn _ st.ob (fun i hi => fetch_hd (List.mem_append_left _ (hmem i hi))) (fetch_hd (by simp))]
    cases s.fnO g d l st.ob with
    | none => rfl
    | some p =>
      obtain ⟨v, u⟩ := p
      rfl

/-- A call of a function value that a temporary holds, left as it is. -/
noncomputable def otherCall (T : Nat → Option Ty) (s : Seat) (G : List Nat) (st : St) (d k : Nat) (xs : Array Operand) (tys : Array TypeId) : Option St := stepU T (s.env G) st (some d) (.call ⟨.value (.tmp k), xs, tys⟩)
/-- A call of a function value that a temporary holds. -/
noncomputable def callTS (s : Seat) (st : St) (d : Nat) (ids : List Nat) (e : Option St) : Option AV → Option (List AV) → Option St
  | some (.leaf (.func g first cap)), some l => if s.O g = true then callOD st d ids (s.fnO g d (first.map .leaf ++ (l ++ cap.map .leaf)) st.ob) else e
  | _, _ => e
theorem s_callT {s : Seat} {G : List Nat} {k d : Nat} {xs : Array Operand} {tys : Array TypeId} (hS : ∀ g d a ob, s.S.full g d a ob = none) :
    stepU T (s.env G) st (some d) (.call ⟨.value (.tmp k), xs, tys⟩) = callTS s st d (idsOf (evalOp st.tmps) (.tmp k :: xs.toList) ++ [d]) (otherCall T s G st d k xs tys) (evalOp st.tmps (.tmp k)) (mapEval (evalOp st.tmps) xs.toList) := by
  unfold callTS
  split
  · rename_i g first cap l hv hl
    split
    · rename_i hO
      unfold stepU
      have hids : (Op.call ⟨.value (.tmp k), xs, tys⟩).operands.toList = .tmp k :: xs.toList := by simp [Op.operands, Call.operands]
      have hlook : looksOp (.call ⟨.value (.tmp k), xs, tys⟩) = true := rfl
      simp only [hlook, if_true, hids, exec, Option.toList_some, Option.getD_some, hl, hv]
      have hp : ∀ a, (s.env G).pure g a = none := fun a => (Seat.env_le 0 G).noP g a hO
      have hcall : ∀ ob, callAV (s.env G) ob d g (first.map .leaf ++ (l ++ cap.map .leaf)) = s.fnO g d (first.map .leaf ++ (l ++ cap.map .leaf)) ob := fun ob => by
        unfold callAV
        cases stripArgs (first.map .leaf ++ (l ++ cap.map .leaf)) with
        | some ps => simp only [hp]; rfl
        | none => cases lendArgs ob (first.map .leaf ++ (l ++ cap.map .leaf)) with
          | none => rfl
          | some ps => simp only [hp]; rfl
      have hmem : ∀ i ∈ idsAV (first.map .leaf ++ (l ++ cap.map .leaf)), i ∈ idsOf (evalOp st.tmps) (.tmp k :: xs.toList) := fun i hi => by
        unfold idsAV at hi
        rw [once_mem, List.mem_flatMap] at hi
        obtain ⟨v, hv', hiv⟩ := hi
        have hfn : ∀ ls : List LV, v ∈ ls.map AV.leaf → i ∈ LV.ids.idsAll ls := by
          intro ls
          induction ls with
          | nil => intro h; cases h
          | cons x ls ih =>
            intro h
            simp only [LV.ids.idsAll, List.mem_append]
            rcases List.mem_cons.1 h with rfl | h
            · exact .inl hiv
            · exact .inr (ih h)
        simp only [idsOf, hv, List.mem_append]
        rcases List.mem_append.1 hv' with h | h
        · exact .inl (by simp only [AV.ids, LV.ids, List.mem_append]; exact .inl (hfn _ h))
        · rcases List.mem_append.1 h with h | h
          · exact .inr (mapEval_ids hl v h i hiv)
          · exact .inl (by simp only [AV.ids, LV.ids, List.mem_append]; exact .inr (hfn _ h))
      have hfn : ∀ ob ob', (∀ i ∈ idsAV (first.map .leaf ++ (l ++ cap.map .leaf)), ob i = ob' i) → ob d = ob' d → s.fnO g d (first.map .leaf ++ (l ++ cap.map .leaf)) ob = s.fnO g d (first.map .leaf ++ (l ++ cap.map .leaf)) ob' := fun ob ob' h1 h2 => by
        unfold Seat.fnO
        congr 1
        funext m
        exact runFull_congr hS h1 h2
      rw [hcall, hfn _ st.ob (fun i hi => fetch_hd (List.mem_append_left _ (hmem i hi))) (fetch_hd (by simp))]
      cases s.fnO g d (first.map .leaf ++ (l ++ cap.map .leaf)) st.ob with
      | none => rfl
      | some p =>
        obtain ⟨v, u⟩ := p
        rfl
    · rfl
  · rfl

def convK (T : Nat → Option Ty) (ob : Nat → Option AObj) : Option AV → Option Ty → Option Ty → Option AV
  | some (.leaf (.imm (.int _ n))), some _, some { k := .int k, .. } => some (intAV k (k.wrap n))
  | some (.leaf (.imm (.str s))), some { k := .str, .. }, some { k := .str, .. } => some (.leaf (.imm (.str s)))
  | some (.leaf l), some { k := .slice e, .. }, some { k := .str, .. } => (match T e with
      | some { k := .int .u8, .. } => (match rowsOf ob l with
        | some rows => (bytesOfRows rows).map fun bs => .leaf (.imm (.str ⟨bs.toArray⟩))
        | none => none)
      | _ => none)
  | _, _, _ => none
theorem s_convert {E : Env} {d : Option Nat} {t u : Nat} {x : Operand} : stepU T E st d (.convert t u x) = pureS st d (convK T st.ob (evalOp st.tmps x) (T t) (T u)) := by
  unfold stepU
  have key : exec T E (evalOp st.tmps) (fetch ((if looksOp (.convert t u x) then idsOf (evalOp st.tmps) (Op.convert t u x).operands.toList else []) ++ d.toList) st.ob) (d.getD st.objs.length) (.convert t u x) = (convK T st.ob (evalOp st.tmps x) (T t) (T u)).map fun v => (v, []) := by
    simp only [exec]
    unfold convK
    generalize hA : evalOp st.tmps x = A
    generalize T t = B
    generalize T u = C
    split
    · rfl
    · rfl
    · rename_i l e _ _ _ _ _ _ _ _
      rw [rowsOf_congr (ob' := st.ob) fun i hi => fetch_hd (by simp [looksOp, Op.operands, idsOf, hA, AV.ids, hi])]
      have fin : (match T e with
        | some { k := .int .u8, .. } => (match rowsOf st.ob l with
          | some rows => (bytesOfRows rows).map fun bs => (AV.leaf (.imm (.str ⟨bs.toArray⟩)), ([] : Upd))
          | none => none)
        | _ => none) = Option.map (fun v => (v, [])) (match T e with
        | some { k := .int .u8, .. } => (match rowsOf st.ob l with
          | some rows => (bytesOfRows rows).map fun bs => AV.leaf (.imm (.str ⟨bs.toArray⟩))
          | none => none)
        | _ => none) := by
        split
        · cases rowsOf st.ob l with
          | none => rfl
          | some rows => simp only; cases bytesOfRows rows <;> rfl
        · rfl
      cases l with
      | imm v => cases v <;> first | exact fin | exact (by simp only [rowsOf]; split <;> rfl)
      | _ => exact fin
    · split <;> first | rfl | grind
  rw [key]
  cases convK T st.ob (evalOp st.tmps x) (T t) (T u) with
  | none => rfl
  | some v => simp only [Option.map_some, List.all_nil, Bool.and_self, if_true, put_setT, pureS]

/-- What is handed back under the caller's names. -/
def OutK (n : Nat) (ids : List Nat) (d : Nat) (objs : List (Option AObj)) (od : Option AObj) (r : AV × Upd) : Option (List AV) → Prop
  | some vs => (match handed n vs with
    | some i => (match objs.getD i none, od with
      | some o, none => (tupleOf (vs.map (renAV (backName n ids (some i) d))), backUpd ids (backName n ids (some i) d) objs n ids.length ++ [(d, renObj (backName n ids (some i) d) o)]) = r
      | _, _ => False)
    | none => (tupleOf (vs.map (renAV (backName n ids none d))), backUpd ids (backName n ids none d) objs n ids.length) = r)
  | none => False
def OutQ (T : Nat → Option Ty) (rs : List ResultVar) (n : Nat) (ids : List Nat) (d : Nat) (od : Option AObj) (r : AV × Upd) : Ex → St → Prop
  | .exit _, _ => False
  | _, st => OutK n ids d st.objs od r (resultsAV T st rs)

/-- A function that is handed objects, by its body. -/
theorem Seat.fnO_of {s : Seat} {g d : Nat} {f : Fun} {c : Code} {args : List AV} {ob : Nat → Option AObj} {ids : List Nat} {r : AV × Upd} (hS : s.S.full g d args ob = none) (hf : s.F g = some f) (hobj : f.obj = true) (hb : f.fn.body = some c)
    (hids : (idsAV args).filter (fun i => (ob i).isSome) = ids)
    (h : s.W f.grow f.keep c { tmps := args.map (renAV fun i => (indexIn i ids).map (· + f.fn.ntmps)) ++ List.replicate (f.fn.ntmps - args.length) (.leaf .und), objs := List.replicate f.fn.ntmps none ++ ids.map (fun i => (ob i).map (renObj fun i => (indexIn i ids).map (· + f.fn.ntmps))) }
      (OutQ s.T f.fn.results.toList f.fn.ntmps ids d (ob d) r)) : s.fnO g d args ob = some r := by
  obtain ⟨m, ex, st', h, q⟩ := h
  refine Seat.fnO_iff.2 ⟨m + 1, ?_⟩
  have h := (runA_sound (fun g d a ob hg => runFull_no s.apart hg m) f.keep m).1 _ _ _ h
  simp only [runFull, hS, hf, hobj, Bool.not_true, Bool.false_eq_true, if_false, hb, hids]
  have h' : runCode s.T { pure := runFun s.T s.F s.S m, full := runFull s.T s.F s.S m, grow := f.grow } f.keep m c { tmps := args.map (renAV fun i => (indexIn i ids).map (· + f.fn.ntmps)) ++ List.replicate (f.fn.ntmps - args.length) (.leaf .und), objs := List.replicate f.fn.ntmps none ++ ids.map (fun i => (ob i).map (renObj fun i => (indexIn i ids).map (· + f.fn.ntmps))) } = some (ex, st') := h
  rw [h']
  have fin : ex = .normal ∨ ex = .ret → OutK f.fn.ntmps ids d st'.objs (ob d) r (resultsAV s.T st' f.fn.results.toList) := fun he => by
    rcases he with rfl | rfl <;> exact q
  have main : OutK f.fn.ntmps ids d st'.objs (ob d) r (resultsAV s.T st' f.fn.results.toList) → (match resultsAV s.T st' f.fn.results.toList with
      | some vs => (match handed f.fn.ntmps vs with
        | some i => (match st'.ob i, ob d with
          | some o, none => some (tupleOf (vs.map (renAV (backName f.fn.ntmps ids (handed f.fn.ntmps vs) d))), backUpd ids (backName f.fn.ntmps ids (handed f.fn.ntmps vs) d) st'.objs f.fn.ntmps ids.length ++ [(d, renObj (backName f.fn.ntmps ids (handed f.fn.ntmps vs) d) o)])
          | _, _ => none)
        | none => some (tupleOf (vs.map (renAV (backName f.fn.ntmps ids (handed f.fn.ntmps vs) d))), backUpd ids (backName f.fn.ntmps ids (handed f.fn.ntmps vs) d) st'.objs f.fn.ntmps ids.length))
      | none => none) = some r := by
    intro hk
    cases hr : resultsAV s.T st' f.fn.results.toList with
    | none => rw [hr] at hk; exact hk.elim
    | some vs =>
      rw [hr] at hk
      simp only [OutK] at hk ⊢
      cases hh : handed f.fn.ntmps vs with
      | none => rw [hh] at hk; simp only at hk ⊢; rw [hk]
      | some i =>
        rw [hh] at hk
        simp only [ob_getD] at hk ⊢
        cases ho : st'.objs.getD i none with
        | none => rw [ho] at hk; exact hk.elim
        | some o =>
          rw [ho] at hk
          cases hod : ob d with
          | some _ => rw [hod] at hk; exact hk.elim
          | none => rw [hod] at hk; simp only at hk ⊢; rw [hk]
  cases ex with
  | exit i => exact q.elim
  | normal => exact main (fin (.inl rfl))
  | ret => exact main (fin (.inr rfl))

theorem out_normal {T : Nat → Option Ty} {rs n ids d od r} : OutQ T rs n ids d od r .normal st = OutK n ids d st.objs od r (resultsAV T st rs) := rfl
theorem out_ret {T : Nat → Option Ty} {rs n ids d od r} : OutQ T rs n ids d od r .ret st = OutK n ids d st.objs od r (resultsAV T st rs) := rfl
end
end Go.Ai
