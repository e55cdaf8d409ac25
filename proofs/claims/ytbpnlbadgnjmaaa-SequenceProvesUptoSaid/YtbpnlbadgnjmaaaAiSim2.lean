/- Ai, part 28: append, as rules for rewriting. No condition. -/
import Derived.Test.YtbpnlbadgnjmaaaAiSim
namespace Go.Ai
set_option linter.unusedSimpArgs false
set_option linter.unusedVariables false
set_option linter.constructorNameAsVariable false

/-- append: what is appended, the slice, its element type. -/
def appTail (st : St) (d : Option Nat) (id e sz n : Nat) (rows : List (List IV)) : Option St :=
  if id < st.objs.length then some { tmps := setT st.tmps d (.leaf (.ap id rows)), objs := st.objs.set id (some (.tail e sz n)) } else none
def appCells (st : St) (d : Option Nat) (id ver e sz n : Nat) (cs : List LV) : Option St :=
  if id < st.objs.length then some { tmps := setT st.tmps d (.leaf (.ms id ver sz 0 n)), objs := st.objs.set id (some (.cells e ver cs)) } else none
def app1 (st : St) (d : Nat) (grow : Bool) (e sz : Nat) (rows : List (List IV)) : Option AObj → Option St
  | none => if grow then appCells st (some d) d 0 e sz rows.length (rows.flatten.map .imm) else appTail st (some d) d e sz rows.length rows
  | some _ => none
def app2 (st : St) (d : Nat) (e sz bytes id : Nat) (rows new : List (List IV)) : Option AObj → Option St
  | some (.tail e' sz' n) => if e' = e ∧ sz' = sz ∧ rows.length = n ∧ (rows.length + new.length) * bytes ≤ room then appTail st (some d) id e sz (rows.length + new.length) (rows ++ new) else none
  | _ => none
def app3 (st : St) (d : Nat) (e sz bytes id ver off len : Nat) (new : List (List IV)) : Option AObj → Option St
  | some (.cells e' ver' cs) => if e' = e ∧ ver' = ver ∧ off = 0 ∧ len * sz = cs.length ∧ (len + new.length) * bytes ≤ room then appCells st (some d) id (ver + 1) e sz (len + new.length) (cs ++ new.flatten.map .imm) else none
  | _ => none
/-- A non-empty append. -/
def appS (st : St) (d : Nat) (grow : Bool) (e sz bytes : Nat) (new : List (List IV)) : LV → Option St
  | .imm .nil => if new.length * bytes ≤ room then app1 st d grow e sz new (st.objs.getD d none) else none
  | .clip rows => if (rows.length + new.length) * bytes ≤ room ∧ rows.all (fun r => r.length == sz) = true then app1 st d grow e sz (rows ++ new) (st.objs.getD d none) else none
  | .ap id rows => app2 st d e sz bytes id rows new (st.objs.getD id none)
  | .ms id ver sz' off len => if sz' = sz then app3 st d e sz bytes id ver off len new (st.objs.getD id none) else none
  | _ => none
def appE (st : St) (d : Nat) (grow : Bool) (e sz bytes : Nat) (new : List (List IV)) (s : LV) : Option St :=
  if new.isEmpty then (match s with
    | .imm .nil => pureS st (some d) (some (.leaf s))
    | .clip _ => pureS st (some d) (some (.leaf s))
    | .ap _ _ => pureS st (some d) (some (.leaf s))
    | .ms _ _ _ _ _ => pureS st (some d) (some (.leaf s))
    | _ => none)
  else appS st d grow e sz bytes new s
def appT (T : Nat → Option Ty) (st : St) (d : Nat) (grow : Bool) (new : List (List IV)) (s : LV) : Option Ty → Option St
  | some { k := .slice e, .. } => match T e with
    | some te => if new.all (fun r => r.length == te.size) = true ∧ 0 < te.size ∧ 0 < te.bytes then appE st d grow e te.size te.bytes new s else none
    | none => none
  | _ => none
def appR (T : Nat → Option Ty) (st : St) (d : Nat) (grow : Bool) (t : Nat) (s : LV) : Option (List (List IV)) → Option St
  | some new => appT T st d grow new s (T t)
  | none => none
def appK (T : Nat → Option Ty) (st : St) (d : Nat) (G : List Nat) : Option (List AV) → List Nat → Option St
  | some [.leaf s, .leaf (.imm (.str b))], [t, u] => match T u with
    | some { k := .str, .. } => appR T st d (G.contains d) t s (some (rowsOfBytes b.data.toList))
    | _ => none
  | some [.leaf s, .leaf x], [t, u] => match T u with
    | some { k := .slice _, .. } => appR T st d (G.contains d) t s (rowsOf st.ob x)
    | _ => none
  | _, _ => none

section
variable {T : Nat → Option Ty} {E : Env} {st : St}

/-- What becomes of a result of `exec`. -/
def doneK (st : St) (d : Nat) (ids : List Nat) : Option (AV × Upd) → Option St
  | some (v, u) => if u.all (fun p => decide (p.1 < st.objs.length)) && u.all (fun p => (ids ++ [d]).contains p.1) then some (st.put (some d) v u) else none
  | none => none

theorem append_done {grow : Bool} {ids : List Nat} {d t : Nat} {s : LV} {new : List (List IV)} (hs : ∀ i ∈ s.ids, i ∈ ids) :
    doneK st d ids (appendAV T grow (fetch (ids ++ [d]) st.ob) d t s new) = appR T st d grow t s (some new) := by
  have fd : fetch (ids ++ [d]) st.ob d = st.objs.getD d none := by rw [fetch_hd (by simp), ob_getD]
  have fi : ∀ i ∈ s.ids, fetch (ids ++ [d]) st.ob i = st.objs.getD i none := fun i hi => by rw [fetch_hd (by simp [hs i hi]), ob_getD]
  unfold appendAV
  simp only [appR]
  generalize T t = b
  rcases b with _ | ⟨k, zero, size, bytes, eq⟩
  · rfl
  · cases k with
    | slice e =>
      simp only [appT]
      cases hT : T e with
      | none => rfl
      | some te =>
        simp only
        by_cases hc : new.all (fun r => r.length == te.size) = true ∧ 0 < te.size ∧ 0 < te.bytes
        · rw [if_pos hc, if_pos (by simp [hc.1, hc.2.1, hc.2.2])]
          unfold appE
          cases hn : new.isEmpty with
          | true =>
            cases s with
            | imm v => cases v <;> simp [doneK, put_setT, pureS]
            | ms id ver sz off len => simp [doneK, put_setT, pureS]
            | ap id rows => simp [doneK, put_setT, pureS]
            | clip rows => simp [doneK, put_setT, pureS]
            | _ => rfl
          | false =>
            have put1 : ∀ (id : Nat) (o : AObj) (v : AV), (id ∈ ids ∨ id = d) → doneK st d ids (some (v, [(id, o)])) = if id < st.objs.length then some { tmps := setT st.tmps (some d) v, objs := st.objs.set id (some o) } else none := by
              intro id o v hid
              by_cases hl : id < st.objs.length
              · rw [if_pos hl]; simp only [doneK]; rw [if_pos (by simpa [hl] using hid)]; rfl
              · rw [if_neg hl]; simp only [doneK]; rw [if_neg (by simp [hl])]
            cases s with
            | imm v =>
              cases v with
              | nil =>
                simp only [appS, fd, Bool.false_eq_true, if_false]
                cases ho : st.objs.getD d none with
                | some o => simp only [app1]; split <;> rfl
                | none =>
                  simp only [app1]
                  split
                  · cases grow with
                    | true => simp only [if_true]; exact put1 _ _ _ (.inr rfl)
                    | false => simp only [Bool.false_eq_true, if_false]; exact put1 _ _ _ (.inr rfl)
                  · rfl
              | _ => rfl
            | clip rows =>
              simp only [appS, fd, Bool.false_eq_true, if_false]
              cases ho : st.objs.getD d none with
              | some o => simp only [app1]; split <;> rfl
              | none =>
                simp only [app1]
                split
                · cases grow with
                  | true => simp only [if_true, List.length_append]; exact put1 _ _ _ (.inr rfl)
                  | false => simp only [Bool.false_eq_true, if_false, List.length_append]; exact put1 _ _ _ (.inr rfl)
                · rfl
            | ap id rows =>
              have hid : id ∈ (LV.ap id rows).ids := by simp [LV.ids]
              simp only [appS, fi id hid, Bool.false_eq_true, if_false]
              cases ho : st.objs.getD id none with
              | none => rfl
              | some o =>
                cases o with
                | cells _ _ _ => rfl
                | tail e' sz n =>
                  simp only [app2]
                  split
                  · exact put1 _ _ _ (.inl (hs id hid))
                  · rfl
            | ms id ver sz off len =>
              have hid : id ∈ (LV.ms id ver sz off len).ids := by simp [LV.ids]
              simp only [appS, fi id hid, Bool.false_eq_true, if_false]
              cases ho : st.objs.getD id none with
              | none => simp only [app3]; split <;> rfl
              | some o =>
                cases o with
                | tail _ _ _ => simp only [app3]; split <;> rfl
                | cells e' ver' cs =>
                  simp only [app3]
                  by_cases hz : sz = te.size
                  · subst hz
                    rw [if_pos rfl]
                    by_cases hq : e' = e ∧ ver' = ver ∧ off = 0 ∧ len * te.size = cs.length ∧ (len + new.length) * te.bytes ≤ room
                    · rw [if_pos hq, if_pos ⟨hq.1, hq.2.1, hq.2.2.1, rfl, hq.2.2.2.1, hq.2.2.2.2⟩]
                      exact put1 _ _ _ (.inl (hs id hid))
                    · rw [if_neg hq, if_neg fun q => hq ⟨q.1, q.2.1, q.2.2.1, q.2.2.2.2.1, q.2.2.2.2.2⟩]
                      rfl
                  · rw [if_neg hz, if_neg fun q => hz q.2.2.2.1]
                    rfl
            | _ => rfl
        · rw [if_neg hc, if_neg fun q => hc (by simpa using q)]
          rfl
    | _ => rfl

theorem rowsOf_congr {ob ob' : Nat → Option AObj} {l : LV} (h : ∀ i ∈ l.ids, ob i = ob' i) : rowsOf ob l = rowsOf ob' l := by
  cases l with
  | ms id ver sz off len => simp only [rowsOf]; rw [h id (by simp [LV.ids])]
  | imm v => cases v <;> rfl
  | _ => rfl

theorem s_append {d : Nat} {as tys} : stepU T E st (some d) (.call ⟨.builtin .append, as, tys⟩) = appK T st d E.grow (mapEval (evalOp st.tmps) as.toList) tys.toList := by
  have e0 : stepU T E st (some d) (.call ⟨.builtin .append, as, tys⟩) = doneK st d (idsOf (evalOp st.tmps) (Op.call ⟨.builtin .append, as, tys⟩).operands.toList) (exec T E (evalOp st.tmps) (fetch (idsOf (evalOp st.tmps) (Op.call ⟨.builtin .append, as, tys⟩).operands.toList ++ [d]) st.ob) d (.call ⟨.builtin .append, as, tys⟩)) := by
    unfold stepU doneK
    rfl
  rw [e0]
  simp only [exec]
  cases hev : mapEval (evalOp st.tmps) as.toList with
  | none => rfl
  | some l =>
    have ids : ∀ v ∈ l, ∀ i ∈ v.ids, i ∈ idsOf (evalOp st.tmps) (Op.call ⟨.builtin .append, as, tys⟩).operands.toList := fun v hv i hi => by
      have := mapEval_ids hev v hv i hi
      simpa [Op.operands, Call.operands] using this
    simp only
    generalize tys.toList = q
    by_cases hsh : ∃ s x t u, l = [.leaf s, .leaf x] ∧ q = [t, u]
    · obtain ⟨s, x, t, u, rfl, rfl⟩ := hsh
      have hs := ids (.leaf s) (by simp)
      have hx := ids (.leaf x) (by simp)
      have hr : rowsOf (fetch (idsOf (evalOp st.tmps) (Op.call ⟨.builtin .append, as, tys⟩).operands.toList ++ [d]) st.ob) x = rowsOf st.ob x := rowsOf_congr fun i hi => fetch_hd (by simp [hx i hi])
      have gen : (match T u, rowsOf st.ob x with
          | some { k := .slice _, .. }, some new => appendAV T (E.grow.contains d) (fetch (idsOf (evalOp st.tmps) (Op.call ⟨.builtin .append, as, tys⟩).operands.toList ++ [d]) st.ob) d t s new
          | _, _ => none) = (match T u with
          | some { k := .slice _, .. } => (rowsOf st.ob x).bind fun new => appendAV T (E.grow.contains d) (fetch (idsOf (evalOp st.tmps) (Op.call ⟨.builtin .append, as, tys⟩).operands.toList ++ [d]) st.ob) d t s new
          | _ => none) := by
        generalize T u = b
        rcases b with _ | ⟨k, _, _, _, _⟩
        · rfl
        · cases k <;> (try rfl)
          cases rowsOf st.ob x <;> rfl
      have fin : doneK st d (idsOf (evalOp st.tmps) (Op.call ⟨.builtin .append, as, tys⟩).operands.toList) (match T u with
          | some { k := .slice _, .. } => (rowsOf st.ob x).bind fun new => appendAV T (E.grow.contains d) (fetch (idsOf (evalOp st.tmps) (Op.call ⟨.builtin .append, as, tys⟩).operands.toList ++ [d]) st.ob) d t s new
          | _ => none) = (match T u with
          | some { k := .slice _, .. } => appR T st d (E.grow.contains d) t s (rowsOf st.ob x)
          | _ => none) := by
        generalize T u = b
        rcases b with _ | ⟨k, _, _, _, _⟩
        · rfl
        · cases k <;> (try rfl)
          cases rowsOf st.ob x with
          | none => rfl
          | some new => exact append_done hs
      by_cases hstr : ∃ b, x = .imm (.str b)
      · obtain ⟨b, rfl⟩ := hstr
        simp only [appK]
        generalize T u = b'
        rcases b' with _ | ⟨k, _, _, _, _⟩
        · rfl
        · cases k <;> (try rfl)
          exact append_done hs
      · have e1 : ∀ l : LV, l = x → (appK T st d E.grow (some [.leaf s, .leaf l]) [t, u]) = (match T u with
          | some { k := .slice _, .. } => appR T st d (E.grow.contains d) t s (rowsOf st.ob x)
          | _ => none) := by
          intro l hl
          subst hl
          cases l with
          | imm v => cases v with
            | str b => exact (hstr ⟨b, rfl⟩).elim
            | _ => rfl
          | _ => rfl
        rw [e1 x rfl, ← fin, ← gen, ← hr]
        cases x with
        | imm v => cases v with
          | str b => exact (hstr ⟨b, rfl⟩).elim
          | _ => rfl
        | _ => rfl
    · have e1 : appK T st d E.grow (some l) q = none := by
        unfold appK
        split
        · rename_i h; injection h with h; exact (hsh ⟨_, _, _, _, h, rfl⟩).elim
        · rename_i h; injection h with h; exact (hsh ⟨_, _, _, _, h, rfl⟩).elim
        · rfl
      rw [e1]
      split
      · exact (hsh ⟨_, _, _, _, rfl, rfl⟩).elim
      · exact (hsh ⟨_, _, _, _, rfl, rfl⟩).elim
      · rfl

end
end Go.Ai
