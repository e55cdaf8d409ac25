/- Ai, part 15: an operation's step depends on what it reads, and changes what it writes. No condition. -/
import Derived.Test.YtbpnlbadgnjmaaaAiStep
namespace Go.Ai
set_option linter.unusedSimpArgs false
set_option linter.unusedVariables false
set_option linter.constructorNameAsVariable false

def Same (x : Nat) (s s' : St) : Prop := (∀ t, x = 2 * t → s.tmps[t]? = s'.tmps[t]?) ∧ (∀ i, x = 2 * i + 1 → s.objs[i]? = s'.objs[i]?)

theorem Same.refl (x : Nat) (s : St) : Same x s s := ⟨fun _ _ => rfl, fun _ _ => rfl⟩
theorem Same.symm {x : Nat} {s s' : St} (h : Same x s s') : Same x s' s := ⟨fun t e => (h.1 t e).symm, fun i e => (h.2 i e).symm⟩
theorem Same.trans {x : Nat} {s s' s'' : St} (h : Same x s s') (k : Same x s' s'') : Same x s s'' := ⟨fun t e => (h.1 t e).trans (k.1 t e), fun i e => (h.2 i e).trans (k.2 i e)⟩

/-- As many places. -/
def Alike (s s' : St) : Prop := s.tmps.length = s'.tmps.length ∧ s.objs.length = s'.objs.length
theorem Alike.symm {s s' : St} (h : Alike s s') : Alike s' s := ⟨h.1.symm, h.2.symm⟩
theorem Alike.trans {s s' s'' : St} (h : Alike s s') (k : Alike s' s'') : Alike s s'' := ⟨h.1.trans k.1, h.2.trans k.2⟩

theorem put_alike (s : St) (d : Option Nat) (v : AV) (u : Upd) : Alike s (s.put d v u) := by
  refine ⟨?_, ?_⟩
  · cases d <;> simp [St.put]
  · simp [St.put, upds_length]

section
variable {T : Nat → Option Ty} {E : Env} {ρ ρ' : Operand → Option AV}

theorem mapEval_congr : ∀ {xs : List Operand}, (∀ x ∈ xs, ρ x = ρ' x) → mapEval ρ xs = mapEval ρ' xs := by
  intro xs
  induction xs with
  | nil => intro _; rfl
  | cons x xs ih =>
    intro h
    simp only [mapEval, h x (List.mem_cons_self), ih fun y hy => h y (List.mem_cons_of_mem _ hy)]

theorem optEval_congr {x : Option Operand} (h : ∀ y, x = some y → ρ y = ρ' y) : optEval ρ x = optEval ρ' x := by
  cases x with
  | none => rfl
  | some x => simp only [optEval, h x rfl]

theorem idsOf_congr : ∀ {xs : List Operand}, (∀ x ∈ xs, ρ x = ρ' x) → idsOf ρ xs = idsOf ρ' xs := by
  intro xs
  induction xs with
  | nil => intro _; rfl
  | cons x xs ih =>
    intro h
    simp only [idsOf, h x (List.mem_cons_self), ih fun y hy => h y (List.mem_cons_of_mem _ hy)]

theorem exec_congr {ob : Obs} {d : Nat} {op : Op} (h : ∀ x ∈ op.operands, ρ x = ρ' x) : exec T E ρ ob d op = exec T E ρ' ob d op := by
  have parts : ∀ ps : Array (Nat × Operand), (∀ x ∈ ps.map (·.2), ρ x = ρ' x) → (ps.toList.map fun p => (p.1, ρ p.2)) = (ps.toList.map fun p => (p.1, ρ' p.2)) := fun ps hp =>
    List.map_congr_left fun p hm => by rw [hp p.2 (Array.mem_map.2 ⟨p, Array.mem_toList_iff.1 hm, rfl⟩)]
  cases op <;> simp only [Op.operands] at h <;> try rfl
  case build t ps => simp only [exec, parts ps (by simpa using h)]
  case buildSlice t n ps => simp only [exec, parts ps (by simpa using h)]
  case makeFunc fn first captured =>
    have h1 : mapEval ρ first.toList = mapEval ρ' first.toList := mapEval_congr fun x hx => h x (by simp [Array.mem_toList_iff.1 hx])
    have h2 : mapEval ρ captured.toList = mapEval ρ' captured.toList := mapEval_congr fun x hx => h x (by simp [Array.mem_toList_iff.1 hx])
    cases fn <;> simp only [exec, h1, h2]
  case slice t x lo hi mx =>
    have h1 : optEval ρ lo = optEval ρ' lo := optEval_congr fun y e => h y (by simp [e])
    have h2 : optEval ρ hi = optEval ρ' hi := optEval_congr fun y e => h y (by simp [e])
    have h3 : optEval ρ mx = optEval ρ' mx := optEval_congr fun y e => h y (by simp [e])
    simp only [exec, h1, h2, h3, h x (by simp)]
  case call c =>
    obtain ⟨callee, args, tys⟩ := c
    have h1 : mapEval ρ args.toList = mapEval ρ' args.toList := mapEval_congr fun x hx => h x (by simp [Call.operands, Array.mem_toList_iff.1 hx])
    cases callee with
    | value f => simp only [exec, h1, h f (by simp [Call.operands])]
    | builtin b => simp only [exec, h1]; cases mapEval ρ' args.toList <;> first | rfl | (cases b <;> rfl)
    | invoke r m => simp only [exec, h1]
  all_goals (simp at h; first | simp only [exec, h] | (obtain ⟨h1, h2⟩ := h; first | simp only [exec, h1, h2] | (obtain ⟨h2, h3⟩ := h2; simp only [exec, h1, h2, h3])))

theorem quiet_nil {ob : Obs} {d : Nat} {op : Op} {v : AV} {u : Upd} (hq : quietOp op = true) (he : exec T E ρ ob d op = some (v, u)) : u = [] := by
  have gen : ∀ {α : Type} {x : Option α} {f : α → AV}, (x.map fun z => (f z, ([] : Upd))) = some (v, u) → u = [] := fun h => by
    obtain ⟨z, _, h2⟩ := map_pair h
    exact (pair_nil h2).2
  have one : ∀ {z : AV}, some (z, ([] : Upd)) = some (v, u) → u = [] := fun h => by
    injection h with h
    exact (pair_nil h).2
  cases op <;> simp only [quietOp] at hq <;> try (cases hq; done)
  case call c =>
    obtain ⟨callee, args, tys⟩ := c
    cases callee with
    | builtin b =>
      cases b <;> simp only [quietOp] at hq <;> try (cases hq; done)
      all_goals
        simp only [exec] at he
        repeat' split at he
        all_goals first | exact gen he | exact one he | cases he
    | _ => simp [quietOp] at hq
  case makeFunc f xs ys =>
    cases f <;> simp only [exec] at he <;> (repeat' split at he) <;> first | exact gen he | exact one he | cases he
  all_goals
    simp only [exec] at he
    repeat' split at he
    all_goals first | exact gen he | exact one he | cases he

theorem put_tmp {s s' : St} (hal : Alike s s') (d : Option Nat) (v : AV) (u u' : Upd) (x : Nat) (hx : x ∈ d.toList.map (2 * ·)) : Same x (s.put d v u) (s'.put d v u') := by
  cases d with
  | none => simp at hx
  | some d =>
    simp at hx
    subst hx
    refine ⟨fun t e => ?_, fun i e => by omega⟩
    have : t = d := by omega
    subst this
    simp only [St.put, List.getElem?_set, if_pos, hal.1]

theorem put_other (s : St) (d : Option Nat) (v : AV) (u : Upd) (x : Nat) (hx : x ∉ d.toList.map (2 * ·)) (hu : u = [] ∨ ∀ p ∈ u, x ≠ 2 * p.1 + 1) : Same x s (s.put d v u) := by
  refine ⟨fun t e => ?_, fun i e => ?_⟩
  · cases d with
    | none => rfl
    | some d =>
      simp at hx
      have : d ≠ t := fun q => hx (by omega)
      simp only [St.put, List.getElem?_set, if_neg this]
  · have gen : ∀ (u : Upd) (objs : List (Option AObj)), (∀ p ∈ u, i ≠ p.1) → objs[i]? = (upds objs u)[i]? := by
      intro u
      induction u with
      | nil => intro objs _; rfl
      | cons p u ih =>
        intro objs h
        obtain ⟨j, o⟩ := p
        have h1 := h (j, o) (List.mem_cons_self)
        simp only [upds]
        rw [← ih _ fun q hq => h q (List.mem_cons_of_mem _ hq), List.getElem?_set, if_neg (fun e => h1 e.symm)]
    have h1 : ∀ p ∈ u, i ≠ p.1 := fun p hp => by
      rcases hu with rfl | hu
      · cases hp
      · intro q
        exact hu p hp (by omega)
    exact gen u s.objs h1

theorem put_obj {s s' : St} (hal : Alike s s') (d : Option Nat) (v : AV) (u : Upd) (i : Nat) (hs : s.objs[i]? = s'.objs[i]?) : Same (2 * i + 1) (s.put d v u) (s'.put d v u) := by
  refine ⟨fun t e => by omega, fun j e => ?_⟩
  have : j = i := by omega
  subst this
  have gen : ∀ (u : Upd) (objs objs' : List (Option AObj)), objs.length = objs'.length → objs[j]? = objs'[j]? → (upds objs u)[j]? = (upds objs' u)[j]? := by
    intro u
    induction u with
    | nil => intro objs objs' _ h; exact h
    | cons p u ih =>
      intro objs objs' hl h
      obtain ⟨k, o⟩ := p
      simp only [upds]
      refine ih _ _ (by simp [hl]) ?_
      simp only [List.getElem?_set, hl, h]
  exact gen u _ _ hal.2 hs

theorem guard_local {ops : List Oper} {s s' : St} {o : Oper} (h : ∀ t, 2 * t ∈ readsT ops o → s.tmps[t]? = s'.tmps[t]?) : guardOf ops s.tmps o.guard = guardOf ops s'.tmps o.guard := by
  have hg : ∀ t, 2 * t ∈ guardLoc ops o.guard → s.tmps[t]? = s'.tmps[t]? := fun t ht => h t (by unfold readsT; exact List.mem_append_right _ ht)
  cases hgd : o.guard with
  | none => rfl
  | some p =>
    obtain ⟨j, want⟩ := p
    rw [hgd] at hg
    simp only [guardLoc] at hg
    simp only [guardOf]
    cases hj : ops[j]? with
    | none => rfl
    | some oj =>
      obtain ⟨dst, op, type, pos, after, guard⟩ := oj
      cases dst with
      | none => rfl
      | some t =>
        rw [hj] at hg
        simp only at hg ⊢
        rw [hg t (by simp)]

theorem step_local {ops : List Oper} {s s1 s' : St} {o : Oper} (he : stepOp T E ops s o = some s1) (hal : Alike s s') (hr : ∀ x ∈ (foot T E ops s o).1, Same x s s') :
    ∃ s1', stepOp T E ops s' o = some s1' ∧ Alike s' s1' ∧ Alike s s1 ∧ (∀ x ∈ (foot T E ops s o).2, Same x s1 s1') ∧ ∀ x, x ∉ (foot T E ops s o).2 → Same x s' s1' ∧ Same x s s1 := by
  have hread : ∀ t, 2 * t ∈ readsT ops o → s.tmps[t]? = s'.tmps[t]? := fun t ht => by
    refine (hr (2 * t) ?_).1 t rfl
    unfold foot
    split
    · exact ht
    · exact List.mem_append_left _ ht
  have hg := guard_local (s := s) (s' := s') hread
  unfold stepOp at he ⊢
  rw [← hg]
  split at he
  · rename_i hgt
    have hf : (guardOf ops s.tmps o.guard = some false) = False := by rw [hgt]; simp
    have hfoot : foot T E ops s o = (readsT ops o ++ (touch s.tmps o).map (2 * · + 1), if quietOp o.op || silent (exec T E (evalOp s.tmps) (fetch (touch s.tmps o) s.ob) (o.dst.getD s.objs.length) o.op) then writesT o else writesT o ++ (touch s.tmps o).map (2 * · + 1)) := by
      unfold foot
      rw [if_neg (by rw [hf]; exact id)]
    rw [hfoot] at hr ⊢
    simp only at hr ⊢
    have hops : ∀ x ∈ o.op.operands, evalOp s.tmps x = evalOp s'.tmps x := fun x hx => by
      cases x with
      | tmp t =>
        simp only [evalOp]
        refine hread t ?_
        unfold readsT
        exact List.mem_append_left _ (List.mem_flatMap.2 ⟨.tmp t, Array.mem_toList_iff.2 hx, by simp [tmpLoc]⟩)
      | _ => rfl
    have htouch : touch s.tmps o = touch s'.tmps o := by
      unfold touch
      rw [idsOf_congr (ρ := evalOp s.tmps) (ρ' := evalOp s'.tmps) fun x hx => hops x (Array.mem_toList_iff.1 hx)]
    have hobj : ∀ i ∈ touch s.tmps o, s.objs[i]? = s'.objs[i]? := fun i hi => (hr (2 * i + 1) (List.mem_append_right _ (List.mem_map.2 ⟨i, hi, rfl⟩))).2 i rfl
    have hfetch : fetch (touch s.tmps o) s.ob = fetch (touch s'.tmps o) s'.ob := by
      rw [← htouch]
      funext i
      unfold fetch
      split
      · rename_i hi
        simp only [St.ob, hobj i hi]
      · rfl
    have hexec : exec T E (evalOp s'.tmps) (fetch (touch s'.tmps o) s'.ob) (o.dst.getD s'.objs.length) o.op = exec T E (evalOp s.tmps) (fetch (touch s.tmps o) s.ob) (o.dst.getD s.objs.length) o.op := by
      rw [← hfetch, ← hal.2, exec_congr hops]
    rw [hexec]
    split at he
    · rename_i v u hx
      split at he
      · rename_i hup
        injection he with he
        subst he
        rw [← htouch, ← hal.2, hx]
        simp only [hup, if_true]
        refine ⟨_, rfl, put_alike _ _ _ _, put_alike _ _ _ _, fun x hxm => ?_, fun x hxm => ?_⟩
        · have hcase : x ∈ writesT o ∨ ∃ i ∈ touch s.tmps o, x = 2 * i + 1 := by
            split at hxm
            · exact .inl hxm
            · rcases List.mem_append.1 hxm with q | q
              · exact .inl q
              · obtain ⟨i, hi, rfl⟩ := List.mem_map.1 q
                exact .inr ⟨i, hi, rfl⟩
          rcases hcase with q | ⟨i, hi, rfl⟩
          · exact put_tmp hal _ _ _ _ _ q
          · exact put_obj hal _ _ _ _ (hobj i hi)
        · have hcase : x ∉ writesT o ∧ (u = [] ∨ ∀ p ∈ u, x ≠ 2 * p.1 + 1) := by
            rw [Bool.and_eq_true] at hup
            split at hxm
            · rename_i hq
              rw [Bool.or_eq_true] at hq
              rcases hq with hq | hq
              · exact ⟨hxm, .inl (quiet_nil hq hx)⟩
              · cases u with
                | nil => exact ⟨hxm, .inl rfl⟩
                | cons p u => cases hq
            · refine ⟨fun q => hxm (List.mem_append_left _ q), .inr fun p hp e => hxm (List.mem_append_right _ (List.mem_map.2 ⟨p.1, ?_, e.symm⟩))⟩
              have := List.all_eq_true.1 hup.2 p hp
              simpa using this
          exact ⟨put_other _ _ _ _ _ hcase.1 hcase.2, put_other _ _ _ _ _ hcase.1 hcase.2⟩
      · cases he
    · cases he
  · rename_i hgt
    have hfoot : foot T E ops s o = (readsT ops o, writesT o) := by
      unfold foot
      rw [if_pos hgt]
    rw [hfoot]
    injection he with he
    subst he
    exact ⟨_, rfl, put_alike _ _ _ _, put_alike _ _ _ _, fun x hxm => put_tmp hal _ _ _ _ _ hxm, fun x hxm => ⟨put_other _ _ _ _ _ hxm (.inl rfl), put_other _ _ _ _ _ hxm (.inl rfl)⟩⟩
  · cases he

end
end Go.Ai
