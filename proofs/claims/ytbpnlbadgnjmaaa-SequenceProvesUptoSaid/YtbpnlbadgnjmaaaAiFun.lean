/- Ai, part 20: functions that are handed immutable values. No condition. -/
import Derived.Test.YtbpnlbadgnjmaaaAiRun
namespace Go.Ai
set_option linter.unusedSimpArgs false
set_option linter.unusedVariables false
set_option linter.constructorNameAsVariable false

section
variable {P : Program} {T : Nat → Option Ty} {S : Sp} {w0 : World} {h0 : H} {st : St} {a : Act} {w w' : World} {β : Beta} {h h' : H}

theorem resultAV_R (hT : TOk P T) (k : RelAt S w0 h0 st a w β h) {r : ResultVar} {v : AV} (he : resultAV T st r = some v) :
    ∃ x, (match r with | .tmp t => pure (a.tmps.getD t undef) | .cell p t => do loadVar t (← asAddr (a.tmps.getD p undef)) : Sem Value).run P w = .ok x w ∧ AVR β st.ob h v x := by
  cases r with
  | tmp t =>
    simp only [resultAV] at he
    obtain ⟨x, hx, hr⟩ := k.vals t v he
    exact ⟨x, by simp [Array.getD_eq_getD_getElem?, hx], hr⟩
  | cell p t =>
    simp only [resultAV] at he
    split at he
    · rename_i id ver off ty hp ht
      split at he
      · rename_i ct ver' cs ho
        split at he
        · rename_i hc
          obtain ⟨rfl, hl⟩ := hc
          obtain ⟨x, hx, hr⟩ := k.vals _ _ hp
          have el := hr.lv
          cases el with
          | ptr id ver off b ty' v' cs' hob' hle hat =>
            rw [ho] at hob'
            injection hob' with e
            injection e with e1 e2 e3
            subst e1; subst e2; subst e3
            obtain ⟨m, hb⟩ := hat rfl
            obtain ⟨vs, hw, hm, hlen, hpw, _⟩ := k.cells ho hb
            have hq := (hpw.drop off).take ty.size
            obtain ⟨hr2, h1⟩ := mkAV_R he hq
            refine ⟨_, ?_, hr2⟩
            have hrun := load_run (P := P) (w := w) (hT t ty ht) (b := b) (p := off) (xs := ((vs.toList.take cs.length).drop off).take ty.size) (by rw [← hq.1, List.length_take, List.length_drop]; omega)
              (fun j x hx => by
                rw [heap_cell hw]
                rw [List.getElem?_take] at hx
                split at hx
                · rw [List.getElem?_drop, List.getElem?_take] at hx
                  split at hx
                  · simpa using hx
                  · cases hx
                · cases hx) h1
            simp [Array.getD_eq_getD_getElem?, hx, asAddr, hrun]
        · cases he
      · cases he
    · cases he

theorem results_R (hT : TOk P T) (k : RelAt S w0 h0 st a w β h) : ∀ {rs : List ResultVar} {vs : List AV}, resultsAV T st rs = some vs →
    ∃ xs, (rs.mapM fun r => (match r with | .tmp t => pure (a.tmps.getD t undef) | .cell p t => do loadVar t (← asAddr (a.tmps.getD p undef)) : Sem Value)).run P w = .ok xs w ∧ PW (AVR β st.ob h) vs xs := by
  intro rs
  induction rs with
  | nil =>
    intro vs he
    simp only [resultsAV] at he
    injection he with he
    subst he
    exact ⟨[], by simp, PW.nil⟩
  | cons r rs ih =>
    intro vs he
    simp only [resultsAV] at he
    split at he
    · rename_i v vs' h1 h2
      injection he with he
      subst he
      obtain ⟨x, hx, hr⟩ := resultAV_R hT k h1
      obtain ⟨xs, hxs, hrs⟩ := ih h2
      refine ⟨x :: xs, ?_, PW.cons hr hrs⟩
      rw [List.mapM_cons]
      simp only [Sem.run_bind, hx, Result.andThen_ok, hxs, Sem.run_pure]
    · cases he

theorem results_run (hT : TOk P T) (k : RelAt S w0 h0 st a w β h) {fn : Func} {vs : List AV} (he : resultsAV T st fn.results.toList = some vs) : ∃ xs, (results fn a.tmps).run P w = .ok (if hx : xs.length = 1 then xs[0] else .tuple xs.toArray) w ∧ PW (AVR β st.ob h) vs xs := by
  obtain ⟨xs, hxs, hrs⟩ := results_R hT k he
  refine ⟨xs, ?_, hrs⟩
  unfold results
  rw [Array.mapM_eq_mapM_toList]
  simp only [Sem.run_bind, Sem.run_map]
  erw [hxs]
  simp only [Result.andThen_ok, Sem.run_pure]
  by_cases hx : xs.length = 1
  · simp [hx]
  · simp [hx]

theorem tuple_R {ob : Obs} {vs : List AV} {xs : List Value} (k : PW (AVR β ob h) vs xs) : AVR β ob h (tupleOf vs) (if hx : xs.length = 1 then xs[0] else .tuple xs.toArray) := by
  by_cases hx : xs.length = 1
  · rw [dif_pos hx]
    obtain ⟨x, rfl⟩ := List.length_eq_one_iff.1 hx
    obtain ⟨v, rfl⟩ := List.length_eq_one_iff.1 (show vs.length = 1 by rw [k.1]; rfl)
    exact k.head
  · rw [dif_neg hx]
    have : tupleOf vs = .tup vs := by
      unfold tupleOf
      split
      · have := k.1
        simp at this
        exact absurd this.symm hx
      · rfl
    rw [this]
    exact .tup _ _ k.1 fun i v x hv hx => k.2 i v x hv hx

/-- What is handed back is immutable: the frame's own blocks will not change any more. -/
theorem hand_leaf (k : RelAt S w0 h0 st a w β h) {l : LV} {v : IV} {x : Value} (kl : LVR β st.ob h l x) (he : lend st.ob l = some v) : IVR (frozenH st β (fun _ => false) w h) v x := by
  by_cases hms : ∃ id ver sz off len, l = .ms id ver sz off len
  · obtain ⟨id, ver, sz, off, len, rfl⟩ := hms
    simp only [lend] at he
    cases hr : rowsOf st.ob (.ms id ver sz off len) with
    | none => rw [hr] at he; cases he
    | some rows =>
      rw [hr] at he
      injection he with he
      subst he
      exact frozen_rows k kl rfl hr
  · have : l.strip = some v := by
      cases l <;> first | (exact absurd ⟨_, _, _, _, _, rfl⟩ hms) | exact he
    exact (strip_R kl this).mono (frozen_le k.ext _)

theorem hand_all (k : RelAt S w0 h0 st a w β h) : ∀ {vs us : List AV} {xs : List Value}, PW (AVR β st.ob h) vs xs → lendArgs st.ob vs = some us → PW (AVR noB noO (frozenH st β (fun _ => false) w h)) us xs := by
  have all : ∀ {ls : List LV} {vs : List IV} {xs : List Value}, PW (LVR β st.ob h) ls xs → lendAll st.ob ls = some vs → PW (IVR (frozenH st β (fun _ => false) w h)) vs xs := by
    intro ls
    induction ls with
    | nil =>
      intro vs xs kk he
      simp only [lendAll] at he
      injection he with he
      subst he
      have : xs = [] := List.eq_nil_of_length_eq_zero (by have := kk.1; simp at this; omega)
      subst this
      exact PW.nil
    | cons l ls ih =>
      intro vs xs kk he
      cases xs with
      | nil => have := kk.1; simp at this
      | cons x xs =>
        simp only [lendAll] at he
        split at he
        · rename_i v vs' h1 h2
          injection he with he
          subst he
          exact PW.cons (hand_leaf k kk.head h1) (ih kk.tail h2)
        · cases he
  have one : ∀ {v u : AV} {x : Value}, AVR β st.ob h v x → lendArg st.ob v = some u → AVR noB noO (frozenH st β (fun _ => false) w h) u x := by
    intro v u x kk he
    cases kk with
    | leaf l x kl =>
      simp only [lendArg] at he
      cases hs : lend st.ob l with
      | none => rw [hs] at he; cases he
      | some v => rw [hs] at he; injection he with he; subst he; exact .leaf _ _ (.imm _ _ (hand_leaf k kl hs))
    | agg ls xs kl =>
      simp only [lendArg] at he
      cases hs : lendAll st.ob ls with
      | none => rw [hs] at he; cases he
      | some vs => rw [hs] at he; injection he with he; subst he; exact .agg _ _ (PW.map_left.2 ((all kl hs).imp fun v x k => .imm _ _ k))
    | tup vs xs hl k => simp [lendArg] at he
  intro vs
  induction vs with
  | nil =>
    intro us xs kk he
    simp only [lendArgs] at he
    injection he with he
    subst he
    have : xs = [] := List.eq_nil_of_length_eq_zero (by have := kk.1; simp at this; omega)
    subst this
    exact PW.nil
  | cons v vs ih =>
    intro us xs kk he
    cases xs with
    | nil => have := kk.1; simp at this
    | cons x xs =>
      simp only [lendArgs] at he
      split at he
      · rename_i u us' h1 h2
        injection he with he
        subst he
        exact PW.cons (one kk.head h1) (ih kk.tail h2)
      · cases he

/-- The begin of a function that is handed immutable values. -/
theorem enter_R {args : List AV} {vals : List Value} (hx : Ext w h) (hp : PW (AVR noB noO h) args vals) (n : Nat) :
    RelAt Sp.no w h { tmps := args ++ List.replicate (n - args.length) (.leaf .und), objs := List.replicate n none } { tmps := vals.toArray ++ Array.replicate (n - vals.toArray.size) undef, defers := [] } w noB h := by
  have hob : St.ob { tmps := args ++ List.replicate (n - args.length) (.leaf .und), objs := List.replicate n none } = noO := by
    funext i
    simp only [St.ob, List.getElem?_replicate, noO]
    split <;> rfl
  have hl := hp.1
  refine ⟨by simp [hl], fun i v hi => ?_, rfl, fun i o ho => ?_, fun i i' b m m' hi _ _ _ => ?_, hx, HLe.refl h, fun _ _ _ _ => rfl, Frame.refl _ _, fun i o ho => by cases ho⟩
  · rw [hob]
    have hi' : (args ++ List.replicate (n - args.length) (.leaf .und))[i]? = some v := hi
    rw [List.getElem?_append] at hi'
    split at hi'
    · rename_i hlt
      obtain ⟨x, hx, hr⟩ := hp.get hi'
      refine ⟨x, ?_, hr⟩
      rw [Array.getElem?_append_left (by simp; omega)]
      simpa using hx
    · rename_i hge
      rw [List.getElem?_replicate] at hi'
      split at hi'
      · rename_i hlt
        injection hi' with hi'
        subst hi'
        refine ⟨undef, ?_, .leaf _ _ .und⟩
        rw [Array.getElem?_append_right (by simp; omega)]
        rw [Array.getElem?_replicate, if_pos (by simp; omega)]
      · cases hi'
  · rw [hob] at ho; cases ho
  · rw [hob] at hi; cases hi

/-- A table of functions is the program's. -/
def FOk (P : Program) (F : Nat → Option Fun) : Prop := ∀ g f, F g = some f → P.funcs[g]? = some f.fn ∧ (f.fn.name == "runtime.NumGoroutine") = false

theorem runFun_sound (hT : TOk P T) {F : Nat → Option Fun} (hF : FOk P F) {E : Env} (hS : PureOk P E.pure) : ∀ fuel, (∀ f < fuel, FullOk P (runFull T F E f)) → PureOk P (runFun T F E fuel) := by
  intro fuel
  induction fuel with
  | zero => intro _ g ps r he; simp [runFun] at he
  | succ fuel ih =>
    intro hfull g ps r he
    simp only [runFun] at he
    split at he
    · rename_i r' hr
      injection he with he
      subst he
      exact hS g ps _ hr
    · split at he
      · rename_i f hf
        obtain ⟨hfn, hname⟩ := hF g f hf
        split at he
        · cases he
        · split at he
          · rename_i c hb
            refine ⟨⟨f.fn, c, hfn, hname, hb⟩, fun w h vals hx hp => ?_⟩
            split at he
            · cases he
            · rename_i ex st' hne hrun
              split at he
              · rename_i vs hvs
                obtain ⟨us, hus, hr⟩ := Option.map_eq_some_iff.1 he
                subst hr
                refine calls_of_wp hfn hb ?_
                have k := enter_R hx hp f.fn.ntmps
                refine ((run_sound (S := Sp.no) (w0 := w) (h0 := h) hT (E := { pure := runFun T F E fuel, full := runFull T F E fuel, grow := f.grow }) (ih fun n hn => hfull n (by omega)) (hfull fuel (Nat.lt_succ_self _)) f.keep (fun r i hi => by cases hi) fuel).1 c _ _ _ hrun _ _ _ _ k _ fun a' w' β' h' k' => ?_)
                obtain ⟨xs, hxs, hpw⟩ := results_run hT k' hvs
                have hres : ∃ h2, HLe h h2 ∧ (∀ b o, b < w.heap.size → h2 b o = h b o) ∧ Ext w' h2 ∧ AVR noB noO h2 (tupleOf us) (if hx : xs.length = 1 then xs[0] else .tuple xs.toArray) ∧ Frame (fun _ => False) w w' := by
                  refine ⟨frozenH st' β' (fun _ => false) w' h', k'.up.trans (frozen_le k'.ext _), fun b o hb => ?_, ?_, tuple_R (hand_all k' hpw hus), k'.frame⟩
                  · have hg : ¬ Gone st' β' (fun _ => false) b := fun ⟨id, m, h1, _, h3⟩ => by
                      obtain ⟨o1, ho1⟩ := Option.isSome_iff_exists.1 h1
                      rcases (k'.objs id o1 ho1).base h3 with q | q
                      · omega
                      · exact q
                    rw [frozen_else hg]
                    exact k'.fresh _ _ hb (fun q => q)
                  · exact (freeze_sound k' [] (fun _ => false) (fun i hi => by cases hi)).ext
                cases ex with
                | normal => exact ⟨k'.defers, _, hxs, hres⟩
                | ret => exact ⟨k'.defers, _, hxs, hres⟩
                | exit id => exact (hne id rfl).elim
              · cases he
            · cases he
          · cases he
      · cases he

/-- No function is handed objects. -/
theorem noFull {F : Nat → Option Fun} (hF : ∀ g f, F g = some f → f.obj = false) {E : Env} (hE : ∀ g d args ob, E.full g d args ob = none) : ∀ fuel, FullOk P (runFull T F E fuel) := by
  intro fuel g d args ob r u he
  exfalso
  cases fuel with
  | zero => simp [runFull] at he
  | succ fuel =>
    simp only [runFull, hE] at he
    split at he
    · rename_i f hf
      simp [hF g f hf] at he
    · cases he

theorem runFun_pure (hT : TOk P T) {F : Nat → Option Fun} (hF : FOk P F) (hobj : ∀ g f, F g = some f → f.obj = false) {E : Env} (hS : PureOk P E.pure) (hE : ∀ g d args ob, E.full g d args ob = none) (fuel : Nat) : PureOk P (runFun T F E fuel) :=
  runFun_sound hT hF hS fuel fun f _ => noFull hobj hE f

end
end Go.Ai
