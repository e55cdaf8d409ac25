/- Ai, part 13: calls, and every operation. No condition. -/
import Derived.Test.YtbpnlbadgnjmaaaAiExec2
namespace Go.Ai
set_option linter.unusedSimpArgs false
set_option linter.unusedVariables false
set_option linter.constructorNameAsVariable false

section
variable {P : Program} {T : Nat → Option Ty} {S : Sp} {w0 : World} {h0 : H} {st : St} {a : Act} {w w' : World} {β : Beta} {h h' : H} {o : Oper} {Q : Exit → Act → World → Prop}

theorem list_one {α β : Type} {f : α → β} {l : List α} {x : β} (h : l.map f = [x]) : ∃ y, l = [y] ∧ f y = x := by
  cases l with
  | nil => cases h
  | cons y l =>
    cases l with
    | nil => simp at h; exact ⟨y, rfl, h⟩
    | cons z l => simp at h

theorem PW.one {α β : Type} {R : α → β → Prop} {x : α} {m : List β} (k : PW R [x] m) : ∃ y, m = [y] ∧ R x y := by
  obtain ⟨y, rfl⟩ := List.length_eq_one_iff.1 (show m.length = 1 by rw [← k.1]; rfl)
  exact ⟨y, rfl, k.head⟩

theorem PW.two {α β : Type} {R : α → β → Prop} {x x' : α} {m : List β} (k : PW R [x, x'] m) : ∃ y y', m = [y, y'] ∧ R x y ∧ R x' y' := by
  cases m with
  | nil => have := k.1; simp at this
  | cons y m =>
    obtain ⟨y', rfl, h⟩ := k.tail.one
    exact ⟨y, y', rfl, k.head, h⟩

theorem new_string' {u sz : Nat} (hu : P.underlying u = some .string) (s : ByteArray) (hall : (rowsOfBytes s.data.toList).all (fun r => r.length == sz) = true) :
    ∃ news, New P w sz (rowsOfBytes s.data.toList).length u (.string s) news ∧ RV h (rowsOfBytes s.data.toList) sz news := by
  have hl : (rowsOfBytes s.data.toList).length = s.data.toList.length := by simp [rowsOfBytes]
  cases hb : s.data.toList with
  | nil =>
    refine ⟨[], ⟨fun w' => ?_, fun w' _ => ?_, .inr hu⟩, RV.nil⟩
    · have : s.size = 0 := by
        have := congrArg List.length hb
        simpa using this
      simp [Builtin.lenOf, rowsOfBytes, this]
    · simp only [Builtin.firstCells, Sem.run_pure, Result.ok.injEq, and_true]
      apply Array.ext'
      simp [rowsOfBytes]
  | cons b bs =>
    have hsz : sz = 1 := by
      rw [hb] at hall
      simp [rowsOfBytes] at hall
      exact hall.1.symm
    subst hsz
    obtain ⟨news, h1, h2⟩ := new_string (P := P) (w := w) (h := h) hu s
    rw [hb] at h1 h2
    refine ⟨news, ?_, h2⟩
    have : (rowsOfBytes (b :: bs)).length = (b :: bs).length := by simp [rowsOfBytes]
    rw [this]
    exact h1

theorem g_call (hT : TOk P T) {E : Env} (hp : PureOk P E.pure) (hfull : FullOk P E.full) (k : RelAt S w0 h0 st a w β h) {ob' : Obs} (hob : ∀ i o, ob' i = some o → st.ob i = some o) {d : Nat} (hobd : d < st.objs.length → ob' d = st.ob d)
    {c : Call} (hop : o.op = .call c) {v : AV} {u : Upd} (hup : u.all (fun p => decide (p.1 < st.objs.length)) = true) (he : exec T E (evalOp st.tmps) ob' d (.call c) = some (v, u)) : Goes P S w0 h0 o a w (st.put o.dst v u) Q := by
  obtain ⟨callee, cargs, ctys⟩ := c
  simp only [exec] at he
  split at he
  · rename_i args ha
    have pa := args_R k _ _ ha
    have quiet : ∀ (b : Builtin) {z : AV}, callee = .builtin b → (∀ ty cs, ∃ y, (builtin b ctys ty cs (cargs.toList.map a.eval).toArray).run P w = .ok (.value y) w ∧ AVR β st.ob h z y) → Goes P S w0 h0 o a w (st.put o.dst z []) Q := by
      intro b z hb hr
      subst hb
      obtain ⟨cs, e⟩ := builtin_run (P := P) (w := w) (a := a) b hop
      obtain ⟨y, hy, hz⟩ := hr o.type cs
      exact Quiet.goes k ⟨y, by rw [e]; exact hy, hz⟩
    have app : ∀ {t u' : Nat} {s : LV} {av : AV} {new : List (List IV)}, args = [.leaf s, av] → ctys.toList = [t, u'] → appendAV T (E.grow.contains d) ob' d t s new = some (v, u) →
        (∀ x, AVR β st.ob h av x → ∀ e te, T t = some te → te.k = .slice e → ∀ te, T e = some te → 0 < te.size → new.all (fun r => r.length == te.size) = true → ∃ news, New P w te.size new.length u' x news ∧ RV h new te.size news) →
        callee = .builtin .append → Goes P S w0 h0 o a w (st.put o.dst v u) Q := by
      intro t u' s av new hargs hty happ hnew hcal
      subst hcal
      subst hargs
      obtain ⟨sv, xv, hx, h1, h2⟩ := pa.two
      obtain ⟨cs, e⟩ := builtin_run (P := P) (w := w) (a := a) .append hop
      have ec : ctys = #[t, u'] := by apply Array.ext'; simpa using hty
      obtain ⟨y, w', β', h', hr, hk⟩ := app_sound (u := u') (ty := o.type) (x := xv) hT k o.dst h1.lv hob hobd hup happ (hnew xv h2)
      refine Does.goes ⟨.value y, y, w', β', h', ?_, .inl rfl, hk⟩
      rw [e, hx, ec]
      simp only [builtin, Sem.run_bind, hr, Result.andThen_ok, Sem.run_pure]
    split at he
    · -- len
      split at he
      · rename_i s t hty
        split at he
        · rename_i ht
          obtain ⟨z, h1, h2⟩ := map_pair he
          obtain ⟨rfl, rfl⟩ := pair_nil h2
          refine quiet .len rfl fun ty cs => ?_
          obtain ⟨x, hx, hr⟩ := pa.one
          have hu := (hT t _ ht).und
          have hu : P.underlying t = some .string := hu
          obtain ⟨y, hy, hz⟩ := len_run (P := P) (w := w) hu (.inr rfl) hr h1 ⟨fun _ => rfl, fun _ => ⟨_, rfl⟩⟩ ty ctys (by rw [← Array.getElem?_toList, hty]; rfl)
          exact ⟨y, by rw [hx]; simp only [builtin, Sem.run_bind, hy, Result.andThen_ok, Sem.run_pure], hz⟩
        · cases he
      · rename_i x t hne hty
        split at he
        · rename_i ht
          obtain ⟨z, h1, h2⟩ := map_pair he
          obtain ⟨rfl, rfl⟩ := pair_nil h2
          refine quiet .len rfl fun ty cs => ?_
          obtain ⟨x', hx, hr⟩ := pa.one
          have hu := (hT t _ ht).und
          have hu : ∃ e, P.underlying t = some (.slice e) := ⟨_, hu⟩
          obtain ⟨e, hu⟩ := hu
          obtain ⟨y, hy, hz⟩ := len_run (P := P) (w := w) hu (.inl ⟨e, rfl⟩) hr h1 ⟨fun ⟨s, hs⟩ => (hne s hs).elim, fun q => by cases q⟩ ty ctys (by rw [← Array.getElem?_toList, hty]; rfl)
          exact ⟨y, by rw [hx]; simp only [builtin, Sem.run_bind, hy, Result.andThen_ok, Sem.run_pure], hz⟩
        · cases he
      · cases he
    · split at he
      · rename_i x r
        obtain ⟨z, h1, h2⟩ := map_pair he
        obtain ⟨rfl, rfl⟩ := pair_nil h2
        refine quiet .min rfl fun ty cs => ?_
        generalize cargs.toList.map a.eval = vals at pa
        cases vals with
        | nil => have := pa.1; simp at this
        | cons x' xs =>
          obtain ⟨y, hy, hz⟩ := minmax_run (P := P) (w := w) false r _ xs x' _ pa.tail pa.head h1
          refine ⟨y, ?_, hz⟩
          simp only [Bool.false_eq_true, if_false] at hy
          simp [builtin, Builtin.min_, hy]
      · cases he
    · split at he
      · rename_i x r
        obtain ⟨z, h1, h2⟩ := map_pair he
        obtain ⟨rfl, rfl⟩ := pair_nil h2
        refine quiet .max rfl fun ty cs => ?_
        generalize cargs.toList.map a.eval = vals at pa
        cases vals with
        | nil => have := pa.1; simp at this
        | cons x' xs =>
          obtain ⟨y, hy, hz⟩ := minmax_run (P := P) (w := w) true r _ xs x' _ pa.tail pa.head h1
          refine ⟨y, ?_, hz⟩
          simp only [if_true] at hy
          simp [builtin, Builtin.max_, hy]
      · cases he
    · -- append
      split at he
      · rename_i s b t u' hty
        split at he
        · rename_i hu
          refine app rfl hty he (fun x hx e te ht hk te' hte hz hall => ?_) rfl
          have hxs := hx.str
          subst hxs
          have hus := (hT u' _ hu).und
          have hus : P.underlying u' = some .string := hus
          exact new_string' hus b hall
        · cases he
      · rename_i s x t u' hne hty
        split at he
        · rename_i new hu hrows
          refine app rfl hty he (fun x hx e te ht hk te' hte hz hall => ?_) rfl
          obtain ⟨A, n, c, rfl, hnc, hcm, hlen, hf⟩ := k.rows1 hx.lv hob hrows
          subst hlen
          exact new_slice (hT u' _ hu).und (hf te'.size fun i r hi => by
            have := List.all_eq_true.1 hall r (List.mem_of_getElem? hi)
            simpa using this) hz
        · cases he
      · cases he
    · split at he
      · rename_i f hf
        rename_i f g first cap hf
        exact call_sound hT hp hfull k hob hobd hop rfl hf ha hup he
      · cases he
    · cases he
  · cases he

end
end Go.Ai
