/- Ai, part 5: parts of structs, bytes, struct values. No condition. -/
import Derived.Test.YtbpnlbadgnjmaaaAiOps2
import Derived.Laws.Tables
import Derived.Laws.BytesArg
import Derived.Laws.StructEq
namespace Go.Ai
set_option linter.unusedSimpArgs false
set_option linter.unusedVariables false

section
variable {P : Program} {T : Nat → Option Ty} {S : Sp} {w0 : World} {h0 : H} {st : St} {a : Act} {w : World} {β : Beta} {h : H} {o : Oper}

theorem part_run {t : Nat} {ty : Ty} (hty : TyOk P t ty) {xs : List Value} {off : Nat} (hl : off + ty.size ≤ xs.length) (h1 : ty.k.agg = false → ((xs.drop off).take ty.size).length = 1) :
    (part t xs.toArray off).run P w = .ok (if ty.k.agg then .agg ((xs.drop off).take ty.size).toArray else ((xs.drop off).take ty.size).headD undef) w := by
  simp only [part, Sem.run_bind, hty.isAgg w, Result.andThen_ok, Sem.run_ite]
  cases hk : ty.k.agg
  · have h1 := h1 hk
    simp only [List.length_take, List.length_drop] at h1
    have hs : ty.size = 1 := by omega
    have hlt : off < xs.length := by omega
    have e1 : (xs.drop off).take 1 = [xs[off]] := by rw [List.drop_eq_getElem_cons hlt]; rfl
    rw [hs, e1]
    simp [List.getElem?_eq_getElem hlt]
  · simp only [if_true, hty.size w, Sem.run_bind, Result.andThen_ok, Sem.run_pure]
    congr 2
    apply Array.ext'
    simp [List.drop_take]

theorem q_field (hT : TOk P T) (k : RelAt S w0 h0 st a w β h) {x : Operand} {s i : Nat} (hop : o.op = .field s x i) {q ft : Nat} {ty tf : Ty} {fs : List (Nat × Nat)} {ls : List LV} {v : AV}
    (hx : evalOp st.tmps x = some (.agg ls)) (ht : T s = some ty) (hk : ty.k = .struct fs) (hf : fs[i]? = some (q, ft)) (hft : T ft = some tf) (hl : q + tf.size ≤ ls.length) (hv : mkAV tf.k.agg ((ls.drop q).take tf.size) = some v) : Quiet P o a w β st.ob h v := by
  have ex := k.eval hx
  obtain ⟨F, f, hF, hFi, e1, e2⟩ := struct_field (hT s ty ht) hk hf
  subst e1; subst e2
  generalize hax : a.eval x = y at ex
  cases ex with
  | agg ls xs kp =>
    have hp := (kp.drop f.offset).take tf.size
    obtain ⟨hr, h1⟩ := mkAV_R hv hp
    refine ⟨_, ?_, hr⟩
    have hrun := part_run (P := P) (w := w) (hT _ _ hft) (xs := xs) (off := f.offset) (by rw [← kp.1]; exact hl) h1
    simp [execOp, hop, hax, Instr.field, run_underlying hF, hFi, asAgg, hrun]

theorem q_index_str (k : RelAt S w0 h0 st a w β h) {x y : Operand} {t : Nat} (hop : o.op = .index t x y) {s : ByteArray} {q : IntKind} {i : Int} {b : UInt8} (hu : P.underlying t = some .string)
    (hx : evalOp st.tmps x = some (.leaf (.imm (.str s)))) (hy : evalOp st.tmps y = some (.leaf (.imm (.int q i)))) (h0i : 0 ≤ i) (hb : s.data.toList[i.toNat]? = some b) : Quiet P o a w β st.ob h (intAV .u8 b.toNat) := by
  have ex := (k.eval hx).str
  have ey := (k.eval hy).int
  have hi : i.toNat < s.size := by
    have := (List.getElem?_eq_some_iff.1 hb).1
    simpa using this
  have hget : s[i.toNat]? = some b := by
    have h2 := (List.getElem?_eq_some_iff.1 hb).2
    rw [getElem?_pos s i.toNat hi]
    congr 1
  refine ⟨_, ?_, intR _ _⟩
  simp [execOp, hop, ex, ey, Instr.index, asIntOf, run_underlying hu, h0i, hget]

theorem q_index_agg (hT : TOk P T) (k : RelAt S w0 h0 st a w β h) {x y : Operand} {t e m : Nat} (hop : o.op = .index t x y) {ls : List LV} {q : IntKind} {i : Int} {ty te : Ty} {v : AV}
    (hx : evalOp st.tmps x = some (.agg ls)) (hy : evalOp st.tmps y = some (.leaf (.imm (.int q i)))) (ht : T t = some ty) (hk : ty.k = .array m e) (hte : T e = some te) (h0i : 0 ≤ i) (hi : i < m) (hl : i.toNat * te.size + te.size ≤ ls.length)
    (hv : mkAV te.k.agg ((ls.drop (i.toNat * te.size)).take te.size) = some v) : Quiet P o a w β st.ob h v := by
  have ex := k.eval hx
  have ey := (k.eval hy).int
  have hu := (hT t ty ht).und
  rw [hk] at hu
  have hu : P.underlying t = some (.array m e) := hu
  have hc : 0 ≤ i ∧ i < (m : Int) := ⟨h0i, hi⟩
  generalize hax : a.eval x = z at ex
  cases ex with
  | agg ls xs kp =>
    have hp := (kp.drop (i.toNat * te.size)).take te.size
    obtain ⟨hr, h1⟩ := mkAV_R hv hp
    refine ⟨_, ?_, hr⟩
    have hrun := part_run (P := P) (w := w) (hT _ _ hte) (xs := xs) (off := i.toNat * te.size) (by rw [← kp.1]; exact hl) h1
    simp [execOp, hop, hax, ey, Instr.index, asIntOf, run_underlying hu, hc, (hT e te hte).size w, hrun]

/-- The cells of a zero value. -/
theorem TyOk.zero {t : Nat} {ty : Ty} (hty : TyOk P t ty) (ob : Obs) : ∃ z, (zeroValue t).run P w = .ok z w ∧ PW (LVR β ob h) (ty.zero.map .imm) z.cells.toList ∧ z.cells.size = ty.size ∧ ty.zero.length = ty.size := by
  obtain ⟨i, z, hi, hs, hb, hz, hp, hsz⟩ := hty.info
  refine ⟨z, by simp [zeroValue, typeInfo, hi, hz], PW.map_left.2 (hp.imp fun v x k => .imm _ _ (k.mono fun _ _ _ e => by cases e)), hsz, ?_⟩
  rw [hp.1, Array.length_toList, hsz]

theorem setRange_R {ob : Obs} {cs ls : List LV} {vs xs : List Value} (k : PW (LVR β ob h) cs vs) (kl : PW (LVR β ob h) ls xs) (off : Nat) : PW (LVR β ob h) (setRange cs off ls) (vs.take off ++ (xs ++ vs.drop (off + xs.length))) := by
  unfold setRange
  rw [← kl.1]
  exact (k.take off).append (kl.append (k.drop _))

theorem setRange_length {cs ls : List LV} {off : Nat} (hl : off + ls.length ≤ cs.length) : (setRange cs off ls).length = cs.length := by
  simp [setRange]
  omega

theorem foldl_set : ∀ (xs : List Value) (off : Nat) (cells : Array Value), off + xs.length ≤ cells.size →
    ((xs.zipIdx 0).foldl (fun cs (x : Value × Nat) => cs.setIfInBounds (off + x.2) x.1) cells).toList = cells.toList.take off ++ (xs ++ cells.toList.drop (off + xs.length)) := by
  have gen : ∀ (xs : List Value) (j off : Nat) (cells : Array Value), off + j + xs.length ≤ cells.size →
      ((xs.zipIdx j).foldl (fun cs (x : Value × Nat) => cs.setIfInBounds (off + x.2) x.1) cells).toList = cells.toList.take (off + j) ++ (xs ++ cells.toList.drop (off + j + xs.length)) := by
    intro xs
    induction xs with
    | nil => intro j off cells _; simp
    | cons x xs ih =>
      intro j off cells hl
      simp only [List.length_cons] at hl
      simp only [List.zipIdx_cons, List.foldl_cons]
      rw [ih (j + 1) off _ (by simp; omega)]
      apply List.ext_getElem?
      intro i
      simp only [Array.toList_setIfInBounds, List.getElem?_append, List.getElem?_take, List.getElem?_set, List.length_take, List.length_set, List.getElem?_drop, List.getElem?_cons, List.length_cons, Array.length_toList]
      have e1 : min (off + (j + 1)) cells.size = off + j + 1 := by omega
      have e2 : min (off + j) cells.size = off + j := by omega
      rw [e1, e2]
      rcases Nat.lt_trichotomy i (off + j) with hlt | heq | hgt
      · rw [if_pos (by omega), if_pos (by omega), if_neg (by omega), if_pos (by omega), if_pos (by omega)]
      · subst heq
        rw [if_pos (by omega), if_pos (by omega), if_pos rfl, if_pos (by omega), if_neg (by omega), if_pos (by omega), if_pos (by omega)]
      · obtain ⟨d, rfl⟩ : ∃ d, i = off + j + 1 + d := ⟨i - (off + j + 1), by omega⟩
        have e3 : off + j + 1 + d - (off + j + 1) = d := by omega
        have e4 : off + j + 1 + d - (off + j) = d + 1 := by omega
        rw [e3, e4]
        have f1 : ¬ (off + j + 1 + d < off + j + 1) := by omega
        have f2 : ¬ (off + j + 1 + d < off + j) := by omega
        simp only [if_neg f1, if_neg f2]
        by_cases hx : d < xs.length
        · have g1 : d + 1 < xs.length + 1 := by omega
          simp [hx, g1]
        · have g1 : ¬ (d + 1 < xs.length + 1) := by omega
          have g2 : ¬ (off + j = off + (j + 1) + xs.length + (d - xs.length)) := by omega
          simp only [if_neg hx, if_neg g1, if_neg g2]
          congr 1
          omega
  intro xs off cells hl
  have := gen xs 0 off cells (by omega)
  simpa using this

theorem fill_run {ob : Obs} {place place' : Nat → Option (Nat × Nat)} (hpl : ∀ i p, place' i = some p → place i = some p) :
    ∀ (ps : List (Nat × Value)) (qs : List (Nat × Option AV)) (cs : List LV) (cells : Array Value) (ls : List LV), ps.length = qs.length →
    (∀ (i : Nat) (p : Nat × Value) (q : Nat × Option AV), ps[i]? = some p → qs[i]? = some q → p.1 = q.1 ∧ ∀ v, q.2 = some v → AVR β ob h v p.2) →
    PW (LVR β ob h) cs cells.toList → fillAV place' cs qs = some ls → ∃ out, Instr.fill place cells ps = some out ∧ PW (LVR β ob h) ls out.toList := by
  intro ps
  induction ps with
  | nil =>
    intro qs cs cells ls hl _ hp he
    have : qs = [] := List.eq_nil_of_length_eq_zero (by simp at hl; omega)
    subst this
    simp only [fillAV] at he
    injection he with he
    subst he
    exact ⟨cells, rfl, hp⟩
  | cons p ps ih =>
    intro qs cs cells ls hl hk hp he
    cases qs with
    | nil => simp at hl
    | cons q qs =>
      obtain ⟨i, x⟩ := p
      obtain ⟨i', ov⟩ := q
      obtain ⟨e1, hv⟩ := hk 0 _ _ rfl rfl
      simp only at e1
      subst e1
      simp only [fillAV] at he
      cases hpo : place' i with
      | none => rw [hpo] at he; cases he
      | some pr =>
        obtain ⟨off, n⟩ := pr
        cases ov with
        | none => rw [hpo] at he; cases he
        | some v =>
          rw [hpo] at he
          simp only at he
          split at he
          · rename_i hc
            obtain ⟨c1, c2, c3, c4⟩ := hc
            have hpn := hpl _ _ hpo
            have hpw := (hv v rfl).leaves c4 (by omega)
            have hxn : x.cells.size = n := by rw [← c1, hpw.1, Array.length_toList]
            have hcl : cells.size = cs.length := by rw [hp.1, Array.length_toList]
            have hset := foldl_set x.cells.toList off cells (by rw [← hpw.1, hcl, c1]; exact c3)
            have hstep : Instr.fill place cells ((i, x) :: ps) = Instr.fill place (x.cells.zipIdx.foldl (fun cs (x : Value × Nat) => cs.setIfInBounds (off + x.2) x.1) cells) ps := by
              have hc : ¬ (off + n > cells.size) := by rw [hcl]; omega
              simp only [Instr.fill, hpn, hxn]
              rw [if_neg (by simpa using hc)]
            rw [hstep]
            refine ih qs _ _ ls (by simpa using hl) (fun j p q h1 h2 => hk (j + 1) p q (by simpa using h1) (by simpa using h2)) ?_ he
            have e : (x.cells.zipIdx.foldl (fun cs (x : Value × Nat) => cs.setIfInBounds (off + x.2) x.1) cells).toList = cells.toList.take off ++ (x.cells.toList ++ cells.toList.drop (off + x.cells.toList.length)) := by
              rw [← hset, ← Array.foldl_toList]
              simp
            rw [e]
            exact setRange_R hp hpw off
          · cases he

theorem parts_R (k : RelAt S w0 h0 st a w β h) (parts : Array (Nat × Operand)) :
    (parts.map fun (x : Nat × Operand) => (x.1, a.eval x.2)).toList.length = (parts.toList.map fun p => (p.1, evalOp st.tmps p.2)).length ∧
    ∀ (i : Nat) (p : Nat × Value) (q : Nat × Option AV), (parts.map fun (x : Nat × Operand) => (x.1, a.eval x.2)).toList[i]? = some p → (parts.toList.map fun p => (p.1, evalOp st.tmps p.2))[i]? = some q → p.1 = q.1 ∧ ∀ v, q.2 = some v → AVR β st.ob h v p.2 := by
  refine ⟨by simp, fun i p q hp hq => ?_⟩
  rw [List.getElem?_map] at hq
  cases hx : parts.toList[i]? with
  | none => rw [hx] at hq; cases hq
  | some y =>
    rw [hx] at hq
    have hx' : parts[i]? = some y := by simpa using hx
    have : (parts.map fun (x : Nat × Operand) => (x.1, a.eval x.2)).toList[i]? = some (y.1, a.eval y.2) := by simp [hx']
    rw [this] at hp
    injection hp with hp
    injection hq with hq
    subst hp; subst hq
    exact ⟨rfl, fun v hv => k.eval hv⟩

theorem places_some (fs : List Field) (hf : ∀ f ∈ fs, (P.info? f.type).isSome = true) : ∃ places, fs.mapM (fun f => (P.info? f.type).map fun i => (f.offset, i.size)) = some places ∧ places.length = fs.length ∧
    ∀ (i : Nat) (f : Field), fs[i]? = some f → ∃ I, P.info? f.type = some I ∧ places[i]? = some (f.offset, I.size) := by
  induction fs with
  | nil => exact ⟨[], by simp, rfl, fun i f h => by simp at h⟩
  | cons f fs ih =>
    obtain ⟨places, h1, h2, h3⟩ := ih fun g hg => hf g (List.mem_cons_of_mem _ hg)
    obtain ⟨I, hI⟩ := Option.isSome_iff_exists.1 (hf f (List.mem_cons_self))
    refine ⟨(f.offset, I.size) :: places, by simp [List.mapM_cons, hI, h1], by simp [h2], fun i g hg => ?_⟩
    cases i with
    | zero => simp at hg; subst hg; exact ⟨I, hI, rfl⟩
    | succ i => simpa using h3 i g (by simpa using hg)

theorem q_build (hT : TOk P T) (k : RelAt S w0 h0 st a w β h) {t : Nat} {parts : Array (Nat × Operand)} (hop : o.op = .build t parts) {ty : Ty} {ls : List LV} (ht : T t = some ty)
    (hf : (∃ fs, ty.k = .struct fs ∧ fillAV (fieldAt T fs) (ty.zero.map .imm) (parts.toList.map fun p => (p.1, evalOp st.tmps p.2)) = some ls) ∨
      (∃ n e te, ty.k = .array n e ∧ T e = some te ∧ fillAV (fun i => some (i * te.size, te.size)) (ty.zero.map .imm) (parts.toList.map fun p => (p.1, evalOp st.tmps p.2)) = some ls)) : Quiet P o a w β st.ob h (.agg ls) := by
  obtain ⟨I, z, hi, _, _, hz, hp, _⟩ := (hT t ty ht).info
  have hzp : PW (LVR β st.ob h) (ty.zero.map .imm) z.cells.toList := PW.map_left.2 (hp.imp fun v x k => .imm _ _ (k.mono fun _ _ _ e => by cases e))
  obtain ⟨p1, p2⟩ := parts_R k parts
  have hu := (hT t ty ht).und
  rcases hf with ⟨fs, hk, hfill⟩ | ⟨n, e, te, hk, hte, hfill⟩
  · rw [hk] at hu
    obtain ⟨F, hF, hm, hinf⟩ := hu
    obtain ⟨places, h1, h2, h3⟩ := places_some F.toList hinf
    obtain ⟨out, ho, hr⟩ := fill_run (h := h) (β := β) (ob := st.ob) (place := (places.toArray[·]?)) (place' := fieldAt T fs) (fun i p he => by
      unfold fieldAt at he
      cases hfi : fs[i]? with
      | none => rw [hfi] at he; cases he
      | some pr =>
        obtain ⟨q, ft⟩ := pr
        rw [hfi] at he
        simp only at he
        cases htf : T ft with
        | none => rw [htf] at he; cases he
        | some tf =>
          rw [htf] at he
          injection he with he
          subst he
          rw [← hm, List.getElem?_map] at hfi
          cases hg : F.toList[i]? with
          | none => rw [hg] at hfi; cases hfi
          | some f =>
            rw [hg] at hfi
            injection hfi with hfi
            injection hfi with e1 e2
            obtain ⟨J, hJ, hpl⟩ := h3 i f hg
            obtain ⟨J', z', hJ', hs', _⟩ := (hT ft tf htf).info
            rw [e2, hJ'] at hJ
            injection hJ with hJ
            subst hJ
            simp [hpl, e1, hs']) _ _ _ _ _ p1 p2 hzp hfill
    have hb : P.built t (parts.map fun (x : Nat × Operand) => (x.1, a.eval x.2)).toList = some out := by
      simp only [Program.built, hi, hF, hz, h1]
      exact ho
    have hrun := run_build (P := P) w t _ _ hb
    refine ⟨.agg out, ?_, ?_⟩
    · simp [execOp, hop, hrun]
    · have := AVR.agg (β := β) (ob := st.ob) (h := h) ls out.toList hr
      simpa using this
  · rw [hk] at hu
    have hu : P.underlying t = some (.array n e) := hu
    obtain ⟨J, z', hJ, hs', _⟩ := (hT e te hte).info
    obtain ⟨out, ho, hr⟩ := fill_run (h := h) (β := β) (ob := st.ob) (place := fun i => some (i * J.size, J.size)) (place' := fun i => some (i * te.size, te.size)) (fun i p he => by rw [hs']; exact he) _ _ _ _ _ p1 p2 hzp hfill
    have hb : P.built t (parts.map fun (x : Nat × Operand) => (x.1, a.eval x.2)).toList = some out := by
      simp only [Program.built, hi, hu, hz, hJ]
      exact ho
    have hrun := run_build (P := P) w t _ _ hb
    refine ⟨.agg out, ?_, ?_⟩
    · simp [execOp, hop, hrun]
    · have := AVR.agg (β := β) (ob := st.ob) (h := h) ls out.toList hr
      simpa using this

end
end Go.Ai
