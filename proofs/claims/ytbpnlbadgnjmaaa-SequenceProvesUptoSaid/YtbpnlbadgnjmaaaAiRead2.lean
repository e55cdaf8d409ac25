/- Ai, part 35: arguments, where arrays may lie in them. No condition. -/
import Derived.Test.YtbpnlbadgnjmaaaAiRow
namespace Go.Ai
open Go.ChangeShapes Go.WideShapes Go.RowKit
set_option linter.unusedSimpArgs false
set_option linter.unusedVariables false
set_option linter.constructorNameAsVariable false

/-- Leaves of a type without pointers. -/
def IsT2 (T : Nat → Option Ty) : Nat → Nat → List IV → Prop
  | 0, _, _ => False
  | n + 1, t, vs => match T t with
    | some { k := .int k, .. } => ∃ m, vs = [.int k m] ∧ (Lit.int k m).wf = true
    | some { k := .bool, .. } => ∃ b, vs = [.bool b]
    | some { k := .str, .. } => ∃ s, vs = [.str s] ∧ s.size ≤ maxLen
    | some { k := .slice e, .. } => ∃ rows, vs = [.sl rows] ∧ rows.length ≤ maxLen ∧ ∀ r ∈ rows, IsT2 T n e r
    | some { k := .struct fs, size, .. } => vs.length = size ∧ ∀ f ∈ fs, ∃ tf, T f.2 = some tf ∧ IsT2 T n f.2 ((vs.drop f.1).take tf.size)
    | some { k := .array m e, size, .. } => vs.length = size ∧ ∃ te, T e = some te ∧ ∀ i, i < m → IsT2 T n e ((vs.drop (i * te.size)).take te.size)
    | _ => False

/-- Types that lead only to such types. -/
def closedT2 (T : Nat → Option Ty) (L : List Nat) : Bool := L.all fun t => match T t with
  | some { k := .int _, .. } => true
  | some { k := .bool, .. } => true
  | some { k := .str, .. } => true
  | some { k := .slice e, .. } => L.contains e && (match T e with | some te => decide (0 < te.size) | none => false)
  | some { k := .struct fs, size, .. } => tiles T 0 fs size && fs.all fun f => L.contains f.2
  | some { k := .array n e, size, .. } => L.contains e && (match T e with | some te => tiles T 0 ((List.range n).map fun i => (i * te.size, e)) size | none => false)
  | _ => false

section
variable {P : Program} {T : Nat → Option Ty} {W : World} {H' : Type} {enc : TypeId × Value → H'} {spare : Nat → Bool} {held : Bool}

theorem read_sound2 {B : DataW H' → Nat} (hB : Bulk B) (hT : TOk P T) {L : List Nat} (hL : closedT2 T L = true) : ∀ (fuel t : Nat) (cs : List Value) (y : DataW H' × List MemPlace), t ∈ L → DataW.trod enc P W 0 spare held fuel t cs = some y → ∃ vs, IsT2 T fuel t vs ∧ PW (IVR (seen W)) vs cs ∧ IV.szRow vs ≤ B y.1 := by
  intro fuel
  induction fuel with
  | zero => intro t cs y _ h; simp [DataW.trod] at h
  | succ fuel ih =>
    intro t cs y ht h
    have hc := List.all_eq_true.1 hL t ht
    simp only [IsT2]
    split at hc
    · rename_i k zero size bytes eq htt
      have hu : P.underlying t = some (.int k) := (hT t _ htt).und
      rcases cs with _ | ⟨x, _ | ⟨x2, cs⟩⟩
      · simp [DataW.trod, hu] at h
      · cases x <;> simp [DataW.trod, hu] at h
        obtain ⟨⟨rfl, hw⟩, rfl⟩ := h
        exact ⟨_, ⟨_, rfl, hw⟩, PW.cons (.int _ _) PW.nil, hB.lit _⟩
      · simp [DataW.trod, hu] at h
    · rename_i zero size bytes eq htt
      have hu : P.underlying t = some .bool := (hT t _ htt).und
      rcases cs with _ | ⟨x, _ | ⟨x2, cs⟩⟩
      · simp [DataW.trod, hu] at h
      · cases x <;> simp [DataW.trod, hu] at h
        subst h
        exact ⟨_, ⟨_, rfl⟩, PW.cons (.bool _) PW.nil, hB.lit _⟩
      · simp [DataW.trod, hu] at h
    · rename_i zero size bytes eq htt
      have hu : P.underlying t = some .string := (hT t _ htt).und
      rcases cs with _ | ⟨x, _ | ⟨x2, cs⟩⟩
      · simp [DataW.trod, hu] at h
      · cases x <;> simp [DataW.trod, hu] at h
        obtain ⟨h, rfl⟩ := h
        refine ⟨_, ⟨_, rfl, h⟩, PW.cons (.str _) PW.nil, Nat.le_trans ?_ (hB.str _)⟩
        simp [IV.szRow, IV.sz]
      · simp [DataW.trod, hu] at h
    · rename_i e zero size bytes eq htt
      have hu : P.underlying t = some (.slice e) := (hT t _ htt).und
      rw [Bool.and_eq_true] at hc
      obtain ⟨he, hz⟩ := hc
      have he : e ∈ L := by simpa using he
      cases hte : T e with
      | none => rw [hte] at hz; cases hz
      | some te =>
        rw [hte] at hz
        have hz : 0 < te.size := by simpa using hz
        have hce := cellsOf_ty (hT e te hte)
        rcases cs with _ | ⟨x, _ | ⟨x2, cs⟩⟩
        · simp [DataW.trod, hu] at h
        · cases x with
          | slice A len cap =>
            cases A with
            | none =>
              have hlc : len = 0 ∧ cap = 0 := by
                cases len <;> cases cap <;> simp [DataW.trod, hu] at h ⊢
              obtain ⟨rfl, rfl⟩ := hlc
              have hy : y.1 = .nil := by simp [DataW.trod, hu] at h; rw [← h]
              exact ⟨_, ⟨[], rfl, Nat.zero_le _, fun r hr => by cases hr⟩, PW.cons (.empty _ _ (Nat.zero_le _)) PW.nil, by rw [hy]; exact hB.nil⟩
            | some ad =>
              simp only [DataW.trod, hu, hce] at h
              split at h
              · rename_i hb
                obtain ⟨_, hlc, hcm⟩ := hb
                obtain ⟨elems, h1, h2⟩ := Option.bind_eq_some_iff.1 h
                obtain ⟨hl, hg⟩ := mapM_get h1
                simp only [List.length_range] at hl
                obtain ⟨rest, _, hy⟩ := Option.map_eq_some_iff.1 h2
                have hbs : ((elems.map (·.1)).map B).sum + 1 ≤ B y.1 := by rw [← hy]; exact hB.slice _ _
                have each : ∀ i, i < len → ∃ (r : List IV) (xs : List Value), IsT2 T fuel e r ∧ (∀ b, (elems.map fun z => B z.1)[i]? = some b → IV.szRow r ≤ b) ∧ PW (IVR (seen W)) r xs ∧ xs.length = te.size ∧ ∀ j x, xs[j]? = some x → W.cell? ((ad.add (i * te.size)).add j) = some x := by
                  intro i hi
                  obtain ⟨y', hy0, hy⟩ := hg i i (by simp [hi])
                  obtain ⟨xs, hx1, hx2⟩ := Option.bind_eq_some_iff.1 hy
                  obtain ⟨hxl, hxc⟩ := cells_read hx1
                  obtain ⟨r, q1, q2, q3⟩ := ih e xs y' he hx2
                  exact ⟨r, xs, q1, fun b hb => by rw [List.getElem?_map, hy0] at hb; simp only [Option.map_some] at hb; injection hb with hb; rw [← hb]; exact q3, q2, hxl, hxc⟩
                by_cases h0 : len = 0
                · subst h0
                  exact ⟨_, ⟨[], rfl, Nat.zero_le _, fun r hr => by cases hr⟩, PW.cons (.empty _ _ hcm) PW.nil, by simp only [IV.szRow, IV.sz, IV.szRows]; omega⟩
                · have hspot : ad.spot = none := by
                    obtain ⟨r, xs, _, _, _, hxl, hxc⟩ := each 0 (by omega)
                    have := hxc 0 xs[0] (List.getElem?_eq_getElem (by omega))
                    simp only [Nat.zero_mul, Addr.add, if_true] at this
                    unfold World.cell? at this
                    split at this
                    · split at this
                      · cases this
                      · rename_i hs; simpa using hs
                    · cases this
                  obtain ⟨b, p, sp⟩ := ad
                  simp only at hspot
                  subst hspot
                  have each' : ∀ i : Fin len, ∃ (r : List IV) (xs : List Value), IsT2 T fuel e r ∧ (∀ b, (elems.map fun z => B z.1)[i.1]? = some b → IV.szRow r ≤ b) ∧ PW (IVR (seen W)) r xs ∧ xs.length = te.size ∧ ∀ j x, xs[j]? = some x → W.cell? ⟨b, p + (i.1 * te.size + j), none⟩ = some x := fun i => by
                    obtain ⟨r, xs, q1, q0, q2, q3, q4⟩ := each i.1 i.2
                    exact ⟨r, xs, q1, q0, q2, q3, fun j x hj => by have := q4 j x hj; rw [addr_add, addr_add] at this; rw [← Nat.add_assoc]; exact this⟩
                  let row : Fin len → List IV := fun i => (each' i).choose
                  have hrow : ∀ i : Fin len, ∃ xs : List Value, IsT2 T fuel e (row i) ∧ (∀ b, (elems.map fun z => B z.1)[i.1]? = some b → IV.szRow (row i) ≤ b) ∧ PW (IVR (seen W)) (row i) xs ∧ xs.length = te.size ∧ ∀ j x, xs[j]? = some x → W.cell? ⟨b, p + (i.1 * te.size + j), none⟩ = some x := fun i => (each' i).choose_spec
                  have hrl : (List.ofFn row).length = len := by simp
                  have hget : ∀ (i : Nat) (r : List IV), (List.ofFn row)[i]? = some r → ∃ hi : i < len, r = row ⟨i, hi⟩ := fun i r hi => by
                    have hil : i < len := by rw [← hrl]; exact (List.getElem?_eq_some_iff.1 hi).1
                    refine ⟨hil, ?_⟩
                    have := (List.getElem?_eq_some_iff.1 hi).2
                    simpa using this.symm
                  have hlen : ∀ (i : Nat) (r : List IV), (List.ofFn row)[i]? = some r → r.length = te.size := fun i r hi => by
                    obtain ⟨hil, rfl⟩ := hget i r hi
                    obtain ⟨xs, _, _, q2, q3, _⟩ := hrow ⟨i, hil⟩
                    rw [q2.1, q3]
                  refine ⟨[.sl (List.ofFn row)], ⟨_, rfl, by rw [hrl]; omega, fun r hr => ?_⟩, PW.cons ?_ PW.nil, ?_⟩
                  · obtain ⟨i, hi⟩ := List.mem_iff_getElem?.1 hr
                    obtain ⟨hil, rfl⟩ := hget i r hi
                    exact (hrow ⟨i, hil⟩).choose_spec.1
                  · refine IVR.ofRows (sz := te.size) (fun j => (W.cell? ⟨b, p + j, none⟩).getD undef) hrl hlc hcm hz hlen (fun j hj => ?_) (fun i r j x hi hj => ?_)
                    · have hd : j / te.size < len := (Nat.div_lt_iff_lt_mul hz).2 hj
                      obtain ⟨xs, _, _, q2, q3, q4⟩ := hrow ⟨j / te.size, hd⟩
                      have hm : j % te.size < xs.length := by rw [q3]; exact Nat.mod_lt _ hz
                      have := q4 _ _ (List.getElem?_eq_getElem hm)
                      have e2 : j / te.size * te.size + j % te.size = j := by rw [Nat.mul_comm]; exact Nat.div_add_mod j te.size
                      simp only [e2] at this
                      simp [seen, this]
                    · obtain ⟨hil, rfl⟩ := hget i r hi
                      obtain ⟨xs, _, _, q2, q3, q4⟩ := hrow ⟨i, hil⟩
                      obtain ⟨u, hu2, hr2⟩ := q2.get hj
                      have := q4 _ _ hu2
                      simp only at this
                      rw [this]
                      exact hr2
                  · have hsum : IV.szRows (List.ofFn row) ≤ (elems.map fun z => B z.1).sum := szRows_le (by rw [hrl, List.length_map, hl]) fun i r b hi hb => by
                      obtain ⟨hil, rfl⟩ := hget i r hi
                      obtain ⟨xs, _, q0, _⟩ := hrow ⟨i, hil⟩
                      exact q0 b hb
                    rw [List.map_map] at hbs
                    have hbs' : (elems.map fun z => B z.1).sum + 1 ≤ B y.1 := hbs
                    simp only [IV.szRow, IV.sz]
                    omega
              · cases h
          | _ => simp [DataW.trod, hu] at h
        · simp [DataW.trod, hu] at h
    · rename_i fs zero size bytes eq htt
      rw [Bool.and_eq_true] at hc
      obtain ⟨htile, hin⟩ := hc
      obtain ⟨F, hF, hm, _⟩ := (hT t _ htt).und
      have hct := cellsOf_ty (hT t _ htt)
      simp only [DataW.trod, hF, hct] at h
      split at h
      · rename_i hl
        obtain ⟨xs, h1, hyy⟩ := Option.map_eq_some_iff.1 h
        obtain ⟨hxl, hg⟩ := mapM_get h1
        have hf : ∀ (i : Nat) f b, fs[i]? = some f → (xs.map fun z => B z.1)[i]? = some b → ∃ tf, T f.2 = some tf ∧ ∃ vs, IsT2 T fuel f.2 vs ∧ PW (IVR (seen W)) vs ((cs.drop f.1).take tf.size) ∧ IV.szRow vs ≤ b := by
          intro i f b hfi hbi
          rw [← hm, List.getElem?_map] at hfi
          obtain ⟨g, hgi, rfl⟩ := Option.map_eq_some_iff.1 hfi
          have hgm : g ∈ F.toList := List.mem_of_getElem? hgi
          have hgl : g.type ∈ L := by
            have := List.all_eq_true.1 hin (g.offset, g.type) (by rw [← hm]; exact List.mem_map.2 ⟨g, hgm, rfl⟩)
            simpa using this
          have hc2 := List.all_eq_true.1 hL g.type hgl
          cases htf : T g.type with
          | none => rw [htf] at hc2; cases hc2
          | some tf =>
            obtain ⟨y', hy0, hy⟩ := hg i g hgi
            rw [cellsOf_ty (hT _ tf htf)] at hy
            obtain ⟨vs, q1, q2, q3⟩ := ih g.type _ y' hgl hy
            refine ⟨tf, rfl, vs, q1, q2, ?_⟩
            rw [List.getElem?_map, hy0] at hbi
            simp only [Option.map_some] at hbi
            injection hbi with hbi
            rw [← hbi]
            exact q3
        obtain ⟨vs, q1, qb, q2⟩ := fields_read hl fs (xs.map fun z => B z.1) 0 (by rw [List.length_map, hxl, ← hm, List.length_map]) htile (Nat.zero_le _) hf
        rw [List.drop_zero] at q1
        refine ⟨vs, ⟨by rw [q1.1, hl], fun f hfm => ?_⟩, q1, Nat.le_trans qb ?_⟩
        · obtain ⟨tf, h3, _, h4⟩ := q2 f hfm
          exact ⟨tf, h3, by simpa using h4⟩
        · rw [← hyy]
          have := hB.agg (xs.map (·.1))
          rw [List.map_map] at this
          exact this
      · cases h
    · rename_i n e zero size bytes eq htt
      rw [Bool.and_eq_true] at hc
      obtain ⟨he, htl⟩ := hc
      have he : e ∈ L := by simpa using he
      have hu : P.underlying t = some (.array n e) := (hT t _ htt).und
      have hct := cellsOf_ty (hT t _ htt)
      cases hte : T e with
      | none => rw [hte] at htl; cases htl
      | some te =>
        rw [hte] at htl
        simp only at htl
        have hce := cellsOf_ty (hT e te hte)
        simp only [DataW.trod, hu, hct, hce] at h
        split at h
        · rename_i hl
          obtain ⟨xs, h1, hyy⟩ := Option.map_eq_some_iff.1 h
          obtain ⟨hxl, hg⟩ := mapM_get h1
          have hf : ∀ (i : Nat) f b, ((List.range n).map fun i => (i * te.size, e))[i]? = some f → (xs.map fun z => B z.1)[i]? = some b → ∃ tf, T f.2 = some tf ∧ ∃ vs, IsT2 T fuel f.2 vs ∧ PW (IVR (seen W)) vs ((cs.drop f.1).take tf.size) ∧ IV.szRow vs ≤ b := by
            intro i f b hfi hbi
            rw [List.getElem?_map] at hfi
            obtain ⟨g, hgi, rfl⟩ := Option.map_eq_some_iff.1 hfi
            obtain ⟨y', hy0, hy⟩ := hg i g hgi
            obtain ⟨vs, q1, q2, q3⟩ := ih e _ y' he hy
            refine ⟨te, hte, vs, q1, q2, ?_⟩
            rw [List.getElem?_map, hy0] at hbi
            simp only [Option.map_some] at hbi
            injection hbi with hbi
            rw [← hbi]
            exact q3
          obtain ⟨vs, q1, qb, q2⟩ := fields_read hl ((List.range n).map fun i => (i * te.size, e)) (xs.map fun z => B z.1) 0 (by rw [List.length_map, List.length_map, hxl]) htl (Nat.zero_le _) hf
          rw [List.drop_zero] at q1
          refine ⟨vs, ⟨by rw [q1.1, hl], te, rfl, fun i hi => ?_⟩, q1, Nat.le_trans qb ?_⟩
          · obtain ⟨tf, h3, _, h4⟩ := q2 (i * te.size, e) (List.mem_map.2 ⟨i, List.mem_range.2 hi, rfl⟩)
            rw [hte] at h3
            injection h3 with h3
            subst h3
            simpa using h4
          · rw [← hyy]
            have := hB.agg (xs.map (·.1))
            rw [List.map_map] at this
            exact this
        · cases h
    · cases hc

end
section
variable {P : Program} {T : Nat → Option Ty} {W : World} {H' : Type} {enc : TypeId × Value → H'}

theorem arg_read2 {B : DataW H' → Nat} (hB : Bulk B) (hT : TOk P T) {L : List Nat} (hL : closedT2 T L = true) {t : Nat} {ty : Ty} (ht : t ∈ L) (hty : T t = some ty) {r : Reach} {b0 : Nat} {v : Value} (hval : Value.okWide P W r b0 t v) {d : DataW H'} {ps : List MemPlace} (hd : DataW.Trod enc P W 0 (fun _ => true) true t v d ps) :
    ∃ fuel vs, IsT2 T fuel t vs ∧ IV.szRow vs ≤ B d ∧ AVR noB noO (seen W) (argAV ty vs) v := by
  obtain ⟨fuel, hf⟩ := hd
  obtain ⟨vs, h1, h2, h3⟩ := read_sound2 hB hT hL fuel t _ _ ht hf
  refine ⟨fuel, vs, h1, h3, ?_⟩
  have hc := List.all_eq_true.1 hL t ht
  have hu := (hT t ty hty).und
  obtain ⟨k, zero, size, bytes, eq⟩ := ty
  rw [hty] at hc
  cases k with
  | int k =>
    obtain ⟨n, rfl⟩ := okWide_int (show P.underlying t = some (.int k) from hu) hval
    exact one_AV rfl h2
  | bool =>
    obtain ⟨n, rfl⟩ := okWide_bool (show P.underlying t = some .bool from hu) hval
    exact one_AV rfl h2
  | str =>
    obtain ⟨n, rfl⟩ := okWide_string (show P.underlying t = some .string from hu) hval
    exact one_AV rfl h2
  | slice e =>
    obtain ⟨a, n, c, rfl⟩ := okWide_slice (show P.underlying t = some (.slice e) from hu) hval
    exact one_AV rfl h2
  | struct fs =>
    obtain ⟨F, hF, _⟩ := hu
    unfold Value.okWide at hval
    rw [hF] at hval
    obtain ⟨cs, rfl, _, _⟩ := hval
    have := AVR.agg (β := noB) (ob := noO) (h := seen W) _ cs.toList (PW.map_left.2 (h2.imp fun v x k => LVR.imm _ _ k))
    simpa [argAV, TK.agg] using this
  | ptr => cases hc
  | array n e =>
    unfold Value.okWide at hval
    rw [show P.underlying t = some (.array n e) from hu] at hval
    obtain ⟨cs, rfl, _, _⟩ := hval
    have := AVR.agg (β := noB) (ob := noO) (h := seen W) _ cs.toList (PW.map_left.2 (h2.imp fun v x k => LVR.imm _ _ k))
    simpa [argAV, TK.agg] using this
  | other => cases hc

/-- All arguments. -/
theorem args_read2 {B : DataW H' → Nat} (hB : Bulk B) (hT : TOk P T) {L : List Nat} (hL : closedT2 T L = true) {r : Reach} {b0 : Nat} : ∀ (ts : List Nat) (vs : List Value) (ds : List (DataW H')) (ps : List MemPlace), DataW.TrodAll enc P W 0 (fun _ => true) true ts vs ds ps →
    (∀ t ∈ ts, t ∈ L) → (∀ (j : Nat) t v, ts[j]? = some t → vs[j]? = some v → Value.okWide P W r b0 t v) →
    ∃ as : List AV, PW (AVR noB noO (seen W)) as vs ∧ as.length = ts.length ∧ ∀ (j : Nat) t a, ts[j]? = some t → as[j]? = some a → ∃ ty fuel xs, T t = some ty ∧ IsT2 T fuel t xs ∧ a = argAV ty xs ∧ IV.szRow xs ≤ (ds.map B).sum := by
  intro ts
  induction ts with
  | nil =>
    intro vs ds ps h _ _
    cases vs with
    | nil => exact ⟨[], PW.nil, rfl, fun j t a hj => by simp at hj⟩
    | cons v vs => cases ds <;> exact h.elim
  | cons t ts ih =>
    intro vs ds ps h hin hval
    cases vs with
    | nil => cases ds <;> exact h.elim
    | cons v vs =>
      cases ds with
      | nil => exact h.elim
      | cons d ds =>
        obtain ⟨p, q, h1, h2, rfl⟩ := h
        obtain ⟨as, g1, g2, g3⟩ := ih vs ds q h2 (fun t ht => hin t (List.mem_cons_of_mem _ ht)) fun j t v hj hv => hval (j + 1) t v (by simpa using hj) (by simpa using hv)
        have htL := hin t List.mem_cons_self
        have hc := List.all_eq_true.1 hL t htL
        cases hty : T t with
        | none => rw [hty] at hc; cases hc
        | some ty =>
          obtain ⟨fuel, xs, q1, qs, q2⟩ := arg_read2 hB hT hL htL hty (hval 0 t v rfl rfl) h1
          refine ⟨argAV ty xs :: as, PW.cons q2 g1, by simp [g2], fun j t' a hj ha => ?_⟩
          cases j with
          | zero => simp at hj ha; subst hj; subst ha; exact ⟨ty, fuel, xs, hty, q1, rfl, by rw [List.map_cons, List.sum_cons]; omega⟩
          | succ j =>
            obtain ⟨ty', fuel', xs', w1, w2, w3, w4⟩ := g3 j t' a (by simpa using hj) (by simpa using ha)
            exact ⟨ty', fuel', xs', w1, w2, w3, by rw [List.map_cons, List.sum_cons]; omega⟩

/-- A law, by its abstract run. -/
theorem law_calls2 (hT : TOk P T) {F : Nat → Option Fun} {E : Env} (hrun : ∀ m, PureOk P (runFun T F E m)) {B : DataW H' → Nat} (hB : Bulk B) {L : List Nat} (hL : closedT2 T L = true) {r : Reach} {b0 N : Nat} {ts : List Nat} {args : Array Value} {ds : List (DataW H')} {ps : List MemPlace}
    (hd : DataW.TrodAll enc P W 0 (fun _ => true) true ts args.toList ds ps) (hin : ∀ t ∈ ts, t ∈ L) (hval : ∀ (j : Nat) t v, ts[j]? = some t → args[j]? = some v → Value.okWide P W r b0 t v) (hb : (ds.map B).sum ≤ 1048576)
    (law : ∀ as : List AV, as.length = ts.length → (∀ (j : Nat) t a, ts[j]? = some t → as[j]? = some a → ∃ ty fuel xs, T t = some ty ∧ IsT2 T fuel t xs ∧ a = argAV ty xs ∧ IV.szRow xs ≤ 1048576) → ∃ m, runFun T F E m N as = some (boolAV true)) :
    Calls P N args W fun e W' => e = .returned (.bool true) ∧ Below W.heap.size W W' := by
  obtain ⟨as, h1, h2, h3⟩ := args_read2 hB hT hL ts args.toList ds ps hd hin fun j t v hj hv => hval j t v hj (by simpa using hv)
  obtain ⟨m, hm⟩ := law as h2 fun j t a hj ha => by
    obtain ⟨ty, fuel, xs, w1, w2, w3, w4⟩ := h3 j t a hj ha
    exact ⟨ty, fuel, xs, w1, w2, w3, by omega⟩
  have hc := (hrun m N as _ hm).2 W (seen W) args.toList (seen_ext W) h1
  simp only [Array.toArray_toList] at hc
  refine hc.mono fun e W' h => ?_
  cases e with
  | returned x =>
    obtain ⟨h', _, _, _, hr, hf⟩ := h
    cases hr with
    | leaf l x hl =>
      cases hl with
      | imm v x hv =>
        cases hv with
        | bool b => exact ⟨rfl, frame_below hf⟩
  | _ => exact h.elim

end
end Go.Ai
