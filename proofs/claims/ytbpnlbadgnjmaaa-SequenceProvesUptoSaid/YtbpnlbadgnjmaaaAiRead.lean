/- Ai, part 22: what the statement reads of an argument is an immutable value of the argument's type. No condition. -/
import Derived.Test.YtbpnlbadgnjmaaaAiTypes
import GoSem.ClaimChange
namespace Go.Ai
set_option linter.unusedSimpArgs false
set_option linter.unusedVariables false
set_option linter.constructorNameAsVariable false

mutual
/-- How much a value holds. -/
def IV.sz : IV → Nat
  | .sl rows => IV.szRows rows + 1
  | .str s => s.size + 1
  | _ => 1
def IV.szRows : List (List IV) → Nat
  | [] => 0
  | r :: rs => IV.szRow r + IV.szRows rs
def IV.szRow : List IV → Nat
  | [] => 0
  | v :: vs => IV.sz v + IV.szRow vs
end
theorem szRow_append (a b : List IV) : IV.szRow (a ++ b) = IV.szRow a + IV.szRow b := by
  induction a with
  | nil => simp [IV.szRow]
  | cons x a ih => simp only [List.cons_append, IV.szRow, ih]; omega
/-- A measure of what is read. -/
structure Bulk {H' : Type} (B : DataW H' → Nat) : Prop where
  str : ∀ b : List UInt8, b.length + 1 ≤ B (.lit (.string b))
  lit : ∀ l, 1 ≤ B (.lit l)
  nil : 1 ≤ B .nil
  slice : ∀ es sp, (es.map B).sum + 1 ≤ B (.slice es sp)
  agg : ∀ ps, (ps.map B).sum ≤ B (.agg ps)
theorem szRows_le : ∀ {rows : List (List IV)} {bs : List Nat}, rows.length = bs.length → (∀ (i : Nat) r b, rows[i]? = some r → bs[i]? = some b → IV.szRow r ≤ b) → IV.szRows rows ≤ bs.sum := by
  intro rows
  induction rows with
  | nil => intro bs _ _; simp [IV.szRows]
  | cons r rows ih =>
    intro bs hl h
    cases bs with
    | nil => simp at hl
    | cons b bs =>
      have h1 := h 0 r b rfl rfl
      have h2 := ih (by simpa using hl) fun i r b hr hb => h (i + 1) r b (by simpa using hr) (by simpa using hb)
      simp only [IV.szRows, List.sum_cons]
      omega

/-- Leaves of a type without pointers. -/
def IsT (T : Nat → Option Ty) : Nat → Nat → List IV → Prop
  | 0, _, _ => False
  | n + 1, t, vs => match T t with
    | some { k := .int k, .. } => ∃ m, vs = [.int k m] ∧ (Lit.int k m).wf = true
    | some { k := .bool, .. } => ∃ b, vs = [.bool b]
    | some { k := .str, .. } => ∃ s, vs = [.str s] ∧ s.size ≤ maxLen
    | some { k := .slice e, .. } => ∃ rows, vs = [.sl rows] ∧ rows.length ≤ maxLen ∧ ∀ r ∈ rows, IsT T n e r
    | some { k := .struct fs, size, .. } => vs.length = size ∧ ∀ f ∈ fs, ∃ tf, T f.2 = some tf ∧ IsT T n f.2 ((vs.drop f.1).take tf.size)
    | _ => False

/-- The fields lie one behind another. -/
def tiles (T : Nat → Option Ty) : Nat → List (Nat × Nat) → Nat → Bool
  | o, [], size => decide (o = size)
  | o, (p, ft) :: fs, size => match T ft with
    | some tf => decide (p = o) && tiles T (o + tf.size) fs size
    | none => false

/-- Types that lead only to such types. -/
def closedT (T : Nat → Option Ty) (L : List Nat) : Bool := L.all fun t => match T t with
  | some { k := .int _, .. } => true
  | some { k := .bool, .. } => true
  | some { k := .str, .. } => true
  | some { k := .slice e, .. } => L.contains e && (match T e with | some te => decide (0 < te.size) | none => false)
  | some { k := .struct fs, size, .. } => tiles T 0 fs size && fs.all fun f => L.contains f.2
  | _ => false

theorem mapM_get {α β : Type} {f : α → Option β} : ∀ {l : List α} {r : List β}, l.mapM f = some r → r.length = l.length ∧ ∀ (i : Nat) (x : α), l[i]? = some x → ∃ y, r[i]? = some y ∧ f x = some y := by
  intro l
  induction l with
  | nil => intro r h; simp at h; subst h; exact ⟨rfl, fun i x hx => by simp at hx⟩
  | cons a l ih =>
    intro r h
    simp only [List.mapM_cons, Option.bind_eq_bind, Option.pure_def] at h
    cases ha : f a with
    | none => rw [ha] at h; cases h
    | some b =>
      cases hl : l.mapM f with
      | none => rw [ha, hl] at h; cases h
      | some bs =>
        rw [ha, hl] at h
        simp at h
        subst h
        obtain ⟨h1, h2⟩ := ih hl
        refine ⟨by simp [h1], fun i x hx => ?_⟩
        cases i with
        | zero => simp at hx; subst hx; exact ⟨b, rfl, ha⟩
        | succ i => simpa using h2 i x (by simpa using hx)

section
variable {P : Program} {T : Nat → Option Ty} {W : World} {H' : Type} {enc : TypeId × Value → H'} {spare : Nat → Bool} {held : Bool}

theorem cellsOf_ty {t : Nat} {ty : Ty} (h : TyOk P t ty) : P.cellsOf t = ty.size := by
  obtain ⟨i, z, hi, hs, _⟩ := h.info
  simp [Program.cellsOf, hi, hs]

theorem fields_read {is : Nat → List IV → Prop} {cs : List Value} {size : Nat} (hl : cs.length = size) :
    ∀ (fs : List (Nat × Nat)) (bs : List Nat) (o : Nat), fs.length = bs.length → tiles T o fs size = true → o ≤ size →
    (∀ (i : Nat) f b, fs[i]? = some f → bs[i]? = some b → ∃ tf, T f.2 = some tf ∧ ∃ vs, is f.2 vs ∧ PW (IVR (seen W)) vs ((cs.drop f.1).take tf.size) ∧ IV.szRow vs ≤ b) →
    ∃ vs, PW (IVR (seen W)) vs (cs.drop o) ∧ IV.szRow vs ≤ bs.sum ∧ ∀ f ∈ fs, ∃ tf, T f.2 = some tf ∧ o ≤ f.1 ∧ is f.2 ((vs.drop (f.1 - o)).take tf.size) := by
  intro fs
  induction fs with
  | nil =>
    intro bs o _ ht ho _
    have : o = size := by simpa [tiles] using ht
    subst this
    refine ⟨[], ?_, by simp [IV.szRow], fun f hf => by cases hf⟩
    rw [← hl, List.drop_length]
    exact PW.nil
  | cons f fs ih =>
    intro bs o hbl ht ho hf
    cases bs with
    | nil => simp at hbl
    | cons bb bs =>
    obtain ⟨p, ft⟩ := f
    simp only [tiles] at ht
    obtain ⟨tf, htf, vs1, h1, h2, hb1⟩ := hf 0 (p, ft) bb rfl rfl
    simp only at htf
    rw [htf] at ht
    simp only [Bool.and_eq_true, decide_eq_true_eq] at ht
    obtain ⟨rfl, ht⟩ := ht
    have hle : ∀ (fs : List (Nat × Nat)) (o : Nat), tiles T o fs size = true → o ≤ size := by
      intro fs
      induction fs with
      | nil => intro o h; have : o = size := by simpa [tiles] using h
               omega
      | cons f fs ih =>
        intro o h
        obtain ⟨q, ft⟩ := f
        simp only [tiles] at h
        split at h
        · simp only [Bool.and_eq_true, decide_eq_true_eq] at h
          have := ih _ h.2
          omega
        · cases h
    have ho2 := hle fs _ ht
    obtain ⟨vs2, h3, hb2, h4⟩ := ih bs (p + tf.size) (by simpa using hbl) ht ho2 fun i f b hfi hbi => hf (i + 1) f b (by simpa using hfi) (by simpa using hbi)
    have hlen1 : vs1.length = tf.size := by rw [h2.1, List.length_take, List.length_drop]; omega
    refine ⟨vs1 ++ vs2, ?_, by rw [szRow_append, List.sum_cons]; omega, fun f hm => ?_⟩
    · have e : cs.drop p = (cs.drop p).take tf.size ++ cs.drop (p + tf.size) := by
        rw [← List.drop_drop, List.take_append_drop]
      rw [e]
      exact h2.append h3
    · rcases List.mem_cons.1 hm with rfl | hm
      · refine ⟨tf, htf, Nat.le_refl _, ?_⟩
        simp only [Nat.sub_self, List.drop_zero]
        rw [List.take_append_of_le_length (by omega), List.take_of_length_le (by omega)]
        exact h1
      · obtain ⟨tf', q1, q2, q3⟩ := h4 f hm
        refine ⟨tf', q1, by omega, ?_⟩
        have e : f.1 - p = vs1.length + (f.1 - (p + tf.size)) := by omega
        rw [e, List.drop_append]
        have : vs1.drop (vs1.length + (f.1 - (p + tf.size))) = [] := by simp
        rw [this]
        simpa using q3

theorem cells_read {base : Nat} {a : Addr} {n : Nat} {xs : List Value} (h : W.cells? base a n = some xs) : xs.length = n ∧ ∀ j x, xs[j]? = some x → W.cell? (a.add j) = some x := by
  unfold World.cells? at h
  split at h
  · obtain ⟨h1, h2⟩ := mapM_get h
    simp at h1
    refine ⟨h1, fun j x hx => ?_⟩
    have hj : j < n := by rw [← h1]; exact (List.getElem?_eq_some_iff.1 hx).1
    obtain ⟨y, hy, hc⟩ := h2 j j (by simp [hj])
    rw [hy] at hx
    injection hx with hx
    rw [← hx]
    exact hc
  · cases h

theorem read_sound {B : DataW H' → Nat} (hB : Bulk B) (hT : TOk P T) {L : List Nat} (hL : closedT T L = true) : ∀ (fuel t : Nat) (cs : List Value) (y : DataW H' × List MemPlace), t ∈ L → DataW.trod enc P W 0 spare held fuel t cs = some y → ∃ vs, IsT T fuel t vs ∧ PW (IVR (seen W)) vs cs ∧ IV.szRow vs ≤ B y.1 := by
  intro fuel
  induction fuel with
  | zero => intro t cs y _ h; simp [DataW.trod] at h
  | succ fuel ih =>
    intro t cs y ht h
    have hc := List.all_eq_true.1 hL t ht
    simp only [IsT]
    split at hc
    · rename_i k zero size bytes eq htt
      have hu : P.underlying t = some (.int k) := (hT t _ htt).und
      rcases cs with _ | ⟨x, _ | ⟨x2, cs⟩⟩
      · simp [DataW.trod, hu] at h
      · cases x <;> simp [DataW.trod, hu] at h
        obtain ⟨⟨rfl, hw⟩, rfl⟩ := h
        exact ⟨_, ⟨_, rfl, hw⟩, PW.cons (.int _ _) PW.nil, hB.lit _⟩
      · simp [DataW.trod, hu] at h
    · rename_i zero size bytes eq htt
      have hu : P.underlying t = some .bool := (hT t _ htt).und
      rcases cs with _ | ⟨x, _ | ⟨x2, cs⟩⟩
      · simp [DataW.trod, hu] at h
      · cases x <;> simp [DataW.trod, hu] at h
        subst h
        exact ⟨_, ⟨_, rfl⟩, PW.cons (.bool _) PW.nil, hB.lit _⟩
      · simp [DataW.trod, hu] at h
    · rename_i zero size bytes eq htt
      have hu : P.underlying t = some .string := (hT t _ htt).und
      rcases cs with _ | ⟨x, _ | ⟨x2, cs⟩⟩
      · simp [DataW.trod, hu] at h
      · cases x <;> simp [DataW.trod, hu] at h
        obtain ⟨h, rfl⟩ := h
        refine ⟨_, ⟨_, rfl, h⟩, PW.cons (.str _) PW.nil, Nat.le_trans ?_ (hB.str _)⟩
        simp [IV.szRow, IV.sz]
      · simp [DataW.trod, hu] at h
    · rename_i e zero size bytes eq htt
      have hu : P.underlying t = some (.slice e) := (hT t _ htt).und
      rw [Bool.and_eq_true] at hc
      obtain ⟨he, hz⟩ := hc
      have he : e ∈ L := by simpa using he
      cases hte : T e with
      | none => rw [hte] at hz; cases hz
      | some te =>
        rw [hte] at hz
        have hz : 0 < te.size := by simpa using hz
        have hce := cellsOf_ty (hT e te hte)
        rcases cs with _ | ⟨x, _ | ⟨x2, cs⟩⟩
        · simp [DataW.trod, hu] at h
        · cases x with
          | slice A len cap =>
            cases A with
            | none =>
              have hlc : len = 0 ∧ cap = 0 := by
                cases len <;> cases cap <;> simp [DataW.trod, hu] at h ⊢
              obtain ⟨rfl, rfl⟩ := hlc
              have hy : y.1 = .nil := by simp [DataW.trod, hu] at h; rw [← h]
              exact ⟨_, ⟨[], rfl, Nat.zero_le _, fun r hr => by cases hr⟩, PW.cons (.empty _ _ (Nat.zero_le _)) PW.nil, by rw [hy]; exact hB.nil⟩
            | some ad =>
              simp only [DataW.trod, hu, hce] at h
              split at h
              · rename_i hb
                obtain ⟨_, hlc, hcm⟩ := hb
                obtain ⟨elems, h1, h2⟩ := Option.bind_eq_some_iff.1 h
                obtain ⟨hl, hg⟩ := mapM_get h1
                simp only [List.length_range] at hl
                obtain ⟨rest, _, hy⟩ := Option.map_eq_some_iff.1 h2
                have hbs : ((elems.map (·.1)).map B).sum + 1 ≤ B y.1 := by rw [← hy]; exact hB.slice _ _
                have each : ∀ i, i < len → ∃ (r : List IV) (xs : List Value), IsT T fuel e r ∧ (∀ b, (elems.map fun z => B z.1)[i]? = some b → IV.szRow r ≤ b) ∧ PW (IVR (seen W)) r xs ∧ xs.length = te.size ∧ ∀ j x, xs[j]? = some x → W.cell? ((ad.add (i * te.size)).add j) = some x := by
                  intro i hi
                  obtain ⟨y', hy0, hy⟩ := hg i i (by simp [hi])
                  obtain ⟨xs, hx1, hx2⟩ := Option.bind_eq_some_iff.1 hy
                  obtain ⟨hxl, hxc⟩ := cells_read hx1
                  obtain ⟨r, q1, q2, q3⟩ := ih e xs y' he hx2
                  exact ⟨r, xs, q1, fun b hb => by rw [List.getElem?_map, hy0] at hb; simp only [Option.map_some] at hb; injection hb with hb; rw [← hb]; exact q3, q2, hxl, hxc⟩
                by_cases h0 : len = 0
                · subst h0
                  exact ⟨_, ⟨[], rfl, Nat.zero_le _, fun r hr => by cases hr⟩, PW.cons (.empty _ _ hcm) PW.nil, by simp only [IV.szRow, IV.sz, IV.szRows]; omega⟩
                · have hspot : ad.spot = none := by
                    obtain ⟨r, xs, _, _, _, hxl, hxc⟩ := each 0 (by omega)
                    have := hxc 0 xs[0] (List.getElem?_eq_getElem (by omega))
                    simp only [Nat.zero_mul, Addr.add, if_true] at this
                    unfold World.cell? at this
                    split at this
                    · split at this
                      · cases this
                      · rename_i hs; simpa using hs
                    · cases this
                  obtain ⟨b, p, sp⟩ := ad
                  simp only at hspot
                  subst hspot
                  have each' : ∀ i : Fin len, ∃ (r : List IV) (xs : List Value), IsT T fuel e r ∧ (∀ b, (elems.map fun z => B z.1)[i.1]? = some b → IV.szRow r ≤ b) ∧ PW (IVR (seen W)) r xs ∧ xs.length = te.size ∧ ∀ j x, xs[j]? = some x → W.cell? ⟨b, p + (i.1 * te.size + j), none⟩ = some x := fun i => by
                    obtain ⟨r, xs, q1, q0, q2, q3, q4⟩ := each i.1 i.2
                    exact ⟨r, xs, q1, q0, q2, q3, fun j x hj => by have := q4 j x hj; rw [addr_add, addr_add] at this; rw [← Nat.add_assoc]; exact this⟩
                  let row : Fin len → List IV := fun i => (each' i).choose
                  have hrow : ∀ i : Fin len, ∃ xs : List Value, IsT T fuel e (row i) ∧ (∀ b, (elems.map fun z => B z.1)[i.1]? = some b → IV.szRow (row i) ≤ b) ∧ PW (IVR (seen W)) (row i) xs ∧ xs.length = te.size ∧ ∀ j x, xs[j]? = some x → W.cell? ⟨b, p + (i.1 * te.size + j), none⟩ = some x := fun i => (each' i).choose_spec
                  have hrl : (List.ofFn row).length = len := by simp
                  have hget : ∀ (i : Nat) (r : List IV), (List.ofFn row)[i]? = some r → ∃ hi : i < len, r = row ⟨i, hi⟩ := fun i r hi => by
                    have hil : i < len := by rw [← hrl]; exact (List.getElem?_eq_some_iff.1 hi).1
                    refine ⟨hil, ?_⟩
                    have := (List.getElem?_eq_some_iff.1 hi).2
                    simpa using this.symm
                  have hlen : ∀ (i : Nat) (r : List IV), (List.ofFn row)[i]? = some r → r.length = te.size := fun i r hi => by
                    obtain ⟨hil, rfl⟩ := hget i r hi
                    obtain ⟨xs, _, _, q2, q3, _⟩ := hrow ⟨i, hil⟩
                    rw [q2.1, q3]
                  refine ⟨[.sl (List.ofFn row)], ⟨_, rfl, by rw [hrl]; omega, fun r hr => ?_⟩, PW.cons ?_ PW.nil, ?_⟩
                  · obtain ⟨i, hi⟩ := List.mem_iff_getElem?.1 hr
                    obtain ⟨hil, rfl⟩ := hget i r hi
                    exact (hrow ⟨i, hil⟩).choose_spec.1
                  · refine IVR.ofRows (sz := te.size) (fun j => (W.cell? ⟨b, p + j, none⟩).getD undef) hrl hlc hcm hz hlen (fun j hj => ?_) (fun i r j x hi hj => ?_)
                    · have hd : j / te.size < len := (Nat.div_lt_iff_lt_mul hz).2 hj
                      obtain ⟨xs, _, _, q2, q3, q4⟩ := hrow ⟨j / te.size, hd⟩
                      have hm : j % te.size < xs.length := by rw [q3]; exact Nat.mod_lt _ hz
                      have := q4 _ _ (List.getElem?_eq_getElem hm)
                      have e2 : j / te.size * te.size + j % te.size = j := by rw [Nat.mul_comm]; exact Nat.div_add_mod j te.size
                      simp only [e2] at this
                      simp [seen, this]
                    · obtain ⟨hil, rfl⟩ := hget i r hi
                      obtain ⟨xs, _, _, q2, q3, q4⟩ := hrow ⟨i, hil⟩
                      obtain ⟨u, hu2, hr2⟩ := q2.get hj
                      have := q4 _ _ hu2
                      simp only at this
                      rw [this]
                      exact hr2
                  · have hsum : IV.szRows (List.ofFn row) ≤ (elems.map fun z => B z.1).sum := szRows_le (by rw [hrl, List.length_map, hl]) fun i r b hi hb => by
                      obtain ⟨hil, rfl⟩ := hget i r hi
                      obtain ⟨xs, _, q0, _⟩ := hrow ⟨i, hil⟩
                      exact q0 b hb
                    rw [List.map_map] at hbs
                    have hbs' : (elems.map fun z => B z.1).sum + 1 ≤ B y.1 := hbs
                    simp only [IV.szRow, IV.sz]
                    omega
              · cases h
          | _ => simp [DataW.trod, hu] at h
        · simp [DataW.trod, hu] at h
    · rename_i fs zero size bytes eq htt
      rw [Bool.and_eq_true] at hc
      obtain ⟨htile, hin⟩ := hc
      obtain ⟨F, hF, hm, _⟩ := (hT t _ htt).und
      have hct := cellsOf_ty (hT t _ htt)
      simp only [DataW.trod, hF, hct] at h
      split at h
      · rename_i hl
        obtain ⟨xs, h1, hyy⟩ := Option.map_eq_some_iff.1 h
        obtain ⟨hxl, hg⟩ := mapM_get h1
        have hf : ∀ (i : Nat) f b, fs[i]? = some f → (xs.map fun z => B z.1)[i]? = some b → ∃ tf, T f.2 = some tf ∧ ∃ vs, IsT T fuel f.2 vs ∧ PW (IVR (seen W)) vs ((cs.drop f.1).take tf.size) ∧ IV.szRow vs ≤ b := by
          intro i f b hfi hbi
          rw [← hm, List.getElem?_map] at hfi
          obtain ⟨g, hgi, rfl⟩ := Option.map_eq_some_iff.1 hfi
          have hgm : g ∈ F.toList := List.mem_of_getElem? hgi
          have hgl : g.type ∈ L := by
            have := List.all_eq_true.1 hin (g.offset, g.type) (by rw [← hm]; exact List.mem_map.2 ⟨g, hgm, rfl⟩)
            simpa using this
          have hc2 := List.all_eq_true.1 hL g.type hgl
          cases htf : T g.type with
          | none => rw [htf] at hc2; cases hc2
          | some tf =>
            obtain ⟨y', hy0, hy⟩ := hg i g hgi
            rw [cellsOf_ty (hT _ tf htf)] at hy
            obtain ⟨vs, q1, q2, q3⟩ := ih g.type _ y' hgl hy
            refine ⟨tf, rfl, vs, q1, q2, ?_⟩
            rw [List.getElem?_map, hy0] at hbi
            simp only [Option.map_some] at hbi
            injection hbi with hbi
            rw [← hbi]
            exact q3
        obtain ⟨vs, q1, qb, q2⟩ := fields_read hl fs (xs.map fun z => B z.1) 0 (by rw [List.length_map, hxl, ← hm, List.length_map]) htile (Nat.zero_le _) hf
        rw [List.drop_zero] at q1
        refine ⟨vs, ⟨by rw [q1.1, hl], fun f hfm => ?_⟩, q1, Nat.le_trans qb ?_⟩
        · obtain ⟨tf, h3, _, h4⟩ := q2 f hfm
          exact ⟨tf, h3, by simpa using h4⟩
        · rw [← hyy]
          have := hB.agg (xs.map (·.1))
          rw [List.map_map] at this
          exact this
      · cases h
    · cases hc

end

end Go.Ai
