/- Ai, part 16: a region whose order is drawn: every order comes to the same state. No condition. -/
import Derived.Test.YtbpnlbadgnjmaaaAiLocal
namespace Go.Ai
set_option linter.unusedSimpArgs false
set_option linter.unusedVariables false
set_option linter.constructorNameAsVariable false

/-- What a region's table of predecessors tells. -/
theorem inner_spec (acc : Array Nat) (m : Nat) : ∀ (es : List Edge) (s : Nat), (es.foldl (fun s e => if Region.binds .any e then s ||| 2 ^ e.on ||| acc.getD e.on 0 else s) s).testBit m = true →
    s.testBit m = true ∨ ∃ e ∈ es, Region.binds .any e = true ∧ (m = e.on ∨ (acc.getD e.on 0).testBit m = true) := by
  intro es
  induction es with
  | nil => intro s h; exact .inl h
  | cons e es ih =>
    intro s h
    rcases ih _ h with q | ⟨e', he', q⟩
    · simp only at q
      split at q
      · rename_i hb
        simp only [Nat.testBit_or, Bool.or_eq_true, Nat.testBit_two_pow, decide_eq_true_eq] at q
        rcases q with (q | q) | q
        · exact .inl q
        · exact .inr ⟨e, List.mem_cons_self, hb, .inl q.symm⟩
        · exact .inr ⟨e, List.mem_cons_self, hb, .inr q⟩
      · exact .inl q
    · exact .inr ⟨e', List.mem_cons_of_mem _ he', q⟩

theorem outer_spec : ∀ (l : List Oper) (acc : Array Nat),
    let R := l.foldl (fun acc (o : Oper) => acc.push (o.after.foldl (fun s e => if Region.binds .any e then s ||| 2 ^ e.on ||| acc.getD e.on 0 else s) 0)) acc
    (∀ i, i < acc.size → R.getD i 0 = acc.getD i 0) ∧ ∀ i m, (R.getD (acc.size + i) 0).testBit m = true → ∃ o, l[i]? = some o ∧ ∃ e ∈ o.after.toList, Region.binds .any e = true ∧ (m = e.on ∨ (R.getD e.on 0).testBit m = true) := by
  intro l
  induction l with
  | nil =>
    intro acc
    refine ⟨fun i _ => rfl, fun i m h => ?_⟩
    have : acc.getD (acc.size + i) 0 = 0 := by simp [Array.getD_eq_getD_getElem?]
    simp only [List.foldl_nil, this] at h
    simp at h
  | cons o l ih =>
    intro acc
    simp only [List.foldl_cons]
    generalize hx : o.after.foldl (fun s e => if Region.binds .any e then s ||| 2 ^ e.on ||| acc.getD e.on 0 else s) 0 = x
    obtain ⟨h1, h2⟩ := ih (acc.push x)
    generalize hR : l.foldl (fun acc (o : Oper) => acc.push (o.after.foldl (fun s e => if Region.binds .any e then s ||| 2 ^ e.on ||| acc.getD e.on 0 else s) 0)) (acc.push x) = R at h1 h2
    have pre : ∀ i, i < acc.size → R.getD i 0 = acc.getD i 0 := fun i hi => by
      rw [h1 i (by simp; omega)]
      simp [Array.getD_eq_getD_getElem?, Array.getElem?_push, show ¬ i = acc.size by omega]
    refine ⟨pre, fun i m h => ?_⟩
    cases i with
    | zero =>
      rw [Nat.add_zero, h1 acc.size (by simp)] at h
      have : (acc.push x).getD acc.size 0 = x := by simp [Array.getD_eq_getD_getElem?]
      rw [this, ← hx, ← Array.foldl_toList] at h
      refine ⟨o, rfl, ?_⟩
      rcases inner_spec acc m _ _ h with q | ⟨e, he, hb, q⟩
      · simp at q
      · refine ⟨e, he, hb, ?_⟩
        rcases q with q | q
        · exact .inl q
        · right
          rcases Nat.lt_or_ge e.on acc.size with hlt | hge
          · rw [pre _ hlt]; exact q
          · have : acc.getD e.on 0 = 0 := by simp [Array.getD_eq_getD_getElem?, Array.getElem?_eq_none hge]
            rw [this] at q
            simp at q
    | succ i =>
      have e1 : acc.size + (i + 1) = (acc.push x).size + i := by simp; omega
      rw [e1] at h
      obtain ⟨o', ho', q⟩ := h2 i m h
      exact ⟨o', by simpa using ho', q⟩

theorem before_spec (ops : Array Oper) {j m : Nat} (h : ((Region.before ops).getD j 0).testBit m = true) : ∃ o, ops[j]? = some o ∧ ∃ e ∈ o.after.toList, Region.binds .any e = true ∧ (m = e.on ∨ ((Region.before ops).getD e.on 0).testBit m = true) := by
  have hb : Region.before ops = ops.toList.foldl (fun acc (o : Oper) => acc.push (o.after.foldl (fun s e => if Region.binds .any e then s ||| 2 ^ e.on ||| acc.getD e.on 0 else s) 0)) #[] := by
    unfold Region.before
    rw [← Array.foldl_toList]
  rw [hb] at h ⊢
  obtain ⟨_, h2⟩ := outer_spec ops.toList #[]
  have := h2 j m (by simpa using h)
  obtain ⟨o, ho, q⟩ := this
  exact ⟨o, by simpa using ho, q⟩

section
variable {T : Nat → Option Ty} {E : Env}

/-- The states of the run in the text's order. -/
theorem trace_of_run {ops : List Oper} : ∀ (l : List Oper) (st s' : St), runOps T E ops st l = some s' → ∃ s : Nat → St, s 0 = st ∧ s l.length = s' ∧
    ∀ (k : Nat) (o : Oper), l[k]? = some o → stepOp T E ops (s k) o = some (s (k + 1)) ∧ (footOps T E ops st l)[k]? = some (foot T E ops (s k) o) := by
  intro l
  induction l with
  | nil =>
    intro st s' h
    simp only [runOps] at h
    injection h with h
    exact ⟨fun _ => st, rfl, h, fun k o hk => by simp at hk⟩
  | cons o l ih =>
    intro st s' h
    simp only [runOps] at h
    split at h
    · rename_i st1 hs
      obtain ⟨s, h0, h1, h2⟩ := ih st1 s' h
      refine ⟨fun k => match k with | 0 => st | k + 1 => s k, rfl, h1, fun k o' hk => ?_⟩
      cases k with
      | zero =>
        simp at hk
        subst hk
        simp only [footOps]
        exact ⟨by rw [hs, h0], rfl⟩
      | succ k =>
        obtain ⟨q1, q2⟩ := h2 k o' (by simpa using hk)
        simp only [footOps, hs]
        exact ⟨q1, by simpa using q2⟩
    · cases h

theorem clash_spec {a b : List Nat × List Nat} (h : clashes a b = false) (x : Nat) : (x ∈ a.2 → x ∉ b.1 ∧ x ∉ b.2) ∧ (x ∈ a.1 → x ∉ b.2) := by
  simp only [clashes, Bool.or_eq_false_iff] at h
  obtain ⟨⟨h1, h2⟩, h3⟩ := h
  have go : ∀ {u v : List Nat}, meets u v = false → x ∈ u → x ∉ v := fun hm hu hv => by
    have : meets _ _ = true := List.any_eq_true.2 ⟨x, hu, by simpa using hv⟩
    rw [hm] at this
    cases this
  exact ⟨fun hx => ⟨go h1 hx, go h2 hx⟩, fun hx => go h3 hx⟩

theorem order_spec {before : Array Nat} {fs : List (List Nat × List Nat)} (h : orderOk before fs = true) {i j : Nat} {fi fj : List Nat × List Nat} (hi : fs[i]? = some fi) (hj : fs[j]? = some fj) (hlt : i < j) (hb : (before.getD j 0).testBit i = false) : clashes fi fj = false := by
  unfold orderOk at h
  have h1 := List.all_eq_true.1 h (fj, j) (List.mem_iff_getElem?.2 ⟨j, by simp [List.getElem?_zipIdx, hj]⟩)
  have h2 := List.all_eq_true.1 h1 (fi, i) (List.mem_iff_getElem?.2 ⟨i, by simp [List.getElem?_zipIdx, hi]⟩)
  simp only [hb, hlt, decide_true, Bool.not_true, Bool.false_or, Bool.or_false] at h2
  simpa using h2

/-- A text run. -/
structure Text (T : Nat → Option Ty) (E : Env) (ops : List Oper) (B : Nat → Nat → Bool) (s : Nat → St) (f : Nat → List Nat × List Nat) : Prop where
  step : ∀ (k : Nat) (o : Oper), ops[k]? = some o → stepOp T E ops (s k) o = some (s (k + 1)) ∧ f k = foot T E ops (s k) o
  apart : ∀ i j, i < j → j < ops.length → B j i = false → clashes (f i) (f j) = false

/-- The state when the operations in D are done. -/
structure Inv (n : Nat) (s : Nat → St) (f : Nat → List Nat × List Nat) (D : Nat → Prop) (st : St) : Prop where
  alike : Alike (s 0) st
  same : ∀ x k, k ≤ n → (∀ i, k ≤ i → i < n → D i → x ∉ (f i).2) → (∀ i, i < k → x ∈ (f i).2 → D i) → Same x st (s k)

variable {ops : List Oper} {B : Nat → Nat → Bool} {s : Nat → St} {f : Nat → List Nat × List Nat}

theorem Text.quiet (t : Text T E ops B s f) {k : Nat} (hk : k < ops.length) {x : Nat} (hx : x ∉ (f k).2) : Same x (s k) (s (k + 1)) := by
  obtain ⟨h1, h2⟩ := t.step k _ (List.getElem?_eq_getElem hk)
  obtain ⟨s1', _, _, _, _, h3⟩ := step_local h1 ⟨rfl, rfl⟩ (fun x _ => Same.refl x _)
  rw [h2] at hx
  exact (h3 x hx).2

theorem Text.alike (t : Text T E ops B s f) : ∀ k, k ≤ ops.length → Alike (s 0) (s k) := by
  intro k
  induction k with
  | zero => intro _; exact ⟨rfl, rfl⟩
  | succ k ih =>
    intro hk
    obtain ⟨h1, _⟩ := t.step k _ (List.getElem?_eq_getElem (show k < ops.length by omega))
    obtain ⟨_, _, _, h2, _⟩ := step_local h1 ⟨rfl, rfl⟩ (fun x _ => Same.refl x _)
    exact (ih (by omega)).trans h2

theorem Text.run (t : Text T E ops B s f) {x j : Nat} : ∀ k, j ≤ k → k ≤ ops.length → (∀ i, j ≤ i → i < k → x ∉ (f i).2) → Same x (s j) (s k) := by
  intro k
  induction k with
  | zero =>
    intro h1 _ _
    have : j = 0 := by omega
    subst this
    exact Same.refl _ _
  | succ k ih =>
    intro h1 h2 h3
    by_cases e : j = k + 1
    · subst e; exact Same.refl _ _
    · exact (ih (by omega) (by omega) fun i a b => h3 i a (by omega)).trans (t.quiet (by omega) (h3 k (by omega) (by omega)))

theorem Text.init (t : Text T E ops B s f) : Inv ops.length s f (fun _ => False) (s 0) :=
  ⟨⟨rfl, rfl⟩, fun x k hk _ h2 => t.run k (by omega) hk fun i _ hi hx => h2 i hi hx⟩

theorem Text.go (t : Text T E ops B s f) {D : Nat → Prop} {st : St} (inv : Inv ops.length s f D st) {j : Nat} {o : Oper} (hj : ops[j]? = some o) (hD : ¬ D j) (hbefore : ∀ m, B j m = true → D m) (hclosed : ∀ i, D i → ∀ m, B i m = true → D m) :
    ∃ st', stepOp T E ops st o = some st' ∧ Inv ops.length s f (fun i => i = j ∨ D i) st' := by
  obtain ⟨h1, h2⟩ := t.step j o hj
  have hjn : j < ops.length := (List.getElem?_eq_some_iff.1 hj).1
  have late : ∀ i, j < i → i < ops.length → D i → clashes (f j) (f i) = false := fun i hi hn hd => t.apart j i hi hn (by
    cases hb : B i j with
    | false => rfl
    | true => exact absurd (hclosed i hd j hb) hD)
  have early : ∀ i, i < j → ¬ D i → clashes (f i) (f j) = false := fun i hi hd => t.apart i j hi hjn (by
    cases hb : B j i with
    | false => rfl
    | true => exact absurd (hbefore i hb) hd)
  have hread : ∀ x ∈ (foot T E ops (s j) o).1, Same x (s j) st := fun x hx => by
    rw [← h2] at hx
    refine (inv.same x j (by omega) (fun i hi hn hd hxi => ?_) (fun i hi hxi => ?_)).symm
    · by_cases e : i = j
      · subst e; exact hD hd
      · exact ((clash_spec (late i (by omega) hn hd) x).2 hx) hxi
    · cases hc : (Classical.em (D i)) with
      | inl hd => exact hd
      | inr hd => exact absurd hx ((clash_spec (early i hi hd) x).1 hxi).1
  have hal : Alike (s j) st := (t.alike j (by omega)).symm.trans inv.alike
  obtain ⟨st', g1, g2, g3, g4, g5⟩ := step_local h1 hal hread
  refine ⟨st', g1, inv.alike.trans g2, fun x k hk c1 c2 => ?_⟩
  rw [← h2] at g4 g5
  by_cases hx : x ∈ (f j).2
  · have hjk : j < k := by
      rcases Nat.lt_or_ge j k with q | q
      · exact q
      · exact absurd hx (c1 j q hjn (.inl rfl))
    refine ((g4 x hx).symm).trans (t.run k (by omega) hk fun i hi hik hxi => ?_)
    rcases c2 i hik hxi with e | hd
    · omega
    · exact ((clash_spec (late i (by omega) (by omega) hd) x).1 hx).2 hxi
  · obtain ⟨q1, _⟩ := g5 x hx
    refine q1.symm.trans (inv.same x k hk (fun i hi hn hd => c1 i hi hn (.inr hd)) (fun i hi hxi => ?_))
    rcases c2 i hi hxi with e | hd
    · subst e; exact absurd hxi hx
    · exact hd

theorem Text.done (t : Text T E ops B s f) {D : Nat → Prop} {st : St} (inv : Inv ops.length s f D st) (hD : ∀ i, i < ops.length → D i) : st = s ops.length := by
  have h := fun x => inv.same x ops.length (Nat.le_refl _) (fun i h1 h2 => by omega) (fun i hi _ => hD i hi)
  have e1 : st.tmps = (s ops.length).tmps := List.ext_getElem? fun i => (h (2 * i)).1 i rfl
  have e2 : st.objs = (s ops.length).objs := List.ext_getElem? fun i => (h (2 * i + 1)).2 i rfl
  cases hs : s ops.length with
  | mk a b =>
    cases st with
    | mk c d =>
      rw [hs] at e1 e2
      simp only at e1 e2
      rw [e1, e2]

end
end Go.Ai
