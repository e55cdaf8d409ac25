/- Ai, part 14: an operation with its guard. No condition. -/
import Derived.Test.YtbpnlbadgnjmaaaAiExec3
namespace Go.Ai
set_option linter.unusedSimpArgs false
set_option linter.unusedVariables false
set_option linter.constructorNameAsVariable false

section
variable {P : Program} {T : Nat → Option Ty} {S : Sp} {w0 : World} {h0 : H} {st : St} {a : Act} {w w' : World} {β : Beta} {h h' : H} {o : Oper} {Q : Exit → Act → World → Prop}

theorem exec_sound (hT : TOk P T) {E : Env} (hp : PureOk P E.pure) (hfull : FullOk P E.full) (k : RelAt S w0 h0 st a w β h) {ob' : Obs} (hob : ∀ i o, ob' i = some o → st.ob i = some o) {d : Nat} (hobd : d < st.objs.length → ob' d = st.ob d)
    {v : AV} {u : Upd} (hup : u.all (fun p => decide (p.1 < st.objs.length)) = true) (he : exec T E (evalOp st.tmps) ob' d o.op = some (v, u)) : Goes P S w0 h0 o a w (st.put o.dst v u) Q := by
  cases hop : o.op with
  | move x =>
    rw [hop] at he
    obtain ⟨z, h1, h2⟩ := map_pair he
    obtain ⟨rfl, rfl⟩ := pair_nil h2
    exact (q_move k (.inl hop) h1).goes k
  | assign x =>
    rw [hop] at he
    obtain ⟨z, h1, h2⟩ := map_pair he
    obtain ⟨rfl, rfl⟩ := pair_nil h2
    exact (q_move k (.inr hop) h1).goes k
  | pick c x y =>
    rw [hop] at he
    simp only [exec] at he
    split at he
    · rename_i b p q hc hx hy
      injection he with he
      obtain ⟨rfl, rfl⟩ := pair_nil he
      exact (q_pick k hop hc hx hy).goes k
    · cases he
  | alloc t => rw [hop] at he; exact g_alloc hT k hobd hop hup he
  | box t x => rw [hop] at he; exact g_box hT k hobd hop hup he
  | build t parts => rw [hop] at he; exact g_build hT k hop he
  | buildSlice t len parts => rw [hop] at he; exact g_buildSlice hT k hop he
  | load t x => rw [hop] at he; exact g_load hT k hob hop he
  | store t x y => rw [hop] at he; exact g_store hT k hob hop hup he
  | nilCheck x =>
    rw [hop] at he
    simp only [exec] at he
    split at he
    · rename_i hx
      injection he with he
      obtain ⟨rfl, rfl⟩ := pair_nil he
      exact (q_nilCheck k hop hx (.inl ⟨_, _, _, rfl⟩)).goes k
    · rename_i hx
      injection he with he
      obtain ⟨rfl, rfl⟩ := pair_nil he
      exact (q_nilCheck k hop hx (.inr (.inl ⟨_, rfl⟩))).goes k
    · rename_i hx
      injection he with he
      obtain ⟨rfl, rfl⟩ := pair_nil he
      exact (q_nilCheck k hop hx (.inr (.inr ⟨_, _, _, rfl⟩))).goes k
    · cases he
  | binOp op t x y r => rw [hop] at he; exact g_binOp hT k hop he
  | unOp op t x =>
    rw [hop] at he
    simp only [exec] at he
    split at he
    · rename_i p hx
      obtain ⟨z, h1, h2⟩ := map_pair he
      obtain ⟨rfl, rfl⟩ := pair_nil h2
      exact (q_un k hop hx h1).goes k
    · cases he
  | convert s t x => rw [hop] at he; exact g_convert hT k hob hop he
  | makeFunc f first cap =>
    rw [hop] at he
    cases f with
    | func f =>
      simp only [exec] at he
      split at he
      · rename_i xs ys hx hy
        split at he
        · rename_i ls ms hl hm
          injection he with he
          obtain ⟨rfl, rfl⟩ := pair_nil he
          exact (q_makeFunc k hop hx hy hl hm).goes k
        · cases he
      · cases he
    | _ => cases he
  | makeSlice t x y => rw [hop] at he; exact g_makeSlice hT k hobd hop hup he
  | slice t x lo hi mx => rw [hop] at he; exact g_slice hT k hop he
  | fieldAddr s x f => rw [hop] at he; exact g_fieldAddr hT k hop he
  | field t x f => rw [hop] at he; exact g_field hT k hop he
  | indexAddr t x y => rw [hop] at he; exact g_indexAddr hT k hop he
  | index t x y => rw [hop] at he; exact g_index hT k hop he
  | extract x i =>
    rw [hop] at he
    simp only [exec] at he
    split at he
    · rename_i vs hx
      obtain ⟨z, h1, h2⟩ := map_pair he
      obtain ⟨rfl, rfl⟩ := pair_nil h2
      exact (q_extract k hop hx h1).goes k
    · cases he
  | call c => rw [hop] at he; exact g_call hT hp hfull k hob hobd hop hup he
  | _ => rw [hop] at he; cases he

/-- What a guard tells is what the machine sees. -/
theorem guard_sound (k : RelAt S w0 h0 st a w β h) {ops : List Oper} {g : Option (Nat × Bool)} {b : Bool} (he : guardOf ops st.tmps g = some b) (hg : o.guard = g) : Region.wanted o (yielded ops.toArray a.tmps) = b := by
  unfold guardOf at he
  split at he
  · injection he with he
    subst he
    simp [Region.wanted, hg]
  · rename_i j want
    split at he
    · rename_i t _ _ _ _ _ hj
      split at he
      · rename_i bb ht
        injection he with he
        subst he
        obtain ⟨x, hx, hr⟩ := k.vals _ _ ht
        have hxb := hr.bool
        subst hxb
        simp [Region.wanted, hg, yielded, hj, hx]
      · rename_i ht
        injection he with he
        subst he
        obtain ⟨x, hx, hr⟩ := k.vals _ _ ht
        have hxu : x = undef := by cases hr.lv; rfl
        subst hxu
        simp [Region.wanted, hg, yielded, hj, hx, undef]
      · cases he
    · cases he

/-- One operation of a region. -/
theorem step_sound (hT : TOk P T) {E : Env} (hp : PureOk P E.pure) (hfull : FullOk P E.full) {ops : List Oper} (k : RelAt S w0 h0 st a w β h) {st' : St} (he : stepOp T E ops st o = some st') {i : Nat} (hi : ops[i]? = some o) {K : Act → World → Prop}
    (hK : ∀ a' w', (∃ β' h', RelAt S w0 h0 st' a' w' β' h') → K a' w') : wpOp P ops.toArray Q i K a w := by
  have hi' : ops.toArray[i]? = some o := by simpa using hi
  simp only [wpOp, hi']
  unfold stepOp at he
  split at he
  · rename_i hg
    rw [guard_sound k hg rfl, if_pos rfl]
    split at he
    · rename_i v u hx
      split at he
      · rename_i hup
        rw [Bool.and_eq_true] at hup
        obtain ⟨hup, _⟩ := hup
        injection he with he
        subst he
        refine .inl (Oper.wp_mono hK (exec_sound (Q := Q) hT hp hfull k (ob' := fetch (touch st.tmps o) st.ob) (fun i o hi => fetch_sub i o hi) (d := o.dst.getD st.objs.length) (fun hd => ?_) hup hx))
        cases hdst : o.dst with
        | none => rw [hdst] at hd; simp at hd
        | some d =>
          simp only [Option.getD_some]
          unfold fetch touch
          rw [if_pos (by simp [hdst])]
      · cases he
    · cases he
  · rename_i hg
    rw [guard_sound k hg rfl]
    injection he with he
    subst he
    simp only [Bool.false_eq_true, if_false]
    exact hK _ _ ⟨β, h, k.put o.dst (.leaf _ _ .und)⟩
  · cases he

/-- Operations in the text's order. -/
theorem runOps_sound (hT : TOk P T) {E : Env} (hp : PureOk P E.pure) (hfull : FullOk P E.full) {ops : List Oper} : ∀ (r : List Oper) (n : Nat) {st st' : St} {a : Act} {w : World} {β : Beta} {h : H}, RelAt S w0 h0 st a w β h → ops.drop n = r → runOps T E ops st r = some st' →
    (∀ a' w' β' h', RelAt S w0 h0 st' a' w' β' h' → Q .normal a' w') → wpOps P ops.toArray Q (List.range' n r.length) a w := by
  intro r
  induction r with
  | nil =>
    intro n st st' a w β h k _ he hQ
    simp only [runOps] at he
    injection he with he
    subst he
    exact hQ _ _ _ _ k
  | cons o r ih =>
    intro n st st' a w β h k hd he hQ
    simp only [runOps] at he
    split at he
    · rename_i st1 hs
      have hi : ops[n]? = some o := by
        have := congrArg (·[0]?) hd
        simpa using this
      rw [List.length_cons, List.range'_succ, wpOps_cons]
      refine step_sound hT hp hfull k hs hi fun a' w' ⟨β', h', k'⟩ => ih (n + 1) k' ?_ he hQ
      rw [← List.drop_drop, hd]
      rfl
    · cases he

end
end Go.Ai
