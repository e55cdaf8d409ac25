/- Ai, part 23: arguments. No condition. -/
import Derived.Test.YtbpnlbadgnjmaaaAiRead
import Derived.Carry
import Derived.ChangeShapes
namespace Go.Ai
open Go.ChangeShapes Go.WideShapes Go.RowKit
set_option linter.unusedSimpArgs false
set_option linter.unusedVariables false
set_option linter.constructorNameAsVariable false

section
variable {P : Program} {T : Nat → Option Ty} {W : World} {H' : Type} {enc : TypeId × Value → H'}

/-- An argument of leaves `vs`. -/
def argAV (ty : Ty) (vs : List IV) : AV := if ty.k.agg then .agg (vs.map .imm) else .leaf (.imm (vs.headD .nil))

theorem one_AV {ty : Ty} {vs : List IV} {v : Value} {h : H} (hk : ty.k.agg = false) (hp : PW (IVR h) vs [v]) : AVR noB noO h (argAV ty vs) v := by
  obtain ⟨x, rfl⟩ := List.length_eq_one_iff.1 (show vs.length = 1 by rw [hp.1]; rfl)
  simp only [argAV, hk, Bool.false_eq_true, if_false]
  exact .leaf _ _ (.imm _ _ hp.head)

theorem arg_read {B : DataW H' → Nat} (hB : Bulk B) (hT : TOk P T) {L : List Nat} (hL : closedT T L = true) {t : Nat} {ty : Ty} (ht : t ∈ L) (hty : T t = some ty) {r : Reach} {b0 : Nat} {v : Value} (hval : Value.okWide P W r b0 t v) {d : DataW H'} {ps : List MemPlace} (hd : DataW.Trod enc P W 0 (fun _ => true) true t v d ps) :
    ∃ fuel vs, IsT T fuel t vs ∧ IV.szRow vs ≤ B d ∧ AVR noB noO (seen W) (argAV ty vs) v := by
  obtain ⟨fuel, hf⟩ := hd
  obtain ⟨vs, h1, h2, h3⟩ := read_sound hB hT hL fuel t _ _ ht hf
  refine ⟨fuel, vs, h1, h3, ?_⟩
  have hc := List.all_eq_true.1 hL t ht
  have hu := (hT t ty hty).und
  obtain ⟨k, zero, size, bytes, eq⟩ := ty
  rw [hty] at hc
  cases k with
  | int k =>
    obtain ⟨n, rfl⟩ := okWide_int (show P.underlying t = some (.int k) from hu) hval
    exact one_AV rfl h2
  | bool =>
    obtain ⟨n, rfl⟩ := okWide_bool (show P.underlying t = some .bool from hu) hval
    exact one_AV rfl h2
  | str =>
    obtain ⟨n, rfl⟩ := okWide_string (show P.underlying t = some .string from hu) hval
    exact one_AV rfl h2
  | slice e =>
    obtain ⟨a, n, c, rfl⟩ := okWide_slice (show P.underlying t = some (.slice e) from hu) hval
    exact one_AV rfl h2
  | struct fs =>
    obtain ⟨F, hF, _⟩ := hu
    unfold Value.okWide at hval
    rw [hF] at hval
    obtain ⟨cs, rfl, _, _⟩ := hval
    have := AVR.agg (β := noB) (ob := noO) (h := seen W) _ cs.toList (PW.map_left.2 (h2.imp fun v x k => LVR.imm _ _ k))
    simpa [argAV, TK.agg] using this
  | ptr => cases hc
  | array n e => cases hc
  | other => cases hc

theorem frame_below {w w' : World} (h : Frame (fun _ => False) w w') : Below w.heap.size w w' := ⟨h.os, h.tape, h.output, h.size, fun k hk => h.block k hk fun q => q⟩

/-- All arguments. -/
theorem args_read {B : DataW H' → Nat} (hB : Bulk B) (hT : TOk P T) {L : List Nat} (hL : closedT T L = true) {r : Reach} {b0 : Nat} : ∀ (ts : List Nat) (vs : List Value) (ds : List (DataW H')) (ps : List MemPlace), DataW.TrodAll enc P W 0 (fun _ => true) true ts vs ds ps →
    (∀ t ∈ ts, t ∈ L) → (∀ (j : Nat) t v, ts[j]? = some t → vs[j]? = some v → Value.okWide P W r b0 t v) →
    ∃ as : List AV, PW (AVR noB noO (seen W)) as vs ∧ as.length = ts.length ∧ ∀ (j : Nat) t a, ts[j]? = some t → as[j]? = some a → ∃ ty fuel xs, T t = some ty ∧ IsT T fuel t xs ∧ a = argAV ty xs ∧ IV.szRow xs ≤ (ds.map B).sum := by
  intro ts
  induction ts with
  | nil =>
    intro vs ds ps h _ _
    cases vs with
    | nil => exact ⟨[], PW.nil, rfl, fun j t a hj => by simp at hj⟩
    | cons v vs => cases ds <;> exact h.elim
  | cons t ts ih =>
    intro vs ds ps h hin hval
    cases vs with
    | nil => cases ds <;> exact h.elim
    | cons v vs =>
      cases ds with
      | nil => exact h.elim
      | cons d ds =>
        obtain ⟨p, q, h1, h2, rfl⟩ := h
        obtain ⟨as, g1, g2, g3⟩ := ih vs ds q h2 (fun t ht => hin t (List.mem_cons_of_mem _ ht)) fun j t v hj hv => hval (j + 1) t v (by simpa using hj) (by simpa using hv)
        have htL := hin t List.mem_cons_self
        have hc := List.all_eq_true.1 hL t htL
        cases hty : T t with
        | none => rw [hty] at hc; cases hc
        | some ty =>
          obtain ⟨fuel, xs, q1, qs, q2⟩ := arg_read hB hT hL htL hty (hval 0 t v rfl rfl) h1
          refine ⟨argAV ty xs :: as, PW.cons q2 g1, by simp [g2], fun j t' a hj ha => ?_⟩
          cases j with
          | zero => simp at hj ha; subst hj; subst ha; exact ⟨ty, fuel, xs, hty, q1, rfl, by rw [List.map_cons, List.sum_cons]; omega⟩
          | succ j =>
            obtain ⟨ty', fuel', xs', w1, w2, w3, w4⟩ := g3 j t' a (by simpa using hj) (by simpa using ha)
            exact ⟨ty', fuel', xs', w1, w2, w3, by rw [List.map_cons, List.sum_cons]; omega⟩

/-- They are handed back as they were. -/
theorem args_back (hl : laidOutB P = true) {W' : World} (hb : Below W.heap.size W W') : ∀ (ts : List Nat) (vs : List Value) (ds : List (DataW H')) (ps : List MemPlace), (ts.all fun t => P.readableRec t && decide (t < P.types.size)) = true → DataW.TrodAll enc P W 0 (fun _ => true) true ts vs ds ps →
    DataW.TrodAll enc P W' 0 (fun b => decide (b < W.heap.size)) true ts vs ds ps := by
  intro ts
  induction ts with
  | nil =>
    intro vs ds ps _ h
    cases vs with
    | nil => cases ds with
      | nil => exact h
      | cons d ds => exact h.elim
    | cons v vs => cases ds <;> exact h.elim
  | cons t ts ih =>
    intro vs ds ps hr h
    cases vs with
    | nil => cases ds <;> exact h.elim
    | cons v vs =>
      cases ds with
      | nil => exact h.elim
      | cons d ds =>
        obtain ⟨p, q, h1, h2, rfl⟩ := h
        simp only [List.all_cons, Bool.and_eq_true, decide_eq_true_eq] at hr
        refine ⟨p, q, Below.trod hl hr.1.1 hr.1.2 h1 hb fun x hx => ?_, ih vs ds q hr.2 h2, rfl⟩
        obtain ⟨m, hm⟩ := h1
        exact DataW.trod_lt m _ _ _ hm x hx

/-- A law, by its abstract run. -/
theorem law_calls (hT : TOk P T) {F : Nat → Option Fun} {E : Env} (hrun : ∀ m, PureOk P (runFun T F E m)) {B : DataW H' → Nat} (hB : Bulk B) {L : List Nat} (hL : closedT T L = true) {r : Reach} {b0 N : Nat} {ts : List Nat} {args : Array Value} {ds : List (DataW H')} {ps : List MemPlace}
    (hd : DataW.TrodAll enc P W 0 (fun _ => true) true ts args.toList ds ps) (hin : ∀ t ∈ ts, t ∈ L) (hval : ∀ (j : Nat) t v, ts[j]? = some t → args[j]? = some v → Value.okWide P W r b0 t v) (hb : (ds.map B).sum ≤ 1048576)
    (law : ∀ as : List AV, as.length = ts.length → (∀ (j : Nat) t a, ts[j]? = some t → as[j]? = some a → ∃ ty fuel xs, T t = some ty ∧ IsT T fuel t xs ∧ a = argAV ty xs ∧ IV.szRow xs ≤ 1048576) → ∃ m, runFun T F E m N as = some (boolAV true)) :
    Calls P N args W fun e W' => e = .returned (.bool true) ∧ Below W.heap.size W W' := by
  obtain ⟨as, h1, h2, h3⟩ := args_read hB hT hL ts args.toList ds ps hd hin fun j t v hj hv => hval j t v hj (by simpa using hv)
  obtain ⟨m, hm⟩ := law as h2 fun j t a hj ha => by
    obtain ⟨ty, fuel, xs, w1, w2, w3, w4⟩ := h3 j t a hj ha
    exact ⟨ty, fuel, xs, w1, w2, w3, by omega⟩
  have hc := (hrun m N as _ hm).2 W (seen W) args.toList (seen_ext W) h1
  simp only [Array.toArray_toList] at hc
  refine hc.mono fun e W' h => ?_
  cases e with
  | returned x =>
    obtain ⟨h', _, _, _, hr, hf⟩ := h
    cases hr with
    | leaf l x hl =>
      cases hl with
      | imm v x hv =>
        cases hv with
        | bool b => exact ⟨rfl, frame_below hf⟩
  | _ => exact h.elim

end

end Go.Ai
