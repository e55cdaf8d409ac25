/- slices.Clone of bytes, by hand where the slice is empty. No condition. -/
import Derived.Test.YtcbijnemdbbkdaaR39b
import Derived.WalkKit
import Derived.ProofKit
import Derived.Lib.Walk
import Derived.Lib.SliceRun
import Derived.Deep.LoopGhost
import Derived.Shelf.RegionOpenPlain
import Derived.KernelRfl
namespace Go.Ai
open Go.RowKit Go.Lib
set_option linter.unusedSimpArgs false
set_option linter.unusedVariables false
set_option maxRecDepth 100000
theorem q22 (w : World) (a : Option Addr) (n c n' c' : Nat) : (binOp .eql 22 (.slice a n c) (.slice none n' c')).run Proofs.Try.prog w = .ok (.bool a.isNone) w := Lib.run_eql_slice_nil w _ _ a n c n' c' Proofs.Try.underlying22
theorem info5 : ∃ i0, Proofs.Try.prog.info? 5 = some i0 ∧ i0.zero = some (.int .u8 0) ∧ i0.size = 1 ∧ i0.bytes = 1 := by
  have h : (match Proofs.Try.prog.info? 5 with | some i => decide (i.size = 1) && decide (i.bytes = 1) && (match i.zero with | some (.int .u8 0) => true | _ => false) | none => false) = true := by kernel_rfl
  split at h
  · rename_i i hi
    simp only [Bool.and_eq_true, decide_eq_true_eq] at h
    obtain ⟨⟨h1, h2⟩, h3⟩ := h
    split at h3
    · rename_i hz; exact ⟨i, hi, hz, h1, h2⟩
    · cases h3
  · cases h
theorem clone_none (c : Nat) (w : World) : Calls Proofs.Try.prog 33 #[.slice none 0 c] w fun e w' => e = .returned (.slice none 0 0) ∧ w' = w := by
  have q22' := q22
  go_enter Proofs.Try.func33, Proofs.Try.ntmps33
  go_wp2
  go_ret
  exact ⟨rfl, rfl⟩
set_option maxHeartbeats 2000000 in
set_option maxRecDepth 100000 in
theorem clone_some (a : Addr) (c : Nat) (w : World) : Calls Proofs.Try.prog 33 #[.slice (some a) 0 c] w fun e w' => ∃ v', e = .returned v' ∧ w'.ownsRow w.heap.size 5 1 v' 0 [] ∧ Below w.heap.size w w' := by
  obtain ⟨i0, hi, hz0, hz1, hz2⟩ := info5
  have t22 := Proofs.Try.underlying22
  have q22' := q22
  have u22 : ∀ w, Sem.run Proofs.Try.prog (underlying 22) w = .ok (TypeDesc.slice 5) w := run_underlying t22
  go_enter Proofs.Try.func33, Proofs.Try.ntmps33
  go_wp2_with (at_builtin; refine wpList_append_own _ rfl _ _ 22 rfl w.heap.size 5 i0 (.int .u8 0) 1 1 t22 hi hz0 hz1 hz2 rfl (by decide) _ _ _ rfl (World.ownsRow_made w #[] 0 (Nat.le_refl _) (Nat.zero_le _) rfl) a 0 c [] rfl rfl (by intro j u hj; simp at hj) (by intro u hu; cases hu) (by unfold maxLen; omega) (by omega) (by simp) ?_)
  intro v' w1 hown hgrow hnil
  go_wp2
  go_ret
  refine ⟨v', rfl, by simpa using hown, ?_⟩
  exact ((Below.refl _ w).alloc (Nat.le_refl _) _).grown hgrow (by simp) (by intro k hk; simp [Value.ownBlock] at hk; omega)

theorem clone_run (r : List IV) (rs : List (List IV)) (hall : ((r :: rs).all fun q => q.length == 1) = true) (hlen : (r :: rs).length ≤ 1099511627776) : (seat noOrac).fn 33 [.leaf (.imm (.sl (r :: rs)))] = some (.leaf (.imm (.sl (r :: rs)))) := by
  have hr : rs.length + 1 ≤ room := room_one' (by simpa using hlen)
  simp only [List.all_cons] at hall
  refine Seat.fn_of (f := fun33) rfl rfl rfl rfl ?_
  simp only [fun33, Proofs.Try.f33, Seat.W_seq, Seat.W_region_false, Seat.rq_nil, Seat.rq_cons, Seat.rqK_some, Seat.seq_normal, s_step, guardOf, s_guard_true, s_assign, s_move, s_bin, s_pure, s_setT, binK, binAV, cmpAV, boolAV, isNil, evalOp, ofValue, List.set_cons_succ, List.set_cons_zero, List.getElem?_cons_succ, List.getElem?_cons_zero, List.cons_append, List.nil_append, List.length_cons, List.length_nil, List.reduceReplicate, Option.map_some, Nat.reduceSub, Nat.zero_add, seat_T]
  simp only [Seat.W_seq, Seat.W_region_false, Seat.W_ret, Seat.W_skip, Seat.cond_eq, Seat.condK_false, Seat.env_grow, Seat.rq_nil, Seat.rq_cons, Seat.rqK_some, Seat.seq_normal, Seat.ret_ret, Seat.RetK, s_step, guardOf, s_guard_true, s_assign, s_move, s_buildSlice, s_append, s_pure, s_setT, evalParts, clipK, rowsK, buildSliceK, appK, appR, appT, appE_c, appS, app1, appTail, lendArgs, lendArg, lend_ap, rowsOf_sl, rowsAt, resultsAV, resultAV, tupleOf, fillAV, mapEval, evalOp, List.set_cons_succ, List.set_cons_zero, List.getElem?_cons_succ, List.getElem?_cons_zero, List.nil_append, List.length_cons, List.length_nil, List.getD_cons_succ, List.getD_cons_zero, List.all_cons, List.all_nil, List.map_cons, List.map_nil, List.flatten_nil, List.reduceReplicate, List.contains_nil, Option.map_some, Option.some.injEq, Nat.reduceAdd, Nat.reduceLT, Nat.zero_add, Nat.zero_le, Nat.mul_one, and_self, Bool.false_eq_true, eq_self, ↓reduceIte, exists_eq_left', seat_T, T_22, T_5, hall, hr]
theorem clone_pureOk : PureOk Proofs.Try.prog clonePure := by
  intro g ps r he
  unfold clonePure at he
  split at he
  · rename_i rws
    split at he
    · rename_i hc
      injection he with he
      subst he
      rw [Bool.and_eq_true, decide_eq_true_eq] at hc
      cases rws with
      | cons q qs =>
        obtain ⟨m, hm⟩ := Seat.fn_iff.1 (clone_run q qs hc.1 hc.2)
        exact (runFull_sound T_ok F_ok F_keep noPure noFullE m).1 33 _ _ hm
      | nil =>
        refine ⟨⟨Proofs.Try.f33, _, Proofs.Try.func33, by rfl, rfl⟩, fun w h vals hx hp => ?_⟩
        obtain ⟨x, rfl⟩ := List.length_eq_one_iff.1 (show vals.length = 1 by rw [← hp.1]; rfl)
        have hv := hp.head
        cases hv with
        | leaf l x hl =>
          cases hl with
          | imm v x hi =>
            cases hi with
            | sl _ _ _ n _ _ _ hn h0 => simp at hn; omega
            | empty A c hm =>
              cases A with
              | none =>
                refine (clone_none c w).mono fun e w' h1 => ?_
                obtain ⟨rfl, rfl⟩ := h1
                exact ⟨h, HLe.refl h, fun _ _ _ => rfl, hx, .leaf _ _ (.imm _ _ (.empty none 0 (Nat.zero_le _))), Frame.refl _ _⟩
              | some a =>
                refine (clone_some a c w).mono fun e w' h1 => ?_
                obtain ⟨v', rfl, hown, hb⟩ := h1
                refine ⟨h, HLe.refl h, fun _ _ _ => rfl, fun b o v hv => ?_, ?_, ⟨hb.os, hb.tape, hb.output, hb.size, fun i hi _ => hb.block i hi⟩⟩
                · have h2 := hx b o v hv
                  have hlt := block_lt_of_cell h2
                  simp only [World.cell?] at h2 ⊢
                  rw [hb.block b hlt]
                  exact h2
                · rcases hown.2 with ⟨rfl, _⟩ | ⟨g, cap, cur, rfl, _, _, _, hcm, _⟩
                  · exact .leaf _ _ (.imm _ _ (.empty none 0 (Nat.zero_le _)))
                  · exact .leaf _ _ (.imm _ _ (.empty _ cap hcm))
    · cases he
  · cases he

/-- An argument of the laws. -/
def ArgOk (t : Nat) (a : AV) : Prop := ∃ ty fuel xs, T t = some ty ∧ IsT T fuel t xs ∧ a = argAV ty xs ∧ IV.szRow xs ≤ 1048576
theorem bytes_arg {a : AV} (h : ArgOk 22 a) : ∃ l : List UInt8, a = .leaf (.imm (.sl (rowsOfBytes l))) ∧ l.length ≤ 1048576 := by
  obtain ⟨ty, fuel, xs, h1, h2, rfl, h3⟩ := h
  rw [T_22] at h1
  injection h1 with h1
  subst h1
  cases fuel with
  | zero => exact h2.elim
  | succ n =>
    simp only [IsT, T_22] at h2
    obtain ⟨rows, rfl, _, hr⟩ := h2
    have : ∀ rows : List (List IV), (∀ r ∈ rows, IsT T n 5 r) → ∃ p : List UInt8, rows = rowsOfBytes p ∧ p.length ≤ IV.szRows rows := by
      intro rows
      induction rows with
      | nil => intro _; exact ⟨[], rfl, Nat.zero_le _⟩
      | cons r rows ih =>
        intro h
        obtain ⟨p, rfl, hp⟩ := ih fun r hr => h r (List.mem_cons_of_mem _ hr)
        have h1 := h r List.mem_cons_self
        cases n with
        | zero => exact h1.elim
        | succ n =>
          simp only [IsT, T_5] at h1
          obtain ⟨m, rfl, hw⟩ := h1
          have hm : 0 ≤ m ∧ m ≤ 255 := by
            have := hw
            simp [Lit.wf, IntKind.min, IntKind.max, IntKind.bits, IntKind.signed] at this
            omega
          refine ⟨UInt8.ofNat m.toNat :: p, ?_, by simp only [List.length_cons, IV.szRows, IV.szRow, IV.sz]; omega⟩
          have : ((UInt8.ofNat m.toNat).toNat : Int) = m := by rw [UInt8.toNat_ofNat']; omega
          show _ = [IV.int .u8 ((UInt8.ofNat m.toNat).toNat : Int)] :: rowsOfBytes p
          rw [this]
    obtain ⟨p, rfl, hp⟩ := this rows hr
    refine ⟨p, by simp [argAV, TK.agg], ?_⟩
    simp only [IV.szRow, IV.sz] at h3
    omega
theorem int_arg {a : AV} (h : ArgOk 3 a) : ∃ n : Int, a = .leaf (.imm (.int .i64 n)) ∧ -9223372036854775808 ≤ n ∧ n ≤ 9223372036854775807 := by
  obtain ⟨ty, fuel, xs, h1, h2, rfl, h3⟩ := h
  rw [T_3] at h1
  injection h1 with h1
  subst h1
  cases fuel with
  | zero => exact h2.elim
  | succ n =>
    simp only [IsT, T_3] at h2
    obtain ⟨m, rfl, hw⟩ := h2
    refine ⟨m, by simp [argAV, TK.agg], ?_⟩
    simp [Lit.wf, IntKind.min, IntKind.max, IntKind.bits, IntKind.signed] at hw
    omega
theorem three_args {l0 : List AV} {t u v : Nat} (hl : l0.length = 3) (h : ∀ (j : Nat) q a, [t, u, v][j]? = some q → l0[j]? = some a → ArgOk q a) : ∃ a b c, l0 = [a, b, c] ∧ ArgOk t a ∧ ArgOk u b ∧ ArgOk v c := by
  match l0, hl with
  | [a, b, c], _ => exact ⟨a, b, c, rfl, h 0 t a rfl rfl, h 1 u b rfl rfl, h 2 v c rfl rfl⟩
end Go.Ai
