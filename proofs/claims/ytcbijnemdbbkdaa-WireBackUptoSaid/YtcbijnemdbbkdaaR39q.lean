/- What the reference's reading answers. Where there are at most 16777216 bytes. -/
import Derived.Test.YtcbijnemdbbkdaaR39p
namespace Go.Ai
set_option linter.unusedVariables false
set_option linter.unusedSimpArgs false
set_option maxRecDepth 100000
set_option maxHeartbeats 4000000

/-- The place and the error that the reference hands back. -/
def eP (r : Rs) : Int := if r.2 then 0 else r.1
def eE (r : Rs) : Int := if r.2 then 13 else 0
def tupI (n : Int) (r : Rs) : AV := .tup [intAV .i64 n, intAV .i64 (eP r), intAV .i64 (eE r)]
theorem start_of {bs : List UInt8} {r : Rs} (h : Good bs r) (hb : r.2 = false) : start bs r.1 = r := by
  obtain ⟨a, ha, hl⟩ := h hb
  obtain ⟨p, b⟩ := r
  simp only at ha hb
  subst ha
  subst hb
  unfold start
  rw [decide_eq_false (by omega)]
theorem rN_bad {bs : List UInt8} {r : Rs} (h : r.2 = true) : rN bs r = (0, r) := by unfold rN; rw [h]; rfl
theorem rC_bad {bs : List UInt8} {r : Rs} (h : r.2 = true) : rC bs r = (0, r) := by unfold rC; rw [h]; rfl
theorem rT_bad {bs : List UInt8} {r : Rs} (h : r.2 = true) : rT bs r = (⟨#[]⟩, r) := by unfold rT; rw [h]; rfl
theorem rF_bad {bs : List UInt8} {r : Rs} (h : r.2 = true) : rF bs r = (false, r) := by unfold rF; rw [h]; rfl
theorem rL_bad {α : Type} {get : Rs → α × Rs} {r : Rs} (h : r.2 = true) : ∀ n, rL get n r = ([], r)
  | 0 => rfl
  | n + 1 => by unfold rL; rw [h]; rfl
theorem start_bad {bs : List UInt8} {a : Int} (h : a < 0 ∨ (bs.length : Int) < a) : (start bs a).2 = true := decide_eq_true h
theorem start_nat {bs : List UInt8} {n : Nat} (h : n ≤ bs.length) : start bs (n : Int) = ((n : Int), false) := by unfold start; rw [decide_eq_false (by omega)]

theorem ref10 (bs : List UInt8) (a : Int) (hl : bs.length ≤ 16777216) : (seat o).fn 10 [.leaf (.imm (.sl (rowsOfBytes bs))), .leaf (.imm (.int .i64 a))] = some (tupI (rN bs (start bs a)).1 (rN bs (start bs a)).2) := by
  rw [fn10 bs a (by omega)]
  by_cases h : a < 0 ∨ (bs.length : Int) < a
  · rw [rN_bad (start_bad h)]
    have hb := start_bad h
    unfold gi tup3 tupI eP eE
    rw [if_pos h, hb]
    rfl
  · obtain ⟨n, rfl⟩ : ∃ n : Nat, a = (n : Int) := ⟨a.toNat, by omega⟩
    rw [start_nat (by omega)]
    unfold gi tup3 tupI eP eE rN
    rw [if_neg h]
    simp only [Bool.false_eq_true, if_false, Int.toNat_natCast]
    cases (numA bs 11 n 0 0).1 <;> rfl
theorem ref20 (bs : List UInt8) (a : Int) (hl : bs.length ≤ 16777216) : (seat o).fn 20 [.leaf (.imm (.sl (rowsOfBytes bs))), .leaf (.imm (.int .i64 a))] = some (.tup [.leaf (.imm (.str (rT bs (start bs a)).1)), intAV .i64 (eP (rT bs (start bs a)).2), intAV .i64 (eE (rT bs (start bs a)).2)]) := by
  rw [fn20 bs a (by omega)]
  by_cases h : a < 0 ∨ (bs.length : Int) < a
  · rw [rT_bad (start_bad h)]
    have hb := start_bad h
    unfold gt tupS eP eE
    rw [if_pos h, hb]
    rfl
  · obtain ⟨n, rfl⟩ : ∃ n : Nat, a = (n : Int) := ⟨a.toNat, by omega⟩
    rw [start_nat (by omega)]
    unfold gt tupS eP eE rT
    rw [if_neg h]
    simp only [Bool.false_eq_true, if_false, Int.toNat_natCast]
    cases cntOk bs n <;> rfl
theorem fn43 (bs : List UInt8) (a : Int) (hl : bs.length ≤ 16777216) : (seat o).fn 43 [.leaf (.imm (.sl (rowsOfBytes bs))), .leaf (.imm (.int .i64 a))] = some (tupI ((rC bs (start bs a)).1 : Int) (rC bs (start bs a)).2) := by
  have h10 := fn10 bs a (by omega)
  have z : ¬ (13 : Int) = 0 := by decide
  by_cases hbad : a < 0 ∨ (bs.length : Int) < a
  · have hi : gi bs a = (0, 0, 13) := by unfold gi; rw [if_pos hbad]
    have hb := start_bad hbad
    rw [rC_bad hb]
    rw [hi] at h10
    simp only [tup3, intAV] at h10
    refine Seat.fn_of (f := fun43) (noS o 43 _ rfl) rfl rfl rfl ?_; simp only [fun43, Proofs.Try.f43, Seat.W_seq, Seat.W_region_false, Seat.rq_nil, Seat.rq_cons, Seat.rqK_some, Seat.seq_normal, s_step, guardOf, s_guard_true, s_assign, s_move, call_10, s_pure, s_setT, callS, callP, stripArgs, AV.stripA, strip_imm, IV.norm, mapEval, evalOp, ofValue, List.set_cons_succ, List.set_cons_zero, List.getElem?_cons_succ, List.getElem?_cons_zero, List.cons_append, List.nil_append, List.length_cons, List.length_nil, List.reduceReplicate, Option.map_some, Nat.reduceAdd, Nat.reduceSub, Nat.zero_add, Int.cast_ofNat_Int, seat_T]
    simp only [Seat.W_seq, Seat.W_region_false, Seat.W_ret, Seat.cond_eq, Seat.condK_true, Seat.rq_nil, Seat.rq_cons, Seat.rqK_some, Seat.seq_normal, Seat.seq_ret, Seat.ret_ret, Seat.RetK, s_step, guardOf, s_guard_true, s_guard_false, s_assign, s_move, s_pick, s_bin, s_extract, s_len, s_pure, s_setT, pickK, pickAV, binK, binAV, cmpAV, intBin, boolAV, intAV, extractK, lenK, lenAV, IV.norm, lendArgs, lendArg, lend_imm, resultsAV, resultAV, tupleOf, mapEval, evalOp, ofValue, List.set_cons_succ, List.set_cons_zero, List.getElem?_cons_succ, List.getElem?_cons_zero, Option.map_some, Option.some.injEq, Bool.not_false, decide_false, eq_self, ↓reduceIte, exists_eq_left', seat_T, bq_tf, int_bne, T_22, T_3, h10, tupI, eP, eE, hb, z]
  · obtain ⟨n, rfl⟩ : ∃ n : Nat, a = (n : Int) := ⟨a.toNat, by omega⟩
    have hn : n ≤ bs.length := by omega
    have hp : cntP bs n ≤ bs.length := numA_at bs 11 n 0 0 hn
    have hi : gi bs (n : Int) = if (numA bs 11 n 0 0).1 = true then (unz (numA bs 11 n 0 0).2.1, (cntP bs n : Int), 0) else (0, 0, 13) := by unfold gi; rw [if_neg hbad, Int.toNat_natCast]; rfl
    have hC : rC bs ((n : Int), false) = (if cntOk bs n then cntN bs n else 0, (cntP bs n : Int), !cntOk bs n) := by unfold rC; simp only [Bool.false_eq_true, if_false, Int.toNat_natCast]
    rw [start_nat hn, hC]
    cases hk : (numA bs 11 n 0 0).1 with
    | false =>
      have hc : cntOk bs n = false := by unfold cntOk; rw [hk]; rfl
      rw [hc]
      rw [hk] at hi
      simp only [Bool.false_eq_true, if_false] at hi ⊢
      rw [hi] at h10
      simp only [tup3, intAV] at h10
      refine Seat.fn_of (f := fun43) (noS o 43 _ rfl) rfl rfl rfl ?_; simp only [fun43, Proofs.Try.f43, Seat.W_seq, Seat.W_region_false, Seat.rq_nil, Seat.rq_cons, Seat.rqK_some, Seat.seq_normal, s_step, guardOf, s_guard_true, s_assign, s_move, call_10, s_pure, s_setT, callS, callP, stripArgs, AV.stripA, strip_imm, IV.norm, mapEval, evalOp, ofValue, List.set_cons_succ, List.set_cons_zero, List.getElem?_cons_succ, List.getElem?_cons_zero, List.cons_append, List.nil_append, List.length_cons, List.length_nil, List.reduceReplicate, Option.map_some, Nat.reduceAdd, Nat.reduceSub, Nat.zero_add, Int.cast_ofNat_Int, Bool.not_false, seat_T]
      simp only [Seat.W_seq, Seat.W_region_false, Seat.W_ret, Seat.cond_eq, Seat.condK_true, Seat.rq_nil, Seat.rq_cons, Seat.rqK_some, Seat.seq_normal, Seat.seq_ret, Seat.ret_ret, Seat.RetK, s_step, guardOf, s_guard_true, s_guard_false, s_assign, s_move, s_pick, s_bin, s_extract, s_len, s_pure, s_setT, pickK, pickAV, binK, binAV, cmpAV, intBin, boolAV, intAV, extractK, lenK, lenAV, IV.norm, lendArgs, lendArg, lend_imm, resultsAV, resultAV, tupleOf, mapEval, evalOp, ofValue, List.set_cons_succ, List.set_cons_zero, List.getElem?_cons_succ, List.getElem?_cons_zero, Option.map_some, Option.some.injEq, Bool.not_false, decide_false, eq_self, ↓reduceIte, exists_eq_left', seat_T, bq_tf, int_bne, T_22, T_3, h10, tupI, eP, eE, z]
    | true =>
      rw [hk] at hi
      simp only [if_true] at hi
      rw [hi] at h10
      simp only [tup3, intAV] at h10
      have e0 : IntKind.wrap .i64 ((bs.length : Int) - (cntP bs n : Int)) = ((bs.length - cntP bs n : Nat) : Int) := by rw [wrap_i64 (by omega) (by omega)]; omega
      by_cases hneg : unz (numA bs 11 n 0 0).2.1 < 0
      · have hc : cntOk bs n = false := by unfold cntOk; rw [hk, decide_eq_false (by omega)]; rfl
        rw [hc]
        refine Seat.fn_of (f := fun43) (noS o 43 _ rfl) rfl rfl rfl ?_; simp only [fun43, Proofs.Try.f43, Seat.W_seq, Seat.W_region_false, Seat.rq_nil, Seat.rq_cons, Seat.rqK_some, Seat.seq_normal, s_step, guardOf, s_guard_true, s_assign, s_move, call_10, s_pure, s_setT, callS, callP, stripArgs, AV.stripA, strip_imm, IV.norm, mapEval, evalOp, ofValue, List.set_cons_succ, List.set_cons_zero, List.getElem?_cons_succ, List.getElem?_cons_zero, List.cons_append, List.nil_append, List.length_cons, List.length_nil, List.reduceReplicate, Option.map_some, Nat.reduceAdd, Nat.reduceSub, Nat.zero_add, Int.cast_ofNat_Int, Bool.not_false, Bool.false_eq_true, ↓reduceIte, seat_T]
        simp only [Seat.W_seq, Seat.W_region_false, Seat.W_ret, Seat.cond_eq, Seat.condK_true, Seat.rq_nil, Seat.rq_cons, Seat.rqK_some, Seat.seq_normal, Seat.seq_ret, Seat.ret_ret, Seat.RetK, s_step, guardOf, s_guard_true, s_guard_false, s_assign, s_move, s_pick, s_bin, s_extract, s_len, s_pure, s_setT, pickK, pickAV, binK, binAV, cmpAV, intBin, boolAV, intAV, extractK, lenK, lenAV, IV.norm, lendArgs, lendArg, lend_imm, resultsAV, resultAV, tupleOf, mapEval, evalOp, ofValue, List.set_cons_succ, List.set_cons_zero, List.getElem?_cons_succ, List.getElem?_cons_zero, Option.map_some, Option.some.injEq, Bool.not_true, Bool.false_eq_true, decide_true, beq_self_eq_true, eq_self, ↓reduceIte, exists_eq_left', seat_T, bq_tf, int_bne, T_22, T_3, h10, tupI, eP, eE, hneg]
      · by_cases hbig : ((bs.length - cntP bs n : Nat) : Int) < unz (numA bs 11 n 0 0).2.1
        · have hc : cntOk bs n = false := by unfold cntOk; rw [hk, decide_eq_false (by unfold cntP at hbig hp; omega)]; rfl
          rw [hc]
          refine Seat.fn_of (f := fun43) (noS o 43 _ rfl) rfl rfl rfl ?_; simp only [fun43, Proofs.Try.f43, Seat.W_seq, Seat.W_region_false, Seat.rq_nil, Seat.rq_cons, Seat.rqK_some, Seat.seq_normal, s_step, guardOf, s_guard_true, s_assign, s_move, call_10, s_pure, s_setT, callS, callP, stripArgs, AV.stripA, strip_imm, IV.norm, mapEval, evalOp, ofValue, List.set_cons_succ, List.set_cons_zero, List.getElem?_cons_succ, List.getElem?_cons_zero, List.cons_append, List.nil_append, List.length_cons, List.length_nil, List.reduceReplicate, Option.map_some, Nat.reduceAdd, Nat.reduceSub, Nat.zero_add, Int.cast_ofNat_Int, Bool.not_false, Bool.false_eq_true, ↓reduceIte, seat_T]
          simp only [Seat.W_seq, Seat.W_region_false, Seat.W_ret, Seat.cond_eq, Seat.condK_true, Seat.rq_nil, Seat.rq_cons, Seat.rqK_some, Seat.seq_normal, Seat.seq_ret, Seat.ret_ret, Seat.RetK, s_step, guardOf, s_guard_true, s_assign, s_move, s_pick, s_bin, s_extract, s_len, s_pure, s_setT, pickK, pickAV, binK, binAV, intBin, boolAV, intAV, extractK, lenK, lenAV, IV.norm, lendArgs, lendArg, lend_imm, resultsAV, resultAV, tupleOf, mapEval, evalOp, ofValue, List.set_cons_succ, List.set_cons_zero, List.getElem?_cons_succ, List.getElem?_cons_zero, Option.map_some, Option.some.injEq, Bool.not_true, Bool.false_eq_true, decide_true, decide_false, beq_self_eq_true, eq_self, gt_iff_lt, ↓reduceIte, exists_eq_left', seat_T, int_bne, T_22, h10, tupI, eP, eE, hneg, rob_len, e0, hbig]
        · have hc : cntOk bs n = true := by unfold cntOk; rw [hk, decide_eq_true (by unfold cntP at hbig hp; omega)]; rfl
          obtain ⟨_, hv, hle⟩ := cnt_facts hc
          rw [hv] at h10 hneg hbig
          rw [hc]
          refine Seat.fn_of (f := fun43) (noS o 43 _ rfl) rfl rfl rfl ?_; simp only [fun43, Proofs.Try.f43, Seat.W_seq, Seat.W_region_false, Seat.rq_nil, Seat.rq_cons, Seat.rqK_some, Seat.seq_normal, s_step, guardOf, s_guard_true, s_assign, s_move, call_10, s_pure, s_setT, callS, callP, stripArgs, AV.stripA, strip_imm, IV.norm, mapEval, evalOp, ofValue, List.set_cons_succ, List.set_cons_zero, List.getElem?_cons_succ, List.getElem?_cons_zero, List.cons_append, List.nil_append, List.length_cons, List.length_nil, List.reduceReplicate, Option.map_some, Nat.reduceAdd, Nat.reduceSub, Nat.zero_add, Bool.not_true, eq_self, ↓reduceIte, seat_T]
          simp only [Seat.W_seq, Seat.W_region_false, Seat.W_ret, Seat.W_skip, Seat.cond_eq, Seat.condK_false, Seat.rq_nil, Seat.rq_cons, Seat.rqK_some, Seat.seq_normal, Seat.ret_ret, Seat.RetK, s_step, guardOf, s_guard_true, s_assign, s_move, s_pick, s_bin, s_extract, s_len, s_pure, s_setT, pickK, pickAV, binK, binAV, intBin, boolAV, intAV, extractK, lenK, lenAV, IV.norm, lendArgs, lendArg, lend_imm, resultsAV, resultAV, tupleOf, mapEval, evalOp, ofValue, List.set_cons_succ, List.set_cons_zero, List.getElem?_cons_succ, List.getElem?_cons_zero, Option.map_some, Option.some.injEq, Bool.not_true, Bool.false_eq_true, decide_true, decide_false, beq_self_eq_true, eq_self, gt_iff_lt, ↓reduceIte, exists_eq_left', seat_T, int_bne, T_22, h10, tupI, eP, eE, hneg, rob_len, e0, hbig]

theorem fn42 (bs : List UInt8) (a : Int) (hl : bs.length ≤ 16777216) :
    (seat o).fn 42 [.leaf (.imm (.sl (rowsOfBytes bs))), .leaf (.imm (.int .i64 a))] = some (.tup [.leaf (.imm (.sl (ints (rL (rN bs) (rC bs (start bs a)).1 (rC bs (start bs a)).2).1))), intAV .i64 (eP (rL (rN bs) (rC bs (start bs a)).1 (rC bs (start bs a)).2).2), intAV .i64 (eE (rL (rN bs) (rC bs (start bs a)).1 (rC bs (start bs a)).2).2)]) := by
  have h43 := fn43 bs a hl
  have hg := start_good bs a
  have hcl := rC_le hg
  have hcg := rC_good hg
  obtain ⟨N, hN⟩ : ∃ N, N = (rC bs (start bs a)).1 := ⟨_, rfl⟩
  obtain ⟨R, hR⟩ : ∃ R, R = (rC bs (start bs a)).2 := ⟨_, rfl⟩
  rw [← hN, ← hR] at h43
  rw [← hN] at hcl
  rw [← hR] at hcg
  rw [← hN, ← hR]
  obtain ⟨F, hF⟩ : ∃ F, F = rL (rN bs) N R := ⟨_, rfl⟩
  rw [← hF]
  simp only [tupI, intAV] at h43
  refine Seat.fn_of (f := fun42) (noS o 42 _ rfl) rfl rfl rfl ?_; simp only [fun42, Proofs.Try.f42, Seat.W_seq, Seat.W_region_false, Seat.rq_nil, Seat.rq_cons, Seat.rqK_some, Seat.seq_normal, s_step, guardOf, s_guard_true, s_assign, s_move, call_43, s_pure, s_setT, intAV, callS, callP, stripArgs, AV.stripA, strip_imm, IV.norm, mapEval, evalOp, ofValue, List.set_cons_succ, List.set_cons_zero, List.getElem?_cons_succ, List.getElem?_cons_zero, List.cons_append, List.nil_append, List.length_cons, List.length_nil, List.reduceReplicate, Option.map_some, Nat.reduceAdd, Nat.reduceSub, Nat.zero_add, seat_T]
  simp only [Seat.W_seq, Seat.W_block, Seat.W_loop, Seat.W_region_false, Seat.rq_nil, Seat.rq_cons, Seat.rqK_some, Seat.seq_normal, s_step, guardOf, s_guard_true, s_assign, s_move, s_extract, s_pure, s_setT, extractK, evalOp, ofValue, List.set_cons_succ, List.set_cons_zero, List.getElem?_cons_succ, List.getElem?_cons_zero, List.length_cons, List.length_nil, List.getD_cons_succ, List.getD_cons_zero, List.contains_cons, List.contains_nil, Option.map_none, Option.getD_some, Nat.reduceAdd, Nat.reduceLT, Nat.reduceLeDiff, Nat.reduceBEq, Nat.zero_add, Bool.or_false, Bool.or_true, Bool.false_eq_true, decide_false, beq_self_eq_true, eq_self, ↓reduceIte, seat_T, ob_getD, keepSt, keepTmps, keepObjs, kept, keepAV, keepLV_imm, promote, promoteT, seedLV, seedObj, firstRegion, k42, h43]
  refine Seat.loop_by (fun s : List Int × Rs => L42_4 (.leaf (.imm (.sl (rowsOfBytes bs)))) (intAV .i64 (N : Int)) (intAV .i64 (eP s.2)) (intAV .i64 (eE s.2)) (.leaf (.ap 39 (ints s.1))) (intAV .i64 (s.1.length : Int)) none (some (.tail 3 1 s.1.length))) (fun s => Good bs s.2 ∧ s.1.length ≤ N ∧ (s.1 ++ (rL (rN bs) (N - s.1.length) s.2).1, (rL (rN bs) (N - s.1.length) s.2).2) = F) (fun s => N - s.1.length) ([], R) rfl ⟨hcg, Nat.zero_le _, by rw [hF]; rfl⟩ ?_
  rintro ⟨l, q⟩ ⟨hq, hle, hv⟩
  simp only at hq hle hv
  by_cases hlt : l.length < N
  · obtain ⟨m, hm⟩ : ∃ m, N - l.length = m + 1 := ⟨N - l.length - 1, by omega⟩
    rw [hm, rL] at hv
    cases hb : q.2 with
    | true =>
      rw [hb] at hv
      simp only [if_true, List.append_nil] at hv
      subst hv
      have z : ¬ (13 : Int) = 0 := by decide
      simp only [L42_4, Seat.W_seq, Seat.W_region_false, Seat.W_exit, Seat.W_ret, Seat.cond_eq, Seat.condK_false, Seat.rq_nil, Seat.rq_cons, Seat.rqK_some, Seat.seq_normal, Seat.seq_exit, Seat.blk_exit, Seat.ret_ret, Seat.RetK, loopEnd_exit, s_step, guardOf, s_guard_true, s_assign, s_move, s_pick, s_bin, s_pure, s_setT, pickK, pickAV, binK, binAV, intBin, boolAV, intAV, IV.norm, lendArgs, lendArg, lend_imm, lend_ap, resultsAV, resultAV, tupleOf, evalOp, ofValue, List.set_cons_succ, List.set_cons_zero, List.getElem?_cons_succ, List.getElem?_cons_zero, Option.map_some, Option.getD_some, Option.some.injEq, decide_true, decide_false, beq_self_eq_true, eq_self, ↓reduceIte, exists_eq_left', seat_T, int_beq, Int.ofNat_lt, firstRegion, k42, hlt, eP, eE, hb, z]
    | false =>
      rw [hb] at hv
      simp only [Bool.false_eq_true, if_false] at hv
      have h10 := ref10 bs q.1 hl
      rw [start_of hq hb] at h10
      have e1 : IntKind.wrap .i64 ((l.length : Int) + 1) = ((l.length + 1 : Nat) : Int) := wrap_i64 (by omega) (by omega)
      have hr : (l.length + 1) * 8 ≤ room := room_of (by omega) (by decide)
      simp only [tupI, intAV] at h10
      have p0 : eP q = q.1 := by unfold eP; rw [hb]; rfl
      have e0 : eE q = 0 := by unfold eE; rw [hb]; rfl
      simp only [L42_4, Seat.W_seq, Seat.W_block, Seat.W_region_false, Seat.W_skip, Seat.cond_eq, Seat.condK_true, Seat.env_grow, Seat.rq_nil, Seat.rq_cons, Seat.rqK_some, Seat.seq_normal, Seat.blk_normal, loopEnd_normal, s_step, guardOf, s_guard_true, s_assign, s_move, s_pick, s_bin, s_extract, s_buildSlice, call_10, s_append, s_pure, s_setT, pickK, pickAV, binK, binAV, intBin, boolAV, intAV, extractK, evalParts, clipK, rowsK, buildSliceK, callS, callP, appK, appR, appT, appE_c, appS, app2, appTail, stripArgs, AV.stripA, strip_imm, stripAll, IV.norm, rowsOf_clip, rowsAt, fillAV, setRange, mapEval, evalOp, ofValue, AV.leaves, solid_imm, List.set_cons_succ, List.set_cons_zero, List.getElem?_cons_succ, List.getElem?_cons_zero, List.nil_append, List.append_nil, List.length_cons, List.length_nil, List.getD_cons_succ, List.getD_cons_zero, List.all_cons, List.all_nil, List.map_cons, List.map_nil, List.drop_succ_cons, List.drop_zero, List.take_succ_cons, List.take_zero, List.drop_nil, List.take_nil, List.flatten_cons, List.flatten_nil, List.reduceReplicate, List.contains_cons, List.contains_nil, Option.map_some, Option.map_none, Option.getD_some, Nat.reduceAdd, Nat.reduceLT, Nat.reduceLeDiff, Nat.reduceBEq, Nat.zero_add, Nat.mul_one, Nat.le_refl, and_self, Bool.and_self, Bool.or_false, Bool.or_true, Bool.false_eq_true, decide_true, decide_false, beq_self_eq_true, eq_self, ↓reduceIte, seat_T, ob_getD, Int.ofNat_lt, keepSt, keepTmps, keepObjs, kept, keepAV, keepLV_imm, keepLV_ap, keepObj, promote, promoteT, firstRegion, k42, T_33, T_3, hlt, p0, e0, h10, e1, ints_len, hr]
      refine ⟨(l ++ [(rN bs q).1], (rN bs q).2), ⟨rN_good hq, by simp only [List.length_append, List.length_cons, List.length_nil]; omega, ?_⟩, by simp only [List.length_append, List.length_cons, List.length_nil]; omega, ?_⟩
      · have : N - (l ++ [(rN bs q).1]).length = m := by simp only [List.length_append, List.length_cons, List.length_nil]; omega
        simp only [this]
        rw [List.append_assoc]
        exact hv
      · simp [ints]
  · have e : N - l.length = 0 := by omega
    rw [e, rL] at hv
    simp only [List.append_nil] at hv
    subst hv
    simp only [L42_4, Seat.W_seq, Seat.W_region_false, Seat.W_exit, Seat.W_ret, Seat.cond_eq, Seat.condK_false, Seat.rq_nil, Seat.rq_cons, Seat.rqK_some, Seat.seq_normal, Seat.seq_exit, Seat.blk_exit, Seat.ret_ret, Seat.RetK, loopEnd_exit, s_step, guardOf, s_guard_true, s_guard_false, s_assign, s_move, s_pick, s_bin, s_pure, s_setT, pickK, pickAV, binK, binAV, cmpAV, intBin, boolAV, intAV, IV.norm, lendArgs, lendArg, lend_imm, lend_ap, resultsAV, resultAV, tupleOf, evalOp, ofValue, List.set_cons_succ, List.set_cons_zero, List.getElem?_cons_succ, List.getElem?_cons_zero, Option.map_some, Option.getD_some, Option.some.injEq, Bool.false_eq_true, decide_false, eq_self, ↓reduceIte, exists_eq_left', seat_T, bq_ft, Int.ofNat_lt, firstRegion, k42, T_24, hlt]
end Go.Ai
