/- The law WireInts, as what the abstract run answers. Where sizes are at most 1048576. -/
import Derived.Test.YtcbijnemdbbkdaaR39e
import Derived.Test.YtcbijnemdbbkdaaR39f
namespace Go.Ai
set_option linter.unusedVariables false
set_option linter.unusedSimpArgs false
set_option maxRecDepth 100000
set_option maxHeartbeats 4000000

theorem fn8 : (seat o).fn 8 [] = some (boolAV true) := by
  have c12 : ∀ (d : Nat) (ob : Nat → Option AObj), ob d = none → _ := fun d ob hd => fn12_nil d ob 64 (by decide) (by decide) hd
  have e64 : uenc (zz 64) = [128, 1] := by
    have : zz 64 = 128 := rfl
    rw [this, uenc_hi (by decide), uenc_lo (by decide)]
    rfl
  rw [e64] at c12
  have h9a := fn9 [128, 1] 0 (by decide)
  have h9b := fn9 [128, 0] 0 (by decide)
  have ga : gi [128, 1] 0 = (64, 2, 0) := by decide
  have gb : gi [128, 0] 0 = (0, 0, 13) := by decide
  rw [ga] at h9a
  rw [gb] at h9b
  have h15 := fn15 zcom zcom_ok
  rw [zcom_bytes] at h15
  have r1 : rowsOfBytes [128, 1] = [[.int .u8 128], [.int .u8 1]] := rfl
  have r2 : rowsOfBytes [128, 0] = [[.int .u8 128], [.int .u8 0]] := rfl
  have r3 : rowsOfBytes [0, 0, 0, 0, 0] = [[.int .u8 0], [.int .u8 0], [.int .u8 0], [.int .u8 0], [.int .u8 0]] := rfl
  rw [r1] at c12 h9a
  rw [r2] at h9b
  rw [r3] at h15
  simp only [tup3, intAV, Com.av, zcom, ints, List.map_nil, List.length_cons, List.length_nil, Nat.zero_add, Nat.reduceAdd] at c12 h9a h9b h15
  refine Seat.fn_of (f := fun8) (noS o 8 _ rfl) rfl rfl rfl ?_; simp only [fun8, Proofs.Try.f8, Seat.W_seq, Seat.W_region_false, Seat.rq_nil, Seat.rq_cons, Seat.rqK_some, Seat.seq_normal, s_step, guardOf, s_guard_true, s_assign, call_12, s_pure, s_setT, boolAV, callOS, callOD, mapEval, evalOp, ofValue, idsOf, AV.ids, LV.ids, LV.ids.idsAll, List.set_cons_succ, List.set_cons_zero, List.nil_append, List.append_nil, List.length_cons, List.length_nil, List.reduceReplicate, List.contains_cons, List.contains_nil, Nat.reduceAdd, Nat.reduceSub, Nat.zero_add, Bool.or_false, seat_T]
  simp only [Seat.W_seq, Seat.W_region_false, Seat.W_ret, Seat.rq_nil, Seat.rq_cons, Seat.rqK_some, Seat.seq_normal, Seat.ret_ret, Seat.RetK, s_step, guardOf, s_guard_true, s_assign, s_move, s_pick, s_bin, s_extract, s_build, s_buildSlice, s_len, call_9, call_15, s_pure, s_setT, pickK, pickAV, binK, binAV, intBin, boolAV, intAV, extractK, evalParts, aggK, buildK, clipK, rowsK, buildSliceK, lenK, lenAV, callS, callP, upds, stripArgs, AV.stripA, strip_imm, strip_ap, strip_clip, stripAll, IV.norm, lendArgs, lendArg, lend_imm, rowsAt, resultsAV, resultAV, tupleOf, fillAV, setRange, mapEval, evalOp, ofValue, AV.leaves, solid_imm, List.set_cons_succ, List.set_cons_zero, List.getElem?_cons_succ, List.getElem?_cons_zero, List.cons_append, List.nil_append, List.append_nil, List.length_cons, List.length_nil, List.getD_cons_succ, List.getD_cons_zero, List.all_cons, List.all_nil, List.map_cons, List.map_nil, List.drop_succ_cons, List.drop_zero, List.take_succ_cons, List.take_zero, List.drop_nil, List.take_nil, List.flatten_cons, List.flatten_nil, List.reduceReplicate, Option.map_some, Option.some.injEq, Nat.reduceAdd, Nat.reduceLT, Nat.reduceLeDiff, Nat.zero_add, Nat.mul_one, Nat.le_refl, Int.cast_ofNat_Int, and_self, Bool.and_self, decide_true, beq_self_eq_true, eq_self, ↓reduceIte, exists_eq_left', seat_T, ob_getD, T_22, T_5, T_36, c12, h9a, h9b, h15]

theorem fn3 (bs : List UInt8) (n a : Int) (hl : bs.length ≤ 1048576) (hn : I64 n) : (seat o).fn 3 [.leaf (.imm (.sl (rowsOfBytes bs))), .leaf (.imm (.int .i64 n)), .leaf (.imm (.int .i64 a))] = some (boolAV true) := by
  have h8 := fn8
  simp only [boolAV] at h8
  by_cases h : (2000 : Int) < (bs.length : Int)
  · refine Seat.fn_of (f := fun3) (noS o 3 _ rfl) rfl rfl rfl ?_; simp only [fun3, Proofs.Try.f3, Seat.W_seq, Seat.W_region_false, Seat.rq_nil, Seat.rq_cons, Seat.rqK_some, Seat.seq_normal, s_step, guardOf, s_guard_true, s_assign, s_move, s_len, s_pure, s_setT, boolAV, intAV, lenK, lenAV, mapEval, evalOp, ofValue, List.set_cons_succ, List.set_cons_zero, List.getElem?_cons_succ, List.getElem?_cons_zero, List.cons_append, List.nil_append, List.length_cons, List.length_nil, List.reduceReplicate, Nat.reduceAdd, Nat.reduceSub, Nat.zero_add, seat_T]
    simp only [Seat.W_seq, Seat.W_region_false, Seat.W_ret, Seat.cond_eq, Seat.condK_true, Seat.rq_nil, Seat.rq_cons, Seat.rqK_some, Seat.seq_normal, Seat.seq_ret, Seat.ret_ret, Seat.RetK, s_step, guardOf, s_guard_true, s_assign, s_bin, call_8, s_pure, s_setT, binK, binAV, intBin, boolAV, callS, callP, stripArgs, IV.norm, lendArgs, lendArg, lend_imm, resultsAV, resultAV, tupleOf, mapEval, evalOp, ofValue, List.set_cons_succ, List.set_cons_zero, List.getElem?_cons_succ, List.getElem?_cons_zero, Option.map_some, Option.some.injEq, decide_true, eq_self, gt_iff_lt, ↓reduceIte, exists_eq_left', seat_T, T_22, rob_len, h, h8]
  · have h9 := fn9 bs a (by omega)
    have h10 := fn10 bs a (by omega)
    have c12 : ∀ (d : Nat) (ob : Nat → Option AObj), ob d = none → _ := fun d ob hd => fn12 d ob bs n hn.1 hn.2 (by omega) hd
    have c13 : ∀ (d : Nat) (ob : Nat → Option AObj), ob d = none → _ := fun d ob hd => fn13 d ob bs n hn.1 hn.2 (by omega) hd
    have h11 := fn11 (bs ++ uenc (zz n)) (bs ++ uenc (zz n))
    rw [decide_eq_true rfl] at h11
    simp only [tup3, intAV, boolAV] at h9 h10 h11
    refine Seat.fn_of (f := fun3) (noS o 3 _ rfl) rfl rfl rfl ?_; simp only [fun3, Proofs.Try.f3, Seat.W_seq, Seat.W_region_false, Seat.rq_nil, Seat.rq_cons, Seat.rqK_some, Seat.seq_normal, s_step, guardOf, s_guard_true, s_assign, s_move, s_len, s_pure, s_setT, boolAV, intAV, lenK, lenAV, mapEval, evalOp, ofValue, List.set_cons_succ, List.set_cons_zero, List.getElem?_cons_succ, List.getElem?_cons_zero, List.cons_append, List.nil_append, List.length_cons, List.length_nil, List.reduceReplicate, Nat.reduceAdd, Nat.reduceSub, Nat.zero_add, seat_T]
    simp only [Seat.W_seq, Seat.W_region_false, Seat.W_ret, Seat.W_skip, Seat.cond_eq, Seat.condK_false, Seat.rq_nil, Seat.rq_cons, Seat.rqK_some, Seat.seq_normal, Seat.ret_ret, Seat.RetK, s_step, guardOf, s_guard_true, s_assign, s_move, s_pick, s_bin, s_extract, call_8, call_9, call_10, call_11, call_12, call_13, s_pure, s_setT, pickK, pickAV, binK, binAV, intBin, boolAV, extractK, callS, callP, callOS, callOD, upds, stripArgs, AV.stripA, strip_imm, strip_ap, IV.norm, lendArgs, lendArg, lend_imm, resultsAV, resultAV, tupleOf, mapEval, evalOp, ofValue, idsOf, AV.ids, LV.ids, LV.ids.idsAll, List.set_cons_succ, List.set_cons_zero, List.getElem?_cons_succ, List.getElem?_cons_zero, List.nil_append, List.append_nil, List.length_cons, List.length_nil, List.getD_cons_succ, List.getD_cons_zero, List.all_cons, List.all_nil, List.contains_cons, List.contains_nil, Option.map_some, Option.some.injEq, Nat.reduceAdd, Nat.reduceLT, Nat.zero_add, Bool.and_self, Bool.or_false, decide_true, decide_false, beq_self_eq_true, eq_self, gt_iff_lt, ↓reduceIte, exists_eq_left', seat_T, ob_getD, T_22, rob_len, h, h8, h9, h10, h11, c12, c13]
end Go.Ai
