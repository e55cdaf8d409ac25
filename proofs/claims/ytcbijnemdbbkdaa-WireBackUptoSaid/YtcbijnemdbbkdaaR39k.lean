/- The law WireCommits, as what the abstract run answers. Where sizes are at most 1048576. -/
import Derived.Test.YtcbijnemdbbkdaaR39j
namespace Go.Ai
set_option linter.unusedVariables false
set_option linter.unusedSimpArgs false
set_option maxRecDepth 100000
set_option maxHeartbeats 4000000

theorem fn13_nil (d : Nat) (ob : Nat → Option AObj) (n : Int) (h1 : -9223372036854775808 ≤ n) (h2 : n ≤ 9223372036854775807) (hd : ob d = none) :
    (seat o).fnO 13 d [.leaf (.imm .nil), .leaf (.imm (.int .i64 n))] ob = some (.leaf (.ap d (rowsOfBytes (uenc (zz n)))), [(d, .tail 5 1 ((uenc (zz n)).length))]) := by
  have hlt := zz_lt h1 h2
  have hle := uenc_len' hlt
  have loopA : ∀ Q : Ex → St → Prop, ∀ c, (∀ x : Bool × List UInt8 × Nat, (inv13 n x.2 ∧ (x.1 = true → x.2.1 = [])) → (seat o).W [] k13 c (S13 x) (LoopEnd (k13 ((firstRegion c).getD 0)) (fun st' => ∃ y : Bool × List UInt8 × Nat, (inv13 n y.2 ∧ (y.1 = true → y.2.1 = [])) ∧ y.2.2 < x.2.2 ∧ st' = S13 y) Q)) → (seat o).WL [] k13 c (S13 (true, [], zz n)) Q := fun Q c step =>
    Seat.loop_by S13 (fun x => inv13 n x.2 ∧ (x.1 = true → x.2.1 = [])) (fun x => x.2.2) (true, [], zz n) rfl ⟨⟨rfl, hlt⟩, fun _ => rfl⟩ step
  by_cases h0 : n < 0
  · have hz := zz_neg h0 h1
    refine Seat.fnO_of (f := fun13) (ids := []) rfl rfl rfl rfl rfl ?_
    simp only [fun13, Proofs.Try.f13, Seat.W_seq, Seat.W_region_false, Seat.rq_nil, Seat.rq_cons, Seat.rqK_some, Seat.seq_normal, s_step, guardOf, s_guard_true, s_assign, s_move, s_convert, convK, s_pure, s_setT, intAV, renAV, renLV, indexIn, evalOp, ofValue, List.set_cons_succ, List.set_cons_zero, List.getElem?_cons_succ, List.getElem?_cons_zero, List.cons_append, List.nil_append, List.append_nil, List.length_cons, List.length_nil, List.map_cons, List.map_nil, List.reduceReplicate, Option.map_none, Nat.reduceAdd, Nat.reduceSub, Nat.zero_add, seat_T]
    simp only [Seat.W_seq, Seat.W_block, Seat.W_loop, Seat.W_region_false, Seat.cond_eq, Seat.condK_true, Seat.env_grow, Seat.rq_nil, Seat.rq_cons, Seat.rqK_some, Seat.seq_normal, s_step, guardOf, s_guard_true, s_assign, s_move, s_bin, s_un, s_buildSlice, s_append, s_convert, convK, s_pure, s_setT, binK, binAV, intBin, boolAV, intAV, unAV, evalParts, clipK, rowsK, buildSliceK, appK, appR, appT, appE_e, rowsOf_nil, rowsAt, fillAV, mapEval, evalOp, ofValue, List.set_cons_succ, List.set_cons_zero, List.getElem?_cons_succ, List.getElem?_cons_zero, List.getD_cons_succ, List.getD_cons_zero, List.all_nil, List.map_cons, List.map_nil, List.flatten_nil, List.reduceReplicate, List.contains_cons, List.contains_nil, Option.map_none, Option.bind_some, Option.getD_some, Nat.reduceAdd, Nat.reduceLT, Nat.reduceLeDiff, Nat.reduceBEq, Nat.zero_add, Nat.zero_le, Nat.mul_one, and_self, Bool.or_false, Bool.or_true, Bool.false_eq_true, decide_true, decide_false, beq_self_eq_true, eq_self, ↓reduceIte, seat_T, ob_getD, keepSt, keepTmps, keepObjs, kept, keepAV, keepLV_imm, keepLV_clip, promote, promoteT, firstRegion, k13, T_56, T_22, T_5, T_3, h0, hz, hd]
    refine loopA _ _ ?_
    rintro ⟨b, done, u⟩ ⟨⟨hi, hu⟩, hb⟩
    simp only at hi hu hb
    have hlen := congrArg List.length hi
    rw [List.length_append] at hlen
    have hr : done.length + 1 ≤ room := room_one' (by omega)
    have hr0 : 0 + 1 ≤ room := room_one' (by decide)
    have hr1 : 1 ≤ room := room_one' (by decide)
    by_cases h : u < 128
    · have h' : ¬ (127 : Int) < (u : Int) := by omega
      rw [uenc_lo h] at hi hlen
      have e1 := lo_byte h
      cases b with
      | false =>
        have e2 : rowsOfBytes done ++ [[.int .u8 ((UInt8.ofNat u).toNat : Int)]] = rowsOfBytes (uenc (zz n)) := by rw [← rob_one, ← rob_append, hi]
        have e3 : done.length + 1 = (uenc (zz n)).length := by simp only [List.length_cons, List.length_nil] at hlen; omega
        simp only [S13, L13_5, Seat.W_seq, Seat.W_region_false, Seat.W_exit, Seat.W_ret, Seat.cond_eq, Seat.condK_false, Seat.env_grow, Seat.rq_nil, Seat.rq_cons, Seat.rqK_some, Seat.seq_normal, Seat.seq_exit, Seat.blk_exit, loopEnd_exit, s_step, guardOf, s_guard_true, s_assign, s_move, s_bin, s_buildSlice, s_append, s_convert, convK, s_pure, s_setT, binK, binAV, intBin, boolAV, intAV, evalParts, clipK, rowsK, buildSliceK, out_ret, OutK, handed, renAV, renLV, renObj, backName, backUpd, appK, appR, appT, appE_c, appS, app2, appTail, strip_imm, stripAll, IV.norm, rowsOf_clip, rowsAt, resultsAV, resultAV, tupleOf, fillAV, setRange, mapEval, evalOp, ofValue, AV.leaves, solid_imm, List.set_cons_succ, List.set_cons_zero, List.getElem?_cons_succ, List.getElem?_cons_zero, List.nil_append, List.append_nil, List.length_cons, List.length_nil, List.getD_cons_succ, List.getD_cons_zero, List.all_cons, List.all_nil, List.map_cons, List.map_nil, List.drop_succ_cons, List.drop_zero, List.take_succ_cons, List.take_zero, List.drop_nil, List.take_nil, List.flatten_cons, List.flatten_nil, List.reduceReplicate, List.contains_nil, Option.getD_some, Nat.reduceAdd, Nat.reduceLT, Nat.reduceLeDiff, Nat.zero_add, Nat.mul_one, Nat.le_refl, and_self, Bool.and_self, decide_false, beq_self_eq_true, eq_self, gt_iff_lt, ↓reduceIte, seat_T, firstRegion, k13, T_56, T_22, T_5, h', e1, rob_len, hr]
        rw [e2, e3]
      | true =>
        have hb := hb rfl
        subst hb
        have e2 : [[.int .u8 ((UInt8.ofNat u).toNat : Int)]] = rowsOfBytes (uenc (zz n)) := by rw [← rob_one, ← hi]; rfl
        have e3 : 1 = (uenc (zz n)).length := by simp only [List.length_cons, List.length_nil] at hlen; omega
        simp only [S13, L13_5, Seat.W_seq, Seat.W_region_false, Seat.W_exit, Seat.W_ret, Seat.cond_eq, Seat.condK_false, Seat.env_grow, Seat.rq_nil, Seat.rq_cons, Seat.rqK_some, Seat.seq_normal, Seat.seq_exit, Seat.blk_exit, loopEnd_exit, s_step, guardOf, s_guard_true, s_assign, s_move, s_bin, s_buildSlice, s_append, s_convert, convK, s_pure, s_setT, binK, binAV, intBin, boolAV, intAV, evalParts, clipK, rowsK, buildSliceK, out_ret, OutK, handed, renAV, renLV, renObj, backName, backUpd, appK, appR, appT, appE_c, appS, app1, appTail, strip_imm, stripAll, IV.norm, rowsOf_clip, rowsAt, resultsAV, resultAV, tupleOf, fillAV, setRange, mapEval, evalOp, ofValue, AV.leaves, solid_imm, List.set_cons_succ, List.set_cons_zero, List.getElem?_cons_succ, List.getElem?_cons_zero, List.nil_append, List.append_nil, List.length_cons, List.length_nil, List.getD_cons_succ, List.getD_cons_zero, List.all_cons, List.all_nil, List.map_cons, List.map_nil, List.drop_succ_cons, List.drop_zero, List.take_succ_cons, List.take_zero, List.drop_nil, List.take_nil, List.flatten_cons, List.flatten_nil, List.reduceReplicate, List.contains_nil, Option.getD_some, Nat.reduceAdd, Nat.reduceLT, Nat.reduceLeDiff, Nat.zero_add, Nat.mul_one, Nat.le_refl, and_self, Bool.and_self, Bool.false_eq_true, decide_false, beq_self_eq_true, eq_self, gt_iff_lt, ↓reduceIte, seat_T, firstRegion, k13, T_56, T_22, T_5, h', e1, hr0]
        rw [e2, ← e3]
    · have h' : (127 : Int) < (u : Int) := by omega
      rw [uenc_hi h] at hi
      have e4 := tmod128 u
      have e5 := tdiv128 hu
      have e6 := add128 u
      have e7 : ¬ (128 : Int) = 0 := by decide
      cases b with
      | false =>
        have e2 : rowsOfBytes done ++ [[.int .u8 ((UInt8.ofNat (u % 128 + 128)).toNat : Int)]] = rowsOfBytes (done ++ [UInt8.ofNat (u % 128 + 128)]) := by rw [← rob_one, ← rob_append]
        simp only [S13, L13_5, Seat.W_seq, Seat.W_block, Seat.W_region_false, Seat.W_skip, Seat.cond_eq, Seat.condK_true, Seat.env_grow, Seat.rq_nil, Seat.rq_cons, Seat.rqK_some, Seat.seq_normal, Seat.blk_normal, loopEnd_normal, s_step, guardOf, s_guard_true, s_assign, s_move, s_bin, s_buildSlice, s_append, s_convert, convK, s_pure, s_setT, binK, binAV, intBin, boolAV, intAV, evalParts, clipK, rowsK, buildSliceK, appK, appR, appT, appE_c, appS, app2, appTail, strip_imm, stripAll, IV.norm, rowsOf_clip, rowsAt, fillAV, setRange, mapEval, evalOp, ofValue, AV.leaves, solid_imm, List.set_cons_succ, List.set_cons_zero, List.getElem?_cons_succ, List.getElem?_cons_zero, List.nil_append, List.append_nil, List.length_cons, List.length_nil, List.getD_cons_succ, List.getD_cons_zero, List.all_cons, List.all_nil, List.map_cons, List.map_nil, List.drop_succ_cons, List.drop_zero, List.take_succ_cons, List.take_zero, List.drop_nil, List.take_nil, List.flatten_cons, List.flatten_nil, List.reduceReplicate, List.contains_cons, List.contains_nil, Option.map_some, Option.map_none, Option.getD_some, Nat.reduceAdd, Nat.reduceLT, Nat.reduceLeDiff, Nat.reduceBEq, Nat.zero_add, Nat.mul_one, Nat.le_refl, and_self, Bool.and_self, Bool.or_false, Bool.or_true, Bool.false_eq_true, decide_true, decide_false, beq_self_eq_true, eq_self, gt_iff_lt, ↓reduceIte, seat_T, ob_getD, keepSt, keepTmps, keepObjs, kept, keepAV, keepLV_imm, keepLV_ap, keepObj, promote, promoteT, firstRegion, k13, T_56, T_22, T_5, h', rob_len, hr, e2, e4, e5, e6, e7]
        refine ⟨(false, done ++ [UInt8.ofNat (u % 128 + 128)], u / 128), ⟨⟨by simp only; rw [List.append_assoc]; exact hi, by simp only; omega⟩, fun h => by cases h⟩, by simp only; omega, ?_⟩
        simp only [List.length_append, List.length_cons, List.length_nil, Nat.zero_add]
      | true =>
        have hb := hb rfl
        subst hb
        simp only [S13, L13_5, Seat.W_seq, Seat.W_block, Seat.W_region_false, Seat.W_skip, Seat.cond_eq, Seat.condK_true, Seat.env_grow, Seat.rq_nil, Seat.rq_cons, Seat.rqK_some, Seat.seq_normal, Seat.blk_normal, loopEnd_normal, s_step, guardOf, s_guard_true, s_assign, s_move, s_bin, s_buildSlice, s_append, s_convert, convK, s_pure, s_setT, binK, binAV, intBin, boolAV, intAV, evalParts, clipK, rowsK, buildSliceK, appK, appR, appT, appE_c, appS, app1, appTail, strip_imm, stripAll, IV.norm, rowsOf_clip, rowsAt, fillAV, setRange, mapEval, evalOp, ofValue, AV.leaves, solid_imm, List.set_cons_succ, List.set_cons_zero, List.getElem?_cons_succ, List.getElem?_cons_zero, List.nil_append, List.append_nil, List.length_cons, List.length_nil, List.getD_cons_succ, List.getD_cons_zero, List.all_cons, List.all_nil, List.map_cons, List.map_nil, List.drop_succ_cons, List.drop_zero, List.take_succ_cons, List.take_zero, List.drop_nil, List.take_nil, List.flatten_cons, List.flatten_nil, List.reduceReplicate, List.contains_cons, List.contains_nil, Option.map_some, Option.map_none, Option.getD_some, Nat.reduceAdd, Nat.reduceLT, Nat.reduceLeDiff, Nat.reduceBEq, Nat.zero_add, Nat.mul_one, Nat.le_refl, and_self, Bool.and_self, Bool.or_false, Bool.or_true, Bool.false_eq_true, decide_true, decide_false, beq_self_eq_true, eq_self, gt_iff_lt, ↓reduceIte, seat_T, ob_getD, keepSt, keepTmps, keepObjs, kept, keepAV, keepLV_imm, keepLV_ap, keepObj, promote, promoteT, firstRegion, k13, T_56, T_22, T_5, h', hr0, e4, e5, e6, e7]
        refine ⟨(false, [UInt8.ofNat (u % 128 + 128)], u / 128), ⟨⟨hi, by simp only; omega⟩, fun h => by cases h⟩, by simp only; omega, ?_⟩
        simp only [rob_one, List.length_cons, List.length_nil, Nat.zero_add]
  · have hz := zz_pos (n := n) (by omega) h2
    refine Seat.fnO_of (f := fun13) (ids := []) rfl rfl rfl rfl rfl ?_
    simp only [fun13, Proofs.Try.f13, Seat.W_seq, Seat.W_region_false, Seat.rq_nil, Seat.rq_cons, Seat.rqK_some, Seat.seq_normal, s_step, guardOf, s_guard_true, s_assign, s_move, s_convert, convK, s_pure, s_setT, intAV, renAV, renLV, indexIn, evalOp, ofValue, List.set_cons_succ, List.set_cons_zero, List.getElem?_cons_succ, List.getElem?_cons_zero, List.cons_append, List.nil_append, List.append_nil, List.length_cons, List.length_nil, List.map_cons, List.map_nil, List.reduceReplicate, Option.map_none, Nat.reduceAdd, Nat.reduceSub, Nat.zero_add, seat_T]
    simp only [Seat.W_seq, Seat.W_block, Seat.W_loop, Seat.W_region_false, Seat.W_skip, Seat.cond_eq, Seat.condK_false, Seat.env_grow, Seat.rq_nil, Seat.rq_cons, Seat.rqK_some, Seat.seq_normal, s_step, guardOf, s_guard_true, s_assign, s_move, s_bin, s_buildSlice, s_append, s_pure, s_setT, binK, binAV, intBin, boolAV, intAV, evalParts, clipK, rowsK, buildSliceK, appK, appR, appT, appE_e, rowsOf_nil, rowsAt, fillAV, mapEval, evalOp, ofValue, List.set_cons_succ, List.set_cons_zero, List.getElem?_cons_succ, List.getElem?_cons_zero, List.getD_cons_succ, List.getD_cons_zero, List.all_nil, List.map_cons, List.map_nil, List.flatten_nil, List.reduceReplicate, List.contains_cons, List.contains_nil, Option.map_none, Option.getD_some, Nat.reduceAdd, Nat.reduceLT, Nat.reduceLeDiff, Nat.reduceBEq, Nat.zero_add, Nat.zero_le, Nat.mul_one, and_self, Bool.or_false, Bool.or_true, Bool.false_eq_true, decide_false, beq_self_eq_true, eq_self, ↓reduceIte, seat_T, ob_getD, keepSt, keepTmps, keepObjs, kept, keepAV, keepLV_imm, keepLV_clip, promote, promoteT, firstRegion, k13, T_56, T_22, T_5, T_3, h0, hz, hd]
    refine loopA _ _ ?_
    rintro ⟨b, done, u⟩ ⟨⟨hi, hu⟩, hb⟩
    simp only at hi hu hb
    have hlen := congrArg List.length hi
    rw [List.length_append] at hlen
    have hr : done.length + 1 ≤ room := room_one' (by omega)
    have hr0 : 0 + 1 ≤ room := room_one' (by decide)
    have hr1 : 1 ≤ room := room_one' (by decide)
    by_cases h : u < 128
    · have h' : ¬ (127 : Int) < (u : Int) := by omega
      rw [uenc_lo h] at hi hlen
      have e1 := lo_byte h
      cases b with
      | false =>
        have e2 : rowsOfBytes done ++ [[.int .u8 ((UInt8.ofNat u).toNat : Int)]] = rowsOfBytes (uenc (zz n)) := by rw [← rob_one, ← rob_append, hi]
        have e3 : done.length + 1 = (uenc (zz n)).length := by simp only [List.length_cons, List.length_nil] at hlen; omega
        simp only [S13, L13_5, Seat.W_seq, Seat.W_region_false, Seat.W_exit, Seat.W_ret, Seat.cond_eq, Seat.condK_false, Seat.env_grow, Seat.rq_nil, Seat.rq_cons, Seat.rqK_some, Seat.seq_normal, Seat.seq_exit, Seat.blk_exit, loopEnd_exit, s_step, guardOf, s_guard_true, s_assign, s_move, s_bin, s_buildSlice, s_append, s_convert, convK, s_pure, s_setT, binK, binAV, intBin, boolAV, intAV, evalParts, clipK, rowsK, buildSliceK, out_ret, OutK, handed, renAV, renLV, renObj, backName, backUpd, appK, appR, appT, appE_c, appS, app2, appTail, strip_imm, stripAll, IV.norm, rowsOf_clip, rowsAt, resultsAV, resultAV, tupleOf, fillAV, setRange, mapEval, evalOp, ofValue, AV.leaves, solid_imm, List.set_cons_succ, List.set_cons_zero, List.getElem?_cons_succ, List.getElem?_cons_zero, List.nil_append, List.append_nil, List.length_cons, List.length_nil, List.getD_cons_succ, List.getD_cons_zero, List.all_cons, List.all_nil, List.map_cons, List.map_nil, List.drop_succ_cons, List.drop_zero, List.take_succ_cons, List.take_zero, List.drop_nil, List.take_nil, List.flatten_cons, List.flatten_nil, List.reduceReplicate, List.contains_nil, Option.getD_some, Nat.reduceAdd, Nat.reduceLT, Nat.reduceLeDiff, Nat.zero_add, Nat.mul_one, Nat.le_refl, and_self, Bool.and_self, decide_false, beq_self_eq_true, eq_self, gt_iff_lt, ↓reduceIte, seat_T, firstRegion, k13, T_56, T_22, T_5, h', e1, rob_len, hr]
        rw [e2, e3]
      | true =>
        have hb := hb rfl
        subst hb
        have e2 : [[.int .u8 ((UInt8.ofNat u).toNat : Int)]] = rowsOfBytes (uenc (zz n)) := by rw [← rob_one, ← hi]; rfl
        have e3 : 1 = (uenc (zz n)).length := by simp only [List.length_cons, List.length_nil] at hlen; omega
        simp only [S13, L13_5, Seat.W_seq, Seat.W_region_false, Seat.W_exit, Seat.W_ret, Seat.cond_eq, Seat.condK_false, Seat.env_grow, Seat.rq_nil, Seat.rq_cons, Seat.rqK_some, Seat.seq_normal, Seat.seq_exit, Seat.blk_exit, loopEnd_exit, s_step, guardOf, s_guard_true, s_assign, s_move, s_bin, s_buildSlice, s_append, s_convert, convK, s_pure, s_setT, binK, binAV, intBin, boolAV, intAV, evalParts, clipK, rowsK, buildSliceK, out_ret, OutK, handed, renAV, renLV, renObj, backName, backUpd, appK, appR, appT, appE_c, appS, app1, appTail, strip_imm, stripAll, IV.norm, rowsOf_clip, rowsAt, resultsAV, resultAV, tupleOf, fillAV, setRange, mapEval, evalOp, ofValue, AV.leaves, solid_imm, List.set_cons_succ, List.set_cons_zero, List.getElem?_cons_succ, List.getElem?_cons_zero, List.nil_append, List.append_nil, List.length_cons, List.length_nil, List.getD_cons_succ, List.getD_cons_zero, List.all_cons, List.all_nil, List.map_cons, List.map_nil, List.drop_succ_cons, List.drop_zero, List.take_succ_cons, List.take_zero, List.drop_nil, List.take_nil, List.flatten_cons, List.flatten_nil, List.reduceReplicate, List.contains_nil, Option.getD_some, Nat.reduceAdd, Nat.reduceLT, Nat.reduceLeDiff, Nat.zero_add, Nat.mul_one, Nat.le_refl, and_self, Bool.and_self, Bool.false_eq_true, decide_false, beq_self_eq_true, eq_self, gt_iff_lt, ↓reduceIte, seat_T, firstRegion, k13, T_56, T_22, T_5, h', e1, hr0]
        rw [e2, ← e3]
    · have h' : (127 : Int) < (u : Int) := by omega
      rw [uenc_hi h] at hi
      have e4 := tmod128 u
      have e5 := tdiv128 hu
      have e6 := add128 u
      have e7 : ¬ (128 : Int) = 0 := by decide
      cases b with
      | false =>
        have e2 : rowsOfBytes done ++ [[.int .u8 ((UInt8.ofNat (u % 128 + 128)).toNat : Int)]] = rowsOfBytes (done ++ [UInt8.ofNat (u % 128 + 128)]) := by rw [← rob_one, ← rob_append]
        simp only [S13, L13_5, Seat.W_seq, Seat.W_block, Seat.W_region_false, Seat.W_skip, Seat.cond_eq, Seat.condK_true, Seat.env_grow, Seat.rq_nil, Seat.rq_cons, Seat.rqK_some, Seat.seq_normal, Seat.blk_normal, loopEnd_normal, s_step, guardOf, s_guard_true, s_assign, s_move, s_bin, s_buildSlice, s_append, s_convert, convK, s_pure, s_setT, binK, binAV, intBin, boolAV, intAV, evalParts, clipK, rowsK, buildSliceK, appK, appR, appT, appE_c, appS, app2, appTail, strip_imm, stripAll, IV.norm, rowsOf_clip, rowsAt, fillAV, setRange, mapEval, evalOp, ofValue, AV.leaves, solid_imm, List.set_cons_succ, List.set_cons_zero, List.getElem?_cons_succ, List.getElem?_cons_zero, List.nil_append, List.append_nil, List.length_cons, List.length_nil, List.getD_cons_succ, List.getD_cons_zero, List.all_cons, List.all_nil, List.map_cons, List.map_nil, List.drop_succ_cons, List.drop_zero, List.take_succ_cons, List.take_zero, List.drop_nil, List.take_nil, List.flatten_cons, List.flatten_nil, List.reduceReplicate, List.contains_cons, List.contains_nil, Option.map_some, Option.map_none, Option.getD_some, Nat.reduceAdd, Nat.reduceLT, Nat.reduceLeDiff, Nat.reduceBEq, Nat.zero_add, Nat.mul_one, Nat.le_refl, and_self, Bool.and_self, Bool.or_false, Bool.or_true, Bool.false_eq_true, decide_true, decide_false, beq_self_eq_true, eq_self, gt_iff_lt, ↓reduceIte, seat_T, ob_getD, keepSt, keepTmps, keepObjs, kept, keepAV, keepLV_imm, keepLV_ap, keepObj, promote, promoteT, firstRegion, k13, T_56, T_22, T_5, h', rob_len, hr, e2, e4, e5, e6, e7]
        refine ⟨(false, done ++ [UInt8.ofNat (u % 128 + 128)], u / 128), ⟨⟨by simp only; rw [List.append_assoc]; exact hi, by simp only; omega⟩, fun h => by cases h⟩, by simp only; omega, ?_⟩
        simp only [List.length_append, List.length_cons, List.length_nil, Nat.zero_add]
      | true =>
        have hb := hb rfl
        subst hb
        simp only [S13, L13_5, Seat.W_seq, Seat.W_block, Seat.W_region_false, Seat.W_skip, Seat.cond_eq, Seat.condK_true, Seat.env_grow, Seat.rq_nil, Seat.rq_cons, Seat.rqK_some, Seat.seq_normal, Seat.blk_normal, loopEnd_normal, s_step, guardOf, s_guard_true, s_assign, s_move, s_bin, s_buildSlice, s_append, s_convert, convK, s_pure, s_setT, binK, binAV, intBin, boolAV, intAV, evalParts, clipK, rowsK, buildSliceK, appK, appR, appT, appE_c, appS, app1, appTail, strip_imm, stripAll, IV.norm, rowsOf_clip, rowsAt, fillAV, setRange, mapEval, evalOp, ofValue, AV.leaves, solid_imm, List.set_cons_succ, List.set_cons_zero, List.getElem?_cons_succ, List.getElem?_cons_zero, List.nil_append, List.append_nil, List.length_cons, List.length_nil, List.getD_cons_succ, List.getD_cons_zero, List.all_cons, List.all_nil, List.map_cons, List.map_nil, List.drop_succ_cons, List.drop_zero, List.take_succ_cons, List.take_zero, List.drop_nil, List.take_nil, List.flatten_cons, List.flatten_nil, List.reduceReplicate, List.contains_cons, List.contains_nil, Option.map_some, Option.map_none, Option.getD_some, Nat.reduceAdd, Nat.reduceLT, Nat.reduceLeDiff, Nat.reduceBEq, Nat.zero_add, Nat.mul_one, Nat.le_refl, and_self, Bool.and_self, Bool.or_false, Bool.or_true, Bool.false_eq_true, decide_true, decide_false, beq_self_eq_true, eq_self, gt_iff_lt, ↓reduceIte, seat_T, ob_getD, keepSt, keepTmps, keepObjs, kept, keepAV, keepLV_imm, keepLV_ap, keepObj, promote, promoteT, firstRegion, k13, T_56, T_22, T_5, h', hr0, e4, e5, e6, e7]
        refine ⟨(false, [UInt8.ofNat (u % 128 + 128)], u / 128), ⟨⟨hi, by simp only; omega⟩, fun h => by cases h⟩, by simp only; omega, ?_⟩
        simp only [rob_one, List.length_cons, List.length_nil, Nat.zero_add]

theorem fn13_ap (id d : Nat) (ob : Nat → Option AObj) (l : List UInt8) (n : Int) (h1 : -9223372036854775808 ≤ n) (h2 : n ≤ 9223372036854775807) (hl : l.length ≤ 549755813888) (hemp : l ≠ []) (ho : ob id = some (.tail 5 1 l.length)) (hd : ob d = none) :
    (seat o).fnO 13 d [.leaf (.ap id (rowsOfBytes l)), .leaf (.imm (.int .i64 n))] ob = some (.leaf (.ap d (rowsOfBytes (l ++ uenc (zz n)))), [(id, .tail 5 1 l.length), (d, .tail 5 1 (l.length + (uenc (zz n)).length))]) := by
  have hlt := zz_lt h1 h2
  have hle := uenc_len' hlt
  have hrl : l.length ≤ room := room_one' (by omega)
  by_cases h0 : n < 0
  · have hz := zz_neg h0 h1
    refine Seat.fnO_of (f := fun13) (ids := [id]) rfl rfl rfl rfl (by simp [idsAV, once, AV.ids, LV.ids, ho]) ?_
    simp only [fun13, Proofs.Try.f13, Seat.W_seq, Seat.W_region_false, Seat.rq_nil, Seat.rq_cons, Seat.rqK_some, Seat.seq_normal, s_step, guardOf, s_guard_true, s_assign, s_move, s_convert, convK, s_pure, s_setT, intAV, renAV, renLV, indexIn, evalOp, ofValue, List.set_cons_succ, List.set_cons_zero, List.getElem?_cons_succ, List.getElem?_cons_zero, List.cons_append, List.nil_append, List.length_cons, List.length_nil, List.map_cons, List.map_nil, List.reduceReplicate, Option.map_some, Option.map_none, Nat.reduceAdd, Nat.reduceSub, Nat.zero_add, eq_self, ↓reduceIte, seat_T]
    simp only [Seat.W_seq, Seat.W_block, Seat.W_loop, Seat.W_region_false, Seat.cond_eq, Seat.condK_true, Seat.env_grow, Seat.rq_nil, Seat.rq_cons, Seat.rqK_some, Seat.seq_normal, s_step, guardOf, s_guard_true, s_assign, s_move, s_bin, s_un, s_buildSlice, s_append, s_convert, convK, s_pure, s_setT, binK, binAV, intBin, boolAV, intAV, unAV, evalParts, clipK, rowsK, buildSliceK, renObj, appK, appR, appT, appS, app1, appTail, rowsOf_ap, rowsAt, fillAV, mapEval, evalOp, ofValue, List.set_cons_succ, List.set_cons_zero, List.getElem?_cons_succ, List.getElem?_cons_zero, List.nil_append, List.length_cons, List.length_nil, List.getD_cons_succ, List.getD_cons_zero, List.all_nil, List.map_cons, List.map_nil, List.flatten_nil, List.reduceReplicate, List.contains_cons, List.contains_nil, Option.map_some, Option.map_none, Option.bind_some, Option.getD_some, Nat.reduceAdd, Nat.reduceLT, Nat.reduceLeDiff, Nat.reduceBEq, Nat.zero_add, Nat.zero_le, Nat.mul_one, Nat.le_refl, and_self, Bool.or_false, Bool.or_true, Bool.false_eq_true, decide_true, decide_false, beq_self_eq_true, eq_self, ↓reduceIte, seat_T, ob_getD, keepSt, keepTmps, keepObjs, kept, keepAV, keepLV_imm, keepLV_ap, keepObj, promote, promoteT, firstRegion, k13, T_56, T_22, T_5, T_3, h0, hz, ho, hd, appE_ne (rob_ne hemp), rob_len, rob_all, hrl]
    refine Seat.loop_by (fun x : List UInt8 × Nat => L13_5 (.leaf (.ap 19 (rowsOfBytes (l ++ x.1)))) (.leaf (.imm (.int .u64 x.2))) (some (.tail 5 1 (l.length + x.1.length))) none [some (.tail 5 1 l.length)]) (inv13 n) (fun x => x.2) ([], zz n) (by simp only [L13_5, List.append_nil, List.length_nil, Nat.add_zero, List.cons_append, List.nil_append]) ⟨rfl, hlt⟩ ?_
    rintro ⟨done, u⟩ ⟨hi, hu⟩
    simp only at hi hu
    have hlen := congrArg List.length hi
    rw [List.length_append] at hlen
    have hr : l.length + done.length + 1 ≤ room := room_one' (by omega)
    by_cases h : u < 128
    · have h' : ¬ (127 : Int) < (u : Int) := by omega
      rw [uenc_lo h] at hi hlen
      have e1 := lo_byte h
      have e2 : rowsOfBytes (l ++ done) ++ [[.int .u8 ((UInt8.ofNat u).toNat : Int)]] = rowsOfBytes (l ++ uenc (zz n)) := by rw [← rob_one, ← rob_append, List.append_assoc, hi]
      have e3 : l.length + done.length + 1 = l.length + (uenc (zz n)).length := by simp only [List.length_cons, List.length_nil] at hlen; omega
      simp only [L13_5, Seat.W_seq, Seat.W_region_false, Seat.W_exit, Seat.W_ret, Seat.cond_eq, Seat.condK_false, Seat.env_grow, Seat.rq_nil, Seat.rq_cons, Seat.rqK_some, Seat.seq_normal, Seat.seq_exit, Seat.blk_exit, loopEnd_exit, s_step, guardOf, s_guard_true, s_assign, s_move, s_bin, s_buildSlice, s_append, s_convert, convK, s_pure, s_setT, binK, binAV, intBin, boolAV, intAV, evalParts, clipK, rowsK, buildSliceK, out_ret, OutK, handed, renAV, renLV, renObj, backName, backUpd, appK, appR, appT, appE_c, appS, app2, appTail, strip_imm, stripAll, IV.norm, rowsOf_clip, rowsAt, resultsAV, resultAV, tupleOf, fillAV, setRange, mapEval, evalOp, ofValue, AV.leaves, solid_imm, List.set_cons_succ, List.set_cons_zero, List.getElem?_cons_succ, List.getElem?_cons_zero, List.cons_append, List.nil_append, List.append_nil, List.length_cons, List.length_nil, List.getD_cons_succ, List.getD_cons_zero, List.all_cons, List.all_nil, List.map_cons, List.map_nil, List.drop_succ_cons, List.drop_zero, List.take_succ_cons, List.take_zero, List.drop_nil, List.take_nil, List.flatten_cons, List.flatten_nil, List.reduceReplicate, List.contains_nil, Option.getD_some, Nat.reduceAdd, Nat.reduceLT, Nat.reduceLeDiff, Nat.zero_add, Nat.add_zero, Nat.mul_one, Nat.le_refl, and_self, Bool.and_self, decide_false, beq_self_eq_true, eq_self, gt_iff_lt, ↓reduceIte, seat_T, firstRegion, k13, T_56, T_22, T_5, h', e1, rob_len, List.length_append, hr]
      rw [e2, e3]
    · have h' : (127 : Int) < (u : Int) := by omega
      rw [uenc_hi h] at hi
      have e4 := tmod128 u
      have e5 := tdiv128 hu
      have e6 := add128 u
      have e7 : ¬ (128 : Int) = 0 := by decide
      have e2 : rowsOfBytes (l ++ done) ++ [[.int .u8 ((UInt8.ofNat (u % 128 + 128)).toNat : Int)]] = rowsOfBytes (l ++ (done ++ [UInt8.ofNat (u % 128 + 128)])) := by rw [← rob_one, ← rob_append, List.append_assoc]
      simp only [L13_5, Seat.W_seq, Seat.W_block, Seat.W_region_false, Seat.W_skip, Seat.cond_eq, Seat.condK_true, Seat.env_grow, Seat.rq_nil, Seat.rq_cons, Seat.rqK_some, Seat.seq_normal, Seat.blk_normal, loopEnd_normal, s_step, guardOf, s_guard_true, s_assign, s_move, s_bin, s_buildSlice, s_append, s_convert, convK, s_pure, s_setT, binK, binAV, intBin, boolAV, intAV, evalParts, clipK, rowsK, buildSliceK, appK, appR, appT, appE_c, appS, app2, appTail, strip_imm, stripAll, IV.norm, rowsOf_clip, rowsAt, fillAV, setRange, mapEval, evalOp, ofValue, AV.leaves, solid_imm, List.set_cons_succ, List.set_cons_zero, List.getElem?_cons_succ, List.getElem?_cons_zero, List.cons_append, List.nil_append, List.append_nil, List.length_cons, List.length_nil, List.getD_cons_succ, List.getD_cons_zero, List.all_cons, List.all_nil, List.map_cons, List.map_nil, List.drop_succ_cons, List.drop_zero, List.take_succ_cons, List.take_zero, List.drop_nil, List.take_nil, List.flatten_cons, List.flatten_nil, List.reduceReplicate, List.contains_cons, List.contains_nil, Option.map_some, Option.map_none, Option.getD_some, Nat.reduceAdd, Nat.reduceLT, Nat.reduceLeDiff, Nat.reduceBEq, Nat.zero_add, Nat.mul_one, Nat.le_refl, and_self, Bool.and_self, Bool.or_false, Bool.or_true, Bool.false_eq_true, decide_true, decide_false, beq_self_eq_true, eq_self, gt_iff_lt, ↓reduceIte, seat_T, ob_getD, keepSt, keepTmps, keepObjs, kept, keepAV, keepLV_imm, keepLV_ap, keepObj, promote, promoteT, firstRegion, k13, T_56, T_22, T_5, h', rob_len, List.length_append, hr, e2, e4, e5, e6, e7]
      refine ⟨(done ++ [UInt8.ofNat (u % 128 + 128)], u / 128), ⟨by simp only; rw [List.append_assoc]; exact hi, by simp only; omega⟩, by simp only; omega, ?_⟩
      simp only [List.length_append, List.length_cons, List.length_nil, Nat.zero_add, Nat.add_assoc]
  · have hz := zz_pos (n := n) (by omega) h2
    refine Seat.fnO_of (f := fun13) (ids := [id]) rfl rfl rfl rfl (by simp [idsAV, once, AV.ids, LV.ids, ho]) ?_
    simp only [fun13, Proofs.Try.f13, Seat.W_seq, Seat.W_region_false, Seat.rq_nil, Seat.rq_cons, Seat.rqK_some, Seat.seq_normal, s_step, guardOf, s_guard_true, s_assign, s_move, s_convert, convK, s_pure, s_setT, intAV, renAV, renLV, indexIn, evalOp, ofValue, List.set_cons_succ, List.set_cons_zero, List.getElem?_cons_succ, List.getElem?_cons_zero, List.cons_append, List.nil_append, List.length_cons, List.length_nil, List.map_cons, List.map_nil, List.reduceReplicate, Option.map_some, Option.map_none, Nat.reduceAdd, Nat.reduceSub, Nat.zero_add, eq_self, ↓reduceIte, seat_T]
    simp only [Seat.W_seq, Seat.W_block, Seat.W_loop, Seat.W_region_false, Seat.W_skip, Seat.cond_eq, Seat.condK_false, Seat.env_grow, Seat.rq_nil, Seat.rq_cons, Seat.rqK_some, Seat.seq_normal, s_step, guardOf, s_guard_true, s_assign, s_move, s_bin, s_buildSlice, s_append, s_pure, s_setT, binK, binAV, intBin, boolAV, intAV, evalParts, clipK, rowsK, buildSliceK, renObj, appK, appR, appT, appS, app1, appTail, rowsOf_ap, rowsAt, fillAV, mapEval, evalOp, ofValue, List.set_cons_succ, List.set_cons_zero, List.getElem?_cons_succ, List.getElem?_cons_zero, List.nil_append, List.length_cons, List.length_nil, List.getD_cons_succ, List.getD_cons_zero, List.all_nil, List.map_cons, List.map_nil, List.flatten_nil, List.reduceReplicate, List.contains_cons, List.contains_nil, Option.map_some, Option.map_none, Option.getD_some, Nat.reduceAdd, Nat.reduceLT, Nat.reduceLeDiff, Nat.reduceBEq, Nat.zero_add, Nat.zero_le, Nat.mul_one, Nat.le_refl, and_self, Bool.or_false, Bool.or_true, Bool.false_eq_true, decide_true, decide_false, beq_self_eq_true, eq_self, ↓reduceIte, seat_T, ob_getD, keepSt, keepTmps, keepObjs, kept, keepAV, keepLV_imm, keepLV_ap, keepObj, promote, promoteT, firstRegion, k13, T_56, T_22, T_5, T_3, h0, hz, ho, hd, appE_ne (rob_ne hemp), rob_len, rob_all, hrl]
    refine Seat.loop_by (fun x : List UInt8 × Nat => L13_5 (.leaf (.ap 19 (rowsOfBytes (l ++ x.1)))) (.leaf (.imm (.int .u64 x.2))) (some (.tail 5 1 (l.length + x.1.length))) none [some (.tail 5 1 l.length)]) (inv13 n) (fun x => x.2) ([], zz n) (by simp only [L13_5, List.append_nil, List.length_nil, Nat.add_zero, List.cons_append, List.nil_append]) ⟨rfl, hlt⟩ ?_
    rintro ⟨done, u⟩ ⟨hi, hu⟩
    simp only at hi hu
    have hlen := congrArg List.length hi
    rw [List.length_append] at hlen
    have hr : l.length + done.length + 1 ≤ room := room_one' (by omega)
    by_cases h : u < 128
    · have h' : ¬ (127 : Int) < (u : Int) := by omega
      rw [uenc_lo h] at hi hlen
      have e1 := lo_byte h
      have e2 : rowsOfBytes (l ++ done) ++ [[.int .u8 ((UInt8.ofNat u).toNat : Int)]] = rowsOfBytes (l ++ uenc (zz n)) := by rw [← rob_one, ← rob_append, List.append_assoc, hi]
      have e3 : l.length + done.length + 1 = l.length + (uenc (zz n)).length := by simp only [List.length_cons, List.length_nil] at hlen; omega
      simp only [L13_5, Seat.W_seq, Seat.W_region_false, Seat.W_exit, Seat.W_ret, Seat.cond_eq, Seat.condK_false, Seat.env_grow, Seat.rq_nil, Seat.rq_cons, Seat.rqK_some, Seat.seq_normal, Seat.seq_exit, Seat.blk_exit, loopEnd_exit, s_step, guardOf, s_guard_true, s_assign, s_move, s_bin, s_buildSlice, s_append, s_convert, convK, s_pure, s_setT, binK, binAV, intBin, boolAV, intAV, evalParts, clipK, rowsK, buildSliceK, out_ret, OutK, handed, renAV, renLV, renObj, backName, backUpd, appK, appR, appT, appE_c, appS, app2, appTail, strip_imm, stripAll, IV.norm, rowsOf_clip, rowsAt, resultsAV, resultAV, tupleOf, fillAV, setRange, mapEval, evalOp, ofValue, AV.leaves, solid_imm, List.set_cons_succ, List.set_cons_zero, List.getElem?_cons_succ, List.getElem?_cons_zero, List.cons_append, List.nil_append, List.append_nil, List.length_cons, List.length_nil, List.getD_cons_succ, List.getD_cons_zero, List.all_cons, List.all_nil, List.map_cons, List.map_nil, List.drop_succ_cons, List.drop_zero, List.take_succ_cons, List.take_zero, List.drop_nil, List.take_nil, List.flatten_cons, List.flatten_nil, List.reduceReplicate, List.contains_nil, Option.getD_some, Nat.reduceAdd, Nat.reduceLT, Nat.reduceLeDiff, Nat.zero_add, Nat.add_zero, Nat.mul_one, Nat.le_refl, and_self, Bool.and_self, decide_false, beq_self_eq_true, eq_self, gt_iff_lt, ↓reduceIte, seat_T, firstRegion, k13, T_56, T_22, T_5, h', e1, rob_len, List.length_append, hr]
      rw [e2, e3]
    · have h' : (127 : Int) < (u : Int) := by omega
      rw [uenc_hi h] at hi
      have e4 := tmod128 u
      have e5 := tdiv128 hu
      have e6 := add128 u
      have e7 : ¬ (128 : Int) = 0 := by decide
      have e2 : rowsOfBytes (l ++ done) ++ [[.int .u8 ((UInt8.ofNat (u % 128 + 128)).toNat : Int)]] = rowsOfBytes (l ++ (done ++ [UInt8.ofNat (u % 128 + 128)])) := by rw [← rob_one, ← rob_append, List.append_assoc]
      simp only [L13_5, Seat.W_seq, Seat.W_block, Seat.W_region_false, Seat.W_skip, Seat.cond_eq, Seat.condK_true, Seat.env_grow, Seat.rq_nil, Seat.rq_cons, Seat.rqK_some, Seat.seq_normal, Seat.blk_normal, loopEnd_normal, s_step, guardOf, s_guard_true, s_assign, s_move, s_bin, s_buildSlice, s_append, s_convert, convK, s_pure, s_setT, binK, binAV, intBin, boolAV, intAV, evalParts, clipK, rowsK, buildSliceK, appK, appR, appT, appE_c, appS, app2, appTail, strip_imm, stripAll, IV.norm, rowsOf_clip, rowsAt, fillAV, setRange, mapEval, evalOp, ofValue, AV.leaves, solid_imm, List.set_cons_succ, List.set_cons_zero, List.getElem?_cons_succ, List.getElem?_cons_zero, List.cons_append, List.nil_append, List.append_nil, List.length_cons, List.length_nil, List.getD_cons_succ, List.getD_cons_zero, List.all_cons, List.all_nil, List.map_cons, List.map_nil, List.drop_succ_cons, List.drop_zero, List.take_succ_cons, List.take_zero, List.drop_nil, List.take_nil, List.flatten_cons, List.flatten_nil, List.reduceReplicate, List.contains_cons, List.contains_nil, Option.map_some, Option.map_none, Option.getD_some, Nat.reduceAdd, Nat.reduceLT, Nat.reduceLeDiff, Nat.reduceBEq, Nat.zero_add, Nat.mul_one, Nat.le_refl, and_self, Bool.and_self, Bool.or_false, Bool.or_true, Bool.false_eq_true, decide_true, decide_false, beq_self_eq_true, eq_self, gt_iff_lt, ↓reduceIte, seat_T, ob_getD, keepSt, keepTmps, keepObjs, kept, keepAV, keepLV_imm, keepLV_ap, keepObj, promote, promoteT, firstRegion, k13, T_56, T_22, T_5, h', rob_len, List.length_append, hr, e2, e4, e5, e6, e7]
      refine ⟨(done ++ [UInt8.ofNat (u % 128 + 128)], u / 128), ⟨by simp only; rw [List.append_assoc]; exact hi, by simp only; omega⟩, by simp only; omega, ?_⟩
      simp only [List.length_append, List.length_cons, List.length_nil, Nat.zero_add, Nat.add_assoc]


theorem bInt_ne (n : Int) : bInt n ≠ [] := by
  intro h0
  have : uenc (zz n) ≠ [] := by
    unfold uenc
    split <;> simp
  exact this h0
theorem add_ne {a b : List UInt8} (h : b ≠ []) : a ++ b ≠ [] := by
  cases b with
  | nil => exact (h rfl).elim
  | cons x b => simp
theorem ne_add {a b : List UInt8} (h : a ≠ []) : a ++ b ≠ [] := by
  cases a with
  | nil => exact (h rfl).elim
  | cons x a => simp

theorem ref13 (d : Nat) (ob : Nat → Option AObj) (l : List UInt8) (n : Int) (h : I64 n) (hl : l.length ≤ 549755813888) (hd : ob d = none) :
    (seat o).fnO 13 d [.leaf (.imm (.sl (rowsOfBytes l))), .leaf (.imm (.int .i64 n))] ob = some (.leaf (.ap d (rowsOfBytes (l ++ bInt n))), [(d, .tail 5 1 (l ++ bInt n).length)]) := by
  rw [List.length_append]
  exact fn13 d ob l n h.1 h.2 hl hd
theorem ref13_ap (id d : Nat) (ob : Nat → Option AObj) (l : List UInt8) (n : Int) (h : I64 n) (hl : l.length ≤ 549755813888) (hemp : l ≠ []) (ho : ob id = some (.tail 5 1 l.length)) (hd : ob d = none) :
    (seat o).fnO 13 d [.leaf (.ap id (rowsOfBytes l)), .leaf (.imm (.int .i64 n))] ob = some (.leaf (.ap d (rowsOfBytes (l ++ bInt n))), [(id, .tail 5 1 l.length), (d, .tail 5 1 (l ++ bInt n).length)]) := by
  rw [List.length_append]
  exact fn13_ap id d ob l n h.1 h.2 hl hemp ho hd
theorem ref13_nil (d : Nat) (ob : Nat → Option AObj) (n : Int) (h : I64 n) (hd : ob d = none) :
    (seat o).fnO 13 d [.leaf (.imm .nil), .leaf (.imm (.int .i64 n))] ob = some (.leaf (.ap d (rowsOfBytes (bInt n))), [(d, .tail 5 1 (bInt n).length)]) := fn13_nil d ob n h.1 h.2 hd

theorem fn22_ap (id d : Nat) (ob : Nat → Option AObj) (l : List UInt8) (s : ByteArray) (hs : s.size ≤ 1048576) (hl : l.length ≤ 274877906944) (hemp : l ≠ []) (ho : ob id = some (.tail 5 1 l.length)) (hd : ob d = none) :
    (seat o).fnO 22 d [.leaf (.ap id (rowsOfBytes l)), .leaf (.imm (.str s))] ob = some (.leaf (.ap d (rowsOfBytes (l ++ bText s))), [(id, .tail 5 1 l.length), (d, .tail 5 1 (l ++ bText s).length)]) := by
  have hnl := bInt_len (i64_nat (n := s.size) (by omega))
  have c1 : ∀ (d : Nat) (ob : Nat → Option AObj), ob 11 = some (.tail 5 1 l.length) → ob d = none → _ := fun d ob ho hd => ref13_ap 11 d ob l (s.size : Int) (i64_nat (by omega)) (by omega) hemp ho hd
  have hsz : s.data.toList.length = s.size := by simp
  have hr : (l ++ bInt s.size).length + s.data.toList.length ≤ room := room_one' (by rw [List.length_append, hsz]; omega)
  have e2 : rowsOfBytes (l ++ bInt s.size) ++ rowsOfBytes s.data.toList = rowsOfBytes (l ++ bText s) := by rw [← rob_append, List.append_assoc]; rfl
  have e3 : (l ++ bInt s.size).length + s.data.toList.length = (l ++ bText s).length := by rw [← List.length_append, List.append_assoc]; rfl
  refine Seat.fnO_of (f := fun22) (ids := [id]) rfl rfl rfl rfl (by simp [idsAV, once, AV.ids, LV.ids, ho]) ?_
  simp only [fun22, Proofs.Try.f22, Seat.W_seq, Seat.W_region_false, Seat.rq_nil, Seat.rq_cons, Seat.rqK_some, Seat.seq_normal, s_step, guardOf, s_guard_true, s_assign, s_move, s_len, s_pure, s_setT, intAV, lenK, lenAV, renAV, renLV, indexIn, mapEval, evalOp, ofValue, List.set_cons_succ, List.set_cons_zero, List.getElem?_cons_succ, List.getElem?_cons_zero, List.cons_append, List.nil_append, List.length_cons, List.length_nil, List.map_cons, List.map_nil, List.reduceReplicate, Option.map_some, Option.map_none, Nat.reduceAdd, Nat.reduceSub, Nat.zero_add, eq_self, ↓reduceIte, seat_T]
  simp only [Seat.env_grow, Seat.rq_cons, Seat.rqK_some, s_step, guardOf, s_guard_true, s_move, call_13, s_append, s_pure, s_setT, callOS, callOD, upds, renObj, appK, appR, appT, mapEval, evalOp, idsOf, AV.ids, LV.ids, LV.ids.idsAll, List.set_cons_succ, List.set_cons_zero, List.getElem?_cons_succ, List.getElem?_cons_zero, List.cons_append, List.nil_append, List.append_nil, List.length_cons, List.length_nil, List.getD_cons_succ, List.getD_cons_zero, List.all_cons, List.all_nil, List.contains_cons, List.contains_nil, Option.map_some, Nat.reduceAdd, Nat.reduceLT, Nat.reduceBEq, Nat.zero_add, and_self, Bool.and_self, Bool.or_false, Bool.or_true, decide_true, beq_self_eq_true, eq_self, ↓reduceIte, seat_T, ob_getD, T_22, T_9, T_5, ho, hd, c1, rob_all]
  rw [appE_ap (by rw [rob_len]; rfl) (by rw [rob_len, rob_len, Nat.mul_one]; exact hr), rob_len, rob_len, e2, e3]
  simp only [Seat.W_ret, Seat.rq_nil, Seat.rq_cons, Seat.rqK_some, Seat.seq_normal, s_step, guardOf, s_guard_true, s_assign, s_pure, s_setT, out_ret, OutK, handed, renAV, renLV, renObj, backName, backUpd, resultsAV, resultAV, tupleOf, evalOp, List.set_cons_succ, List.set_cons_zero, List.getElem?_cons_succ, List.getElem?_cons_zero, List.cons_append, List.nil_append, List.length_cons, List.length_nil, List.getD_cons_succ, List.getD_cons_zero, List.map_cons, List.map_nil, Option.getD_some, Nat.reduceLT, Nat.reduceLeDiff, Nat.zero_add, Nat.add_zero, eq_self, ↓reduceIte, seat_T]

theorem fn35 (l : List UInt8) (ns : List Int) (hns : ∀ x ∈ ns, I64 x) (hn : ns.length ≤ 1048576) (hl : l.length ≤ 274877906944) :
    (seat o).fn 35 [.leaf (.imm (.sl (rowsOfBytes l))), .leaf (.imm (.sl (ints ns)))] = some (.leaf (.imm (.sl (rowsOfBytes (l ++ bInts ns))))) := by
  have hnl := bInt_len (i64_nat (n := ns.length) (by omega))
  have c1 : ∀ (d : Nat) (ob : Nat → Option AObj), ob d = none → _ := fun d ob hd => ref13 d ob l (ns.length : Int) (i64_nat (by omega)) (by omega) hd
  refine Seat.fn_of (f := fun35) (noS o 35 _ rfl) rfl rfl rfl ?_; simp only [fun35, Proofs.Try.f35, Seat.W_seq, Seat.W_region_false, Seat.rq_nil, Seat.rq_cons, Seat.rqK_some, Seat.seq_normal, s_step, guardOf, s_guard_true, s_assign, s_move, s_len, s_pure, s_setT, intAV, lenK, lenAV, mapEval, evalOp, ofValue, List.set_cons_succ, List.set_cons_zero, List.getElem?_cons_succ, List.getElem?_cons_zero, List.cons_append, List.nil_append, List.length_cons, List.length_nil, List.reduceReplicate, Nat.reduceAdd, Nat.reduceSub, Nat.zero_add, seat_T]
  simp only [Seat.W_seq, Seat.W_block, Seat.W_loop, Seat.W_region_false, Seat.rq_nil, Seat.rq_cons, Seat.rqK_some, Seat.seq_normal, s_step, guardOf, s_guard_true, s_assign, call_13, s_pure, s_setT, callOS, callOD, upds, mapEval, evalOp, ofValue, idsOf, AV.ids, LV.ids, LV.ids.idsAll, List.set_cons_succ, List.set_cons_zero, List.getElem?_cons_succ, List.getElem?_cons_zero, List.nil_append, List.append_nil, List.length_cons, List.length_nil, List.getD_cons_succ, List.getD_cons_zero, List.all_cons, List.all_nil, List.contains_cons, List.contains_nil, Option.getD_some, Nat.reduceAdd, Nat.reduceLT, Nat.reduceLeDiff, Nat.reduceBEq, Nat.zero_add, Bool.and_self, Bool.or_false, Bool.or_true, Bool.false_eq_true, decide_true, decide_false, beq_self_eq_true, eq_self, ↓reduceIte, seat_T, ob_getD, keepSt, keepTmps, keepObjs, kept, keepAV, keepLV_imm, keepLV_ap, promote, promoteT, firstRegion, k35, T_33, ints_len, c1]
  refine Seat.loop_by (fun i : Nat => L35_3 (.leaf (.imm (.sl (rowsOfBytes (l ++ (bInt ns.length ++ bInts0 (ns.take i))))))) (.leaf (.imm (.sl (ints ns)))) (intAV .i64 i)) (fun i => i ≤ ns.length) (fun i => ns.length - i) 0 ?_ (Nat.zero_le _) ?_
  · simp only [L35_3, List.take_zero, bInts0, List.map_nil, List.flatten_nil, List.append_nil]
    rfl
  intro i hi
  have hb := bInts0_len (l := ns.take i) (fun x hx => hns x (List.mem_of_mem_take hx))
  have hti : (ns.take i).length ≤ ns.length := by rw [List.length_take]; omega
  by_cases hlt : i < ns.length
  · obtain ⟨x, hx⟩ := get_lt hlt
    have e1 : IntKind.wrap .i64 ((i : Int) + 1) = ((i + 1 : Nat) : Int) := wrap_i64 (by omega) (by omega)
    have c2 : ∀ (d : Nat) (ob : Nat → Option AObj), ob d = none → _ := fun d ob hd => ref13 d ob (l ++ (bInt ns.length ++ bInts0 (ns.take i))) x (hns x (List.mem_of_getElem? hx)) (by simp only [List.length_append]; omega) hd
    have e2 : l ++ (bInt ns.length ++ bInts0 (ns.take i)) ++ bInt x = l ++ (bInt ns.length ++ bInts0 (ns.take (i + 1))) := by rw [bInts0_snoc hx]; simp only [List.append_assoc]
    rw [e2] at c2
    simp only [L35_3, Seat.W_seq, Seat.W_block, Seat.W_region_false, Seat.W_skip, Seat.cond_eq, Seat.condK_true, Seat.rq_nil, Seat.rq_cons, Seat.rqK_some, Seat.seq_normal, Seat.blk_normal, loopEnd_normal, s_step, guardOf, s_guard_true, s_assign, s_move, s_bin, s_indexAddr, s_load, s_len, call_13, s_pure, s_setT, loadK, binK, binAV, intBin, boolAV, intAV, elemK, indexAddrK, indexRow, lenK, lenAV, callOS, callOD, upds, rowsOf_sl, mkAV, TK.agg, mapEval, evalOp, ofValue, idsOf, AV.ids, LV.ids, LV.ids.idsAll, List.set_cons_succ, List.set_cons_zero, List.getElem?_cons_succ, List.getElem?_cons_zero, List.nil_append, List.append_nil, List.length_cons, List.length_nil, List.getD_cons_succ, List.getD_cons_zero, List.all_cons, List.all_nil, List.map_cons, List.map_nil, List.take_succ_cons, List.take_nil, List.contains_cons, List.contains_nil, Option.map_some, Option.getD_some, Nat.reduceAdd, Nat.reduceLT, Nat.reduceLeDiff, Nat.reduceBEq, Nat.zero_add, Nat.le_refl, Int.toNat_natCast, Int.natCast_nonneg, Bool.and_self, Bool.or_false, Bool.or_true, Bool.false_eq_true, decide_true, decide_false, beq_self_eq_true, eq_self, ↓reduceIte, seat_T, ob_getD, Int.ofNat_lt, keepSt, keepTmps, keepObjs, kept, keepAV, keepLV_imm, keepLV_ap, promote, promoteT, firstRegion, k35, T_33, T_3, ints_len, ints_get, hx, hlt, e1, c2]
    exact ⟨i + 1, by omega, by omega, rfl⟩
  · have e : i = ns.length := by omega
    have e2 : l ++ (bInt ns.length ++ bInts0 (ns.take i)) = l ++ bInts ns := by rw [e, List.take_length]; rfl
    simp only [L35_3, Seat.W_seq, Seat.W_region_false, Seat.W_exit, Seat.W_ret, Seat.cond_eq, Seat.condK_false, Seat.rq_nil, Seat.rq_cons, Seat.rqK_some, Seat.seq_normal, Seat.seq_exit, Seat.blk_exit, Seat.ret_ret, Seat.RetK, loopEnd_exit, s_step, guardOf, s_guard_true, s_assign, s_move, s_bin, s_len, s_pure, s_setT, binK, binAV, intBin, boolAV, intAV, lenK, lenAV, IV.norm, lendArgs, lendArg, lend_imm, resultsAV, resultAV, tupleOf, mapEval, evalOp, List.set_cons_succ, List.set_cons_zero, List.getElem?_cons_succ, List.getElem?_cons_zero, Option.map_some, Option.getD_some, Option.some.injEq, decide_false, eq_self, ↓reduceIte, exists_eq_left', seat_T, Int.ofNat_lt, firstRegion, k35, T_33, ints_len, hlt, e2]

theorem fn16 (c : Com) (hc : c.Ok) : (seat o).fn 16 [c.av] = some (.leaf (.imm (.sl (rowsOfBytes c.bytes)))) := by
  have hw := hc.room
  have hh := c.head_len
  have hlw := hc.lw
  have hl : c.head.length = (bInt c.stamp).length + ((bInts c.parents).length + ((bInts c.picks).length + ((bText c.note).length + (bInt c.writes.length).length))) := by simp [Com.head]
  have p1 : ∀ (d : Nat) (ob : Nat → Option AObj), ob d = none → _ := fun d ob hd => ref13_nil d ob c.stamp hc.stamp hd
  have p2 := fn35 (bInt c.stamp) c.parents hc.parents hc.lp (by omega)
  have p3 := fn35 (bInt c.stamp ++ bInts c.parents) c.picks hc.picks hc.lk (by rw [List.length_append]; omega)
  obtain ⟨z0, hz0⟩ : ∃ z, z = bInt c.stamp ++ bInts c.parents ++ bInts c.picks := ⟨_, rfl⟩
  rw [← hz0] at p3
  have hz0l : z0.length + ((bText c.note).length + (bInt c.writes.length).length) = c.head.length := by rw [hz0, hl]; simp only [List.length_append]; omega
  have p4 : ∀ (d : Nat) (ob : Nat → Option AObj), ob d = none → _ := fun d ob hd => fn22 d ob z0 c.note hc.note (by omega) hd
  have p5 : ∀ (d : Nat) (ob : Nat → Option AObj), ob 20 = some (.tail 5 1 (z0 ++ bText c.note).length) → ob d = none → _ := fun d ob ho hd => ref13_ap 20 d ob (z0 ++ bText c.note) (c.writes.length : Int) (i64_nat (by omega)) (by rw [List.length_append]; omega) (by rw [hz0]; exact ne_add (ne_add (ne_add (bInt_ne _)))) ho hd
  have e0 : z0 ++ bText c.note ++ bInt c.writes.length = wr c 0 := by rw [wr_zero, hz0]; simp only [Com.head, List.append_assoc]
  rw [e0] at p5
  refine Seat.fn_of (f := fun16) (noS o 16 _ rfl) rfl rfl rfl ?_; simp only [fun16, Proofs.Try.f16, Seat.W_seq, Seat.W_region_false, Seat.rq_cons, s_step, guardOf, s_guard_true, s_box, allocK, boxS, evalOp, AV.leaves, List.set_cons_succ, List.set_cons_zero, List.getElem?_cons_zero, List.cons_append, List.nil_append, List.length_cons, List.length_nil, List.getD_cons_succ, List.getD_cons_zero, List.reduceReplicate, Nat.reduceAdd, Nat.reduceSub, Nat.reduceLT, Nat.zero_add, ↓reduceIte, seat_T]
  simp only [Com.av, Seat.W_seq, Seat.W_block, Seat.W_loop, Seat.W_region_false, Seat.rq_nil, Seat.rq_cons, Seat.rqK_some, Seat.seq_normal, s_step, guardOf, s_guard_true, s_assign, s_move, s_fieldAddr, s_load, s_len, call_13, call_22, call_35, s_pure, s_setT, loadK, loadC, intAV, fieldAddrK, lenK, lenAV, callS, callP, callOS, callOD, upds, stripArgs, AV.stripA, strip_imm, strip_ap, IV.norm, mkAV, TK.agg, mapEval, evalOp, ofValue, solid_imm, idsOf, AV.ids, LV.ids, LV.ids.idsAll, List.set_cons_succ, List.set_cons_zero, List.getElem?_cons_succ, List.getElem?_cons_zero, List.cons_append, List.nil_append, List.append_nil, List.length_cons, List.length_nil, List.getD_cons_succ, List.getD_cons_zero, List.all_cons, List.all_nil, List.map_cons, List.map_nil, List.drop_succ_cons, List.drop_zero, List.take_succ_cons, List.take_zero, List.take_nil, List.contains_cons, List.contains_nil, Option.map_some, Option.getD_some, Nat.reduceAdd, Nat.reduceLT, Nat.reduceLeDiff, Nat.reduceBEq, Nat.zero_add, Nat.add_zero, Nat.le_refl, and_self, Bool.and_self, Bool.or_false, Bool.or_true, Bool.false_eq_true, decide_true, decide_false, beq_self_eq_true, eq_self, ↓reduceIte, seat_T, ob_getD, keepSt, keepTmps, keepObjs, kept, keepAV, keepLV_imm, keepLV_ptr, keepLV_ap, keepObj, promote, promoteT, firstRegion, k16, T_36, T_34, T_33, T_9, T_3, p1, p2, p3, p4, p5, clen]
  refine Seat.loop_by (fun i : Nat => L16_7 (.leaf (.ptr 1 0 0)) (.leaf (.imm (.sl (rowsOfBytes (wr c i))))) (intAV .i64 i) (cbox c)) (fun i => i ≤ c.writes.length) (fun i => c.writes.length - i) 0 rfl (Nat.zero_le _) ?_
  intro i hi
  have hwl := wr_len c i
  by_cases hlt : i < c.writes.length
  · obtain ⟨x, hx⟩ := get_lt hlt
    have hxo := hc.writes x (List.mem_of_getElem? hx)
    have e1 : IntKind.wrap .i64 ((i : Int) + 1) = ((i + 1 : Nat) : Int) := wrap_i64 (by omega) (by omega)
    have hn := wr_len c (i + 1)
    have hsn := wr_snoc hx
    have hb : x.bytes.length = (bInt x.id).length + ((bInt x.fld).length + ((bInt x.n).length + (1 + ((bText x.text).length + (bInt x.ref).length)))) := by simp [Cel.bytes]; omega
    have hbl : (wr c i).length + x.bytes.length = (wr c (i + 1)).length := by rw [← hsn, List.length_append]
    have q1 : ∀ (d : Nat) (ob : Nat → Option AObj), ob d = none → _ := fun d ob hd => ref13 d ob (wr c i) x.id hxo.id (by omega) hd
    have q2 : ∀ (d : Nat) (ob : Nat → Option AObj), ob 41 = some (.tail 5 1 (wr c i ++ bInt x.id).length) → ob d = none → _ := fun d ob ho hd => ref13_ap 41 d ob (wr c i ++ bInt x.id) x.fld hxo.fld (by simp only [List.length_append]; omega) (add_ne (bInt_ne _)) ho hd
    have q3 : ∀ (d : Nat) (ob : Nat → Option AObj), ob 44 = some (.tail 5 1 (wr c i ++ bInt x.id ++ bInt x.fld).length) → ob d = none → _ := fun d ob ho hd => ref13_ap 44 d ob (wr c i ++ bInt x.id ++ bInt x.fld) x.n hxo.n (by simp only [List.length_append]; omega) (add_ne (bInt_ne _)) ho hd
    obtain ⟨z, hz⟩ : ∃ z, z = wr c i ++ bInt x.id ++ bInt x.fld ++ bInt x.n := ⟨_, rfl⟩
    have hzl : z.length ≤ (wr c (i + 1)).length := by rw [hz]; simp only [List.length_append]; omega
    have hzn : z ≠ [] := by rw [hz]; exact add_ne (bInt_ne _)
    rw [← hz] at q3
    obtain ⟨f, hf⟩ : ∃ f : UInt8, f = if x.flag then 1 else 0 := ⟨_, rfl⟩
    have q4 : ∀ (d : Nat) (ob : Nat → Option AObj), ob 48 = some (.tail 5 1 (z ++ [f]).length) → ob d = none → _ := fun d ob ho hd => fn22_ap 48 d ob (z ++ [f]) x.text hxo.text (by simp only [List.length_append, List.length_cons, List.length_nil]; omega) (ne_add hzn) ho hd
    have hq5 : (z ++ [f] ++ bText x.text).length ≤ (wr c (i + 1)).length := by rw [hz]; simp only [List.length_append, List.length_cons, List.length_nil]; omega
    have q5 : ∀ (d : Nat) (ob : Nat → Option AObj), ob 62 = some (.tail 5 1 (z ++ [f] ++ bText x.text).length) → ob d = none → _ := fun d ob ho hd => ref13_ap 62 d ob (z ++ [f] ++ bText x.text) x.ref hxo.ref (by omega) (ne_add (ne_add hzn)) ho hd
    have e5 : z ++ [f] ++ bText x.text ++ bInt x.ref = wr c (i + 1) := by rw [← hsn, hz, hf]; simp only [Cel.bytes, List.append_assoc]
    rw [e5] at q5
    have hr : (z ++ [f]).length ≤ room := room_one' (by simp only [List.length_append, List.length_cons, List.length_nil]; omega)
    have e6 : rowsOfBytes z ++ [[.int .u8 (f.toNat : Int)]] = rowsOfBytes (z ++ [f]) := by rw [← rob_one, ← rob_append]
    have e7 : z.length + 1 = (z ++ [f]).length := by simp
    cases hfl : x.flag with
    | true =>
      rw [hfl] at hf
      have hf1 : (f.toNat : Int) = 1 := by rw [hf]; rfl
      rw [hf1] at e6
      simp only [L16_7, cbox, Seat.W_seq, Seat.W_block, Seat.W_region_false, Seat.W_region_true, Seat.W_skip, Seat.cond_eq, Seat.condK_true, Seat.env_grow, Seat.rq_nil, Seat.rq_cons, Seat.rqK_some, Seat.rg_nil, Seat.rg_cons, Seat.rgK_some, Seat.endQ, Seat.seq_normal, Seat.blk_normal, loopEnd_normal, s_step, guardOf, s_guard_true, s_alloc, s_assign, s_move, s_bin, s_fieldAddr, s_indexAddr, s_buildSlice, s_load, s_store, s_len, call_13, call_22, s_append, s_pure, s_setT, s_setN, allocS, allocK, storeS, storeK, loadK, loadC, binK, binAV, intBin, boolAV, intAV, fieldAddrK, elemK, indexAddrK, indexRow, evalParts, clipK, rowsK, buildSliceK, lenK, lenAV, callOS, callOD, upds, appK, appR, appT, appE_c, appS, app2, appTail, strip_imm, stripAll, IV.norm, rowsOf_sl, rowsOf_clip, rowsAt, mkAV, TK.agg, fillAV, setRange, mapEval, evalOp, ofValue, AV.leaves, solid_imm, footA, pureCall, quietOp, readsT, writesT, guardLoc, tmpLoc, touch, looksOp, idsOf, AV.ids, LV.ids, LV.ids.idsAll, Op.operands, Call.operands, List.set_cons_succ, List.set_cons_zero, List.getElem?_cons_succ, List.getElem?_cons_zero, List.cons_append, List.nil_append, List.append_nil, List.length_cons, List.length_nil, List.getD_cons_succ, List.getD_cons_zero, List.all_cons, List.all_nil, List.map_cons, List.map_nil, List.drop_succ_cons, List.drop_zero, List.take_succ_cons, List.take_zero, List.drop_nil, List.take_nil, List.flatten_cons, List.flatten_nil, List.flatMap_cons, List.flatMap_nil, List.reduceReplicate, List.contains_cons, List.contains_nil, Option.map_some, Option.getD_some, Option.toList_some, Option.some.injEq, Nat.reduceAdd, Nat.reduceMul, Nat.reduceLT, Nat.reduceLeDiff, Nat.reduceBEq, Nat.zero_add, Nat.add_zero, Nat.mul_one, Nat.le_refl, Int.toNat_natCast, Int.natCast_nonneg, and_self, Bool.and_self, Bool.or_false, Bool.or_true, Bool.not_true, Bool.false_eq_true, reduceCtorEq, decide_true, decide_false, beq_self_eq_true, eq_self, ↓reduceIte, seat_T, seat_O, ob_getD, Int.ofNat_lt, keepSt, keepTmps, keepObjs, kept, keepAV, keepLV_imm, keepLV_ptr, keepLV_ap, keepObj, promote, promoteT, firstRegion, k16, T_36, T_34, T_22, T_9, T_5, T_4, T_3, T_61, T_59, crow_get, clen, hx, Cel.row, hlt, hfl, e1, q1, q2, q3, q4, q5, rob_len, hr, e6, e7]
      exact ⟨ord_of (by kernel_rfl), ord_of (by kernel_rfl), i + 1, by omega, by omega, rfl⟩
    | false =>
      rw [hfl] at hf
      have hf1 : (f.toNat : Int) = 0 := by rw [hf]; rfl
      rw [hf1] at e6
      simp only [L16_7, cbox, Seat.W_seq, Seat.W_block, Seat.W_region_false, Seat.W_region_true, Seat.W_skip, Seat.cond_eq, Seat.condK_true, Seat.condK_false, Seat.env_grow, Seat.rq_nil, Seat.rq_cons, Seat.rqK_some, Seat.rg_nil, Seat.rg_cons, Seat.rgK_some, Seat.endQ, Seat.seq_normal, Seat.blk_normal, loopEnd_normal, s_step, guardOf, s_guard_true, s_alloc, s_assign, s_move, s_bin, s_fieldAddr, s_indexAddr, s_buildSlice, s_load, s_store, s_len, call_13, call_22, s_append, s_pure, s_setT, s_setN, allocS, allocK, storeS, storeK, loadK, loadC, binK, binAV, intBin, boolAV, intAV, fieldAddrK, elemK, indexAddrK, indexRow, evalParts, clipK, rowsK, buildSliceK, lenK, lenAV, callOS, callOD, upds, appK, appR, appT, appE_c, appS, app2, appTail, strip_imm, stripAll, IV.norm, rowsOf_sl, rowsOf_clip, rowsAt, mkAV, TK.agg, fillAV, setRange, mapEval, evalOp, ofValue, AV.leaves, solid_imm, footA, pureCall, quietOp, readsT, writesT, guardLoc, tmpLoc, touch, looksOp, idsOf, AV.ids, LV.ids, LV.ids.idsAll, Op.operands, Call.operands, List.set_cons_succ, List.set_cons_zero, List.getElem?_cons_succ, List.getElem?_cons_zero, List.cons_append, List.nil_append, List.append_nil, List.length_cons, List.length_nil, List.getD_cons_succ, List.getD_cons_zero, List.all_cons, List.all_nil, List.map_cons, List.map_nil, List.drop_succ_cons, List.drop_zero, List.take_succ_cons, List.take_zero, List.drop_nil, List.take_nil, List.flatten_cons, List.flatten_nil, List.flatMap_cons, List.flatMap_nil, List.reduceReplicate, List.contains_cons, List.contains_nil, Option.map_some, Option.getD_some, Option.toList_some, Option.some.injEq, Nat.reduceAdd, Nat.reduceMul, Nat.reduceLT, Nat.reduceLeDiff, Nat.reduceBEq, Nat.zero_add, Nat.add_zero, Nat.mul_one, Nat.le_refl, Int.toNat_natCast, Int.natCast_nonneg, and_self, Bool.and_self, Bool.or_false, Bool.or_true, Bool.not_true, Bool.false_eq_true, reduceCtorEq, decide_true, decide_false, beq_self_eq_true, eq_self, ↓reduceIte, seat_T, seat_O, ob_getD, Int.ofNat_lt, keepSt, keepTmps, keepObjs, kept, keepAV, keepLV_imm, keepLV_ptr, keepLV_ap, keepObj, promote, promoteT, firstRegion, k16, T_36, T_34, T_22, T_9, T_5, T_4, T_3, T_61, T_59, crow_get, clen, hx, Cel.row, hlt, hfl, e1, q1, q2, q3, q4, q5, rob_len, hr, e6, e7]
      exact ⟨ord_of (by kernel_rfl), ord_of (by kernel_rfl), i + 1, by omega, by omega, rfl⟩
  · have e : i = c.writes.length := by omega
    have e2 : wr c i = c.bytes := by rw [e, wr_all]
    simp only [L16_7, cbox, Seat.W_seq, Seat.W_region_false, Seat.W_exit, Seat.W_ret, Seat.cond_eq, Seat.condK_false, Seat.rq_nil, Seat.rq_cons, Seat.rqK_some, Seat.seq_normal, Seat.seq_exit, Seat.blk_exit, Seat.ret_ret, Seat.RetK, loopEnd_exit, s_step, guardOf, s_guard_true, s_assign, s_move, s_bin, s_fieldAddr, s_load, s_len, s_pure, s_setT, loadK, loadC, binK, binAV, intBin, boolAV, intAV, fieldAddrK, lenK, lenAV, IV.norm, lendArgs, lendArg, lend_imm, resultsAV, resultAV, tupleOf, mkAV, TK.agg, mapEval, evalOp, List.set_cons_succ, List.set_cons_zero, List.getElem?_cons_succ, List.getElem?_cons_zero, List.length_cons, List.length_nil, List.getD_cons_succ, List.getD_cons_zero, List.drop_succ_cons, List.drop_zero, List.take_succ_cons, List.take_nil, Option.map_some, Option.getD_some, Option.some.injEq, Nat.reduceAdd, Nat.reduceLT, Nat.zero_add, Nat.le_refl, and_self, Bool.false_eq_true, decide_false, eq_self, ↓reduceIte, exists_eq_left', seat_T, Int.ofNat_lt, firstRegion, k16, T_36, T_34, clen, hlt, e2]
end Go.Ai
