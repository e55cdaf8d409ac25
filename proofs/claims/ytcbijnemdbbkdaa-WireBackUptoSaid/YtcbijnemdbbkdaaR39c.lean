/- What the reference's writing of numbers, and comparing of bytes, answer. No condition. -/
import Derived.Test.YtcbijnemdbbkdaaR39b
namespace Go.Ai
set_option linter.unusedVariables false
set_option linter.unusedSimpArgs false
set_option maxRecDepth 100000

theorem tmod128 (u : Nat) : (u : Int).tmod 128 = ((u % 128 : Nat) : Int) := by rw [Int.tmod_eq_emod_of_nonneg (by omega)]; omega
theorem tdiv128 {u : Nat} (h : u < 18446744073709551616) : IntKind.wrap .u64 ((u : Int).tdiv 128) = ((u / 128 : Nat) : Int) := by rw [Int.tdiv_eq_ediv_of_nonneg (by omega), wrap_u64]; omega
theorem add128 (u : Nat) : IntKind.wrap .u8 (IntKind.wrap .u8 ((u % 128 : Nat) : Int) + 128) = (((UInt8.ofNat (u % 128 + 128)).toNat : Nat) : Int) := by
  rw [wrap_u8, wrap_u8, UInt8.toNat_ofNat']; omega
theorem zz_pos {n : Int} (h0 : 0 ≤ n) (h2 : n ≤ 9223372036854775807) : IntKind.wrap .u64 (IntKind.wrap .u64 n * 2) = (zz n : Int) := by
  rw [wrap_u64, wrap_u64]; unfold zz; rw [if_pos h0]; omega
theorem zz_neg {n : Int} (h0 : n < 0) (h1 : -9223372036854775808 ≤ n) : IntKind.wrap .u64 (IntKind.wrap .u64 (IntKind.wrap .u64 (IntKind.wrap .i64 (0 - IntKind.wrap .i64 (n + 1))) * 2) + 1) = (zz n : Int) := by
  rw [wrap_i64 (n := n + 1) (by omega) (by omega), wrap_i64 (by omega) (by omega), wrap_u64, wrap_u64, wrap_u64]; unfold zz; rw [if_neg (by omega)]; omega

def inv13 (n : Int) (x : List UInt8 × Nat) : Prop := x.1 ++ uenc x.2 = uenc (zz n) ∧ x.2 < 18446744073709551616
def S13 : Bool × List UInt8 × Nat → St
  | (true, _, u) => L13_5 (.leaf (.clip [])) (.leaf (.imm (.int .u64 u))) none none []
  | (false, done, u) => L13_5 (.leaf (.ap 28 (rowsOfBytes done))) (.leaf (.imm (.int .u64 u))) none (some (.tail 5 1 done.length)) []
theorem rob_ne {l : List UInt8} (h : l ≠ []) : (rowsOfBytes l).isEmpty = false := by cases l with
  | nil => exact (h rfl).elim
  | cons x l => rfl

theorem fn13 (d : Nat) (ob : Nat → Option AObj) (l : List UInt8) (n : Int) (h1 : -9223372036854775808 ≤ n) (h2 : n ≤ 9223372036854775807) (hl : l.length ≤ 549755813888) (hd : ob d = none) :
    (seat o).fnO 13 d [.leaf (.imm (.sl (rowsOfBytes l))), .leaf (.imm (.int .i64 n))] ob = some (.leaf (.ap d (rowsOfBytes (l ++ uenc (zz n)))), [(d, .tail 5 1 (l.length + (uenc (zz n)).length))]) := by
  have hlt := zz_lt h1 h2
  have hle := uenc_len' hlt
  have hrl : l.length ≤ room := room_one' (by omega)
  by_cases hemp : l = []
  · subst hemp
    have loopA : ∀ Q : Ex → St → Prop, ∀ c, (∀ x : Bool × List UInt8 × Nat, (inv13 n x.2 ∧ (x.1 = true → x.2.1 = [])) → (seat o).W [] k13 c (S13 x) (LoopEnd (k13 ((firstRegion c).getD 0)) (fun st' => ∃ y : Bool × List UInt8 × Nat, (inv13 n y.2 ∧ (y.1 = true → y.2.1 = [])) ∧ y.2.2 < x.2.2 ∧ st' = S13 y) Q)) → (seat o).WL [] k13 c (S13 (true, [], zz n)) Q := fun Q c step =>
      Seat.loop_by S13 (fun x => inv13 n x.2 ∧ (x.1 = true → x.2.1 = [])) (fun x => x.2.2) (true, [], zz n) rfl ⟨⟨rfl, hlt⟩, fun _ => rfl⟩ step
    by_cases h0 : n < 0
    · have hz := zz_neg h0 h1
      refine Seat.fnO_of (f := fun13) (ids := []) rfl rfl rfl rfl rfl ?_
      simp only [fun13, Proofs.Try.f13, Seat.W_seq, Seat.W_region_false, Seat.rq_nil, Seat.rq_cons, Seat.rqK_some, Seat.seq_normal, s_step, guardOf, s_guard_true, s_assign, s_move, s_convert, convK, s_pure, s_setT, intAV, renAV, renLV, indexIn, evalOp, ofValue, List.set_cons_succ, List.set_cons_zero, List.getElem?_cons_succ, List.getElem?_cons_zero, List.cons_append, List.nil_append, List.append_nil, List.length_cons, List.length_nil, List.map_cons, List.map_nil, List.reduceReplicate, Option.map_none, Nat.reduceAdd, Nat.reduceSub, Nat.zero_add, seat_T]
      simp only [Seat.W_seq, Seat.W_block, Seat.W_loop, Seat.W_region_false, Seat.cond_eq, Seat.condK_true, Seat.env_grow, Seat.rq_nil, Seat.rq_cons, Seat.rqK_some, Seat.seq_normal, s_step, guardOf, s_guard_true, s_assign, s_move, s_bin, s_un, s_buildSlice, s_append, s_convert, convK, s_pure, s_setT, binK, binAV, intBin, boolAV, intAV, unAV, evalParts, clipK, rowsK, buildSliceK, appK, appR, appT, appE_e, rowsOf_sl, rowsAt, fillAV, mapEval, evalOp, ofValue, List.set_cons_succ, List.set_cons_zero, List.getElem?_cons_succ, List.getElem?_cons_zero, List.getD_cons_succ, List.getD_cons_zero, List.all_nil, List.map_cons, List.map_nil, List.flatten_nil, List.reduceReplicate, List.contains_cons, List.contains_nil, Option.map_none, Option.bind_some, Option.getD_some, Nat.reduceAdd, Nat.reduceLT, Nat.reduceLeDiff, Nat.reduceBEq, Nat.zero_add, Nat.zero_le, Nat.mul_one, and_self, Bool.or_false, Bool.or_true, Bool.false_eq_true, decide_true, decide_false, beq_self_eq_true, eq_self, ↓reduceIte, seat_T, ob_getD, keepSt, keepTmps, keepObjs, kept, keepAV, keepLV_imm, keepLV_clip, promote, promoteT, firstRegion, k13, T_56, T_22, T_5, T_3, h0, hz, hd, rob_nil]
      refine loopA _ _ ?_
      rintro ⟨b, done, u⟩ ⟨⟨hi, hu⟩, hb⟩
      simp only at hi hu hb
      have hlen := congrArg List.length hi
      rw [List.length_append] at hlen
      have hr : done.length + 1 ≤ room := room_one' (by omega)
      have hr0 : 0 + 1 ≤ room := room_one' (by decide)
      have hr1 : 1 ≤ room := room_one' (by decide)
      by_cases h : u < 128
      · have h' : ¬ (127 : Int) < (u : Int) := by omega
        rw [uenc_lo h] at hi hlen
        have e1 := lo_byte h
        cases b with
        | false =>
          have e2 : rowsOfBytes done ++ [[.int .u8 ((UInt8.ofNat u).toNat : Int)]] = rowsOfBytes (uenc (zz n)) := by rw [← rob_one, ← rob_append, hi]
          have e3 : done.length + 1 = (uenc (zz n)).length := by simp only [List.length_cons, List.length_nil] at hlen; omega
          simp only [S13, L13_5, Seat.W_seq, Seat.W_region_false, Seat.W_exit, Seat.W_ret, Seat.cond_eq, Seat.condK_false, Seat.env_grow, Seat.rq_nil, Seat.rq_cons, Seat.rqK_some, Seat.seq_normal, Seat.seq_exit, Seat.blk_exit, loopEnd_exit, s_step, guardOf, s_guard_true, s_assign, s_move, s_bin, s_buildSlice, s_append, s_convert, convK, s_pure, s_setT, binK, binAV, intBin, boolAV, intAV, evalParts, clipK, rowsK, buildSliceK, out_ret, OutK, handed, renAV, renLV, renObj, backName, backUpd, appK, appR, appT, appE_c, appS, app2, appTail, strip_imm, stripAll, IV.norm, rowsOf_clip, rowsAt, resultsAV, resultAV, tupleOf, fillAV, setRange, mapEval, evalOp, ofValue, AV.leaves, solid_imm, List.set_cons_succ, List.set_cons_zero, List.getElem?_cons_succ, List.getElem?_cons_zero, List.nil_append, List.append_nil, List.length_cons, List.length_nil, List.getD_cons_succ, List.getD_cons_zero, List.all_cons, List.all_nil, List.map_cons, List.map_nil, List.drop_succ_cons, List.drop_zero, List.take_succ_cons, List.take_zero, List.drop_nil, List.take_nil, List.flatten_cons, List.flatten_nil, List.reduceReplicate, List.contains_nil, Option.getD_some, Nat.reduceAdd, Nat.reduceLT, Nat.reduceLeDiff, Nat.zero_add, Nat.mul_one, Nat.le_refl, and_self, Bool.and_self, decide_false, beq_self_eq_true, eq_self, gt_iff_lt, ↓reduceIte, seat_T, firstRegion, k13, T_56, T_22, T_5, h', e1, rob_len, hr]
          rw [e2, e3]
        | true =>
          have hb := hb rfl
          subst hb
          have e2 : [[.int .u8 ((UInt8.ofNat u).toNat : Int)]] = rowsOfBytes (uenc (zz n)) := by rw [← rob_one, ← hi]; rfl
          have e3 : 1 = (uenc (zz n)).length := by simp only [List.length_cons, List.length_nil] at hlen; omega
          simp only [S13, L13_5, Seat.W_seq, Seat.W_region_false, Seat.W_exit, Seat.W_ret, Seat.cond_eq, Seat.condK_false, Seat.env_grow, Seat.rq_nil, Seat.rq_cons, Seat.rqK_some, Seat.seq_normal, Seat.seq_exit, Seat.blk_exit, loopEnd_exit, s_step, guardOf, s_guard_true, s_assign, s_move, s_bin, s_buildSlice, s_append, s_convert, convK, s_pure, s_setT, binK, binAV, intBin, boolAV, intAV, evalParts, clipK, rowsK, buildSliceK, out_ret, OutK, handed, renAV, renLV, renObj, backName, backUpd, appK, appR, appT, appE_c, appS, app1, appTail, strip_imm, stripAll, IV.norm, rowsOf_clip, rowsAt, resultsAV, resultAV, tupleOf, fillAV, setRange, mapEval, evalOp, ofValue, AV.leaves, solid_imm, List.set_cons_succ, List.set_cons_zero, List.getElem?_cons_succ, List.getElem?_cons_zero, List.nil_append, List.append_nil, List.length_cons, List.length_nil, List.getD_cons_succ, List.getD_cons_zero, List.all_cons, List.all_nil, List.map_cons, List.map_nil, List.drop_succ_cons, List.drop_zero, List.take_succ_cons, List.take_zero, List.drop_nil, List.take_nil, List.flatten_cons, List.flatten_nil, List.reduceReplicate, List.contains_nil, Option.getD_some, Nat.reduceAdd, Nat.reduceLT, Nat.reduceLeDiff, Nat.zero_add, Nat.mul_one, Nat.le_refl, and_self, Bool.and_self, Bool.false_eq_true, decide_false, beq_self_eq_true, eq_self, gt_iff_lt, ↓reduceIte, seat_T, firstRegion, k13, T_56, T_22, T_5, h', e1, hr0]
          rw [e2, ← e3]
      · have h' : (127 : Int) < (u : Int) := by omega
        rw [uenc_hi h] at hi
        have e4 := tmod128 u
        have e5 := tdiv128 hu
        have e6 := add128 u
        have e7 : ¬ (128 : Int) = 0 := by decide
        cases b with
        | false =>
          have e2 : rowsOfBytes done ++ [[.int .u8 ((UInt8.ofNat (u % 128 + 128)).toNat : Int)]] = rowsOfBytes (done ++ [UInt8.ofNat (u % 128 + 128)]) := by rw [← rob_one, ← rob_append]
          simp only [S13, L13_5, Seat.W_seq, Seat.W_block, Seat.W_region_false, Seat.W_skip, Seat.cond_eq, Seat.condK_true, Seat.env_grow, Seat.rq_nil, Seat.rq_cons, Seat.rqK_some, Seat.seq_normal, Seat.blk_normal, loopEnd_normal, s_step, guardOf, s_guard_true, s_assign, s_move, s_bin, s_buildSlice, s_append, s_convert, convK, s_pure, s_setT, binK, binAV, intBin, boolAV, intAV, evalParts, clipK, rowsK, buildSliceK, appK, appR, appT, appE_c, appS, app2, appTail, strip_imm, stripAll, IV.norm, rowsOf_clip, rowsAt, fillAV, setRange, mapEval, evalOp, ofValue, AV.leaves, solid_imm, List.set_cons_succ, List.set_cons_zero, List.getElem?_cons_succ, List.getElem?_cons_zero, List.nil_append, List.append_nil, List.length_cons, List.length_nil, List.getD_cons_succ, List.getD_cons_zero, List.all_cons, List.all_nil, List.map_cons, List.map_nil, List.drop_succ_cons, List.drop_zero, List.take_succ_cons, List.take_zero, List.drop_nil, List.take_nil, List.flatten_cons, List.flatten_nil, List.reduceReplicate, List.contains_cons, List.contains_nil, Option.map_some, Option.map_none, Option.getD_some, Nat.reduceAdd, Nat.reduceLT, Nat.reduceLeDiff, Nat.reduceBEq, Nat.zero_add, Nat.mul_one, Nat.le_refl, and_self, Bool.and_self, Bool.or_false, Bool.or_true, Bool.false_eq_true, decide_true, decide_false, beq_self_eq_true, eq_self, gt_iff_lt, ↓reduceIte, seat_T, ob_getD, keepSt, keepTmps, keepObjs, kept, keepAV, keepLV_imm, keepLV_ap, keepObj, promote, promoteT, firstRegion, k13, T_56, T_22, T_5, h', rob_len, hr, e2, e4, e5, e6, e7]
          refine ⟨(false, done ++ [UInt8.ofNat (u % 128 + 128)], u / 128), ⟨⟨by simp only; rw [List.append_assoc]; exact hi, by simp only; omega⟩, fun h => by cases h⟩, by simp only; omega, ?_⟩
          simp only [List.length_append, List.length_cons, List.length_nil, Nat.zero_add]
        | true =>
          have hb := hb rfl
          subst hb
          simp only [S13, L13_5, Seat.W_seq, Seat.W_block, Seat.W_region_false, Seat.W_skip, Seat.cond_eq, Seat.condK_true, Seat.env_grow, Seat.rq_nil, Seat.rq_cons, Seat.rqK_some, Seat.seq_normal, Seat.blk_normal, loopEnd_normal, s_step, guardOf, s_guard_true, s_assign, s_move, s_bin, s_buildSlice, s_append, s_convert, convK, s_pure, s_setT, binK, binAV, intBin, boolAV, intAV, evalParts, clipK, rowsK, buildSliceK, appK, appR, appT, appE_c, appS, app1, appTail, strip_imm, stripAll, IV.norm, rowsOf_clip, rowsAt, fillAV, setRange, mapEval, evalOp, ofValue, AV.leaves, solid_imm, List.set_cons_succ, List.set_cons_zero, List.getElem?_cons_succ, List.getElem?_cons_zero, List.nil_append, List.append_nil, List.length_cons, List.length_nil, List.getD_cons_succ, List.getD_cons_zero, List.all_cons, List.all_nil, List.map_cons, List.map_nil, List.drop_succ_cons, List.drop_zero, List.take_succ_cons, List.take_zero, List.drop_nil, List.take_nil, List.flatten_cons, List.flatten_nil, List.reduceReplicate, List.contains_cons, List.contains_nil, Option.map_some, Option.map_none, Option.getD_some, Nat.reduceAdd, Nat.reduceLT, Nat.reduceLeDiff, Nat.reduceBEq, Nat.zero_add, Nat.mul_one, Nat.le_refl, and_self, Bool.and_self, Bool.or_false, Bool.or_true, Bool.false_eq_true, decide_true, decide_false, beq_self_eq_true, eq_self, gt_iff_lt, ↓reduceIte, seat_T, ob_getD, keepSt, keepTmps, keepObjs, kept, keepAV, keepLV_imm, keepLV_ap, keepObj, promote, promoteT, firstRegion, k13, T_56, T_22, T_5, h', hr0, e4, e5, e6, e7]
          refine ⟨(false, [UInt8.ofNat (u % 128 + 128)], u / 128), ⟨⟨hi, by simp only; omega⟩, fun h => by cases h⟩, by simp only; omega, ?_⟩
          simp only [rob_one, List.length_cons, List.length_nil, Nat.zero_add]
    · have hz := zz_pos (n := n) (by omega) h2
      refine Seat.fnO_of (f := fun13) (ids := []) rfl rfl rfl rfl rfl ?_
      simp only [fun13, Proofs.Try.f13, Seat.W_seq, Seat.W_region_false, Seat.rq_nil, Seat.rq_cons, Seat.rqK_some, Seat.seq_normal, s_step, guardOf, s_guard_true, s_assign, s_move, s_convert, convK, s_pure, s_setT, intAV, renAV, renLV, indexIn, evalOp, ofValue, List.set_cons_succ, List.set_cons_zero, List.getElem?_cons_succ, List.getElem?_cons_zero, List.cons_append, List.nil_append, List.append_nil, List.length_cons, List.length_nil, List.map_cons, List.map_nil, List.reduceReplicate, Option.map_none, Nat.reduceAdd, Nat.reduceSub, Nat.zero_add, seat_T]
      simp only [Seat.W_seq, Seat.W_block, Seat.W_loop, Seat.W_region_false, Seat.W_skip, Seat.cond_eq, Seat.condK_false, Seat.env_grow, Seat.rq_nil, Seat.rq_cons, Seat.rqK_some, Seat.seq_normal, s_step, guardOf, s_guard_true, s_assign, s_move, s_bin, s_buildSlice, s_append, s_pure, s_setT, binK, binAV, intBin, boolAV, intAV, evalParts, clipK, rowsK, buildSliceK, appK, appR, appT, appE_e, rowsOf_sl, rowsAt, fillAV, mapEval, evalOp, ofValue, List.set_cons_succ, List.set_cons_zero, List.getElem?_cons_succ, List.getElem?_cons_zero, List.getD_cons_succ, List.getD_cons_zero, List.all_nil, List.map_cons, List.map_nil, List.flatten_nil, List.reduceReplicate, List.contains_cons, List.contains_nil, Option.map_none, Option.getD_some, Nat.reduceAdd, Nat.reduceLT, Nat.reduceLeDiff, Nat.reduceBEq, Nat.zero_add, Nat.zero_le, Nat.mul_one, and_self, Bool.or_false, Bool.or_true, Bool.false_eq_true, decide_false, beq_self_eq_true, eq_self, ↓reduceIte, seat_T, ob_getD, keepSt, keepTmps, keepObjs, kept, keepAV, keepLV_imm, keepLV_clip, promote, promoteT, firstRegion, k13, T_56, T_22, T_5, T_3, h0, hz, hd, rob_nil]
      refine loopA _ _ ?_
      rintro ⟨b, done, u⟩ ⟨⟨hi, hu⟩, hb⟩
      simp only at hi hu hb
      have hlen := congrArg List.length hi
      rw [List.length_append] at hlen
      have hr : done.length + 1 ≤ room := room_one' (by omega)
      have hr0 : 0 + 1 ≤ room := room_one' (by decide)
      have hr1 : 1 ≤ room := room_one' (by decide)
      by_cases h : u < 128
      · have h' : ¬ (127 : Int) < (u : Int) := by omega
        rw [uenc_lo h] at hi hlen
        have e1 := lo_byte h
        cases b with
        | false =>
          have e2 : rowsOfBytes done ++ [[.int .u8 ((UInt8.ofNat u).toNat : Int)]] = rowsOfBytes (uenc (zz n)) := by rw [← rob_one, ← rob_append, hi]
          have e3 : done.length + 1 = (uenc (zz n)).length := by simp only [List.length_cons, List.length_nil] at hlen; omega
          simp only [S13, L13_5, Seat.W_seq, Seat.W_region_false, Seat.W_exit, Seat.W_ret, Seat.cond_eq, Seat.condK_false, Seat.env_grow, Seat.rq_nil, Seat.rq_cons, Seat.rqK_some, Seat.seq_normal, Seat.seq_exit, Seat.blk_exit, loopEnd_exit, s_step, guardOf, s_guard_true, s_assign, s_move, s_bin, s_buildSlice, s_append, s_convert, convK, s_pure, s_setT, binK, binAV, intBin, boolAV, intAV, evalParts, clipK, rowsK, buildSliceK, out_ret, OutK, handed, renAV, renLV, renObj, backName, backUpd, appK, appR, appT, appE_c, appS, app2, appTail, strip_imm, stripAll, IV.norm, rowsOf_clip, rowsAt, resultsAV, resultAV, tupleOf, fillAV, setRange, mapEval, evalOp, ofValue, AV.leaves, solid_imm, List.set_cons_succ, List.set_cons_zero, List.getElem?_cons_succ, List.getElem?_cons_zero, List.nil_append, List.append_nil, List.length_cons, List.length_nil, List.getD_cons_succ, List.getD_cons_zero, List.all_cons, List.all_nil, List.map_cons, List.map_nil, List.drop_succ_cons, List.drop_zero, List.take_succ_cons, List.take_zero, List.drop_nil, List.take_nil, List.flatten_cons, List.flatten_nil, List.reduceReplicate, List.contains_nil, Option.getD_some, Nat.reduceAdd, Nat.reduceLT, Nat.reduceLeDiff, Nat.zero_add, Nat.mul_one, Nat.le_refl, and_self, Bool.and_self, decide_false, beq_self_eq_true, eq_self, gt_iff_lt, ↓reduceIte, seat_T, firstRegion, k13, T_56, T_22, T_5, h', e1, rob_len, hr]
          rw [e2, e3]
        | true =>
          have hb := hb rfl
          subst hb
          have e2 : [[.int .u8 ((UInt8.ofNat u).toNat : Int)]] = rowsOfBytes (uenc (zz n)) := by rw [← rob_one, ← hi]; rfl
          have e3 : 1 = (uenc (zz n)).length := by simp only [List.length_cons, List.length_nil] at hlen; omega
          simp only [S13, L13_5, Seat.W_seq, Seat.W_region_false, Seat.W_exit, Seat.W_ret, Seat.cond_eq, Seat.condK_false, Seat.env_grow, Seat.rq_nil, Seat.rq_cons, Seat.rqK_some, Seat.seq_normal, Seat.seq_exit, Seat.blk_exit, loopEnd_exit, s_step, guardOf, s_guard_true, s_assign, s_move, s_bin, s_buildSlice, s_append, s_convert, convK, s_pure, s_setT, binK, binAV, intBin, boolAV, intAV, evalParts, clipK, rowsK, buildSliceK, out_ret, OutK, handed, renAV, renLV, renObj, backName, backUpd, appK, appR, appT, appE_c, appS, app1, appTail, strip_imm, stripAll, IV.norm, rowsOf_clip, rowsAt, resultsAV, resultAV, tupleOf, fillAV, setRange, mapEval, evalOp, ofValue, AV.leaves, solid_imm, List.set_cons_succ, List.set_cons_zero, List.getElem?_cons_succ, List.getElem?_cons_zero, List.nil_append, List.append_nil, List.length_cons, List.length_nil, List.getD_cons_succ, List.getD_cons_zero, List.all_cons, List.all_nil, List.map_cons, List.map_nil, List.drop_succ_cons, List.drop_zero, List.take_succ_cons, List.take_zero, List.drop_nil, List.take_nil, List.flatten_cons, List.flatten_nil, List.reduceReplicate, List.contains_nil, Option.getD_some, Nat.reduceAdd, Nat.reduceLT, Nat.reduceLeDiff, Nat.zero_add, Nat.mul_one, Nat.le_refl, and_self, Bool.and_self, Bool.false_eq_true, decide_false, beq_self_eq_true, eq_self, gt_iff_lt, ↓reduceIte, seat_T, firstRegion, k13, T_56, T_22, T_5, h', e1, hr0]
          rw [e2, ← e3]
      · have h' : (127 : Int) < (u : Int) := by omega
        rw [uenc_hi h] at hi
        have e4 := tmod128 u
        have e5 := tdiv128 hu
        have e6 := add128 u
        have e7 : ¬ (128 : Int) = 0 := by decide
        cases b with
        | false =>
          have e2 : rowsOfBytes done ++ [[.int .u8 ((UInt8.ofNat (u % 128 + 128)).toNat : Int)]] = rowsOfBytes (done ++ [UInt8.ofNat (u % 128 + 128)]) := by rw [← rob_one, ← rob_append]
          simp only [S13, L13_5, Seat.W_seq, Seat.W_block, Seat.W_region_false, Seat.W_skip, Seat.cond_eq, Seat.condK_true, Seat.env_grow, Seat.rq_nil, Seat.rq_cons, Seat.rqK_some, Seat.seq_normal, Seat.blk_normal, loopEnd_normal, s_step, guardOf, s_guard_true, s_assign, s_move, s_bin, s_buildSlice, s_append, s_convert, convK, s_pure, s_setT, binK, binAV, intBin, boolAV, intAV, evalParts, clipK, rowsK, buildSliceK, appK, appR, appT, appE_c, appS, app2, appTail, strip_imm, stripAll, IV.norm, rowsOf_clip, rowsAt, fillAV, setRange, mapEval, evalOp, ofValue, AV.leaves, solid_imm, List.set_cons_succ, List.set_cons_zero, List.getElem?_cons_succ, List.getElem?_cons_zero, List.nil_append, List.append_nil, List.length_cons, List.length_nil, List.getD_cons_succ, List.getD_cons_zero, List.all_cons, List.all_nil, List.map_cons, List.map_nil, List.drop_succ_cons, List.drop_zero, List.take_succ_cons, List.take_zero, List.drop_nil, List.take_nil, List.flatten_cons, List.flatten_nil, List.reduceReplicate, List.contains_cons, List.contains_nil, Option.map_some, Option.map_none, Option.getD_some, Nat.reduceAdd, Nat.reduceLT, Nat.reduceLeDiff, Nat.reduceBEq, Nat.zero_add, Nat.mul_one, Nat.le_refl, and_self, Bool.and_self, Bool.or_false, Bool.or_true, Bool.false_eq_true, decide_true, decide_false, beq_self_eq_true, eq_self, gt_iff_lt, ↓reduceIte, seat_T, ob_getD, keepSt, keepTmps, keepObjs, kept, keepAV, keepLV_imm, keepLV_ap, keepObj, promote, promoteT, firstRegion, k13, T_56, T_22, T_5, h', rob_len, hr, e2, e4, e5, e6, e7]
          refine ⟨(false, done ++ [UInt8.ofNat (u % 128 + 128)], u / 128), ⟨⟨by simp only; rw [List.append_assoc]; exact hi, by simp only; omega⟩, fun h => by cases h⟩, by simp only; omega, ?_⟩
          simp only [List.length_append, List.length_cons, List.length_nil, Nat.zero_add]
        | true =>
          have hb := hb rfl
          subst hb
          simp only [S13, L13_5, Seat.W_seq, Seat.W_block, Seat.W_region_false, Seat.W_skip, Seat.cond_eq, Seat.condK_true, Seat.env_grow, Seat.rq_nil, Seat.rq_cons, Seat.rqK_some, Seat.seq_normal, Seat.blk_normal, loopEnd_normal, s_step, guardOf, s_guard_true, s_assign, s_move, s_bin, s_buildSlice, s_append, s_convert, convK, s_pure, s_setT, binK, binAV, intBin, boolAV, intAV, evalParts, clipK, rowsK, buildSliceK, appK, appR, appT, appE_c, appS, app1, appTail, strip_imm, stripAll, IV.norm, rowsOf_clip, rowsAt, fillAV, setRange, mapEval, evalOp, ofValue, AV.leaves, solid_imm, List.set_cons_succ, List.set_cons_zero, List.getElem?_cons_succ, List.getElem?_cons_zero, List.nil_append, List.append_nil, List.length_cons, List.length_nil, List.getD_cons_succ, List.getD_cons_zero, List.all_cons, List.all_nil, List.map_cons, List.map_nil, List.drop_succ_cons, List.drop_zero, List.take_succ_cons, List.take_zero, List.drop_nil, List.take_nil, List.flatten_cons, List.flatten_nil, List.reduceReplicate, List.contains_cons, List.contains_nil, Option.map_some, Option.map_none, Option.getD_some, Nat.reduceAdd, Nat.reduceLT, Nat.reduceLeDiff, Nat.reduceBEq, Nat.zero_add, Nat.mul_one, Nat.le_refl, and_self, Bool.and_self, Bool.or_false, Bool.or_true, Bool.false_eq_true, decide_true, decide_false, beq_self_eq_true, eq_self, gt_iff_lt, ↓reduceIte, seat_T, ob_getD, keepSt, keepTmps, keepObjs, kept, keepAV, keepLV_imm, keepLV_ap, keepObj, promote, promoteT, firstRegion, k13, T_56, T_22, T_5, h', hr0, e4, e5, e6, e7]
          refine ⟨(false, [UInt8.ofNat (u % 128 + 128)], u / 128), ⟨⟨hi, by simp only; omega⟩, fun h => by cases h⟩, by simp only; omega, ?_⟩
          simp only [rob_one, List.length_cons, List.length_nil, Nat.zero_add]
  · by_cases h0 : n < 0
    · have hz := zz_neg h0 h1
      refine Seat.fnO_of (f := fun13) (ids := []) rfl rfl rfl rfl rfl ?_
      simp only [fun13, Proofs.Try.f13, Seat.W_seq, Seat.W_region_false, Seat.rq_nil, Seat.rq_cons, Seat.rqK_some, Seat.seq_normal, s_step, guardOf, s_guard_true, s_assign, s_move, s_convert, convK, s_pure, s_setT, intAV, renAV, renLV, indexIn, evalOp, ofValue, List.set_cons_succ, List.set_cons_zero, List.getElem?_cons_succ, List.getElem?_cons_zero, List.cons_append, List.nil_append, List.append_nil, List.length_cons, List.length_nil, List.map_cons, List.map_nil, List.reduceReplicate, Option.map_none, Nat.reduceAdd, Nat.reduceSub, Nat.zero_add, seat_T]
      simp only [Seat.W_seq, Seat.W_block, Seat.W_loop, Seat.W_region_false, Seat.cond_eq, Seat.condK_true, Seat.env_grow, Seat.rq_nil, Seat.rq_cons, Seat.rqK_some, Seat.seq_normal, s_step, guardOf, s_guard_true, s_assign, s_move, s_bin, s_un, s_buildSlice, s_append, s_convert, convK, s_pure, s_setT, binK, binAV, intBin, boolAV, intAV, unAV, evalParts, clipK, rowsK, buildSliceK, appK, appR, appT, appS, app1, appTail, rowsOf_sl, rowsAt, fillAV, mapEval, evalOp, ofValue, List.set_cons_succ, List.set_cons_zero, List.getElem?_cons_succ, List.getElem?_cons_zero, List.nil_append, List.length_cons, List.length_nil, List.getD_cons_succ, List.getD_cons_zero, List.all_nil, List.map_cons, List.map_nil, List.flatten_nil, List.reduceReplicate, List.contains_cons, List.contains_nil, Option.map_some, Option.map_none, Option.bind_some, Option.getD_some, Nat.reduceAdd, Nat.reduceLT, Nat.reduceLeDiff, Nat.reduceBEq, Nat.zero_add, Nat.zero_le, Nat.mul_one, and_self, Bool.or_false, Bool.or_true, Bool.false_eq_true, decide_true, decide_false, beq_self_eq_true, eq_self, ↓reduceIte, seat_T, ob_getD, keepSt, keepTmps, keepObjs, kept, keepAV, keepLV_imm, keepLV_ap, keepObj, promote, promoteT, firstRegion, k13, T_56, T_22, T_5, T_3, h0, hz, hd, appE_ne (rob_ne hemp), rob_len, rob_all, hrl]
      refine Seat.loop_by (fun x : List UInt8 × Nat => L13_5 (.leaf (.ap 19 (rowsOfBytes (l ++ x.1)))) (.leaf (.imm (.int .u64 x.2))) (some (.tail 5 1 (l.length + x.1.length))) none []) (inv13 n) (fun x => x.2) ([], zz n) (by simp only [L13_5, List.append_nil, List.length_nil, Nat.add_zero]) ⟨rfl, hlt⟩ ?_
      rintro ⟨done, u⟩ ⟨hi, hu⟩
      simp only at hi hu
      have hlen := congrArg List.length hi
      rw [List.length_append] at hlen
      have hr : l.length + done.length + 1 ≤ room := room_one' (by omega)
      by_cases h : u < 128
      · have h' : ¬ (127 : Int) < (u : Int) := by omega
        rw [uenc_lo h] at hi hlen
        have e1 := lo_byte h
        have e2 : rowsOfBytes (l ++ done) ++ [[.int .u8 ((UInt8.ofNat u).toNat : Int)]] = rowsOfBytes (l ++ uenc (zz n)) := by rw [← rob_one, ← rob_append, List.append_assoc, hi]
        have e3 : l.length + done.length + 1 = l.length + (uenc (zz n)).length := by simp only [List.length_cons, List.length_nil] at hlen; omega
        simp only [L13_5, Seat.W_seq, Seat.W_region_false, Seat.W_exit, Seat.W_ret, Seat.cond_eq, Seat.condK_false, Seat.env_grow, Seat.rq_nil, Seat.rq_cons, Seat.rqK_some, Seat.seq_normal, Seat.seq_exit, Seat.blk_exit, loopEnd_exit, s_step, guardOf, s_guard_true, s_assign, s_move, s_bin, s_buildSlice, s_append, s_convert, convK, s_pure, s_setT, binK, binAV, intBin, boolAV, intAV, evalParts, clipK, rowsK, buildSliceK, out_ret, OutK, handed, renAV, renLV, renObj, backName, backUpd, appK, appR, appT, appE_c, appS, app2, appTail, strip_imm, stripAll, IV.norm, rowsOf_clip, rowsAt, resultsAV, resultAV, tupleOf, fillAV, setRange, mapEval, evalOp, ofValue, AV.leaves, solid_imm, List.set_cons_succ, List.set_cons_zero, List.getElem?_cons_succ, List.getElem?_cons_zero, List.nil_append, List.append_nil, List.length_cons, List.length_nil, List.getD_cons_succ, List.getD_cons_zero, List.all_cons, List.all_nil, List.map_cons, List.map_nil, List.drop_succ_cons, List.drop_zero, List.take_succ_cons, List.take_zero, List.drop_nil, List.take_nil, List.flatten_cons, List.flatten_nil, List.reduceReplicate, List.contains_nil, Option.getD_some, Nat.reduceAdd, Nat.reduceLT, Nat.reduceLeDiff, Nat.zero_add, Nat.mul_one, Nat.le_refl, and_self, Bool.and_self, decide_false, beq_self_eq_true, eq_self, gt_iff_lt, ↓reduceIte, seat_T, firstRegion, k13, T_56, T_22, T_5, h', e1, rob_len, List.length_append, hr]
        rw [e2, e3]
      · have h' : (127 : Int) < (u : Int) := by omega
        rw [uenc_hi h] at hi
        have e4 := tmod128 u
        have e5 := tdiv128 hu
        have e6 := add128 u
        have e7 : ¬ (128 : Int) = 0 := by decide
        have e2 : rowsOfBytes (l ++ done) ++ [[.int .u8 ((UInt8.ofNat (u % 128 + 128)).toNat : Int)]] = rowsOfBytes (l ++ (done ++ [UInt8.ofNat (u % 128 + 128)])) := by rw [← rob_one, ← rob_append, List.append_assoc]
        simp only [L13_5, Seat.W_seq, Seat.W_block, Seat.W_region_false, Seat.W_skip, Seat.cond_eq, Seat.condK_true, Seat.env_grow, Seat.rq_nil, Seat.rq_cons, Seat.rqK_some, Seat.seq_normal, Seat.blk_normal, loopEnd_normal, s_step, guardOf, s_guard_true, s_assign, s_move, s_bin, s_buildSlice, s_append, s_convert, convK, s_pure, s_setT, binK, binAV, intBin, boolAV, intAV, evalParts, clipK, rowsK, buildSliceK, appK, appR, appT, appE_c, appS, app2, appTail, strip_imm, stripAll, IV.norm, rowsOf_clip, rowsAt, fillAV, setRange, mapEval, evalOp, ofValue, AV.leaves, solid_imm, List.set_cons_succ, List.set_cons_zero, List.getElem?_cons_succ, List.getElem?_cons_zero, List.nil_append, List.append_nil, List.length_cons, List.length_nil, List.getD_cons_succ, List.getD_cons_zero, List.all_cons, List.all_nil, List.map_cons, List.map_nil, List.drop_succ_cons, List.drop_zero, List.take_succ_cons, List.take_zero, List.drop_nil, List.take_nil, List.flatten_cons, List.flatten_nil, List.reduceReplicate, List.contains_cons, List.contains_nil, Option.map_some, Option.map_none, Option.getD_some, Nat.reduceAdd, Nat.reduceLT, Nat.reduceLeDiff, Nat.reduceBEq, Nat.zero_add, Nat.mul_one, Nat.le_refl, and_self, Bool.and_self, Bool.or_false, Bool.or_true, Bool.false_eq_true, decide_true, decide_false, beq_self_eq_true, eq_self, gt_iff_lt, ↓reduceIte, seat_T, ob_getD, keepSt, keepTmps, keepObjs, kept, keepAV, keepLV_imm, keepLV_ap, keepObj, promote, promoteT, firstRegion, k13, T_56, T_22, T_5, h', rob_len, List.length_append, hr, e2, e4, e5, e6, e7]
        refine ⟨(done ++ [UInt8.ofNat (u % 128 + 128)], u / 128), ⟨by simp only; rw [List.append_assoc]; exact hi, by simp only; omega⟩, by simp only; omega, ?_⟩
        simp only [List.length_append, List.length_cons, List.length_nil, Nat.zero_add, Nat.add_assoc]
    · have hz := zz_pos (n := n) (by omega) h2
      refine Seat.fnO_of (f := fun13) (ids := []) rfl rfl rfl rfl rfl ?_
      simp only [fun13, Proofs.Try.f13, Seat.W_seq, Seat.W_region_false, Seat.rq_nil, Seat.rq_cons, Seat.rqK_some, Seat.seq_normal, s_step, guardOf, s_guard_true, s_assign, s_move, s_convert, convK, s_pure, s_setT, intAV, renAV, renLV, indexIn, evalOp, ofValue, List.set_cons_succ, List.set_cons_zero, List.getElem?_cons_succ, List.getElem?_cons_zero, List.cons_append, List.nil_append, List.append_nil, List.length_cons, List.length_nil, List.map_cons, List.map_nil, List.reduceReplicate, Option.map_none, Nat.reduceAdd, Nat.reduceSub, Nat.zero_add, seat_T]
      simp only [Seat.W_seq, Seat.W_block, Seat.W_loop, Seat.W_region_false, Seat.W_skip, Seat.cond_eq, Seat.condK_false, Seat.env_grow, Seat.rq_nil, Seat.rq_cons, Seat.rqK_some, Seat.seq_normal, s_step, guardOf, s_guard_true, s_assign, s_move, s_bin, s_buildSlice, s_append, s_pure, s_setT, binK, binAV, intBin, boolAV, intAV, evalParts, clipK, rowsK, buildSliceK, appK, appR, appT, appS, app1, appTail, rowsOf_sl, rowsAt, fillAV, mapEval, evalOp, ofValue, List.set_cons_succ, List.set_cons_zero, List.getElem?_cons_succ, List.getElem?_cons_zero, List.nil_append, List.length_cons, List.length_nil, List.getD_cons_succ, List.getD_cons_zero, List.all_nil, List.map_cons, List.map_nil, List.flatten_nil, List.reduceReplicate, List.contains_cons, List.contains_nil, Option.map_some, Option.map_none, Option.getD_some, Nat.reduceAdd, Nat.reduceLT, Nat.reduceLeDiff, Nat.reduceBEq, Nat.zero_add, Nat.zero_le, Nat.mul_one, and_self, Bool.or_false, Bool.or_true, Bool.false_eq_true, decide_false, beq_self_eq_true, eq_self, ↓reduceIte, seat_T, ob_getD, keepSt, keepTmps, keepObjs, kept, keepAV, keepLV_imm, keepLV_ap, keepObj, promote, promoteT, firstRegion, k13, T_56, T_22, T_5, T_3, h0, hz, hd, appE_ne (rob_ne hemp), rob_len, rob_all, hrl]
      refine Seat.loop_by (fun x : List UInt8 × Nat => L13_5 (.leaf (.ap 19 (rowsOfBytes (l ++ x.1)))) (.leaf (.imm (.int .u64 x.2))) (some (.tail 5 1 (l.length + x.1.length))) none []) (inv13 n) (fun x => x.2) ([], zz n) (by simp only [L13_5, List.append_nil, List.length_nil, Nat.add_zero]) ⟨rfl, hlt⟩ ?_
      rintro ⟨done, u⟩ ⟨hi, hu⟩
      simp only at hi hu
      have hlen := congrArg List.length hi
      rw [List.length_append] at hlen
      have hr : l.length + done.length + 1 ≤ room := room_one' (by omega)
      by_cases h : u < 128
      · have h' : ¬ (127 : Int) < (u : Int) := by omega
        rw [uenc_lo h] at hi hlen
        have e1 := lo_byte h
        have e2 : rowsOfBytes (l ++ done) ++ [[.int .u8 ((UInt8.ofNat u).toNat : Int)]] = rowsOfBytes (l ++ uenc (zz n)) := by rw [← rob_one, ← rob_append, List.append_assoc, hi]
        have e3 : l.length + done.length + 1 = l.length + (uenc (zz n)).length := by simp only [List.length_cons, List.length_nil] at hlen; omega
        simp only [L13_5, Seat.W_seq, Seat.W_region_false, Seat.W_exit, Seat.W_ret, Seat.cond_eq, Seat.condK_false, Seat.env_grow, Seat.rq_nil, Seat.rq_cons, Seat.rqK_some, Seat.seq_normal, Seat.seq_exit, Seat.blk_exit, loopEnd_exit, s_step, guardOf, s_guard_true, s_assign, s_move, s_bin, s_buildSlice, s_append, s_convert, convK, s_pure, s_setT, binK, binAV, intBin, boolAV, intAV, evalParts, clipK, rowsK, buildSliceK, out_ret, OutK, handed, renAV, renLV, renObj, backName, backUpd, appK, appR, appT, appE_c, appS, app2, appTail, strip_imm, stripAll, IV.norm, rowsOf_clip, rowsAt, resultsAV, resultAV, tupleOf, fillAV, setRange, mapEval, evalOp, ofValue, AV.leaves, solid_imm, List.set_cons_succ, List.set_cons_zero, List.getElem?_cons_succ, List.getElem?_cons_zero, List.nil_append, List.append_nil, List.length_cons, List.length_nil, List.getD_cons_succ, List.getD_cons_zero, List.all_cons, List.all_nil, List.map_cons, List.map_nil, List.drop_succ_cons, List.drop_zero, List.take_succ_cons, List.take_zero, List.drop_nil, List.take_nil, List.flatten_cons, List.flatten_nil, List.reduceReplicate, List.contains_nil, Option.getD_some, Nat.reduceAdd, Nat.reduceLT, Nat.reduceLeDiff, Nat.zero_add, Nat.mul_one, Nat.le_refl, and_self, Bool.and_self, decide_false, beq_self_eq_true, eq_self, gt_iff_lt, ↓reduceIte, seat_T, firstRegion, k13, T_56, T_22, T_5, h', e1, rob_len, List.length_append, hr]
        rw [e2, e3]
      · have h' : (127 : Int) < (u : Int) := by omega
        rw [uenc_hi h] at hi
        have e4 := tmod128 u
        have e5 := tdiv128 hu
        have e6 := add128 u
        have e7 : ¬ (128 : Int) = 0 := by decide
        have e2 : rowsOfBytes (l ++ done) ++ [[.int .u8 ((UInt8.ofNat (u % 128 + 128)).toNat : Int)]] = rowsOfBytes (l ++ (done ++ [UInt8.ofNat (u % 128 + 128)])) := by rw [← rob_one, ← rob_append, List.append_assoc]
        simp only [L13_5, Seat.W_seq, Seat.W_block, Seat.W_region_false, Seat.W_skip, Seat.cond_eq, Seat.condK_true, Seat.env_grow, Seat.rq_nil, Seat.rq_cons, Seat.rqK_some, Seat.seq_normal, Seat.blk_normal, loopEnd_normal, s_step, guardOf, s_guard_true, s_assign, s_move, s_bin, s_buildSlice, s_append, s_convert, convK, s_pure, s_setT, binK, binAV, intBin, boolAV, intAV, evalParts, clipK, rowsK, buildSliceK, appK, appR, appT, appE_c, appS, app2, appTail, strip_imm, stripAll, IV.norm, rowsOf_clip, rowsAt, fillAV, setRange, mapEval, evalOp, ofValue, AV.leaves, solid_imm, List.set_cons_succ, List.set_cons_zero, List.getElem?_cons_succ, List.getElem?_cons_zero, List.nil_append, List.append_nil, List.length_cons, List.length_nil, List.getD_cons_succ, List.getD_cons_zero, List.all_cons, List.all_nil, List.map_cons, List.map_nil, List.drop_succ_cons, List.drop_zero, List.take_succ_cons, List.take_zero, List.drop_nil, List.take_nil, List.flatten_cons, List.flatten_nil, List.reduceReplicate, List.contains_cons, List.contains_nil, Option.map_some, Option.map_none, Option.getD_some, Nat.reduceAdd, Nat.reduceLT, Nat.reduceLeDiff, Nat.reduceBEq, Nat.zero_add, Nat.mul_one, Nat.le_refl, and_self, Bool.and_self, Bool.or_false, Bool.or_true, Bool.false_eq_true, decide_true, decide_false, beq_self_eq_true, eq_self, gt_iff_lt, ↓reduceIte, seat_T, ob_getD, keepSt, keepTmps, keepObjs, kept, keepAV, keepLV_imm, keepLV_ap, keepObj, promote, promoteT, firstRegion, k13, T_56, T_22, T_5, h', rob_len, List.length_append, hr, e2, e4, e5, e6, e7]
        refine ⟨(done ++ [UInt8.ofNat (u % 128 + 128)], u / 128), ⟨by simp only; rw [List.append_assoc]; exact hi, by simp only; omega⟩, by simp only; omega, ?_⟩
        simp only [List.length_append, List.length_cons, List.length_nil, Nat.zero_add, Nat.add_assoc]

theorem bor_rob (l : List UInt8) : bytesOfRows (rowsOfBytes l) = some l := by
  induction l with
  | nil => rfl
  | cons x l ih =>
    have : rowsOfBytes (x :: l) = [.int .u8 (x.toNat : Int)] :: rowsOfBytes l := rfl
    rw [this]
    simp only [bytesOfRows, ih, Option.map_some]
    simp
theorem fn11 (a b : List UInt8) : (seat o).fn 11 [.leaf (.imm (.sl (rowsOfBytes a))), .leaf (.imm (.sl (rowsOfBytes b)))] = some (boolAV (decide (a = b))) := by
  by_cases h : a = b
  · subst h
    rw [decide_eq_true rfl]
    refine Seat.fn_of (f := fun11) (noS o 11 _ rfl) rfl rfl rfl ?_; simp only [fun11, Proofs.Try.f11, Seat.W_seq, Seat.W_region_false, Seat.rq_nil, Seat.rq_cons, Seat.rqK_some, Seat.seq_normal, s_step, guardOf, s_guard_true, s_assign, s_move, s_convert, convK, s_pure, s_setT, boolAV, intAV, evalOp, ofValue, List.set_cons_succ, List.set_cons_zero, List.getElem?_cons_succ, List.getElem?_cons_zero, List.cons_append, List.nil_append, List.length_cons, List.length_nil, List.reduceReplicate, Nat.reduceAdd, Nat.reduceSub, Nat.zero_add, seat_T]
    simp only [Seat.W_ret, Seat.rq_nil, Seat.rq_cons, Seat.rqK_some, Seat.seq_normal, Seat.ret_ret, Seat.RetK, s_step, guardOf, s_guard_true, s_assign, s_move, s_bin, s_convert, convK, s_pure, s_setT, binK, binAV, boolAV, strBin, IV.norm, lendArgs, lendArg, lend_imm, rowsOf_sl, resultsAV, resultAV, tupleOf, evalOp, List.set_cons_succ, List.set_cons_zero, List.getElem?_cons_succ, List.getElem?_cons_zero, Option.map_some, Option.some.injEq, beq_self_eq_true, eq_self, exists_eq_left', seat_T, T_22, T_9, T_5, bor_rob]
  · have h' : ¬ (ByteArray.mk a.toArray) = ⟨b.toArray⟩ := fun e => h (by injection e with e; simpa using e)
    rw [decide_eq_false h]
    refine Seat.fn_of (f := fun11) (noS o 11 _ rfl) rfl rfl rfl ?_; simp only [fun11, Proofs.Try.f11, Seat.W_seq, Seat.W_region_false, Seat.rq_nil, Seat.rq_cons, Seat.rqK_some, Seat.seq_normal, s_step, guardOf, s_guard_true, s_assign, s_move, s_convert, convK, s_pure, s_setT, boolAV, intAV, evalOp, ofValue, List.set_cons_succ, List.set_cons_zero, List.getElem?_cons_succ, List.getElem?_cons_zero, List.cons_append, List.nil_append, List.length_cons, List.length_nil, List.reduceReplicate, Nat.reduceAdd, Nat.reduceSub, Nat.zero_add, seat_T]
    simp only [Seat.W_ret, Seat.rq_nil, Seat.rq_cons, Seat.rqK_some, Seat.seq_normal, Seat.ret_ret, Seat.RetK, s_step, guardOf, s_guard_true, s_assign, s_move, s_bin, s_convert, convK, s_pure, s_setT, binK, binAV, boolAV, strBin, IV.norm, lendArgs, lendArg, lend_imm, rowsOf_sl, resultsAV, resultAV, tupleOf, evalOp, List.set_cons_succ, List.set_cons_zero, List.getElem?_cons_succ, List.getElem?_cons_zero, Option.map_some, Option.some.injEq, decide_false, eq_self, exists_eq_left', seat_T, str_beq, T_22, T_9, T_5, bor_rob, h']
end Go.Ai
