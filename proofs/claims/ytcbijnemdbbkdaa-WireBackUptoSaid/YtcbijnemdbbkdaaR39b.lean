/- What writing of numbers answers. No condition. -/
import Derived.Test.YtcbijnemdbbkdaaR39a
namespace Go.Ai
set_option linter.unusedVariables false
set_option linter.unusedSimpArgs false
set_option maxRecDepth 100000

/-- slices.Clone, proved by hand. -/
def clonePure : Nat → List AV → Option AV
  | 33, [.leaf (.imm (.sl r))] => if (r.all (fun q => q.length == 1) && decide (r.length ≤ 1099511627776)) = true then some (.leaf (.imm (.sl r))) else none
  | _, _ => none
theorem clone_ok (g : Nat) (a : List AV) (h : [33].contains g = false) : clonePure g a = none := by
  unfold clonePure
  split
  · simp at h
  · rfl
def o : Orac := { pure := clonePure, ok := clone_ok }
theorem fn33 (l : List UInt8) (h : l.length ≤ 1099511627776) : (seat o).fn 33 [.leaf (.imm (.sl (rowsOfBytes l)))] = some (.leaf (.imm (.sl (rowsOfBytes l)))) := by
  refine Seat.fn_oracle ?_
  have : clonePure 33 [.leaf (.imm (.sl (rowsOfBytes l)))] = some (.leaf (.imm (.sl (rowsOfBytes l)))) := by simp only [clonePure, rob_all, rob_len, h, decide_true, Bool.and_self, if_true]
  exact this

theorem fn32 (d : Nat) (ob : Nat → Option AObj) (l : List UInt8) : (seat o).fnO 32 d [.leaf (.imm (.sl (rowsOfBytes l)))] ob = some (.leaf (.clip (rowsOfBytes l)), []) := by
  have htk : (rowsOfBytes l).take l.length = rowsOfBytes l := List.take_of_length_le (by rw [rob_len]; exact Nat.le_refl _)
  refine Seat.fnO_of (f := fun32) (ids := []) rfl rfl rfl rfl rfl ?_
  simp only [fun32, Proofs.Try.f32, Seat.W_seq, Seat.W_region_false, Seat.rq_nil, Seat.rq_cons, Seat.rqK_some, Seat.seq_normal, s_step, guardOf, s_guard_true, s_assign, s_move, s_len, s_pure, s_setT, intAV, lenK, lenAV, renAV, renLV, indexIn, mapEval, evalOp, ofValue, List.set_cons_succ, List.set_cons_zero, List.getElem?_cons_succ, List.getElem?_cons_zero, List.cons_append, List.nil_append, List.append_nil, List.length_cons, List.length_nil, List.map_cons, List.map_nil, List.reduceReplicate, Option.map_none, Nat.reduceSub, Nat.zero_add, seat_T]
  simp only [Seat.W_ret, Seat.rq_nil, Seat.rq_cons, Seat.rqK_some, Seat.seq_normal, s_step, guardOf, s_guard_true, s_assign, s_move, s_slice, s_len, s_pure, s_setT, intAV, sliceStrK, sliceRows, cutRows, lenK, lenAV, out_ret, OutK, handed, renAV, renLV, backUpd, rowsOf_sl, resultsAV, resultAV, tupleOf, optEval, mapEval, evalOp, List.set_cons_succ, List.set_cons_zero, List.getElem?_cons_succ, List.getElem?_cons_zero, List.length_nil, List.map_cons, List.map_nil, List.drop_zero, Option.getD_some, Option.getD_none, Option.isSome_some, Int.toNat_natCast, Int.natCast_nonneg, Int.toNat_zero, and_self, eq_self, ↓reduceIte, seat_T, T_22, T_5, rob_len, Int.le_refl, rob_all, htk]

/-- The loop of putInt. -/
def inv31 (l : List UInt8) (n : Int) (x : List UInt8 × Nat) : Prop := x.1 ++ uenc x.2 = uenc (zz n) ∧ x.2 < 18446744073709551616

theorem fn31_ap (id d : Nat) (ob : Nat → Option AObj) (l : List UInt8) (n : Int) (h1 : -9223372036854775808 ≤ n) (h2 : n ≤ 9223372036854775807) (hl : l.length ≤ 549755813888) (ho : ob id = some (.tail 5 1 l.length)) :
    (seat o).fnO 31 d [.leaf (.ap id (rowsOfBytes l)), .leaf (.imm (.int .i64 n))] ob = some (.leaf (.ap id (rowsOfBytes (l ++ uenc (zz n)))), [(id, .tail 5 1 (l.length + (uenc (zz n)).length))]) := by
  have hz := zig h1 h2
  have hlt := zz_lt h1 h2
  have hle := uenc_len' hlt
  refine Seat.fnO_of (f := fun31) (ids := [id]) rfl rfl rfl rfl (by simp [idsAV, once, AV.ids, LV.ids, ho]) ?_
  simp only [fun31, Proofs.Try.f31, Seat.W_seq, Seat.W_region_false, Seat.rq_nil, Seat.rq_cons, Seat.rqK_some, Seat.seq_normal, s_step, guardOf, s_guard_true, s_assign, s_move, s_convert, convK, s_pure, s_setT, intAV, renAV, renLV, indexIn, evalOp, ofValue, List.set_cons_succ, List.set_cons_zero, List.getElem?_cons_succ, List.getElem?_cons_zero, List.cons_append, List.nil_append, List.length_cons, List.length_nil, List.map_cons, List.map_nil, List.reduceReplicate, Option.map_some, Option.map_none, Nat.reduceAdd, Nat.reduceSub, Nat.zero_add, eq_self, ↓reduceIte, seat_T]
  simp only [Seat.W_seq, Seat.W_block, Seat.W_loop, Seat.rq_nil, Seat.rq_cons, Seat.rqK_some, Seat.seq_normal, s_step, guardOf, s_guard_true, s_assign, s_move, s_bin, s_convert, convK, s_pure, s_setT, binK, binAV, intBin, intAV, renObj, evalOp, ofValue, List.set_cons_succ, List.set_cons_zero, List.getElem?_cons_succ, List.getElem?_cons_zero, List.getD_cons_succ, List.getD_cons_zero, List.contains_cons, List.contains_nil, Option.map_some, Option.map_none, Option.getD_some, Nat.reduceAdd, Nat.reduceLeDiff, Nat.reduceBEq, Nat.zero_add, Nat.le_refl, Bool.or_false, Bool.or_true, Bool.false_eq_true, decide_true, decide_false, beq_self_eq_true, eq_self, ↓reduceIte, seat_T, ob_getD, keepSt, keepTmps, keepObjs, kept, keepAV, keepLV_imm, keepLV_ap, keepObj, promote, promoteT, firstRegion, k31, T_56, T_3, shl1, shr63, hz, ho]
  refine Seat.loop_by (fun x : List UInt8 × Nat => L31_2 (.leaf (.ap 28 (rowsOfBytes (l ++ x.1)))) (.leaf (.imm (.int .u64 x.2))) none [some (.tail 5 1 (l.length + x.1.length))]) (inv31 l n) (fun x => x.2) ([], zz n) ?_ ⟨rfl, hlt⟩ ?_
  · simp only [L31_2, List.append_nil, List.length_nil, Nat.add_zero, List.cons_append, List.nil_append]
  rintro ⟨done, u⟩ ⟨hi, hu⟩
  simp only at hi hu
  have hlen := congrArg List.length hi
  rw [List.length_append] at hlen
  have hr : l.length + done.length + 1 ≤ room := room_one' (by omega)
  by_cases h : u < 128
  · have h' : ¬ (128 : Int) ≤ (u : Int) := by omega
    rw [uenc_lo h] at hi hlen
    have e1 := lo_byte h
    have e2 : rowsOfBytes (l ++ done) ++ [[.int .u8 ((UInt8.ofNat u).toNat : Int)]] = rowsOfBytes (l ++ uenc (zz n)) := by rw [← rob_one, ← rob_append, List.append_assoc, hi]
    have e3 : l.length + done.length + 1 = l.length + (uenc (zz n)).length := by simp only [List.length_cons, List.length_nil] at hlen; omega
    simp only [L31_2, Seat.W_seq, Seat.W_region_false, Seat.W_exit, Seat.W_ret, Seat.cond_eq, Seat.condK_false, Seat.env_grow, Seat.rq_nil, Seat.rq_cons, Seat.rqK_some, Seat.seq_normal, Seat.seq_exit, Seat.blk_exit, loopEnd_exit, s_step, guardOf, s_guard_true, s_assign, s_move, s_bin, s_buildSlice, s_append, s_convert, convK, s_pure, s_setT, binK, binAV, intBin, boolAV, intAV, evalParts, clipK, rowsK, buildSliceK, out_ret, OutK, handed, renAV, renLV, renObj, backName, backUpd, appK, appR, appT, appE_c, appS, app2, appTail, strip_imm, stripAll, IV.norm, rowsOf_clip, rowsAt, resultsAV, resultAV, tupleOf, fillAV, setRange, mapEval, evalOp, ofValue, AV.leaves, solid_imm, List.set_cons_succ, List.set_cons_zero, List.getElem?_cons_succ, List.getElem?_cons_zero, List.cons_append, List.nil_append, List.append_nil, List.length_cons, List.length_nil, List.getD_cons_succ, List.getD_cons_zero, List.all_cons, List.all_nil, List.map_cons, List.map_nil, List.drop_succ_cons, List.drop_zero, List.take_succ_cons, List.take_zero, List.drop_nil, List.take_nil, List.flatten_cons, List.flatten_nil, List.reduceReplicate, List.contains_nil, Option.getD_some, Nat.reduceAdd, Nat.reduceSub, Nat.reduceLT, Nat.reduceLeDiff, Nat.zero_add, Nat.add_zero, Nat.mul_one, Nat.le_refl, Nat.lt_irrefl, and_self, Bool.and_self, decide_false, beq_self_eq_true, eq_self, ge_iff_le, ↓reduceIte, seat_T, firstRegion, k31, T_56, T_22, T_5, h', e1, rob_len, List.length_append, hr]
    rw [e2, e3]
  · have h' : (128 : Int) ≤ (u : Int) := by omega
    have e1 := or128 u
    have e2 : rowsOfBytes (l ++ done) ++ [[.int .u8 ((UInt8.ofNat (u % 128 + 128)).toNat : Int)]] = rowsOfBytes (l ++ (done ++ [UInt8.ofNat (u % 128 + 128)])) := by rw [← rob_one, ← rob_append, List.append_assoc]
    simp only [L31_2, Seat.W_seq, Seat.W_block, Seat.W_region_false, Seat.W_skip, Seat.cond_eq, Seat.condK_true, Seat.env_grow, Seat.rq_nil, Seat.rq_cons, Seat.rqK_some, Seat.seq_normal, Seat.blk_normal, loopEnd_normal, s_step, guardOf, s_guard_true, s_assign, s_move, s_bin, s_buildSlice, s_append, s_convert, convK, s_pure, s_setT, binK, binAV, intBin, boolAV, intAV, evalParts, clipK, rowsK, buildSliceK, appK, appR, appT, appE_c, appS, app2, appTail, strip_imm, stripAll, IV.norm, rowsOf_clip, rowsAt, fillAV, setRange, mapEval, evalOp, ofValue, AV.leaves, solid_imm, List.set_cons_succ, List.set_cons_zero, List.getElem?_cons_succ, List.getElem?_cons_zero, List.cons_append, List.nil_append, List.append_nil, List.length_cons, List.length_nil, List.getD_cons_succ, List.getD_cons_zero, List.all_cons, List.all_nil, List.map_cons, List.map_nil, List.drop_succ_cons, List.drop_zero, List.take_succ_cons, List.take_zero, List.drop_nil, List.take_nil, List.flatten_cons, List.flatten_nil, List.reduceReplicate, List.contains_cons, List.contains_nil, Option.map_some, Option.map_none, Option.getD_some, Nat.reduceAdd, Nat.reduceLT, Nat.reduceLeDiff, Nat.reduceBEq, Nat.zero_add, Nat.mul_one, Nat.le_refl, and_self, Bool.and_self, Bool.or_false, Bool.or_true, Bool.false_eq_true, decide_true, decide_false, beq_self_eq_true, eq_self, ge_iff_le, ↓reduceIte, seat_T, ob_getD, keepSt, keepTmps, keepObjs, kept, keepAV, keepLV_imm, keepLV_ap, keepObj, promote, promoteT, firstRegion, k31, T_56, T_22, T_5, h', e1, rob_len, List.length_append, hr, shr7, fdiv128, e2]
    refine ⟨(done ++ [UInt8.ofNat (u % 128 + 128)], u / 128), ⟨?_, by simp only; omega⟩, by simp only; omega, ?_⟩
    · simp only
      rw [uenc_hi h] at hi
      rw [List.append_assoc]
      exact hi
    · simp only [List.length_append, List.length_cons, List.length_nil, Nat.zero_add, Nat.add_assoc]

theorem fn31_nil (d : Nat) (ob : Nat → Option AObj) (n : Int) (h1 : -9223372036854775808 ≤ n) (h2 : n ≤ 9223372036854775807) (hd : ob d = none) :
    (seat o).fnO 31 d [.leaf (.imm .nil), .leaf (.imm (.int .i64 n))] ob = some (.leaf (.ap d (rowsOfBytes (uenc (zz n)))), [(d, .tail 5 1 (uenc (zz n)).length)]) := by
  have hz := zig h1 h2
  have hlt := zz_lt h1 h2
  have hle := uenc_len' hlt
  refine Seat.fnO_of (f := fun31) (ids := []) rfl rfl rfl rfl rfl ?_
  simp only [fun31, Proofs.Try.f31, Seat.W_seq, Seat.W_region_false, Seat.rq_nil, Seat.rq_cons, Seat.rqK_some, Seat.seq_normal, s_step, guardOf, s_guard_true, s_assign, s_move, s_convert, convK, s_pure, s_setT, intAV, renAV, renLV, indexIn, evalOp, ofValue, List.set_cons_succ, List.set_cons_zero, List.getElem?_cons_succ, List.getElem?_cons_zero, List.cons_append, List.nil_append, List.append_nil, List.length_cons, List.length_nil, List.map_cons, List.map_nil, List.reduceReplicate, Option.map_none, Nat.reduceAdd, Nat.reduceSub, Nat.zero_add, seat_T]
  simp only [Seat.W_seq, Seat.W_block, Seat.W_loop, Seat.rq_nil, Seat.rq_cons, Seat.rqK_some, Seat.seq_normal, s_step, guardOf, s_guard_true, s_assign, s_move, s_bin, s_convert, convK, s_pure, s_setT, binK, binAV, intBin, intAV, evalOp, ofValue, List.set_cons_succ, List.set_cons_zero, List.getElem?_cons_succ, List.getElem?_cons_zero, List.length_cons, List.length_nil, List.getD_cons_succ, List.getD_cons_zero, List.contains_cons, List.contains_nil, Option.map_some, Option.map_none, Option.getD_some, Nat.reduceAdd, Nat.reduceLT, Nat.reduceLeDiff, Nat.reduceBEq, Nat.zero_add, Bool.or_false, Bool.or_true, Bool.false_eq_true, decide_false, beq_self_eq_true, eq_self, ↓reduceIte, seat_T, ob_getD, keepSt, keepTmps, keepObjs, kept, keepAV, keepLV_imm, promote, promoteT, seedLV, seedObj, firstRegion, k31, T_56, T_3, shl1, shr63, hz, hd]
  refine Seat.loop_by (fun x : List UInt8 × Nat => L31_2 (.leaf (.ap 20 (rowsOfBytes x.1))) (.leaf (.imm (.int .u64 x.2))) (some (.tail 5 1 x.1.length)) []) (inv31 [] n) (fun x => x.2) ([], zz n) rfl ⟨rfl, hlt⟩ ?_
  rintro ⟨done, u⟩ ⟨hi, hu⟩
  simp only at hi hu
  have hlen := congrArg List.length hi
  rw [List.length_append] at hlen
  have hr : done.length + 1 ≤ room := room_one' (by omega)
  by_cases h : u < 128
  · have h' : ¬ (128 : Int) ≤ (u : Int) := by omega
    rw [uenc_lo h] at hi hlen
    have e1 := lo_byte h
    have e2 : rowsOfBytes done ++ [[.int .u8 ((UInt8.ofNat u).toNat : Int)]] = rowsOfBytes (uenc (zz n)) := by rw [← rob_one, ← rob_append, hi]
    have e3 : done.length + 1 = (uenc (zz n)).length := by simp only [List.length_cons, List.length_nil] at hlen; omega
    simp only [L31_2, Seat.W_seq, Seat.W_region_false, Seat.W_exit, Seat.W_ret, Seat.cond_eq, Seat.condK_false, Seat.env_grow, Seat.rq_nil, Seat.rq_cons, Seat.rqK_some, Seat.seq_normal, Seat.seq_exit, Seat.blk_exit, loopEnd_exit, s_step, guardOf, s_guard_true, s_assign, s_move, s_bin, s_buildSlice, s_append, s_convert, convK, s_pure, s_setT, binK, binAV, intBin, boolAV, intAV, evalParts, clipK, rowsK, buildSliceK, out_ret, OutK, handed, renAV, renLV, renObj, backName, backUpd, appK, appR, appT, appE_c, appS, app2, appTail, strip_imm, stripAll, IV.norm, rowsOf_clip, rowsAt, resultsAV, resultAV, tupleOf, fillAV, setRange, mapEval, evalOp, ofValue, AV.leaves, solid_imm, List.set_cons_succ, List.set_cons_zero, List.getElem?_cons_succ, List.getElem?_cons_zero, List.nil_append, List.append_nil, List.length_cons, List.length_nil, List.getD_cons_succ, List.getD_cons_zero, List.all_cons, List.all_nil, List.map_cons, List.map_nil, List.drop_succ_cons, List.drop_zero, List.take_succ_cons, List.take_zero, List.drop_nil, List.take_nil, List.flatten_cons, List.flatten_nil, List.reduceReplicate, List.contains_nil, Option.getD_some, Nat.reduceAdd, Nat.reduceLT, Nat.reduceLeDiff, Nat.zero_add, Nat.mul_one, Nat.le_refl, and_self, Bool.and_self, decide_false, beq_self_eq_true, eq_self, ge_iff_le, ↓reduceIte, seat_T, firstRegion, k31, T_56, T_22, T_5, h', e1, rob_len, hr]
    rw [e2, e3]
  · have h' : (128 : Int) ≤ (u : Int) := by omega
    have e1 := or128 u
    have e2 : rowsOfBytes done ++ [[.int .u8 ((UInt8.ofNat (u % 128 + 128)).toNat : Int)]] = rowsOfBytes (done ++ [UInt8.ofNat (u % 128 + 128)]) := by rw [← rob_one, ← rob_append]
    simp only [L31_2, Seat.W_seq, Seat.W_block, Seat.W_region_false, Seat.W_skip, Seat.cond_eq, Seat.condK_true, Seat.env_grow, Seat.rq_nil, Seat.rq_cons, Seat.rqK_some, Seat.seq_normal, Seat.blk_normal, loopEnd_normal, s_step, guardOf, s_guard_true, s_assign, s_move, s_bin, s_buildSlice, s_append, s_convert, convK, s_pure, s_setT, binK, binAV, intBin, boolAV, intAV, evalParts, clipK, rowsK, buildSliceK, appK, appR, appT, appE_c, appS, app2, appTail, strip_imm, stripAll, IV.norm, rowsOf_clip, rowsAt, fillAV, setRange, mapEval, evalOp, ofValue, AV.leaves, solid_imm, List.set_cons_succ, List.set_cons_zero, List.getElem?_cons_succ, List.getElem?_cons_zero, List.nil_append, List.append_nil, List.length_cons, List.length_nil, List.getD_cons_succ, List.getD_cons_zero, List.all_cons, List.all_nil, List.map_cons, List.map_nil, List.drop_succ_cons, List.drop_zero, List.take_succ_cons, List.take_zero, List.drop_nil, List.take_nil, List.flatten_cons, List.flatten_nil, List.reduceReplicate, List.contains_cons, List.contains_nil, Option.map_some, Option.getD_some, Nat.reduceAdd, Nat.reduceLT, Nat.reduceLeDiff, Nat.reduceBEq, Nat.zero_add, Nat.mul_one, Nat.le_refl, and_self, Bool.and_self, Bool.or_false, Bool.or_true, Bool.false_eq_true, decide_true, decide_false, beq_self_eq_true, eq_self, ge_iff_le, ↓reduceIte, seat_T, ob_getD, keepSt, keepTmps, keepObjs, kept, keepAV, keepLV_imm, keepLV_ap, keepObj, promote, promoteT, firstRegion, k31, T_56, T_22, T_5, h', e1, rob_len, hr, shr7, fdiv128, e2]
    refine ⟨(done ++ [UInt8.ofNat (u % 128 + 128)], u / 128), ⟨?_, by simp only; omega⟩, by simp only; omega, ?_⟩
    · simp only
      rw [uenc_hi h] at hi
      rw [List.append_assoc]
      exact hi
    · simp only [List.length_append, List.length_cons, List.length_nil, Nat.zero_add]

def S31 (l : List UInt8) : Bool × List UInt8 × Nat → St
  | (true, _, u) => L31_2 (.leaf (.clip (rowsOfBytes l))) (.leaf (.imm (.int .u64 u))) none []
  | (false, done, u) => L31_2 (.leaf (.ap 20 (rowsOfBytes (l ++ done)))) (.leaf (.imm (.int .u64 u))) (some (.tail 5 1 (l.length + done.length))) []
theorem fn31_clip (d : Nat) (ob : Nat → Option AObj) (l : List UInt8) (n : Int) (h1 : -9223372036854775808 ≤ n) (h2 : n ≤ 9223372036854775807) (hl : l.length ≤ 549755813888) (hd : ob d = none) :
    (seat o).fnO 31 d [.leaf (.clip (rowsOfBytes l)), .leaf (.imm (.int .i64 n))] ob = some (.leaf (.ap d (rowsOfBytes (l ++ uenc (zz n)))), [(d, .tail 5 1 (l.length + (uenc (zz n)).length))]) := by
  have hz := zig h1 h2
  have hlt := zz_lt h1 h2
  have hle := uenc_len' hlt
  refine Seat.fnO_of (f := fun31) (ids := []) rfl rfl rfl rfl rfl ?_
  simp only [fun31, Proofs.Try.f31, Seat.W_seq, Seat.W_region_false, Seat.rq_nil, Seat.rq_cons, Seat.rqK_some, Seat.seq_normal, s_step, guardOf, s_guard_true, s_assign, s_move, s_convert, convK, s_pure, s_setT, intAV, renAV, renLV, indexIn, evalOp, ofValue, List.set_cons_succ, List.set_cons_zero, List.getElem?_cons_succ, List.getElem?_cons_zero, List.cons_append, List.nil_append, List.append_nil, List.length_cons, List.length_nil, List.map_cons, List.map_nil, List.reduceReplicate, Option.map_none, Nat.reduceAdd, Nat.reduceSub, Nat.zero_add, seat_T]
  simp only [Seat.W_seq, Seat.W_block, Seat.W_loop, Seat.rq_nil, Seat.rq_cons, Seat.rqK_some, Seat.seq_normal, s_step, guardOf, s_guard_true, s_assign, s_move, s_bin, s_convert, convK, s_pure, s_setT, binK, binAV, intBin, intAV, evalOp, ofValue, List.set_cons_succ, List.set_cons_zero, List.getElem?_cons_succ, List.getElem?_cons_zero, List.getD_cons_succ, List.getD_cons_zero, List.contains_cons, List.contains_nil, Option.map_some, Option.map_none, Option.getD_some, Nat.reduceAdd, Nat.reduceLeDiff, Nat.reduceBEq, Nat.zero_add, Bool.or_false, Bool.or_true, Bool.false_eq_true, decide_false, beq_self_eq_true, eq_self, ↓reduceIte, seat_T, ob_getD, keepSt, keepTmps, keepObjs, kept, keepAV, keepLV_imm, keepLV_clip, promote, promoteT, firstRegion, k31, T_56, T_3, shl1, shr63, hz, hd]
  refine Seat.loop_by (S31 l) (fun x => inv31 l n x.2 ∧ (x.1 = true → x.2.1 = [])) (fun x => x.2.2) (true, [], zz n) rfl ⟨⟨rfl, hlt⟩, fun _ => rfl⟩ ?_
  rintro ⟨b, done, u⟩ ⟨⟨hi, hu⟩, hb⟩
  simp only at hi hu hb
  have hlen := congrArg List.length hi
  rw [List.length_append] at hlen
  have hr : l.length + done.length + 1 ≤ room := room_one' (by omega)
  have hr0 : l.length + 1 ≤ room := room_one' (by omega)
  by_cases h : u < 128
  · have h' : ¬ (128 : Int) ≤ (u : Int) := by omega
    rw [uenc_lo h] at hi hlen
    have e1 := lo_byte h
    cases b with
    | false =>
      have e2 : rowsOfBytes (l ++ done) ++ [[.int .u8 ((UInt8.ofNat u).toNat : Int)]] = rowsOfBytes (l ++ uenc (zz n)) := by rw [← rob_one, ← rob_append, List.append_assoc, hi]
      have e3 : l.length + done.length + 1 = l.length + (uenc (zz n)).length := by simp only [List.length_cons, List.length_nil] at hlen; omega
      simp only [S31, L31_2, Seat.W_seq, Seat.W_region_false, Seat.W_exit, Seat.W_ret, Seat.cond_eq, Seat.condK_false, Seat.env_grow, Seat.rq_nil, Seat.rq_cons, Seat.rqK_some, Seat.seq_normal, Seat.seq_exit, Seat.blk_exit, loopEnd_exit, s_step, guardOf, s_guard_true, s_assign, s_move, s_bin, s_buildSlice, s_append, s_convert, convK, s_pure, s_setT, binK, binAV, intBin, boolAV, intAV, evalParts, clipK, rowsK, buildSliceK, out_ret, OutK, handed, renAV, renLV, renObj, backName, backUpd, appK, appR, appT, appE_c, appS, app2, appTail, strip_imm, stripAll, IV.norm, rowsOf_clip, rowsAt, resultsAV, resultAV, tupleOf, fillAV, setRange, mapEval, evalOp, ofValue, AV.leaves, solid_imm, List.set_cons_succ, List.set_cons_zero, List.getElem?_cons_succ, List.getElem?_cons_zero, List.nil_append, List.append_nil, List.length_cons, List.length_nil, List.getD_cons_succ, List.getD_cons_zero, List.all_cons, List.all_nil, List.map_cons, List.map_nil, List.drop_succ_cons, List.drop_zero, List.take_succ_cons, List.take_zero, List.drop_nil, List.take_nil, List.flatten_cons, List.flatten_nil, List.reduceReplicate, List.contains_nil, Option.getD_some, Nat.reduceAdd, Nat.reduceLT, Nat.reduceLeDiff, Nat.zero_add, Nat.mul_one, Nat.le_refl, and_self, Bool.and_self, decide_false, beq_self_eq_true, eq_self, ge_iff_le, ↓reduceIte, seat_T, firstRegion, k31, T_56, T_22, T_5, h', e1, rob_len, List.length_append, hr]
      rw [e2, e3]
    | true =>
      have hb := hb rfl
      subst hb
      have e2 : rowsOfBytes l ++ [[.int .u8 ((UInt8.ofNat u).toNat : Int)]] = rowsOfBytes (l ++ uenc (zz n)) := by rw [← rob_one, ← rob_append, ← hi]; rfl
      have e3 : l.length + 1 = l.length + (uenc (zz n)).length := by simp only [List.length_cons, List.length_nil] at hlen; omega
      simp only [S31, L31_2, Seat.W_seq, Seat.W_region_false, Seat.W_exit, Seat.W_ret, Seat.cond_eq, Seat.condK_false, Seat.env_grow, Seat.rq_nil, Seat.rq_cons, Seat.rqK_some, Seat.seq_normal, Seat.seq_exit, Seat.blk_exit, loopEnd_exit, s_step, guardOf, s_guard_true, s_assign, s_move, s_bin, s_buildSlice, s_append, s_convert, convK, s_pure, s_setT, binK, binAV, intBin, boolAV, intAV, evalParts, clipK, rowsK, buildSliceK, out_ret, OutK, handed, renAV, renLV, renObj, backName, backUpd, appK, appR, appT, appE_c, appS, app1, appTail, strip_imm, stripAll, IV.norm, rowsOf_clip, rowsAt, resultsAV, resultAV, tupleOf, fillAV, setRange, mapEval, evalOp, ofValue, AV.leaves, solid_imm, List.set_cons_succ, List.set_cons_zero, List.getElem?_cons_succ, List.getElem?_cons_zero, List.nil_append, List.append_nil, List.length_cons, List.length_nil, List.getD_cons_succ, List.getD_cons_zero, List.all_cons, List.all_nil, List.map_cons, List.map_nil, List.drop_succ_cons, List.drop_zero, List.take_succ_cons, List.take_zero, List.drop_nil, List.take_nil, List.flatten_cons, List.flatten_nil, List.reduceReplicate, List.contains_nil, Option.getD_some, Nat.reduceAdd, Nat.reduceLT, Nat.reduceLeDiff, Nat.zero_add, Nat.mul_one, Nat.le_refl, and_self, Bool.and_self, Bool.false_eq_true, decide_false, beq_self_eq_true, eq_self, ge_iff_le, ↓reduceIte, seat_T, firstRegion, k31, T_56, T_22, T_5, h', e1, rob_len, rob_all, List.length_append, hr0]
      rw [e2, e3]
  · have h' : (128 : Int) ≤ (u : Int) := by omega
    have e1 := or128 u
    rw [uenc_hi h] at hi
    cases b with
    | false =>
      have e2 : rowsOfBytes (l ++ done) ++ [[.int .u8 ((UInt8.ofNat (u % 128 + 128)).toNat : Int)]] = rowsOfBytes (l ++ (done ++ [UInt8.ofNat (u % 128 + 128)])) := by rw [← rob_one, ← rob_append, List.append_assoc]
      simp only [S31, L31_2, Seat.W_seq, Seat.W_block, Seat.W_region_false, Seat.W_skip, Seat.cond_eq, Seat.condK_true, Seat.env_grow, Seat.rq_nil, Seat.rq_cons, Seat.rqK_some, Seat.seq_normal, Seat.blk_normal, loopEnd_normal, s_step, guardOf, s_guard_true, s_assign, s_move, s_bin, s_buildSlice, s_append, s_convert, convK, s_pure, s_setT, binK, binAV, intBin, boolAV, intAV, evalParts, clipK, rowsK, buildSliceK, appK, appR, appT, appE_c, appS, app2, appTail, strip_imm, stripAll, IV.norm, rowsOf_clip, rowsAt, fillAV, setRange, mapEval, evalOp, ofValue, AV.leaves, solid_imm, List.set_cons_succ, List.set_cons_zero, List.getElem?_cons_succ, List.getElem?_cons_zero, List.nil_append, List.append_nil, List.length_cons, List.length_nil, List.getD_cons_succ, List.getD_cons_zero, List.all_cons, List.all_nil, List.map_cons, List.map_nil, List.drop_succ_cons, List.drop_zero, List.take_succ_cons, List.take_zero, List.drop_nil, List.take_nil, List.flatten_cons, List.flatten_nil, List.reduceReplicate, List.contains_cons, List.contains_nil, Option.map_some, Option.getD_some, Nat.reduceAdd, Nat.reduceLT, Nat.reduceLeDiff, Nat.reduceBEq, Nat.zero_add, Nat.mul_one, Nat.le_refl, and_self, Bool.and_self, Bool.or_false, Bool.or_true, Bool.false_eq_true, decide_true, decide_false, beq_self_eq_true, eq_self, ge_iff_le, ↓reduceIte, seat_T, ob_getD, keepSt, keepTmps, keepObjs, kept, keepAV, keepLV_imm, keepLV_ap, keepObj, promote, promoteT, firstRegion, k31, T_56, T_22, T_5, h', e1, rob_len, List.length_append, hr, shr7, fdiv128, e2]
      refine ⟨(false, done ++ [UInt8.ofNat (u % 128 + 128)], u / 128), ⟨⟨by simp only; rw [List.append_assoc]; exact hi, by simp only; omega⟩, fun h => by cases h⟩, by simp only; omega, ?_⟩
      simp only [List.length_append, List.length_cons, List.length_nil, Nat.zero_add, Nat.add_assoc]
    | true =>
      have hb := hb rfl
      subst hb
      have e2 : rowsOfBytes l ++ [[.int .u8 ((UInt8.ofNat (u % 128 + 128)).toNat : Int)]] = rowsOfBytes (l ++ [UInt8.ofNat (u % 128 + 128)]) := by rw [← rob_one, ← rob_append]
      simp only [S31, L31_2, Seat.W_seq, Seat.W_block, Seat.W_region_false, Seat.W_skip, Seat.cond_eq, Seat.condK_true, Seat.env_grow, Seat.rq_nil, Seat.rq_cons, Seat.rqK_some, Seat.seq_normal, Seat.blk_normal, loopEnd_normal, s_step, guardOf, s_guard_true, s_assign, s_move, s_bin, s_buildSlice, s_append, s_convert, convK, s_pure, s_setT, binK, binAV, intBin, boolAV, intAV, evalParts, clipK, rowsK, buildSliceK, appK, appR, appT, appE_c, appS, app1, appTail, strip_imm, stripAll, IV.norm, rowsOf_clip, rowsAt, fillAV, setRange, mapEval, evalOp, ofValue, AV.leaves, solid_imm, List.set_cons_succ, List.set_cons_zero, List.getElem?_cons_succ, List.getElem?_cons_zero, List.nil_append, List.append_nil, List.length_cons, List.length_nil, List.getD_cons_succ, List.getD_cons_zero, List.all_cons, List.all_nil, List.map_cons, List.map_nil, List.drop_succ_cons, List.drop_zero, List.take_succ_cons, List.take_zero, List.drop_nil, List.take_nil, List.flatten_cons, List.flatten_nil, List.reduceReplicate, List.contains_cons, List.contains_nil, Option.map_some, Option.getD_some, Nat.reduceAdd, Nat.reduceLT, Nat.reduceLeDiff, Nat.reduceBEq, Nat.zero_add, Nat.mul_one, Nat.le_refl, and_self, Bool.and_self, Bool.or_false, Bool.or_true, Bool.false_eq_true, decide_true, decide_false, beq_self_eq_true, eq_self, ge_iff_le, ↓reduceIte, seat_T, ob_getD, keepSt, keepTmps, keepObjs, kept, keepAV, keepLV_imm, keepLV_ap, keepObj, promote, promoteT, firstRegion, k31, T_56, T_22, T_5, h', e1, rob_len, rob_all, List.length_append, hr0, shr7, fdiv128, e2]
      refine ⟨(false, [UInt8.ofNat (u % 128 + 128)], u / 128), ⟨⟨hi, by simp only; omega⟩, fun h => by cases h⟩, by simp only; omega, ?_⟩
      simp only [List.length_cons, List.length_nil, Nat.zero_add]

theorem fn12 (d : Nat) (ob : Nat → Option AObj) (l : List UInt8) (n : Int) (h1 : -9223372036854775808 ≤ n) (h2 : n ≤ 9223372036854775807) (hl : l.length ≤ 549755813888) (hd : ob d = none) :
    (seat o).fnO 12 d [.leaf (.imm (.sl (rowsOfBytes l))), .leaf (.imm (.int .i64 n))] ob = some (.leaf (.ap d (rowsOfBytes (l ++ uenc (zz n)))), [(d, .tail 5 1 (l.length + (uenc (zz n)).length))]) := by
  have h33 := fn33 l (by omega)
  refine Seat.fnO_of (f := fun12) (ids := []) rfl rfl rfl rfl rfl ?_
  simp only [fun12, Proofs.Try.f12, Seat.W_seq, Seat.W_region_false, Seat.rq_nil, Seat.rq_cons, Seat.rqK_some, Seat.seq_normal, s_step, guardOf, s_guard_true, s_assign, s_move, call_33, s_pure, s_setT, callS, callP, renAV, renLV, indexIn, stripArgs, AV.stripA, strip_imm, IV.norm, mapEval, evalOp, ofValue, List.set_cons_succ, List.set_cons_zero, List.getElem?_cons_succ, List.getElem?_cons_zero, List.cons_append, List.nil_append, List.append_nil, List.length_cons, List.length_nil, List.map_cons, List.map_nil, List.reduceReplicate, Option.map_some, Option.map_none, Nat.reduceAdd, Nat.reduceSub, Nat.zero_add, seat_T]
  simp only [Seat.W_ret, Seat.rq_nil, Seat.rq_cons, Seat.rqK_some, Seat.seq_normal, s_step, guardOf, s_guard_true, s_assign, s_move, call_31, call_32, s_pure, s_setT, callOS, callOD, upds, out_ret, OutK, handed, renAV, renLV, renObj, backName, backUpd, resultsAV, resultAV, tupleOf, mapEval, evalOp, idsOf, AV.ids, LV.ids, LV.ids.idsAll, List.set_cons_succ, List.set_cons_zero, List.getElem?_cons_succ, List.getElem?_cons_zero, List.nil_append, List.append_nil, List.length_cons, List.length_nil, List.getD_cons_succ, List.getD_cons_zero, List.all_cons, List.all_nil, List.map_cons, List.map_nil, List.contains_cons, List.contains_nil, Nat.reduceAdd, Nat.reduceLT, Nat.reduceLeDiff, Nat.zero_add, Bool.and_self, Bool.or_false, decide_true, beq_self_eq_true, eq_self, ↓reduceIte, seat_T, ob_getD, h33, fn32, fn31_clip _ _ l n h1 h2 hl, hd]
theorem fn12_nil (d : Nat) (ob : Nat → Option AObj) (n : Int) (h1 : -9223372036854775808 ≤ n) (h2 : n ≤ 9223372036854775807) (hd : ob d = none) :
    (seat o).fnO 12 d [.leaf (.imm .nil), .leaf (.imm (.int .i64 n))] ob = some (.leaf (.ap d (rowsOfBytes (uenc (zz n)))), [(d, .tail 5 1 (uenc (zz n)).length)]) := by
  have h33 := fn33 [] (by decide)
  have h32 := fn32 7
  have h31 := fn31_clip 9
  refine Seat.fnO_of (f := fun12) (ids := []) rfl rfl rfl rfl rfl ?_
  simp only [fun12, Proofs.Try.f12, Seat.W_seq, Seat.W_region_false, Seat.rq_nil, Seat.rq_cons, Seat.rqK_some, Seat.seq_normal, s_step, guardOf, s_guard_true, s_assign, s_move, call_33, s_pure, s_setT, callS, callP, renAV, renLV, indexIn, stripArgs, AV.stripA, strip_imm, IV.norm, mapEval, evalOp, ofValue, List.set_cons_succ, List.set_cons_zero, List.getElem?_cons_succ, List.getElem?_cons_zero, List.cons_append, List.nil_append, List.append_nil, List.length_cons, List.length_nil, List.map_cons, List.map_nil, List.reduceReplicate, Option.map_some, Option.map_none, Nat.reduceAdd, Nat.reduceSub, Nat.zero_add, seat_T]
  have e0 : rowsOfBytes [] = [] := rfl
  have h32' : ∀ d ob, (seat o).fnO 32 d [.leaf (.imm (.sl []))] ob = some (.leaf (.clip []), []) := fun d ob => fn32 d ob []
  have h31' : ∀ d ob, ob d = none → (seat o).fnO 31 d [.leaf (.clip []), .leaf (.imm (.int .i64 n))] ob = some (.leaf (.ap d (rowsOfBytes (uenc (zz n)))), [(d, .tail 5 1 (uenc (zz n)).length)]) := fun d ob hd => by
    have := fn31_clip d ob [] n h1 h2 (by decide) hd
    simpa [e0] using this
  rw [e0] at h33
  simp only [Seat.W_ret, Seat.rq_nil, Seat.rq_cons, Seat.rqK_some, Seat.seq_normal, s_step, guardOf, s_guard_true, s_assign, s_move, call_31, call_32, s_pure, s_setT, callOS, callOD, upds, out_ret, OutK, handed, renAV, renLV, renObj, backName, backUpd, resultsAV, resultAV, tupleOf, mapEval, evalOp, idsOf, AV.ids, LV.ids, LV.ids.idsAll, List.set_cons_succ, List.set_cons_zero, List.getElem?_cons_succ, List.getElem?_cons_zero, List.nil_append, List.append_nil, List.length_cons, List.length_nil, List.getD_cons_succ, List.getD_cons_zero, List.all_cons, List.all_nil, List.map_cons, List.map_nil, List.contains_cons, List.contains_nil, Nat.reduceAdd, Nat.reduceLT, Nat.reduceLeDiff, Nat.zero_add, Bool.and_self, Bool.or_false, decide_true, beq_self_eq_true, eq_self, ↓reduceIte, seat_T, ob_getD, h33, h32', h31', hd]
end Go.Ai
