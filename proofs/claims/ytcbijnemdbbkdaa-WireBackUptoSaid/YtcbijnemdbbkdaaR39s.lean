/- The law WireReads, as what the abstract run answers. -/
import Derived.Test.YtcbijnemdbbkdaaR39r
namespace Go.Ai
set_option linter.unusedVariables false
set_option linter.unusedSimpArgs false
set_option maxRecDepth 100000
set_option maxHeartbeats 4000000

theorem ref26 (bs : List UInt8) (a : Int) (hl : bs.length ≤ 16777216) : (seat o).fn 26 [.leaf (.imm (.sl (rowsOfBytes bs))), .leaf (.imm (.int .i64 a))] = some (.tup [(if (rCom bs (start bs a)).2.2 then zcom else (rCom bs (start bs a)).1).av, intAV .i64 (eP (rCom bs (start bs a)).2), intAV .i64 (eE (rCom bs (start bs a)).2)]) := by
  rw [fn26 bs a hl]
  unfold gC
  cases hb : (rCom bs (start bs a)).2.2 with
  | true => rw [eP_bad hb, eE_bad hb]; rfl
  | false => rw [eP_ok hb, eE_ok hb]; rfl
theorem fn41 (bs : List UInt8) (hl : bs.length ≤ 16777216) : (seat o).fn 41 [.leaf (.imm (.sl (rowsOfBytes bs))), .leaf (.imm (.int .i64 0))] = some (.tup [.leaf (.imm (.sl (coms (if (rComs bs).2.2 then [] else (rComs bs).1)))), intAV .i64 (eP (rComs bs).2), intAV .i64 (eE (rComs bs).2)]) := by
  have z := thirteen
  have h43 := fn43 bs 0 hl
  have hg := start_good bs 0
  have hcl := rC_le hg
  have hcg := rC_good hg
  obtain ⟨F, hF⟩ : ∃ F, F = rComs bs := ⟨_, rfl⟩
  rw [← hF]
  unfold rComs at hF
  obtain ⟨N, hN⟩ : ∃ N, N = (rC bs (start bs 0)).1 := ⟨_, rfl⟩
  obtain ⟨R, hR⟩ : ∃ R, R = (rC bs (start bs 0)).2 := ⟨_, rfl⟩
  rw [← hN, ← hR] at h43 hF
  rw [← hN] at hcl
  rw [← hR] at hcg
  simp only [tupI, intAV] at h43
  cases hb0 : R.2 with
  | true =>
    rw [eP_bad hb0, eE_bad hb0] at h43
    have bF : F.2.2 = true := by rw [hF, rL_bad hb0]; exact hb0
    rw [bF, eP_bad bF, eE_bad bF]
    refine Seat.fn_of (f := fun41) (noS o 41 _ rfl) rfl rfl rfl ?_; simp only [fun41, Proofs.Try.f41, Seat.W_seq, Seat.W_region_false, Seat.rq_nil, Seat.rq_cons, Seat.rqK_some, Seat.seq_normal, s_step, guardOf, s_guard_true, s_assign, s_move, call_43, s_pure, s_setT, intAV, callS, callP, stripArgs, AV.stripA, strip_imm, IV.norm, mapEval, evalOp, ofValue, List.set_cons_succ, List.set_cons_zero, List.getElem?_cons_succ, List.getElem?_cons_zero, List.cons_append, List.nil_append, List.length_cons, List.length_nil, List.reduceReplicate, Option.map_some, Nat.reduceAdd, Nat.reduceSub, Nat.zero_add, eq_self, ↓reduceIte, seat_T]
    simp only [Seat.W_seq, Seat.W_region_false, Seat.W_ret, Seat.cond_eq, Seat.condK_true, Seat.rq_nil, Seat.rq_cons, Seat.rqK_some, Seat.seq_normal, Seat.seq_ret, Seat.ret_ret, Seat.RetK, s_step, guardOf, s_guard_true, s_assign, s_move, s_bin, s_extract, s_pure, s_setT, binK, binAV, intBin, boolAV, extractK, IV.norm, lendArgs, lendArg, lend_imm, resultsAV, resultAV, tupleOf, evalOp, ofValue, List.set_cons_succ, List.set_cons_zero, List.getElem?_cons_succ, List.getElem?_cons_zero, List.map_nil, Option.map_some, Option.some.injEq, Bool.not_false, decide_false, eq_self, ↓reduceIte, exists_eq_left', seat_T, int_bne, h43, z, coms]
  | false =>
    rw [eP_ok hb0, eE_ok hb0] at h43
    refine Seat.fn_of (f := fun41) (noS o 41 _ rfl) rfl rfl rfl ?_; simp only [fun41, Proofs.Try.f41, Seat.W_seq, Seat.W_region_false, Seat.rq_nil, Seat.rq_cons, Seat.rqK_some, Seat.seq_normal, s_step, guardOf, s_guard_true, s_assign, s_move, call_43, s_pure, s_setT, intAV, callS, callP, stripArgs, AV.stripA, strip_imm, IV.norm, mapEval, evalOp, ofValue, List.set_cons_succ, List.set_cons_zero, List.getElem?_cons_succ, List.getElem?_cons_zero, List.cons_append, List.nil_append, List.length_cons, List.length_nil, List.reduceReplicate, Option.map_some, Nat.reduceAdd, Nat.reduceSub, Nat.zero_add, seat_T]
    simp only [Seat.W_seq, Seat.W_block, Seat.W_loop, Seat.W_region_false, Seat.W_skip, Seat.cond_eq, Seat.condK_false, Seat.rq_nil, Seat.rq_cons, Seat.rqK_some, Seat.seq_normal, s_step, guardOf, s_guard_true, s_assign, s_move, s_bin, s_extract, s_pure, s_setT, binK, binAV, intBin, boolAV, extractK, evalOp, ofValue, List.set_cons_succ, List.set_cons_zero, List.getElem?_cons_succ, List.getElem?_cons_zero, List.length_cons, List.length_nil, List.getD_cons_succ, List.getD_cons_zero, List.contains_cons, List.contains_nil, Option.map_none, Option.getD_some, Nat.reduceAdd, Nat.reduceLT, Nat.reduceLeDiff, Nat.reduceBEq, Nat.zero_add, Bool.or_false, Bool.or_true, Bool.not_true, Bool.false_eq_true, decide_true, decide_false, beq_self_eq_true, eq_self, ↓reduceIte, seat_T, ob_getD, int_bne, keepSt, keepTmps, keepObjs, kept, keepAV, keepLV_imm, promote, promoteT, seedLV, seedObj, firstRegion, k41, h43]
    refine Seat.loop_by (fun s : List Com × Rs => L41_6 (.leaf (.imm (.sl (rowsOfBytes bs)))) (intAV .i64 (N : Int)) (intAV .i64 s.2.1) (.leaf (.ap 41 (coms s.1))) (intAV .i64 (s.1.length : Int)) none (some (.tail 36 5 s.1.length))) (fun s => Good bs s.2 ∧ s.2.2 = false ∧ s.1.length ≤ N ∧ (s.1 ++ (rL (rCom bs) (N - s.1.length) s.2).1, (rL (rCom bs) (N - s.1.length) s.2).2) = F) (fun s => N - s.1.length) ([], R) rfl ⟨hcg, hb0, Nat.zero_le _, by rw [hF]; rfl⟩ ?_
    rintro ⟨l, q⟩ ⟨hq, hb, hle, hv⟩
    simp only at hq hb hle hv
    by_cases hlt : l.length < N
    · obtain ⟨m, hm⟩ : ∃ m, N - l.length = m + 1 := ⟨N - l.length - 1, by omega⟩
      rw [hm, rL, hb] at hv
      simp only [Bool.false_eq_true, if_false] at hv
      have h26 := ref26 bs q.1 hl
      rw [start_of hq hb] at h26
      have e1 : IntKind.wrap .i64 ((l.length : Int) + 1) = ((l.length + 1 : Nat) : Int) := wrap_i64 (by omega) (by omega)
      have hr : (l.length + 1) * 96 ≤ room := room_of (by omega) (by decide)
      cases b6 : (rCom bs q).2.2 with
      | true =>
        rw [b6, eP_bad b6, eE_bad b6] at h26
        simp only [intAV, Com.av, if_true] at h26
        rw [rL_bad b6] at hv
        have bF : F.2.2 = true := by rw [← hv]; exact b6
        rw [bF, eP_bad bF, eE_bad bF]
        simp only [L41_6, Seat.W_seq, Seat.W_block, Seat.W_region_false, Seat.W_ret, Seat.W_skip, Seat.cond_eq, Seat.condK_true, Seat.rq_nil, Seat.rq_cons, Seat.rqK_some, Seat.seq_normal, Seat.seq_ret, Seat.blk_ret, Seat.ret_ret, Seat.RetK, loopEnd_ret, s_step, guardOf, s_guard_true, s_alloc, s_assign, s_move, s_bin, s_extract, s_store, call_26, s_pure, s_setT, s_setN, allocS, allocK, storeS, storeK, binK, binAV, intBin, boolAV, intAV, extractK, callS, callP, stripArgs, AV.stripA, strip_imm, IV.norm, lendArgs, lendArg, lend_imm, resultsAV, resultAV, tupleOf, setRange, mapEval, evalOp, ofValue, AV.leaves, solid_imm, List.set_cons_succ, List.set_cons_zero, List.getElem?_cons_succ, List.getElem?_cons_zero, List.nil_append, List.append_nil, List.length_cons, List.length_nil, List.getD_cons_succ, List.getD_cons_zero, List.all_cons, List.all_nil, List.map_cons, List.map_nil, List.drop_succ_cons, List.take_zero, List.drop_nil, Option.map_some, Option.getD_some, Option.some.injEq, Nat.reduceAdd, Nat.reduceLT, Nat.zero_add, Nat.le_refl, and_self, Bool.and_self, Bool.not_false, decide_true, decide_false, eq_self, ↓reduceIte, exists_eq_left', seat_T, int_bne, Int.ofNat_lt, firstRegion, k41, T_36, hlt, h26, z, coms]
      | false =>
        rw [b6, eP_ok b6, eE_ok b6] at h26
        simp only [intAV, Com.av, Bool.false_eq_true, if_false] at h26
        simp only [L41_6, Seat.W_seq, Seat.W_block, Seat.W_region_false, Seat.W_skip, Seat.cond_eq, Seat.condK_true, Seat.condK_false, Seat.env_grow, Seat.rq_nil, Seat.rq_cons, Seat.rqK_some, Seat.seq_normal, Seat.blk_normal, loopEnd_normal, s_step, guardOf, s_guard_true, s_alloc, s_assign, s_move, s_bin, s_extract, s_buildSlice, s_load, s_store, call_26, s_append, s_pure, s_setT, s_setN, allocS, allocK, storeS, storeK, loadK, loadC, binK, binAV, intBin, boolAV, intAV, extractK, evalParts, clipK, rowsK, buildSliceK, callS, callP, appK, appR, appT, appE_c, appS, app2, appTail, stripArgs, AV.stripA, strip_imm, stripAll, IV.norm, rowsOf_clip, rowsAt, mkAV, TK.agg, fillAV, setRange, mapEval, evalOp, ofValue, AV.leaves, solid_imm, List.set_cons_succ, List.set_cons_zero, List.getElem?_cons_succ, List.getElem?_cons_zero, List.nil_append, List.append_nil, List.length_cons, List.length_nil, List.getD_cons_succ, List.getD_cons_zero, List.all_cons, List.all_nil, List.map_cons, List.map_nil, List.drop_succ_cons, List.drop_zero, List.take_succ_cons, List.take_zero, List.drop_nil, List.take_nil, List.flatten_cons, List.flatten_nil, List.reduceReplicate, List.contains_cons, List.contains_nil, Option.map_some, Option.map_none, Option.getD_some, Nat.reduceAdd, Nat.reduceLT, Nat.reduceLeDiff, Nat.reduceBEq, Nat.zero_add, Nat.zero_mul, Nat.one_mul, Nat.le_refl, and_self, Bool.and_self, Bool.or_false, Bool.or_true, Bool.not_true, Bool.false_eq_true, decide_true, decide_false, beq_self_eq_true, eq_self, ↓reduceIte, seat_T, ob_getD, int_bne, Int.ofNat_lt, keepSt, keepTmps, keepObjs, kept, keepAV, keepLV_imm, keepLV_ap, keepObj, promote, promoteT, firstRegion, k41, T_36, T_30, hlt, h26, e1, coms_len, hr]
        refine ⟨(l ++ [(rCom bs q).1], (rCom bs q).2), ⟨rCom_good hq, b6, by simp only [List.length_append, List.length_cons, List.length_nil]; omega, ?_⟩, by simp only [List.length_append, List.length_cons, List.length_nil]; omega, ?_⟩
        · have : N - (l ++ [(rCom bs q).1]).length = m := by simp only [List.length_append, List.length_cons, List.length_nil]; omega
          simp only [this]
          rw [List.append_assoc]
          exact hv
        · simp [coms, Com.row]
    · have e : N - l.length = 0 := by omega
      rw [e, rL] at hv
      simp only [List.append_nil] at hv
      have bF : F.2.2 = false := by rw [← hv]; exact hb
      rw [bF, eP_ok bF, eE_ok bF]
      subst hv
      simp only [L41_6, Seat.W_seq, Seat.W_region_false, Seat.W_exit, Seat.W_ret, Seat.cond_eq, Seat.condK_false, Seat.rq_nil, Seat.rq_cons, Seat.rqK_some, Seat.seq_normal, Seat.seq_exit, Seat.blk_exit, Seat.ret_ret, Seat.RetK, loopEnd_exit, s_step, guardOf, s_guard_true, s_assign, s_move, s_bin, s_pure, s_setT, binK, binAV, intBin, boolAV, intAV, IV.norm, lendArgs, lendArg, lend_imm, lend_ap, resultsAV, resultAV, tupleOf, evalOp, ofValue, List.set_cons_succ, List.set_cons_zero, List.getElem?_cons_succ, List.getElem?_cons_zero, Option.map_some, Option.getD_some, Option.some.injEq, Bool.false_eq_true, decide_false, eq_self, ↓reduceIte, exists_eq_left', seat_T, Int.ofNat_lt, firstRegion, k41, hlt]
theorem fn24 (bs : List UInt8) (hl : bs.length ≤ 16777216) : (seat o).fn 24 [.leaf (.imm (.sl (rowsOfBytes bs)))] = some (.tup [.leaf (.imm (.sl (coms (gCs bs).1))), intAV .i64 (gCs bs).2]) := by
  have z := thirteen
  have h41 := fn41 bs hl
  have hgood := rComs_good bs
  obtain ⟨R, hR⟩ : ∃ R, R = rComs bs := ⟨_, rfl⟩
  rw [← hR] at h41 hgood
  cases hb : R.2.2 with
  | true =>
    have hg : gCs bs = ([], 13) := by unfold gCs; rw [← hR, if_pos (.inl hb)]
    rw [hb, eP_bad hb, eE_bad hb] at h41
    rw [hg]
    simp only [intAV, if_true] at h41
    refine Seat.fn_of (f := fun24) (noS o 24 _ rfl) rfl rfl rfl ?_; simp only [fun24, Proofs.Try.f24, Seat.W_seq, Seat.W_region_false, Seat.rq_nil, Seat.rq_cons, Seat.rqK_some, Seat.seq_normal, s_step, guardOf, s_guard_true, s_assign, s_move, call_41, s_pure, s_setT, intAV, callS, callP, stripArgs, AV.stripA, strip_imm, IV.norm, mapEval, evalOp, ofValue, List.set_cons_succ, List.set_cons_zero, List.getElem?_cons_succ, List.getElem?_cons_zero, List.cons_append, List.nil_append, List.length_cons, List.length_nil, List.reduceReplicate, Option.map_some, Nat.reduceSub, Nat.zero_add, seat_T]
    simp only [Seat.W_seq, Seat.W_region_false, Seat.W_ret, Seat.cond_eq, Seat.condK_true, Seat.rq_nil, Seat.rq_cons, Seat.rqK_some, Seat.seq_normal, Seat.seq_ret, Seat.ret_ret, Seat.RetK, s_step, guardOf, s_guard_true, s_guard_false, s_assign, s_move, s_pick, s_bin, s_extract, s_len, s_pure, s_setT, pickK, pickAV, binK, binAV, cmpAV, intBin, boolAV, extractK, lenK, lenAV, IV.norm, lendArgs, lendArg, lend_imm, resultsAV, resultAV, tupleOf, mapEval, evalOp, ofValue, List.set_cons_succ, List.set_cons_zero, List.getElem?_cons_succ, List.getElem?_cons_zero, List.map_nil, Option.map_some, Option.some.injEq, Bool.not_false, decide_false, eq_self, ↓reduceIte, exists_eq_left', seat_T, bq_tf, int_bne, T_22, T_3, h41, z, coms, List.map_nil]
  | false =>
    obtain ⟨p, hp, hpl⟩ := hgood hb
    rw [hb, eP_ok hb, eE_ok hb, hp] at h41
    simp only [intAV, Bool.false_eq_true, if_false] at h41
    by_cases h0 : p = bs.length
    · have hg : gCs bs = (R.1, 0) := by unfold gCs; rw [← hR, hb, if_neg (by rw [hp]; simp; omega)]
      have h0' : (p : Int) = (bs.length : Int) := by omega
      rw [hg]
      refine Seat.fn_of (f := fun24) (noS o 24 _ rfl) rfl rfl rfl ?_; simp only [fun24, Proofs.Try.f24, Seat.W_seq, Seat.W_region_false, Seat.rq_nil, Seat.rq_cons, Seat.rqK_some, Seat.seq_normal, s_step, guardOf, s_guard_true, s_assign, s_move, call_41, s_pure, s_setT, intAV, callS, callP, stripArgs, AV.stripA, strip_imm, IV.norm, mapEval, evalOp, ofValue, List.set_cons_succ, List.set_cons_zero, List.getElem?_cons_succ, List.getElem?_cons_zero, List.cons_append, List.nil_append, List.length_cons, List.length_nil, List.reduceReplicate, Option.map_some, Nat.reduceSub, Nat.zero_add, seat_T]
      simp only [Seat.W_seq, Seat.W_region_false, Seat.W_ret, Seat.W_skip, Seat.cond_eq, Seat.condK_false, Seat.rq_nil, Seat.rq_cons, Seat.rqK_some, Seat.seq_normal, Seat.ret_ret, Seat.RetK, s_step, guardOf, s_guard_true, s_assign, s_move, s_pick, s_bin, s_extract, s_len, s_pure, s_setT, pickK, pickAV, binK, binAV, intBin, boolAV, intAV, extractK, lenK, lenAV, IV.norm, lendArgs, lendArg, lend_imm, resultsAV, resultAV, tupleOf, mapEval, evalOp, ofValue, List.set_cons_succ, List.set_cons_zero, List.getElem?_cons_succ, List.getElem?_cons_zero, Option.map_some, Option.some.injEq, Bool.not_true, Bool.false_eq_true, decide_true, beq_self_eq_true, eq_self, ↓reduceIte, exists_eq_left', seat_T, int_bne, T_22, h41, rob_len, h0]
    · have hg : gCs bs = ([], 13) := by unfold gCs; rw [← hR, if_pos (.inr (by omega))]
      rw [hg]
      refine Seat.fn_of (f := fun24) (noS o 24 _ rfl) rfl rfl rfl ?_; simp only [fun24, Proofs.Try.f24, Seat.W_seq, Seat.W_region_false, Seat.rq_nil, Seat.rq_cons, Seat.rqK_some, Seat.seq_normal, s_step, guardOf, s_guard_true, s_assign, s_move, call_41, s_pure, s_setT, intAV, callS, callP, stripArgs, AV.stripA, strip_imm, IV.norm, mapEval, evalOp, ofValue, List.set_cons_succ, List.set_cons_zero, List.getElem?_cons_succ, List.getElem?_cons_zero, List.cons_append, List.nil_append, List.length_cons, List.length_nil, List.reduceReplicate, Option.map_some, Nat.reduceSub, Nat.zero_add, seat_T]
      simp only [Seat.W_seq, Seat.W_region_false, Seat.W_ret, Seat.cond_eq, Seat.condK_true, Seat.rq_nil, Seat.rq_cons, Seat.rqK_some, Seat.seq_normal, Seat.seq_ret, Seat.ret_ret, Seat.RetK, s_step, guardOf, s_guard_true, s_assign, s_move, s_pick, s_bin, s_extract, s_len, s_pure, s_setT, pickK, pickAV, binK, binAV, intBin, boolAV, intAV, extractK, lenK, lenAV, IV.norm, lendArgs, lendArg, lend_imm, resultsAV, resultAV, tupleOf, mapEval, evalOp, ofValue, List.set_cons_succ, List.set_cons_zero, List.getElem?_cons_succ, List.getElem?_cons_zero, List.map_nil, Option.map_some, Option.some.injEq, Bool.not_true, Bool.not_false, Bool.false_eq_true, decide_true, decide_false, beq_self_eq_true, eq_self, ↓reduceIte, exists_eq_left', seat_T, int_bne, Int.ofNat_inj, T_22, h41, rob_len, h0, coms, List.map_nil]

theorem fn45 (l : List Int) (hl : l.length ≤ 1099511627776) : (seat o).fn 45 [.leaf (.imm (.sl (ints l))), .leaf (.imm (.sl (ints l)))] = some (boolAV true) := by
  refine Seat.fn_of (f := fun45) (noS o 45 _ rfl) rfl rfl rfl ?_; simp only [fun45, Proofs.Try.f45, Seat.W_seq, Seat.W_region_false, Seat.rq_nil, Seat.rq_cons, Seat.rqK_some, Seat.seq_normal, s_step, guardOf, s_guard_true, s_assign, s_move, s_len, s_pure, s_setT, boolAV, intAV, lenK, lenAV, mapEval, evalOp, ofValue, List.set_cons_succ, List.set_cons_zero, List.getElem?_cons_succ, List.getElem?_cons_zero, List.cons_append, List.nil_append, List.length_cons, List.length_nil, List.reduceReplicate, Nat.reduceAdd, Nat.reduceSub, Nat.zero_add, seat_T]
  simp only [Seat.W_seq, Seat.W_block, Seat.W_loop, Seat.W_region_false, Seat.W_skip, Seat.cond_eq, Seat.condK_false, Seat.rq_nil, Seat.rq_cons, Seat.rqK_some, Seat.seq_normal, s_step, guardOf, s_guard_true, s_assign, s_move, s_bin, s_len, s_pure, s_setT, binK, binAV, intBin, boolAV, intAV, lenK, lenAV, mapEval, evalOp, ofValue, List.set_cons_succ, List.set_cons_zero, List.getElem?_cons_succ, List.getElem?_cons_zero, List.contains_cons, List.contains_nil, Option.getD_some, Nat.reduceAdd, Nat.reduceLeDiff, Nat.reduceBEq, Nat.zero_add, Bool.or_false, Bool.or_true, Bool.not_true, Bool.false_eq_true, decide_true, decide_false, beq_self_eq_true, eq_self, ↓reduceIte, seat_T, int_bne, keepSt, keepTmps, keepObjs, kept, keepAV, keepLV_imm, promote, promoteT, firstRegion, k45, T_33, ints_len]
  refine Seat.loop_by (fun i : Nat => L45_4 (.leaf (.imm (.sl (ints l)))) (.leaf (.imm (.sl (ints l)))) (intAV .i64 i)) (fun i => i ≤ l.length) (fun i => l.length - i) 0 rfl (Nat.zero_le _) ?_
  intro i hi
  by_cases hlt : i < l.length
  · obtain ⟨x, hx⟩ := get_lt hlt
    have e1 : IntKind.wrap .i64 ((i : Int) + 1) = ((i + 1 : Nat) : Int) := wrap_i64 (by omega) (by omega)
    simp only [L45_4, Seat.W_seq, Seat.W_block, Seat.W_region_false, Seat.W_region_true, Seat.W_skip, Seat.cond_eq, Seat.condK_true, Seat.condK_false, Seat.rq_nil, Seat.rq_cons, Seat.rqK_some, Seat.rg_nil, Seat.rg_cons, Seat.rgK_some, Seat.endQ, Seat.seq_normal, Seat.blk_normal, loopEnd_normal, s_step, guardOf, s_guard_true, s_assign, s_move, s_bin, s_indexAddr, s_load, s_len, s_pure, s_setT, loadK, binK, binAV, intBin, boolAV, intAV, elemK, indexAddrK, indexRow, lenK, lenAV, rowsOf_sl, mkAV, TK.agg, mapEval, evalOp, ofValue, footA, pureCall, quietOp, readsT, writesT, guardLoc, tmpLoc, touch, looksOp, idsOf, AV.ids, LV.ids, Op.operands, List.set_cons_succ, List.set_cons_zero, List.getElem?_cons_succ, List.getElem?_cons_zero, List.cons_append, List.nil_append, List.append_nil, List.length_cons, List.length_nil, List.map_cons, List.map_nil, List.take_succ_cons, List.take_nil, List.flatMap_cons, List.flatMap_nil, List.contains_cons, List.contains_nil, Option.map_some, Option.getD_some, Option.toList_some, Option.some.injEq, Nat.reduceAdd, Nat.reduceMul, Nat.reduceLeDiff, Nat.reduceBEq, Nat.zero_add, Nat.mul_one, Nat.le_refl, Int.toNat_natCast, Int.natCast_nonneg, Bool.or_false, Bool.or_true, Bool.not_true, Bool.false_eq_true, reduceCtorEq, decide_true, decide_false, beq_self_eq_true, eq_self, ↓reduceIte, seat_T, int_bne, Int.ofNat_lt, keepSt, keepTmps, keepObjs, kept, keepAV, keepLV_imm, promote, promoteT, firstRegion, k45, T_33, T_3, ints_len, ints_get, hx, hlt, e1]
    exact ⟨ord_of (by kernel_rfl), i + 1, by omega, by omega, rfl⟩
  · simp only [L45_4, Seat.W_seq, Seat.W_region_false, Seat.W_exit, Seat.W_ret, Seat.cond_eq, Seat.condK_false, Seat.rq_nil, Seat.rq_cons, Seat.rqK_some, Seat.seq_normal, Seat.seq_exit, Seat.blk_exit, Seat.ret_ret, Seat.RetK, loopEnd_exit, s_step, guardOf, s_guard_true, s_assign, s_move, s_bin, s_len, s_pure, s_setT, binK, binAV, intBin, boolAV, intAV, lenK, lenAV, IV.norm, lendArgs, lendArg, lend_imm, resultsAV, resultAV, tupleOf, mapEval, evalOp, ofValue, List.set_cons_succ, List.set_cons_zero, List.getElem?_cons_succ, List.getElem?_cons_zero, Option.map_some, Option.getD_some, Option.some.injEq, decide_false, eq_self, ↓reduceIte, exists_eq_left', seat_T, Int.ofNat_lt, firstRegion, k45, T_33, ints_len, hlt]
theorem ba_beq (x : ByteArray) : (x == x) = true := by
  first
  | (cases x; simp [BEq.beq, ByteArray.instBEq.beq]; done)
  | (cases x; exact beq_self_eq_true (α := Array UInt8) _)
theorem eq_self_cel (x : Cel) : eqLeaves [.imm (.int .i64 x.id), .imm (.int .i64 x.fld), .imm (.int .i64 x.n), .imm (.bool x.flag), .imm (.str x.text), .imm (.int .i64 x.ref)] [.imm (.int .i64 x.id), .imm (.int .i64 x.fld), .imm (.int .i64 x.n), .imm (.bool x.flag), .imm (.str x.text), .imm (.int .i64 x.ref)] = some true := by
  simp [eqLeaves, eqLeaf, ba_beq]
structure Small (c : Com) : Prop where
  p : c.parents.length ≤ 1099511627776
  k : c.picks.length ≤ 1099511627776
  w : c.writes.length ≤ 1099511627776
theorem fn28 (c : Com) (h : Small c) : (seat o).fn 28 [c.av, c.av] = some (boolAV true) := by
  have h1 := fn45 c.parents h.p
  have h2 := fn45 c.picks h.k
  have hw := h.w
  simp only [boolAV] at h1 h2
  refine Seat.fn_of (f := fun28) (noS o 28 _ rfl) rfl rfl rfl ?_; simp only [fun28, Proofs.Try.f28, Seat.W_seq, Seat.W_region_false, Seat.rq_cons, s_step, guardOf, s_guard_true, s_box, allocK, boxS, boolAV, evalOp, AV.leaves, List.set_cons_succ, List.set_cons_zero, List.getElem?_cons_zero, List.cons_append, List.nil_append, List.length_cons, List.length_nil, List.getD_cons_succ, List.getD_cons_zero, List.reduceReplicate, Nat.reduceAdd, Nat.reduceSub, Nat.reduceLT, Nat.zero_add, ↓reduceIte, seat_T]
  simp only [Com.av, Seat.W_seq, Seat.W_block, Seat.W_loop, Seat.W_region_false, Seat.W_skip, Seat.cond_eq, Seat.condK_false, Seat.rq_nil, Seat.rq_cons, Seat.rqK_some, Seat.seq_normal, s_step, guardOf, s_guard_true, s_box, s_assign, s_move, s_pick, s_bin, s_un, s_fieldAddr, s_load, s_len, call_45, s_pure, s_setT, allocK, boxS, loadK, loadC, pickK, pickAV, binK, binAV, intBin, boolAV, intAV, strBin, unAV, fieldAddrK, lenK, lenAV, callS, callP, stripArgs, AV.stripA, strip_imm, IV.norm, mkAV, TK.agg, mapEval, evalOp, ofValue, AV.leaves, solid_imm, List.set_cons_succ, List.set_cons_zero, List.getElem?_cons_succ, List.getElem?_cons_zero, List.length_cons, List.length_nil, List.getD_cons_succ, List.getD_cons_zero, List.all_cons, List.all_nil, List.map_cons, List.map_nil, List.drop_succ_cons, List.drop_zero, List.take_succ_cons, List.take_zero, List.take_nil, List.contains_cons, List.contains_nil, Option.map_some, Option.bind_some, Option.getD_some, Nat.reduceAdd, Nat.reduceLT, Nat.reduceLeDiff, Nat.reduceBEq, Nat.zero_add, Nat.add_zero, Nat.le_refl, and_self, Bool.and_self, Bool.or_false, Bool.or_true, Bool.not_true, Bool.false_eq_true, decide_true, decide_false, beq_self_eq_true, eq_self, ↓reduceIte, seat_T, int_bne, keepSt, keepTmps, keepObjs, kept, keepAV, keepLV_imm, keepLV_ptr, keepObj, promote, promoteT, firstRegion, k28, T_36, T_34, T_33, T_9, T_3, h1, h2, clen]
  refine Seat.loop_by (fun i : Nat => L28_4 (.leaf (.ptr 2 0 0)) (.leaf (.ptr 3 0 0)) (intAV .i64 i) (cbox c) (cbox c)) (fun i => i ≤ c.writes.length) (fun i => c.writes.length - i) 0 rfl (Nat.zero_le _) ?_
  intro i hi
  by_cases hlt : i < c.writes.length
  · obtain ⟨x, hx⟩ := get_lt hlt
    have e1 : IntKind.wrap .i64 ((i : Int) + 1) = ((i + 1 : Nat) : Int) := wrap_i64 (by omega) (by omega)
    have hq := eq_self_cel x
    simp only [L28_4, cbox, Seat.W_seq, Seat.W_block, Seat.W_region_false, Seat.W_region_true, Seat.W_skip, Seat.cond_eq, Seat.condK_true, Seat.condK_false, Seat.rq_nil, Seat.rq_cons, Seat.rqK_some, Seat.rg_nil, Seat.rg_cons, Seat.rgK_some, Seat.endQ, Seat.seq_normal, Seat.blk_normal, loopEnd_normal, s_step, guardOf, s_guard_true, s_assign, s_move, s_bin, s_fieldAddr, s_indexAddr, s_load, s_len, s_pure, s_setT, loadK, loadC, binK, binAV, cmpAV, intBin, boolAV, intAV, fieldAddrK, elemK, indexAddrK, indexRow, lenK, lenAV, rowsOf_sl, mkAV, TK.agg, mapEval, evalOp, ofValue, footA, pureCall, quietOp, readsT, writesT, guardLoc, tmpLoc, touch, looksOp, idsOf, AV.ids, LV.ids, Op.operands, List.set_cons_succ, List.set_cons_zero, List.getElem?_cons_succ, List.getElem?_cons_zero, List.cons_append, List.nil_append, List.append_nil, List.length_cons, List.length_nil, List.getD_cons_succ, List.getD_cons_zero, List.map_cons, List.map_nil, List.drop_succ_cons, List.drop_zero, List.take_succ_cons, List.take_nil, List.flatMap_cons, List.flatMap_nil, List.contains_cons, List.contains_nil, Option.map_some, Option.getD_some, Option.toList_some, Option.some.injEq, Nat.reduceAdd, Nat.reduceMul, Nat.reduceLT, Nat.reduceLeDiff, Nat.reduceBEq, Nat.zero_add, Nat.le_refl, Int.toNat_natCast, Int.natCast_nonneg, and_self, Bool.and_self, Bool.or_false, Bool.or_true, Bool.not_true, Bool.false_eq_true, reduceCtorEq, decide_true, decide_false, beq_self_eq_true, eq_self, ↓reduceIte, seat_T, Int.ofNat_lt, keepSt, keepTmps, keepObjs, kept, keepAV, keepLV_imm, keepLV_ptr, keepObj, promote, promoteT, firstRegion, k28, T_36, T_34, T_61, crow_get, clen, hx, Cel.row, hlt, e1, likeAll, likeLV, hq]
    exact ⟨ord_of (by kernel_rfl), i + 1, by omega, by omega, rfl⟩
  · simp only [L28_4, cbox, Seat.W_seq, Seat.W_region_false, Seat.W_exit, Seat.W_ret, Seat.cond_eq, Seat.condK_false, Seat.rq_nil, Seat.rq_cons, Seat.rqK_some, Seat.seq_normal, Seat.seq_exit, Seat.blk_exit, Seat.ret_ret, Seat.RetK, loopEnd_exit, s_step, guardOf, s_guard_true, s_assign, s_move, s_bin, s_fieldAddr, s_load, s_len, s_pure, s_setT, loadK, loadC, binK, binAV, intBin, boolAV, intAV, fieldAddrK, lenK, lenAV, IV.norm, lendArgs, lendArg, lend_imm, resultsAV, resultAV, tupleOf, mkAV, TK.agg, mapEval, evalOp, ofValue, List.set_cons_succ, List.set_cons_zero, List.getElem?_cons_succ, List.getElem?_cons_zero, List.length_cons, List.length_nil, List.getD_cons_succ, List.getD_cons_zero, List.drop_succ_cons, List.drop_zero, List.take_succ_cons, List.take_nil, Option.map_some, Option.getD_some, Option.some.injEq, Nat.reduceAdd, Nat.reduceLT, Nat.zero_add, Nat.le_refl, and_self, Bool.false_eq_true, decide_false, eq_self, ↓reduceIte, exists_eq_left', seat_T, Int.ofNat_lt, firstRegion, k28, T_36, T_34, clen, hlt]
theorem fn27 (cs : List Com) (hl : cs.length ≤ 1099511627776) (h : ∀ c ∈ cs, Small c) : (seat o).fn 27 [.leaf (.imm (.sl (coms cs))), .leaf (.imm (.sl (coms cs)))] = some (boolAV true) := by
  refine Seat.fn_of (f := fun27) (noS o 27 _ rfl) rfl rfl rfl ?_; simp only [fun27, Proofs.Try.f27, Seat.W_seq, Seat.W_region_false, Seat.rq_nil, Seat.rq_cons, Seat.rqK_some, Seat.seq_normal, s_step, guardOf, s_guard_true, s_assign, s_move, s_len, s_pure, s_setT, boolAV, intAV, lenK, lenAV, mapEval, evalOp, ofValue, List.set_cons_succ, List.set_cons_zero, List.getElem?_cons_succ, List.getElem?_cons_zero, List.cons_append, List.nil_append, List.length_cons, List.length_nil, List.reduceReplicate, Nat.reduceAdd, Nat.reduceSub, Nat.zero_add, seat_T]
  simp only [Seat.W_seq, Seat.W_block, Seat.W_loop, Seat.W_region_false, Seat.W_skip, Seat.cond_eq, Seat.condK_false, Seat.rq_nil, Seat.rq_cons, Seat.rqK_some, Seat.seq_normal, s_step, guardOf, s_guard_true, s_assign, s_move, s_bin, s_len, s_pure, s_setT, binK, binAV, intBin, boolAV, intAV, lenK, lenAV, mapEval, evalOp, ofValue, List.set_cons_succ, List.set_cons_zero, List.getElem?_cons_succ, List.getElem?_cons_zero, List.contains_cons, List.contains_nil, Option.getD_some, Nat.reduceAdd, Nat.reduceLeDiff, Nat.reduceBEq, Nat.zero_add, Bool.or_false, Bool.or_true, Bool.not_true, Bool.false_eq_true, decide_true, decide_false, beq_self_eq_true, eq_self, ↓reduceIte, seat_T, int_bne, keepSt, keepTmps, keepObjs, kept, keepAV, keepLV_imm, promote, promoteT, firstRegion, k27, T_30, coms_len]
  refine Seat.loop_by (fun i : Nat => L27_4 (.leaf (.imm (.sl (coms cs)))) (.leaf (.imm (.sl (coms cs)))) (intAV .i64 i)) (fun i => i ≤ cs.length) (fun i => cs.length - i) 0 rfl (Nat.zero_le _) ?_
  intro i hi
  by_cases hlt : i < cs.length
  · obtain ⟨x, hx⟩ := get_lt hlt
    have e1 : IntKind.wrap .i64 ((i : Int) + 1) = ((i + 1 : Nat) : Int) := wrap_i64 (by omega) (by omega)
    have h28 := fn28 x (h x (List.mem_of_getElem? hx))
    simp only [boolAV, Com.av] at h28
    simp only [L27_4, Seat.W_seq, Seat.W_block, Seat.W_region_false, Seat.W_region_true, Seat.W_skip, Seat.cond_eq, Seat.condK_true, Seat.condK_false, Seat.rq_nil, Seat.rq_cons, Seat.rqK_some, Seat.rg_nil, Seat.rg_cons, Seat.rgK_some, Seat.endQ, Seat.seq_normal, Seat.blk_normal, loopEnd_normal, s_step, guardOf, s_guard_true, s_assign, s_move, s_bin, s_un, s_indexAddr, s_load, s_len, call_28, s_pure, s_setT, loadK, binK, binAV, intBin, boolAV, intAV, unAV, elemK, indexAddrK, indexRow, lenK, lenAV, callS, callP, stripArgs, AV.stripA, strip_imm, stripAll, IV.norm, rowsOf_sl, mkAV, TK.agg, mapEval, evalOp, ofValue, footA, pureCall, quietOp, readsT, writesT, guardLoc, tmpLoc, touch, looksOp, idsOf, AV.ids, LV.ids, Op.operands, Call.operands, List.set_cons_succ, List.set_cons_zero, List.getElem?_cons_succ, List.getElem?_cons_zero, List.cons_append, List.nil_append, List.append_nil, List.length_cons, List.length_nil, List.map_cons, List.map_nil, List.take_succ_cons, List.take_nil, List.flatMap_cons, List.flatMap_nil, List.contains_cons, List.contains_nil, Option.map_some, Option.bind_some, Option.getD_some, Option.toList_some, Option.some.injEq, Nat.reduceAdd, Nat.reduceMul, Nat.reduceLeDiff, Nat.reduceBEq, Nat.zero_add, Nat.mul_one, Nat.le_refl, Int.toNat_natCast, Int.natCast_nonneg, Bool.or_false, Bool.or_true, Bool.not_true, Bool.not_false, Bool.false_eq_true, reduceCtorEq, decide_true, decide_false, beq_self_eq_true, eq_self, ↓reduceIte, seat_T, seat_O, Int.ofNat_lt, keepSt, keepTmps, keepObjs, kept, keepAV, keepLV_imm, promote, promoteT, firstRegion, k27, T_36, T_30, coms_len, coms_get, hx, Com.row, hlt, e1, h28]
    exact ⟨ord_of (by kernel_rfl), i + 1, by omega, by omega, rfl⟩
  · simp only [L27_4, Seat.W_seq, Seat.W_region_false, Seat.W_exit, Seat.W_ret, Seat.cond_eq, Seat.condK_false, Seat.rq_nil, Seat.rq_cons, Seat.rqK_some, Seat.seq_normal, Seat.seq_exit, Seat.blk_exit, Seat.ret_ret, Seat.RetK, loopEnd_exit, s_step, guardOf, s_guard_true, s_assign, s_move, s_bin, s_len, s_pure, s_setT, binK, binAV, intBin, boolAV, intAV, lenK, lenAV, IV.norm, lendArgs, lendArg, lend_imm, resultsAV, resultAV, tupleOf, mapEval, evalOp, ofValue, List.set_cons_succ, List.set_cons_zero, List.getElem?_cons_succ, List.getElem?_cons_zero, Option.map_some, Option.getD_some, Option.some.injEq, decide_false, eq_self, ↓reduceIte, exists_eq_left', seat_T, Int.ofNat_lt, firstRegion, k27, T_30, coms_len, hlt]

/-- What was read is short. -/
theorem rCom_small (bs : List UInt8) (r : Rs) (hl : bs.length ≤ 16777216) (h : Good bs r) : Small (rCom bs r).1 := by
  have g1 := rN_good h
  have l1 := rC_le g1
  have g2 := rL_good (fun _ => rN_good (bs := bs)) (rC bs (rN bs r).2).1 _ (rC_good g1)
  have l2 := rC_le g2
  have g3 := rL_good (fun _ => rN_good (bs := bs)) (rC bs (rL (rN bs) (rC bs (rN bs r).2).1 (rC bs (rN bs r).2).2).2).1 _ (rC_good g2)
  have g4 := rT_good g3
  have l4 := rC_le g4
  exact ⟨Nat.le_trans (rL_len _ _ _) (by omega), Nat.le_trans (rL_len _ _ _) (by omega), Nat.le_trans (rL_len _ _ _) (by omega)⟩
theorem rL_all {α : Type} {bs : List UInt8} {get : Rs → α × Rs} {Q : α → Prop} (hg : ∀ r, Good bs r → Good bs (get r).2) (hq : ∀ r, Good bs r → Q (get r).1) : ∀ (n : Nat) (r : Rs), Good bs r → ∀ x ∈ (rL get n r).1, Q x := by
  intro n
  induction n with
  | zero => intro r _ x hx; exact absurd hx List.not_mem_nil
  | succ n ih =>
    intro r h x hx
    unfold rL at hx
    split at hx
    · exact absurd hx List.not_mem_nil
    · rcases List.mem_cons.1 hx with rfl | hx
      · exact hq r h
      · exact ih _ (hg r h) x hx
theorem fn6 (bs : List UInt8) (a : Int) (hl : bs.length ≤ 1048576) : (seat o).fn 6 [.leaf (.imm (.sl (rowsOfBytes bs))), .leaf (.imm (.int .i64 a))] = some (boolAV true) := by
  have h8 := fn8
  simp only [boolAV] at h8
  by_cases hbig : (2000 : Int) < (bs.length : Int)
  · refine Seat.fn_of (f := fun6) (noS o 6 _ rfl) rfl rfl rfl ?_; simp only [fun6, Proofs.Try.f6, Seat.W_seq, Seat.W_region_false, Seat.rq_nil, Seat.rq_cons, Seat.rqK_some, Seat.seq_normal, s_step, guardOf, s_guard_true, s_assign, s_move, s_len, s_pure, s_setT, boolAV, intAV, lenK, lenAV, mapEval, evalOp, ofValue, List.set_cons_succ, List.set_cons_zero, List.getElem?_cons_succ, List.getElem?_cons_zero, List.cons_append, List.nil_append, List.length_cons, List.length_nil, List.reduceReplicate, Nat.reduceAdd, Nat.reduceSub, Nat.zero_add, seat_T]
    simp only [Seat.W_seq, Seat.W_region_false, Seat.W_ret, Seat.cond_eq, Seat.condK_true, Seat.rq_nil, Seat.rq_cons, Seat.rqK_some, Seat.seq_normal, Seat.seq_ret, Seat.ret_ret, Seat.RetK, s_step, guardOf, s_guard_true, s_assign, s_bin, call_8, s_pure, s_setT, binK, binAV, intBin, boolAV, callS, callP, stripArgs, IV.norm, lendArgs, lendArg, lend_imm, resultsAV, resultAV, tupleOf, mapEval, evalOp, ofValue, List.set_cons_succ, List.set_cons_zero, List.getElem?_cons_succ, List.getElem?_cons_zero, Option.map_some, Option.some.injEq, decide_true, eq_self, gt_iff_lt, ↓reduceIte, exists_eq_left', seat_T, T_22, rob_len, hbig, h8]
  · have h23 := fn23 bs (by omega)
    have h24 := fn24 bs (by omega)
    have h25 := fn25 bs a (by omega)
    have h26 := fn26 bs a (by omega)
    have s1 : ∀ c ∈ (gCs bs).1, Small c := by
      unfold gCs
      split
      · intro c hc; exact absurd hc List.not_mem_nil
      · exact rL_all (fun _ => rCom_good) (fun r hr => rCom_small bs r (by omega) hr) _ _ (rC_good (start_good bs 0))
    have l1 : (gCs bs).1.length ≤ 1099511627776 := by
      unfold gCs
      split
      · exact Nat.zero_le _
      · have := rL_len (rCom bs) (rC bs (start bs 0)).1 (rC bs (start bs 0)).2
        have := rC_le (start_good bs 0)
        unfold rComs
        simp only
        omega
    have s2 : Small (gC bs a).1 := by
      unfold gC
      split
      · exact ⟨by decide, by decide, by decide⟩
      · exact rCom_small bs _ (by omega) (start_good bs a)
    have h27 := fn27 (gCs bs).1 l1 s1
    have h28 := fn28 (gC bs a).1 s2
    simp only [intAV, boolAV, Com.av] at h23 h24 h25 h26 h27 h28
    refine Seat.fn_of (f := fun6) (noS o 6 _ rfl) rfl rfl rfl ?_; simp only [fun6, Proofs.Try.f6, Seat.W_seq, Seat.W_region_false, Seat.rq_nil, Seat.rq_cons, Seat.rqK_some, Seat.seq_normal, s_step, guardOf, s_guard_true, s_assign, s_move, s_len, s_pure, s_setT, boolAV, intAV, lenK, lenAV, mapEval, evalOp, ofValue, List.set_cons_succ, List.set_cons_zero, List.getElem?_cons_succ, List.getElem?_cons_zero, List.cons_append, List.nil_append, List.length_cons, List.length_nil, List.reduceReplicate, Nat.reduceAdd, Nat.reduceSub, Nat.zero_add, seat_T]
    simp only [Seat.W_seq, Seat.W_region_false, Seat.W_ret, Seat.W_skip, Seat.cond_eq, Seat.condK_false, Seat.rq_nil, Seat.rq_cons, Seat.rqK_some, Seat.seq_normal, Seat.ret_ret, Seat.RetK, s_step, guardOf, s_guard_true, s_alloc, s_assign, s_move, s_pick, s_bin, s_extract, s_load, s_store, call_8, call_23, call_24, call_25, call_26, call_27, call_28, s_pure, s_setT, s_setN, allocS, allocK, storeS, storeK, loadK, loadC, pickK, pickAV, binK, binAV, intBin, boolAV, extractK, callS, callP, stripArgs, AV.stripA, strip_imm, stripAll, IV.norm, lendArgs, lendArg, lend_imm, resultsAV, resultAV, tupleOf, mkAV, TK.agg, setRange, mapEval, evalOp, ofValue, AV.leaves, solid_imm, List.set_cons_succ, List.set_cons_zero, List.getElem?_cons_succ, List.getElem?_cons_zero, List.nil_append, List.append_nil, List.length_cons, List.length_nil, List.getD_cons_succ, List.getD_cons_zero, List.all_cons, List.all_nil, List.map_cons, List.map_nil, List.drop_succ_cons, List.drop_zero, List.take_succ_cons, List.take_zero, List.drop_nil, List.take_nil, Option.map_some, Option.some.injEq, Nat.reduceAdd, Nat.reduceLT, Nat.zero_add, Nat.le_refl, and_self, Bool.and_self, decide_false, beq_self_eq_true, eq_self, gt_iff_lt, ↓reduceIte, exists_eq_left', seat_T, T_36, T_22, rob_len, hbig, h8, h23, h24, h25, h26, h27, h28]
theorem two_args {l0 : List AV} {t u : Nat} (hl : l0.length = 2) (h : ∀ (j : Nat) q a, [t, u][j]? = some q → l0[j]? = some a → ArgOk q a) : ∃ a b, l0 = [a, b] ∧ ArgOk t a ∧ ArgOk u b := by
  match l0, hl with
  | [a, b], _ => exact ⟨a, b, rfl, h 0 t a rfl rfl, h 1 u b rfl rfl⟩
theorem law6 (l0 : List AV) (hl : l0.length = 2) (h : ∀ (j : Nat) t a, [22, 3][j]? = some t → l0[j]? = some a → ArgOk t a) : (seat o).fn 6 l0 = some (boolAV true) := by
  obtain ⟨a, b, rfl, ha, hb⟩ := two_args hl h
  obtain ⟨bs, rfl, hbs⟩ := bytes_arg ha
  obtain ⟨p, rfl, hp⟩ := int_arg hb
  exact fn6 bs p hbs
end Go.Ai
