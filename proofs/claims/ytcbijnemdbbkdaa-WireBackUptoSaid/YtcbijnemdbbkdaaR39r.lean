/- What the reference's reading of cells and commits answers; equal commits are the same. Where there are at most 16777216 bytes. -/
import Derived.Test.YtcbijnemdbbkdaaR39q
namespace Go.Ai
set_option linter.unusedVariables false
set_option linter.unusedSimpArgs false
set_option maxRecDepth 100000
set_option maxHeartbeats 4000000

theorem eP_ok {r : Rs} (h : r.2 = false) : eP r = r.1 := by unfold eP; rw [h]; rfl
theorem eE_ok {r : Rs} (h : r.2 = false) : eE r = 0 := by unfold eE; rw [h]; rfl
theorem eP_bad {r : Rs} (h : r.2 = true) : eP r = 0 := by unfold eP; rw [h]; rfl
theorem eE_bad {r : Rs} (h : r.2 = true) : eE r = 13 := by unfold eE; rw [h]; rfl
theorem thirteen : ¬ (13 : Int) = 0 := by decide

theorem fn44 (bs : List UInt8) (a : Int) (hl : bs.length ≤ 16777216) :
    (seat o).fn 44 [.leaf (.imm (.sl (rowsOfBytes bs))), .leaf (.imm (.int .i64 a))] = some (.tup [(rCell bs (start bs a)).1.av, intAV .i64 (eP (rCell bs (start bs a)).2), intAV .i64 (eE (rCell bs (start bs a)).2)]) := by
  have g0 := start_good bs a
  have h1 := ref10 bs a hl
  have z := thirteen
  simp only [tupI, intAV] at h1
  have hc : rCell bs (start bs a) = (⟨(rN bs (start bs a)).1, (rN bs (rN bs (start bs a)).2).1, (rN bs (rN bs (rN bs (start bs a)).2).2).1, (rF bs (rN bs (rN bs (rN bs (start bs a)).2).2).2).1, (rT bs (rF bs (rN bs (rN bs (rN bs (start bs a)).2).2).2).2).1, (rN bs (rT bs (rF bs (rN bs (rN bs (rN bs (start bs a)).2).2).2).2).2).1⟩, (rN bs (rT bs (rF bs (rN bs (rN bs (rN bs (start bs a)).2).2).2).2).2).2) := rfl
  rw [hc]
  clear hc
  have g1 := rN_good g0
  obtain ⟨x1, hx1⟩ : ∃ x, x = rN bs (start bs a) := ⟨_, rfl⟩
  rw [← hx1] at h1 g1 ⊢
  cases b1 : x1.2.2 with
  | true =>
    rw [eP_bad b1, eE_bad b1] at h1
    rw [rN_bad b1, rN_bad b1, rF_bad b1, rT_bad b1, rN_bad b1]
    simp only [eP_bad b1, eE_bad b1]
    refine Seat.fn_of (f := fun44) (noS o 44 _ rfl) rfl rfl rfl ?_; simp only [fun44, Proofs.Try.f44, Seat.W_seq, Seat.W_region_false, Seat.rq_cons, s_step, guardOf, s_guard_true, s_alloc, allocS, allocK, intAV, List.set_cons_succ, List.set_cons_zero, List.cons_append, List.nil_append, List.length_cons, List.length_nil, List.getD_cons_succ, List.getD_cons_zero, List.reduceReplicate, Nat.reduceAdd, Nat.reduceSub, Nat.reduceLT, Nat.zero_add, ↓reduceIte, seat_T]
    simp only [Seat.W_seq, Seat.W_region_false, Seat.W_ret, Seat.cond_eq, Seat.condK_true, Seat.rq_nil, Seat.rq_cons, Seat.rqK_some, Seat.seq_normal, Seat.seq_ret, Seat.ret_ret, Seat.RetK, s_step, guardOf, s_guard_true, s_alloc, s_assign, s_move, s_bin, s_extract, s_fieldAddr, s_load, s_store, call_10, s_pure, s_setT, s_setN, allocS, allocK, storeS, storeK, loadK, loadC, binK, binAV, intBin, boolAV, extractK, fieldAddrK, callS, callP, stripArgs, AV.stripA, strip_imm, IV.norm, lendArgs, lendArg, lend_imm, lendAll, resultsAV, resultAV, tupleOf, mkAV, TK.agg, setRange, mapEval, evalOp, ofValue, AV.leaves, solid_imm, List.set_cons_succ, List.set_cons_zero, List.getElem?_cons_succ, List.getElem?_cons_zero, List.cons_append, List.nil_append, List.append_nil, List.length_cons, List.length_nil, List.getD_cons_succ, List.getD_cons_zero, List.all_cons, List.all_nil, List.map_cons, List.map_nil, List.drop_succ_cons, List.drop_zero, List.take_succ_cons, List.take_zero, List.drop_nil, List.take_nil, Option.map_some, Option.some.injEq, Nat.reduceAdd, Nat.reduceLT, Nat.reduceLeDiff, Nat.zero_add, Nat.add_zero, Nat.le_refl, and_self, Bool.and_self, Bool.not_false, decide_false, eq_self, ↓reduceIte, exists_eq_left', seat_T, ob_getD, int_bne, T_61, T_3, h1, z, Cel.av]
  | false =>
    rw [eP_ok b1, eE_ok b1] at h1
    have h2 := ref10 bs x1.2.1 hl
    rw [start_of g1 b1] at h2
    simp only [tupI, intAV] at h2
    have g2 := rN_good g1
    obtain ⟨x2, hx2⟩ : ∃ x, x = rN bs x1.2 := ⟨_, rfl⟩
    rw [← hx2] at h2 g2 ⊢
    cases b2 : x2.2.2 with
    | true =>
      rw [eP_bad b2, eE_bad b2] at h2
      rw [rN_bad b2, rF_bad b2, rT_bad b2, rN_bad b2]
      simp only [eP_bad b2, eE_bad b2]
      refine Seat.fn_of (f := fun44) (noS o 44 _ rfl) rfl rfl rfl ?_; simp only [fun44, Proofs.Try.f44, Seat.W_seq, Seat.W_region_false, Seat.rq_cons, s_step, guardOf, s_guard_true, s_alloc, allocS, allocK, intAV, List.set_cons_succ, List.set_cons_zero, List.cons_append, List.nil_append, List.length_cons, List.length_nil, List.getD_cons_succ, List.getD_cons_zero, List.reduceReplicate, Nat.reduceAdd, Nat.reduceSub, Nat.reduceLT, Nat.zero_add, ↓reduceIte, seat_T]
      simp only [Seat.W_seq, Seat.W_region_false, Seat.W_ret, Seat.W_skip, Seat.cond_eq, Seat.condK_true, Seat.condK_false, Seat.rq_nil, Seat.rq_cons, Seat.rqK_some, Seat.seq_normal, Seat.seq_ret, Seat.ret_ret, Seat.RetK, s_step, guardOf, s_guard_true, s_alloc, s_assign, s_move, s_bin, s_extract, s_fieldAddr, s_load, s_store, call_10, s_pure, s_setT, s_setN, allocS, allocK, storeS, storeK, loadK, loadC, binK, binAV, intBin, boolAV, extractK, fieldAddrK, callS, callP, stripArgs, AV.stripA, strip_imm, IV.norm, lendArgs, lendArg, lend_imm, lendAll, resultsAV, resultAV, tupleOf, mkAV, TK.agg, setRange, mapEval, evalOp, ofValue, AV.leaves, solid_imm, List.set_cons_succ, List.set_cons_zero, List.getElem?_cons_succ, List.getElem?_cons_zero, List.cons_append, List.nil_append, List.append_nil, List.length_cons, List.length_nil, List.getD_cons_succ, List.getD_cons_zero, List.all_cons, List.all_nil, List.map_cons, List.map_nil, List.drop_succ_cons, List.drop_zero, List.take_succ_cons, List.take_zero, List.drop_nil, List.take_nil, Option.map_some, Option.some.injEq, Nat.reduceAdd, Nat.reduceLT, Nat.reduceLeDiff, Nat.zero_add, Nat.add_zero, Nat.le_refl, and_self, Bool.and_self, Bool.not_true, Bool.not_false, decide_true, decide_false, eq_self, ↓reduceIte, exists_eq_left', seat_T, ob_getD, int_bne, T_61, T_3, h1, h2, z, Cel.av]
    | false =>
      rw [eP_ok b2, eE_ok b2] at h2
      have h3 := ref10 bs x2.2.1 hl
      rw [start_of g2 b2] at h3
      simp only [tupI, intAV] at h3
      have g3 := rN_good g2
      obtain ⟨x3, hx3⟩ : ∃ x, x = rN bs x2.2 := ⟨_, rfl⟩
      rw [← hx3] at h3 g3 ⊢
      cases b3 : x3.2.2 with
      | true =>
        rw [eP_bad b3, eE_bad b3] at h3
        rw [rF_bad b3, rT_bad b3, rN_bad b3]
        simp only [eP_bad b3, eE_bad b3]
        refine Seat.fn_of (f := fun44) (noS o 44 _ rfl) rfl rfl rfl ?_; simp only [fun44, Proofs.Try.f44, Seat.W_seq, Seat.W_region_false, Seat.rq_cons, s_step, guardOf, s_guard_true, s_alloc, allocS, allocK, intAV, List.set_cons_succ, List.set_cons_zero, List.cons_append, List.nil_append, List.length_cons, List.length_nil, List.getD_cons_succ, List.getD_cons_zero, List.reduceReplicate, Nat.reduceAdd, Nat.reduceSub, Nat.reduceLT, Nat.zero_add, ↓reduceIte, seat_T]
        simp only [Seat.W_seq, Seat.W_region_false, Seat.W_ret, Seat.W_skip, Seat.cond_eq, Seat.condK_true, Seat.condK_false, Seat.rq_nil, Seat.rq_cons, Seat.rqK_some, Seat.seq_normal, Seat.seq_ret, Seat.ret_ret, Seat.RetK, s_step, guardOf, s_guard_true, s_alloc, s_assign, s_move, s_bin, s_extract, s_fieldAddr, s_load, s_store, call_10, s_pure, s_setT, s_setN, allocS, allocK, storeS, storeK, loadK, loadC, binK, binAV, intBin, boolAV, extractK, fieldAddrK, callS, callP, stripArgs, AV.stripA, strip_imm, IV.norm, lendArgs, lendArg, lend_imm, lendAll, resultsAV, resultAV, tupleOf, mkAV, TK.agg, setRange, mapEval, evalOp, ofValue, AV.leaves, solid_imm, List.set_cons_succ, List.set_cons_zero, List.getElem?_cons_succ, List.getElem?_cons_zero, List.cons_append, List.nil_append, List.append_nil, List.length_cons, List.length_nil, List.getD_cons_succ, List.getD_cons_zero, List.all_cons, List.all_nil, List.map_cons, List.map_nil, List.drop_succ_cons, List.drop_zero, List.take_succ_cons, List.take_zero, List.drop_nil, List.take_nil, Option.map_some, Option.some.injEq, Nat.reduceAdd, Nat.reduceLT, Nat.reduceLeDiff, Nat.zero_add, Nat.add_zero, Nat.le_refl, and_self, Bool.and_self, Bool.not_true, Bool.not_false, decide_true, decide_false, eq_self, ↓reduceIte, exists_eq_left', seat_T, ob_getD, int_bne, T_61, T_59, T_3, h1, h2, h3, z, Cel.av]
      | false =>
        rw [eP_ok b3, eE_ok b3] at h3
        obtain ⟨n, hn, hnl⟩ := g3 b3
        rw [hn] at h3
        have g4 := rF_good g3
        cases hgt : bs[n]? with
        | none =>
          have hge : bs.length ≤ n := List.getElem?_eq_none_iff.1 hgt
          have hF : rF bs x3.2 = (false, (n : Int), true) := by unfold rF; rw [b3, hn]; simp only [Bool.false_eq_true, if_false, Int.toNat_natCast, hgt]
          rw [hF]
          have b4 : ((n : Int), true).2 = true := rfl
          rw [rT_bad b4, rN_bad b4]
          simp only [eP_bad b4, eE_bad b4]
          refine Seat.fn_of (f := fun44) (noS o 44 _ rfl) rfl rfl rfl ?_; simp only [fun44, Proofs.Try.f44, Seat.W_seq, Seat.W_region_false, Seat.rq_cons, s_step, guardOf, s_guard_true, s_alloc, allocS, allocK, intAV, List.set_cons_succ, List.set_cons_zero, List.cons_append, List.nil_append, List.length_cons, List.length_nil, List.getD_cons_succ, List.getD_cons_zero, List.reduceReplicate, Nat.reduceAdd, Nat.reduceSub, Nat.reduceLT, Nat.zero_add, ↓reduceIte, seat_T]
          simp only [Seat.W_seq, Seat.W_region_false, Seat.W_ret, Seat.W_skip, Seat.cond_eq, Seat.condK_true, Seat.condK_false, Seat.rq_nil, Seat.rq_cons, Seat.rqK_some, Seat.seq_normal, Seat.seq_ret, Seat.ret_ret, Seat.RetK, s_step, guardOf, s_guard_true, s_guard_false, s_alloc, s_assign, s_move, s_pick, s_bin, s_extract, s_fieldAddr, s_indexAddr, s_load, s_store, s_len, call_10, s_pure, s_setT, s_setN, allocS, allocK, storeS, storeK, loadK, loadC, pickK, pickAV, binK, binAV, cmpAV, intBin, boolAV, intAV, extractK, fieldAddrK, indexAddrK, lenK, lenAV, callS, callP, stripArgs, AV.stripA, strip_imm, IV.norm, lendArgs, lendArg, lend_imm, lendAll, resultsAV, resultAV, tupleOf, mkAV, TK.agg, setRange, mapEval, evalOp, ofValue, AV.leaves, solid_imm, List.set_cons_succ, List.set_cons_zero, List.getElem?_cons_succ, List.getElem?_cons_zero, List.cons_append, List.nil_append, List.append_nil, List.length_cons, List.length_nil, List.getD_cons_succ, List.getD_cons_zero, List.all_cons, List.all_nil, List.map_cons, List.map_nil, List.drop_succ_cons, List.drop_zero, List.take_succ_cons, List.take_zero, List.drop_nil, List.take_nil, Option.map_some, Option.some.injEq, Nat.reduceAdd, Nat.reduceLT, Nat.reduceLeDiff, Nat.zero_add, Nat.add_zero, Nat.le_refl, and_self, Bool.and_self, Bool.not_true, decide_true, eq_self, ge_iff_le, ↓reduceIte, exists_eq_left', seat_T, ob_getD, bq_tf, int_bne, Int.ofNat_le, T_61, T_59, T_22, T_5, T_3, h1, h2, h3, Cel.av, rob_len, hge]
        | some c =>
          have hlt := (List.getElem?_eq_some_iff.1 hgt).1
          have hge : ¬ bs.length ≤ n := by omega
          have hrow : (rowsOfBytes bs)[n]? = some [.int .u8 (c.toNat : Int)] := by rw [rob_get, hgt]; rfl
          by_cases hc1 : 1 < c.toNat
          · have hc1' : (1 : Int) < (c.toNat : Int) := by omega
            have hF : rF bs x3.2 = (false, (n : Int), true) := by unfold rF; rw [b3, hn]; simp only [Bool.false_eq_true, if_false, Int.toNat_natCast, hgt, hc1, if_true]
            rw [hF]
            have b4 : ((n : Int), true).2 = true := rfl
            rw [rT_bad b4, rN_bad b4]
            simp only [eP_bad b4, eE_bad b4]
            refine Seat.fn_of (f := fun44) (noS o 44 _ rfl) rfl rfl rfl ?_; simp only [fun44, Proofs.Try.f44, Seat.W_seq, Seat.W_region_false, Seat.rq_cons, s_step, guardOf, s_guard_true, s_alloc, allocS, allocK, intAV, List.set_cons_succ, List.set_cons_zero, List.cons_append, List.nil_append, List.length_cons, List.length_nil, List.getD_cons_succ, List.getD_cons_zero, List.reduceReplicate, Nat.reduceAdd, Nat.reduceSub, Nat.reduceLT, Nat.zero_add, ↓reduceIte, seat_T]
            simp only [Seat.W_seq, Seat.W_region_false, Seat.W_ret, Seat.W_skip, Seat.cond_eq, Seat.condK_true, Seat.condK_false, Seat.rq_nil, Seat.rq_cons, Seat.rqK_some, Seat.seq_normal, Seat.seq_ret, Seat.ret_ret, Seat.RetK, s_step, guardOf, s_guard_true, s_alloc, s_assign, s_move, s_pick, s_bin, s_extract, s_fieldAddr, s_indexAddr, s_load, s_store, s_len, call_10, s_pure, s_setT, s_setN, allocS, allocK, storeS, storeK, loadK, loadC, pickK, pickAV, binK, binAV, intBin, boolAV, intAV, extractK, fieldAddrK, elemK, indexAddrK, indexRow, lenK, lenAV, callS, callP, stripArgs, AV.stripA, strip_imm, IV.norm, lendArgs, lendArg, lend_imm, lendAll, rowsOf_sl, resultsAV, resultAV, tupleOf, mkAV, TK.agg, setRange, mapEval, evalOp, ofValue, AV.leaves, solid_imm, List.set_cons_succ, List.set_cons_zero, List.getElem?_cons_succ, List.getElem?_cons_zero, List.cons_append, List.nil_append, List.append_nil, List.length_cons, List.length_nil, List.getD_cons_succ, List.getD_cons_zero, List.all_cons, List.all_nil, List.map_cons, List.map_nil, List.drop_succ_cons, List.drop_zero, List.take_succ_cons, List.take_zero, List.drop_nil, List.take_nil, Option.map_some, Option.some.injEq, Nat.reduceAdd, Nat.reduceLT, Nat.reduceLeDiff, Nat.zero_add, Nat.add_zero, Nat.le_refl, Int.toNat_natCast, Int.natCast_nonneg, and_self, Bool.and_self, Bool.not_true, Bool.false_eq_true, decide_true, decide_false, beq_self_eq_true, eq_self, gt_iff_lt, ge_iff_le, ↓reduceIte, exists_eq_left', seat_T, ob_getD, int_bne, Int.ofNat_le, T_61, T_59, T_22, T_5, T_3, h1, h2, h3, Cel.av, rob_len, hge, hrow, hc1']
          · have hc1' : ¬ (1 : Int) < (c.toNat : Int) := by omega
            have hF : rF bs x3.2 = (decide (c.toNat = 1), ((n + 1 : Nat) : Int), false) := by unfold rF; rw [b3, hn]; simp only [Bool.false_eq_true, if_false, Int.toNat_natCast, hgt, hc1]
            have hd : decide ((c.toNat : Int) = 1) = decide (c.toNat = 1) := by congr 1; exact propext ⟨fun h => by omega, fun h => by omega⟩
            have e1 : IntKind.wrap .i64 ((n : Int) + 1) = ((n + 1 : Nat) : Int) := wrap_i64 (by omega) (by omega)
            rw [hF] at g4 ⊢
            have h5 := ref20 bs ((n + 1 : Nat) : Int) hl
            rw [start_nat (by omega)] at h5
            have g5 := rT_good g4
            simp only [intAV] at h5
            obtain ⟨x5, hx5⟩ : ∃ x, x = rT bs (((n + 1 : Nat) : Int), false) := ⟨_, rfl⟩
            simp only at g5
            rw [← hx5] at h5 g5 ⊢
            cases b5 : x5.2.2 with
            | true =>
              rw [eP_bad b5, eE_bad b5] at h5
              rw [rN_bad b5]
              simp only [eP_bad b5, eE_bad b5]
              refine Seat.fn_of (f := fun44) (noS o 44 _ rfl) rfl rfl rfl ?_; simp only [fun44, Proofs.Try.f44, Seat.W_seq, Seat.W_region_false, Seat.rq_cons, s_step, guardOf, s_guard_true, s_alloc, allocS, allocK, intAV, List.set_cons_succ, List.set_cons_zero, List.cons_append, List.nil_append, List.length_cons, List.length_nil, List.getD_cons_succ, List.getD_cons_zero, List.reduceReplicate, Nat.reduceAdd, Nat.reduceSub, Nat.reduceLT, Nat.zero_add, ↓reduceIte, seat_T]
              simp only [Seat.W_seq, Seat.W_region_false, Seat.W_ret, Seat.W_skip, Seat.cond_eq, Seat.condK_true, Seat.condK_false, Seat.rq_nil, Seat.rq_cons, Seat.rqK_some, Seat.seq_normal, Seat.seq_ret, Seat.ret_ret, Seat.RetK, s_step, guardOf, s_guard_true, s_alloc, s_assign, s_move, s_pick, s_bin, s_extract, s_fieldAddr, s_indexAddr, s_load, s_store, s_len, call_10, call_20, s_pure, s_setT, s_setN, allocS, allocK, storeS, storeK, loadK, loadC, pickK, pickAV, binK, binAV, intBin, boolAV, intAV, extractK, fieldAddrK, elemK, indexAddrK, indexRow, lenK, lenAV, callS, callP, stripArgs, AV.stripA, strip_imm, IV.norm, lendArgs, lendArg, lend_imm, lendAll, rowsOf_sl, resultsAV, resultAV, tupleOf, mkAV, TK.agg, setRange, mapEval, evalOp, ofValue, AV.leaves, solid_imm, List.set_cons_succ, List.set_cons_zero, List.getElem?_cons_succ, List.getElem?_cons_zero, List.cons_append, List.nil_append, List.append_nil, List.length_cons, List.length_nil, List.getD_cons_succ, List.getD_cons_zero, List.all_cons, List.all_nil, List.map_cons, List.map_nil, List.drop_succ_cons, List.drop_zero, List.take_succ_cons, List.take_zero, List.drop_nil, List.take_nil, Option.map_some, Option.some.injEq, Nat.reduceAdd, Nat.reduceLT, Nat.reduceLeDiff, Nat.zero_add, Nat.add_zero, Nat.le_refl, Int.toNat_natCast, Int.natCast_nonneg, and_self, Bool.and_self, Bool.not_true, Bool.not_false, Bool.false_eq_true, decide_true, decide_false, beq_self_eq_true, eq_self, gt_iff_lt, ge_iff_le, ↓reduceIte, exists_eq_left', seat_T, ob_getD, int_beq, int_bne, Int.ofNat_le, T_61, T_59, T_22, T_9, T_5, T_4, T_3, h1, h2, h3, h5, z, Cel.av, rob_len, hge, hrow, hc1', hd, e1]
            | false =>
              rw [eP_ok b5, eE_ok b5] at h5
              have h6 := ref10 bs x5.2.1 hl
              rw [start_of g5 b5] at h6
              simp only [tupI, intAV] at h6
              refine Seat.fn_of (f := fun44) (noS o 44 _ rfl) rfl rfl rfl ?_; simp only [fun44, Proofs.Try.f44, Seat.W_seq, Seat.W_region_false, Seat.rq_cons, s_step, guardOf, s_guard_true, s_alloc, allocS, allocK, intAV, List.set_cons_succ, List.set_cons_zero, List.cons_append, List.nil_append, List.length_cons, List.length_nil, List.getD_cons_succ, List.getD_cons_zero, List.reduceReplicate, Nat.reduceAdd, Nat.reduceSub, Nat.reduceLT, Nat.zero_add, ↓reduceIte, seat_T]
              simp only [Seat.W_seq, Seat.W_region_false, Seat.W_ret, Seat.W_skip, Seat.cond_eq, Seat.condK_false, Seat.rq_nil, Seat.rq_cons, Seat.rqK_some, Seat.seq_normal, Seat.ret_ret, Seat.RetK, s_step, guardOf, s_guard_true, s_alloc, s_assign, s_move, s_pick, s_bin, s_extract, s_fieldAddr, s_indexAddr, s_load, s_store, s_len, call_10, call_20, s_pure, s_setT, s_setN, allocS, allocK, storeS, storeK, loadK, loadC, pickK, pickAV, binK, binAV, intBin, boolAV, intAV, extractK, fieldAddrK, elemK, indexAddrK, indexRow, lenK, lenAV, callS, callP, stripArgs, AV.stripA, strip_imm, IV.norm, lendArgs, lendArg, lend_imm, lendAll, rowsOf_sl, resultsAV, resultAV, tupleOf, mkAV, TK.agg, setRange, mapEval, evalOp, ofValue, AV.leaves, solid_imm, List.set_cons_succ, List.set_cons_zero, List.getElem?_cons_succ, List.getElem?_cons_zero, List.cons_append, List.nil_append, List.append_nil, List.length_cons, List.length_nil, List.getD_cons_succ, List.getD_cons_zero, List.all_cons, List.all_nil, List.map_cons, List.map_nil, List.drop_succ_cons, List.drop_zero, List.take_succ_cons, List.take_zero, List.drop_nil, List.take_nil, Option.map_some, Option.some.injEq, Nat.reduceAdd, Nat.reduceLT, Nat.reduceLeDiff, Nat.zero_add, Nat.add_zero, Nat.le_refl, Int.toNat_natCast, Int.natCast_nonneg, and_self, Bool.and_self, Bool.not_true, Bool.false_eq_true, decide_true, decide_false, beq_self_eq_true, eq_self, gt_iff_lt, ge_iff_le, ↓reduceIte, exists_eq_left', seat_T, ob_getD, int_beq, int_bne, Int.ofNat_le, T_61, T_59, T_22, T_9, T_5, T_4, T_3, h1, h2, h3, h5, h6, Cel.av, rob_len, hge, hrow, hc1', hd, e1]

theorem rLC_bad {α : Type} {bs : List UInt8} {get : Rs → α × Rs} {r : Rs} (h : r.2 = true) : rL get (rC bs r).1 (rC bs r).2 = ([], r) := by
  rw [rC_bad h]; exact rL_bad h _
def zbox : Option AObj := some (.cells 36 0 [.imm (.int .i64 0), .imm .nil, .imm .nil, .imm (.str ⟨#[]⟩), .imm .nil])
theorem fn26 (bs : List UInt8) (a : Int) (hl : bs.length ≤ 16777216) : (seat o).fn 26 [.leaf (.imm (.sl (rowsOfBytes bs))), .leaf (.imm (.int .i64 a))] = some (.tup [(gC bs a).1.av, intAV .i64 (gC bs a).2.1, intAV .i64 (gC bs a).2.2]) := by
  have z := thirteen
  have g0 := start_good bs a
  have h1 := ref10 bs a hl
  simp only [tupI, intAV] at h1
  have g1 := rN_good g0
  obtain ⟨x1, hx1⟩ : ∃ x, x = rN bs (start bs a) := ⟨_, rfl⟩
  have g2 := rL_good (fun _ => rN_good) (rC bs x1.2).1 _ (rC_good (hx1 ▸ g1))
  obtain ⟨x2, hx2⟩ : ∃ x, x = rL (rN bs) (rC bs x1.2).1 (rC bs x1.2).2 := ⟨_, rfl⟩
  have g3 := rL_good (fun _ => rN_good) (rC bs x2.2).1 _ (rC_good (hx2 ▸ g2))
  obtain ⟨x3, hx3⟩ : ∃ x, x = rL (rN bs) (rC bs x2.2).1 (rC bs x2.2).2 := ⟨_, rfl⟩
  have g4 := rT_good (hx3 ▸ g3)
  obtain ⟨x4, hx4⟩ : ∃ x, x = rT bs x3.2 := ⟨_, rfl⟩
  have g5 := rC_good (hx4 ▸ g4)
  have hcl := rC_le (hx4 ▸ g4)
  obtain ⟨x5, hx5⟩ : ∃ x, x = rC bs x4.2 := ⟨_, rfl⟩
  obtain ⟨F, hF⟩ : ∃ F, F = rL (rCell bs) x5.1 x5.2 := ⟨_, rfl⟩
  have hcom : rCom bs (start bs a) = (⟨x1.1, x2.1, x3.1, x4.1, F.1⟩, F.2) := by rw [hF, hx5, hx4, hx3, hx2, hx1]; rfl
  have hgC : gC bs a = if F.2.2 then (zcom, 0, 13) else (⟨x1.1, x2.1, x3.1, x4.1, F.1⟩, F.2.1, 0) := by unfold gC; rw [hcom]
  rw [hgC]
  rw [← hx1] at h1 g1
  rw [← hx2] at g2
  rw [← hx3] at g3
  rw [← hx4] at g4
  rw [← hx5] at g5 hcl
  clear hgC hcom
  cases b1 : x1.2.2 with
  | true =>
    rw [eP_bad b1, eE_bad b1] at h1
    have e2 : x2 = ([], x1.2) := by rw [hx2]; exact rLC_bad b1
    have e3 : x3 = ([], x1.2) := by rw [hx3, e2]; exact rLC_bad b1
    have e4 : x4 = (⟨#[]⟩, x1.2) := by rw [hx4, e3]; exact rT_bad b1
    have e5 : x5 = (0, x1.2) := by rw [hx5, e4]; exact rC_bad b1
    have bF : F.2.2 = true := by rw [hF, e5]; exact b1
    rw [bF]
    refine Seat.fn_of (f := fun26) (noS o 26 _ rfl) rfl rfl rfl ?_; simp only [fun26, Proofs.Try.f26, Seat.W_seq, Seat.W_region_false, Seat.rq_cons, s_step, guardOf, s_guard_true, s_alloc, allocS, allocK, intAV, List.set_cons_succ, List.set_cons_zero, List.cons_append, List.nil_append, List.length_cons, List.length_nil, List.getD_cons_succ, List.getD_cons_zero, List.reduceReplicate, Nat.reduceAdd, Nat.reduceSub, Nat.reduceLT, Nat.zero_add, eq_self, ↓reduceIte, seat_T]
    simp only [Seat.W_seq, Seat.W_region_false, Seat.W_ret, Seat.cond_eq, Seat.condK_true, Seat.rq_nil, Seat.rq_cons, Seat.rqK_some, Seat.seq_normal, Seat.seq_ret, Seat.ret_ret, Seat.RetK, s_step, guardOf, s_guard_true, s_alloc, s_assign, s_move, s_bin, s_extract, s_fieldAddr, s_build, s_store, call_10, s_pure, s_setT, s_setN, allocS, allocK, storeS, storeK, binK, binAV, intBin, boolAV, extractK, fieldAddrK, evalParts, aggK, buildK, callS, callP, stripArgs, AV.stripA, strip_imm, IV.norm, lendArgs, lendArg, lend_imm, lendAll, resultsAV, resultAV, tupleOf, mkAV, TK.agg, fillAV, setRange, mapEval, evalOp, ofValue, AV.leaves, solid_imm, List.set_cons_succ, List.set_cons_zero, List.getElem?_cons_succ, List.getElem?_cons_zero, List.cons_append, List.nil_append, List.append_nil, List.length_cons, List.length_nil, List.getD_cons_succ, List.getD_cons_zero, List.all_cons, List.all_nil, List.map_cons, List.map_nil, List.drop_succ_cons, List.drop_zero, List.take_succ_cons, List.take_zero, List.drop_nil, List.take_nil, Option.map_some, Option.some.injEq, Nat.reduceAdd, Nat.reduceLT, Nat.reduceLeDiff, Nat.zero_add, Nat.add_zero, Nat.le_refl, and_self, Bool.and_self, Bool.not_false, decide_false, eq_self, ↓reduceIte, exists_eq_left', seat_T, ob_getD, int_bne, T_36, T_3, h1, z, Com.av, zcom, ints]
  | false =>
    rw [eP_ok b1, eE_ok b1] at h1
    have h2 := fn42 bs x1.2.1 hl
    rw [start_of g1 b1, ← hx2] at h2
    simp only [intAV] at h2
    cases b2 : x2.2.2 with
    | true =>
      rw [eP_bad b2, eE_bad b2] at h2
      have e3 : x3 = ([], x2.2) := by rw [hx3]; exact rLC_bad b2
      have e4 : x4 = (⟨#[]⟩, x2.2) := by rw [hx4, e3]; exact rT_bad b2
      have e5 : x5 = (0, x2.2) := by rw [hx5, e4]; exact rC_bad b2
      have bF : F.2.2 = true := by rw [hF, e5]; exact b2
      rw [bF]
      refine Seat.fn_of (f := fun26) (noS o 26 _ rfl) rfl rfl rfl ?_; simp only [fun26, Proofs.Try.f26, Seat.W_seq, Seat.W_region_false, Seat.rq_cons, s_step, guardOf, s_guard_true, s_alloc, allocS, allocK, intAV, List.set_cons_succ, List.set_cons_zero, List.cons_append, List.nil_append, List.length_cons, List.length_nil, List.getD_cons_succ, List.getD_cons_zero, List.reduceReplicate, Nat.reduceAdd, Nat.reduceSub, Nat.reduceLT, Nat.zero_add, eq_self, ↓reduceIte, seat_T]
      simp only [Seat.W_seq, Seat.W_region_false, Seat.W_ret, Seat.W_skip, Seat.cond_eq, Seat.condK_true, Seat.condK_false, Seat.rq_nil, Seat.rq_cons, Seat.rqK_some, Seat.seq_normal, Seat.seq_ret, Seat.ret_ret, Seat.RetK, s_step, guardOf, s_guard_true, s_alloc, s_assign, s_move, s_bin, s_extract, s_fieldAddr, s_build, s_store, call_10, call_42, s_pure, s_setT, s_setN, allocS, allocK, storeS, storeK, binK, binAV, intBin, boolAV, extractK, fieldAddrK, evalParts, aggK, buildK, callS, callP, stripArgs, AV.stripA, strip_imm, IV.norm, lendArgs, lendArg, lend_imm, lendAll, resultsAV, resultAV, tupleOf, mkAV, TK.agg, fillAV, setRange, mapEval, evalOp, ofValue, AV.leaves, solid_imm, List.set_cons_succ, List.set_cons_zero, List.getElem?_cons_succ, List.getElem?_cons_zero, List.cons_append, List.nil_append, List.append_nil, List.length_cons, List.length_nil, List.getD_cons_succ, List.getD_cons_zero, List.all_cons, List.all_nil, List.map_cons, List.map_nil, List.drop_succ_cons, List.drop_zero, List.take_succ_cons, List.take_zero, List.drop_nil, List.take_nil, Option.map_some, Option.some.injEq, Nat.reduceAdd, Nat.reduceLT, Nat.reduceLeDiff, Nat.zero_add, Nat.add_zero, Nat.le_refl, and_self, Bool.and_self, Bool.not_true, Bool.not_false, decide_true, decide_false, eq_self, ↓reduceIte, exists_eq_left', seat_T, ob_getD, int_bne, T_36, T_33, T_3, h1, h2, z, Com.av, zcom, ints]
    | false =>
      rw [eP_ok b2, eE_ok b2] at h2
      have h3 := fn42 bs x2.2.1 hl
      rw [start_of g2 b2, ← hx3] at h3
      simp only [intAV] at h3
      cases b3 : x3.2.2 with
      | true =>
        rw [eP_bad b3, eE_bad b3] at h3
        have e4 : x4 = (⟨#[]⟩, x3.2) := by rw [hx4]; exact rT_bad b3
        have e5 : x5 = (0, x3.2) := by rw [hx5, e4]; exact rC_bad b3
        have bF : F.2.2 = true := by rw [hF, e5]; exact b3
        rw [bF]
        refine Seat.fn_of (f := fun26) (noS o 26 _ rfl) rfl rfl rfl ?_; simp only [fun26, Proofs.Try.f26, Seat.W_seq, Seat.W_region_false, Seat.rq_cons, s_step, guardOf, s_guard_true, s_alloc, allocS, allocK, intAV, List.set_cons_succ, List.set_cons_zero, List.cons_append, List.nil_append, List.length_cons, List.length_nil, List.getD_cons_succ, List.getD_cons_zero, List.reduceReplicate, Nat.reduceAdd, Nat.reduceSub, Nat.reduceLT, Nat.zero_add, eq_self, ↓reduceIte, seat_T]
        simp only [Seat.W_seq, Seat.W_region_false, Seat.W_ret, Seat.W_skip, Seat.cond_eq, Seat.condK_true, Seat.condK_false, Seat.rq_nil, Seat.rq_cons, Seat.rqK_some, Seat.seq_normal, Seat.seq_ret, Seat.ret_ret, Seat.RetK, s_step, guardOf, s_guard_true, s_alloc, s_assign, s_move, s_bin, s_extract, s_fieldAddr, s_build, s_store, call_10, call_42, s_pure, s_setT, s_setN, allocS, allocK, storeS, storeK, binK, binAV, intBin, boolAV, extractK, fieldAddrK, evalParts, aggK, buildK, callS, callP, stripArgs, AV.stripA, strip_imm, IV.norm, lendArgs, lendArg, lend_imm, lendAll, resultsAV, resultAV, tupleOf, mkAV, TK.agg, fillAV, setRange, mapEval, evalOp, ofValue, AV.leaves, solid_imm, List.set_cons_succ, List.set_cons_zero, List.getElem?_cons_succ, List.getElem?_cons_zero, List.cons_append, List.nil_append, List.append_nil, List.length_cons, List.length_nil, List.getD_cons_succ, List.getD_cons_zero, List.all_cons, List.all_nil, List.map_cons, List.map_nil, List.drop_succ_cons, List.drop_zero, List.take_succ_cons, List.take_zero, List.drop_nil, List.take_nil, Option.map_some, Option.some.injEq, Nat.reduceAdd, Nat.reduceLT, Nat.reduceLeDiff, Nat.zero_add, Nat.add_zero, Nat.le_refl, and_self, Bool.and_self, Bool.not_true, Bool.not_false, decide_true, decide_false, eq_self, ↓reduceIte, exists_eq_left', seat_T, ob_getD, int_bne, T_36, T_33, T_3, h1, h2, h3, z, Com.av, zcom, ints]
      | false =>
        rw [eP_ok b3, eE_ok b3] at h3
        have h4 := ref20 bs x3.2.1 hl
        rw [start_of g3 b3, ← hx4] at h4
        simp only [intAV] at h4
        cases b4 : x4.2.2 with
        | true =>
          rw [eP_bad b4, eE_bad b4] at h4
          have e5 : x5 = (0, x4.2) := by rw [hx5]; exact rC_bad b4
          have bF : F.2.2 = true := by rw [hF, e5]; exact b4
          rw [bF]
          refine Seat.fn_of (f := fun26) (noS o 26 _ rfl) rfl rfl rfl ?_; simp only [fun26, Proofs.Try.f26, Seat.W_seq, Seat.W_region_false, Seat.rq_cons, s_step, guardOf, s_guard_true, s_alloc, allocS, allocK, intAV, List.set_cons_succ, List.set_cons_zero, List.cons_append, List.nil_append, List.length_cons, List.length_nil, List.getD_cons_succ, List.getD_cons_zero, List.reduceReplicate, Nat.reduceAdd, Nat.reduceSub, Nat.reduceLT, Nat.zero_add, eq_self, ↓reduceIte, seat_T]
          simp only [Seat.W_seq, Seat.W_region_false, Seat.W_ret, Seat.W_skip, Seat.cond_eq, Seat.condK_true, Seat.condK_false, Seat.rq_nil, Seat.rq_cons, Seat.rqK_some, Seat.seq_normal, Seat.seq_ret, Seat.ret_ret, Seat.RetK, s_step, guardOf, s_guard_true, s_alloc, s_assign, s_move, s_bin, s_extract, s_fieldAddr, s_build, s_store, call_10, call_20, call_42, s_pure, s_setT, s_setN, allocS, allocK, storeS, storeK, binK, binAV, intBin, boolAV, extractK, fieldAddrK, evalParts, aggK, buildK, callS, callP, stripArgs, AV.stripA, strip_imm, IV.norm, lendArgs, lendArg, lend_imm, lendAll, resultsAV, resultAV, tupleOf, mkAV, TK.agg, fillAV, setRange, mapEval, evalOp, ofValue, AV.leaves, solid_imm, List.set_cons_succ, List.set_cons_zero, List.getElem?_cons_succ, List.getElem?_cons_zero, List.cons_append, List.nil_append, List.append_nil, List.length_cons, List.length_nil, List.getD_cons_succ, List.getD_cons_zero, List.all_cons, List.all_nil, List.map_cons, List.map_nil, List.drop_succ_cons, List.drop_zero, List.take_succ_cons, List.take_zero, List.drop_nil, List.take_nil, Option.map_some, Option.some.injEq, Nat.reduceAdd, Nat.reduceLT, Nat.reduceLeDiff, Nat.zero_add, Nat.add_zero, Nat.le_refl, and_self, Bool.and_self, Bool.not_true, Bool.not_false, decide_true, decide_false, eq_self, ↓reduceIte, exists_eq_left', seat_T, ob_getD, int_bne, T_36, T_33, T_9, T_3, h1, h2, h3, h4, z, Com.av, zcom, ints]
        | false =>
          rw [eP_ok b4, eE_ok b4] at h4
          have h5 := fn43 bs x4.2.1 hl
          rw [start_of g4 b4, ← hx5] at h5
          simp only [tupI, intAV] at h5
          cases b5 : x5.2.2 with
          | true =>
            rw [eP_bad b5, eE_bad b5] at h5
            have bF : F.2.2 = true := by rw [hF, rL_bad b5]; exact b5
            rw [bF]
            refine Seat.fn_of (f := fun26) (noS o 26 _ rfl) rfl rfl rfl ?_; simp only [fun26, Proofs.Try.f26, Seat.W_seq, Seat.W_region_false, Seat.rq_cons, s_step, guardOf, s_guard_true, s_alloc, allocS, allocK, intAV, List.set_cons_succ, List.set_cons_zero, List.cons_append, List.nil_append, List.length_cons, List.length_nil, List.getD_cons_succ, List.getD_cons_zero, List.reduceReplicate, Nat.reduceAdd, Nat.reduceSub, Nat.reduceLT, Nat.zero_add, eq_self, ↓reduceIte, seat_T]
            simp only [Seat.W_seq, Seat.W_region_false, Seat.W_ret, Seat.W_skip, Seat.cond_eq, Seat.condK_true, Seat.condK_false, Seat.rq_nil, Seat.rq_cons, Seat.rqK_some, Seat.seq_normal, Seat.seq_ret, Seat.ret_ret, Seat.RetK, s_step, guardOf, s_guard_true, s_alloc, s_assign, s_move, s_bin, s_extract, s_fieldAddr, s_build, s_store, call_10, call_20, call_42, call_43, s_pure, s_setT, s_setN, allocS, allocK, storeS, storeK, binK, binAV, intBin, boolAV, extractK, fieldAddrK, evalParts, aggK, buildK, callS, callP, stripArgs, AV.stripA, strip_imm, IV.norm, lendArgs, lendArg, lend_imm, lendAll, resultsAV, resultAV, tupleOf, mkAV, TK.agg, fillAV, setRange, mapEval, evalOp, ofValue, AV.leaves, solid_imm, List.set_cons_succ, List.set_cons_zero, List.getElem?_cons_succ, List.getElem?_cons_zero, List.cons_append, List.nil_append, List.append_nil, List.length_cons, List.length_nil, List.getD_cons_succ, List.getD_cons_zero, List.all_cons, List.all_nil, List.map_cons, List.map_nil, List.drop_succ_cons, List.drop_zero, List.take_succ_cons, List.take_zero, List.drop_nil, List.take_nil, Option.map_some, Option.some.injEq, Nat.reduceAdd, Nat.reduceLT, Nat.reduceLeDiff, Nat.zero_add, Nat.add_zero, Nat.le_refl, and_self, Bool.and_self, Bool.not_true, Bool.not_false, decide_true, decide_false, eq_self, ↓reduceIte, exists_eq_left', seat_T, ob_getD, int_bne, T_36, T_33, T_9, T_3, h1, h2, h3, h4, h5, z, Com.av, zcom, ints]
          | false =>
            rw [eP_ok b5, eE_ok b5] at h5
            refine Seat.fn_of (f := fun26) (noS o 26 _ rfl) rfl rfl rfl ?_; simp only [fun26, Proofs.Try.f26, Seat.W_seq, Seat.W_region_false, Seat.rq_cons, s_step, guardOf, s_guard_true, s_alloc, allocS, allocK, intAV, List.set_cons_succ, List.set_cons_zero, List.cons_append, List.nil_append, List.length_cons, List.length_nil, List.getD_cons_succ, List.getD_cons_zero, List.reduceReplicate, Nat.reduceAdd, Nat.reduceSub, Nat.reduceLT, Nat.zero_add, ↓reduceIte, seat_T]
            simp only [Seat.W_seq, Seat.W_block, Seat.W_loop, Seat.W_region_false, Seat.W_skip, Seat.cond_eq, Seat.condK_false, Seat.rq_nil, Seat.rq_cons, Seat.rqK_some, Seat.seq_normal, s_step, guardOf, s_guard_true, s_alloc, s_assign, s_move, s_bin, s_extract, s_fieldAddr, s_store, call_10, call_20, call_42, call_43, s_pure, s_setT, s_setN, allocS, allocK, storeS, storeK, binK, binAV, intBin, boolAV, extractK, fieldAddrK, callS, callP, stripArgs, AV.stripA, strip_imm, IV.norm, setRange, mapEval, evalOp, ofValue, AV.leaves, solid_imm, List.set_cons_succ, List.set_cons_zero, List.getElem?_cons_succ, List.getElem?_cons_zero, List.cons_append, List.nil_append, List.length_cons, List.length_nil, List.getD_cons_succ, List.getD_cons_zero, List.all_cons, List.all_nil, List.map_cons, List.map_nil, List.drop_succ_cons, List.drop_zero, List.take_succ_cons, List.take_zero, List.contains_cons, List.contains_nil, Option.map_some, Option.map_none, Option.getD_some, Nat.reduceAdd, Nat.reduceLT, Nat.reduceLeDiff, Nat.reduceBEq, Nat.zero_add, Nat.add_zero, and_self, true_and, Bool.and_self, Bool.or_false, Bool.or_true, Bool.not_true, Bool.false_eq_true, decide_true, decide_false, beq_self_eq_true, eq_self, ↓reduceIte, seat_T, ob_getD, int_bne, keepSt, keepTmps, keepObjs, kept, keepAV, keepLV_imm, keepLV_ptr, keepObj, promote, promoteT, seedLV, seedObj, firstRegion, k26, T_36, T_33, T_9, T_3, h1, h2, h3, h4, h5]
            refine Seat.loop_by (fun s : List Cel × Rs => L26_20 (.leaf (.imm (.sl (rowsOfBytes bs)))) (.leaf (.ptr 4 0 0)) (.leaf (.ptr 7 0 0)) (intAV .i64 s.2.1) (intAV .i64 (x5.1 : Int)) (intAV .i64 (s.1.length : Int)) zbox (some (.cells 36 0 [.imm (.int .i64 x1.1), .imm (.sl (ints x2.1)), .imm (.sl (ints x3.1)), .imm (.str x4.1), .ap 93 (cels s.1)])) none none none none none (some (.tail 61 6 s.1.length))) (fun s => Good bs s.2 ∧ s.2.2 = false ∧ s.1.length ≤ x5.1 ∧ (s.1 ++ (rL (rCell bs) (x5.1 - s.1.length) s.2).1, (rL (rCell bs) (x5.1 - s.1.length) s.2).2) = F) (fun s => x5.1 - s.1.length) ([], x5.2) rfl ⟨g5, b5, Nat.zero_le _, by rw [hF]; rfl⟩ ?_
            rintro ⟨l, q⟩ ⟨hq, hb, hle, hv⟩
            simp only at hq hb hle hv
            by_cases hlt : l.length < x5.1
            · obtain ⟨m, hm⟩ : ∃ m, x5.1 - l.length = m + 1 := ⟨x5.1 - l.length - 1, by omega⟩
              rw [hm, rL, hb] at hv
              simp only [Bool.false_eq_true, if_false] at hv
              have h6 := fn44 bs q.1 hl
              rw [start_of hq hb] at h6
              simp only [intAV, Cel.av] at h6
              have e1 : IntKind.wrap .i64 ((l.length : Int) + 1) = ((l.length + 1 : Nat) : Int) := wrap_i64 (by omega) (by omega)
              have hr : (l.length + 1) * 56 ≤ room := room_of (by omega) (by decide)
              cases b6 : (rCell bs q).2.2 with
              | true =>
                rw [eP_bad b6, eE_bad b6] at h6
                rw [rL_bad b6] at hv
                have bF : F.2.2 = true := by rw [← hv]; exact b6
                rw [bF]
                simp only [L26_20, zbox, Seat.W_seq, Seat.W_block, Seat.W_region_false, Seat.W_ret, Seat.W_skip, Seat.cond_eq, Seat.condK_true, Seat.rq_nil, Seat.rq_cons, Seat.rqK_some, Seat.seq_normal, Seat.seq_ret, Seat.blk_ret, Seat.ret_ret, Seat.RetK, loopEnd_ret, s_step, guardOf, s_guard_true, s_alloc, s_assign, s_move, s_bin, s_extract, s_build, s_store, call_44, s_pure, s_setT, s_setN, allocS, allocK, storeS, storeK, binK, binAV, intBin, boolAV, intAV, extractK, evalParts, aggK, buildK, callS, callP, stripArgs, AV.stripA, strip_imm, IV.norm, lendArgs, lendArg, lend_imm, lendAll, resultsAV, resultAV, tupleOf, mkAV, TK.agg, fillAV, setRange, mapEval, evalOp, ofValue, AV.leaves, solid_imm, List.set_cons_succ, List.set_cons_zero, List.getElem?_cons_succ, List.getElem?_cons_zero, List.nil_append, List.append_nil, List.length_cons, List.length_nil, List.getD_cons_succ, List.getD_cons_zero, List.all_cons, List.all_nil, List.map_cons, List.map_nil, List.drop_succ_cons, List.drop_zero, List.take_succ_cons, List.take_zero, List.drop_nil, List.take_nil, Option.map_some, Option.getD_some, Option.some.injEq, Nat.reduceAdd, Nat.reduceLT, Nat.zero_add, Nat.le_refl, and_self, Bool.and_self, Bool.not_false, decide_true, decide_false, eq_self, ↓reduceIte, exists_eq_left', seat_T, ob_getD, int_bne, Int.ofNat_lt, firstRegion, k26, T_36, T_61, hlt, h6, z, Com.av, zcom, ints]
              | false =>
                rw [eP_ok b6, eE_ok b6] at h6
                simp only [L26_20, zbox, Seat.W_seq, Seat.W_block, Seat.W_region_false, Seat.W_skip, Seat.cond_eq, Seat.condK_true, Seat.condK_false, Seat.env_grow, Seat.rq_nil, Seat.rq_cons, Seat.rqK_some, Seat.seq_normal, Seat.blk_normal, loopEnd_normal, s_step, guardOf, s_guard_true, s_alloc, s_assign, s_move, s_bin, s_extract, s_fieldAddr, s_buildSlice, s_load, s_store, call_44, s_append, s_pure, s_setT, s_setN, allocS, allocK, storeS, storeK, loadK, loadC, binK, binAV, intBin, boolAV, intAV, extractK, fieldAddrK, evalParts, clipK, rowsK, buildSliceK, callS, callP, appK, appR, appT, appE_c, appS, app2, appTail, stripArgs, AV.stripA, strip_imm, stripAll, IV.norm, rowsOf_clip, rowsAt, mkAV, TK.agg, fillAV, setRange, mapEval, evalOp, ofValue, AV.leaves, solid_imm, solid_ap, List.set_cons_succ, List.set_cons_zero, List.getElem?_cons_succ, List.getElem?_cons_zero, List.cons_append, List.nil_append, List.append_nil, List.length_cons, List.length_nil, List.getD_cons_succ, List.getD_cons_zero, List.all_cons, List.all_nil, List.map_cons, List.map_nil, List.drop_succ_cons, List.drop_zero, List.take_succ_cons, List.take_zero, List.drop_nil, List.take_nil, List.flatten_cons, List.flatten_nil, List.reduceReplicate, List.contains_cons, List.contains_nil, Option.map_some, Option.map_none, Option.getD_some, Nat.reduceAdd, Nat.reduceLT, Nat.reduceLeDiff, Nat.reduceBEq, Nat.zero_add, Nat.zero_mul, Nat.one_mul, Nat.le_refl, and_self, Bool.and_self, Bool.or_false, Bool.or_true, Bool.not_true, Bool.false_eq_true, decide_true, decide_false, beq_self_eq_true, eq_self, ↓reduceIte, seat_T, ob_getD, int_bne, Int.ofNat_lt, keepSt, keepTmps, keepObjs, kept, keepAV, keepLV_imm, keepLV_ptr, keepLV_ap, keepObj, promote, promoteT, firstRegion, k26, T_36, T_34, T_61, hlt, h6, e1, cels_len, hr]
                refine ⟨(l ++ [(rCell bs q).1], (rCell bs q).2), ⟨rCell_good hq, b6, by simp only [List.length_append, List.length_cons, List.length_nil]; omega, ?_⟩, by simp only [List.length_append, List.length_cons, List.length_nil]; omega, ?_⟩
                · have : x5.1 - (l ++ [(rCell bs q).1]).length = m := by simp only [List.length_append, List.length_cons, List.length_nil]; omega
                  simp only [this]
                  rw [List.append_assoc]
                  exact hv
                · simp [cels, Cel.row]
            · have e : x5.1 - l.length = 0 := by omega
              rw [e, rL] at hv
              simp only [List.append_nil] at hv
              have bF : F.2.2 = false := by rw [← hv]; exact hb
              subst hv
              simp only at bF
              rw [bF]
              simp only [L26_20, zbox, Seat.W_seq, Seat.W_region_false, Seat.W_exit, Seat.W_ret, Seat.cond_eq, Seat.condK_false, Seat.rq_nil, Seat.rq_cons, Seat.rqK_some, Seat.seq_normal, Seat.seq_exit, Seat.blk_exit, Seat.ret_ret, Seat.RetK, loopEnd_exit, s_step, guardOf, s_guard_true, s_assign, s_move, s_bin, s_load, s_store, s_pure, s_setT, s_setN, storeS, storeK, loadK, loadC, binK, binAV, intBin, boolAV, intAV, IV.norm, lendArgs, lendArg, lend_imm, lend_ap, lendAll, resultsAV, resultAV, tupleOf, mkAV, TK.agg, setRange, evalOp, ofValue, AV.leaves, solid_imm, solid_ap, List.set_cons_succ, List.set_cons_zero, List.getElem?_cons_succ, List.getElem?_cons_zero, List.nil_append, List.append_nil, List.length_cons, List.length_nil, List.getD_cons_succ, List.getD_cons_zero, List.all_cons, List.all_nil, List.map_cons, List.map_nil, List.drop_succ_cons, List.drop_zero, List.take_succ_cons, List.take_zero, List.drop_nil, List.take_nil, Option.map_some, Option.getD_some, Option.some.injEq, Nat.reduceAdd, Nat.reduceLT, Nat.zero_add, Nat.le_refl, and_self, Bool.and_self, Bool.false_eq_true, decide_false, eq_self, ↓reduceIte, exists_eq_left', seat_T, ob_getD, Int.ofNat_lt, firstRegion, k26, T_36, hlt, Com.av, cels]
end Go.Ai
