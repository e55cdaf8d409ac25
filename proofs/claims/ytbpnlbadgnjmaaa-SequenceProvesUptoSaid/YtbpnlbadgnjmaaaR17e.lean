/- Small functions of the alignments' laws: light, dice, comparing equals. No condition. -/
import Derived.Test.YtbpnlbadgnjmaaaR17b
import Derived.Test.YtbpnlbadgnjmaaaAiSim6
namespace Go.Ai
set_option linter.unusedVariables false
set_option linter.unusedSimpArgs false
set_option maxRecDepth 100000
set_option maxHeartbeats 4000000
variable (o : Orac)
theorem room_one' {n : Nat} (h : n ≤ 1099511627776) : n ≤ room := by unfold room; omega
theorem room_of {n k : Nat} (h : n ≤ 16777216) (hk : k ≤ 1048576) : n * k ≤ room := by
  have : n * k ≤ 16777216 * 1048576 := Nat.mul_le_mul h hk
  unfold room; omega

theorem mid_take {α : Type} {p : List α} {i : Nat} (h : p.length = i) (x : α) (r : List α) : List.take i (p ++ x :: r) = p := by subst h; simp
theorem mid_drop {α : Type} {p : List α} {i : Nat} (h : p.length = i) (x : α) (r : List α) : List.drop i (p ++ x :: r) = x :: r := by subst h; simp
theorem mid_drop1 {α : Type} {p : List α} {i : Nat} (h : p.length = i) (x : α) (r : List α) : List.drop (i + 1) (p ++ x :: r) = r := by subst h; simp
theorem mid_len {α : Type} {p : List α} {i : Nat} (h : p.length = i) (x : α) (r : List α) : i + 1 ≤ (p ++ x :: r).length := by subst h; simp
def Lgt (d a : List Int) (c : Mat) : Prop := d.length ≤ 40 ∧ a.length ≤ 40 ∧ c.length ≤ 60 ∧ ∀ r ∈ c, r.length ≤ 60
instance (d a : List Int) (c : Mat) : Decidable (Lgt d a c) := inferInstanceAs (Decidable (d.length ≤ 40 ∧ a.length ≤ 40 ∧ c.length ≤ 60 ∧ ∀ r ∈ c, r.length ≤ 60))

theorem fn9 (d a : List Int) (c : Mat) (hd : d.length ≤ 1099511627776) (ha : a.length ≤ 1099511627776) (hc : c.length ≤ 1099511627776) (hr : Bdd c) :
    (seat o).fn 9 [.leaf (.imm (.sl (ints d))), .leaf (.imm (.sl (ints a))), .leaf (.imm (.sl (mat c)))] = some (boolAV (decide (Lgt d a c))) := by
  by_cases h1 : 40 < d.length
  · have h1' : (40 : Int) < (d.length : Int) := by omega
    rw [decide_eq_false (show ¬ Lgt d a c from fun p => by have := p.1; omega)]
    refine Seat.fn_of (f := fun9) (noS o 9 _ rfl) rfl rfl rfl ?_; simp only [fun9, Proofs.Try.f9, Seat.W_seq, Seat.W_region_false, Seat.rq_nil, Seat.rq_cons, Seat.rqK_some, Seat.seq_normal, s_step, guardOf, s_guard_true, s_assign, s_move, s_len, s_pure, s_setT, boolAV, intAV, lenK, lenAV, mapEval, evalOp, ofValue, List.set_cons_succ, List.set_cons_zero, List.getElem?_cons_succ, List.getElem?_cons_zero, List.cons_append, List.nil_append, List.length_cons, List.length_nil, List.reduceReplicate, Nat.reduceAdd, Nat.reduceSub, Nat.zero_add, seat_T]
    simp only [Seat.W_seq, Seat.W_region_false, Seat.W_ret, Seat.cond_eq, Seat.condK_true, Seat.rq_nil, Seat.rq_cons, Seat.rqK_some, Seat.seq_normal, Seat.seq_ret, Seat.ret_ret, Seat.RetK, s_step, guardOf, s_guard_true, s_guard_false, s_assign, s_move, s_pick, s_bin, s_len, s_pure, s_setT, pickK, pickAV, binK, binAV, cmpAV, intBin, boolAV, lenK, lenAV, IV.norm, lendArgs, lendArg, lend_imm, resultsAV, resultAV, tupleOf, mapEval, evalOp, ofValue, List.set_cons_succ, List.set_cons_zero, List.getElem?_cons_succ, List.getElem?_cons_zero, Option.map_some, Option.some.injEq, decide_true, eq_self, gt_iff_lt, ↓reduceIte, exists_eq_left', seat_T, bq_tf, T_22, T_23, T_3, ints_len, h1']
  · have h1' : ¬ (40 : Int) < (d.length : Int) := by omega
    by_cases h2 : 40 < a.length
    · have h2' : (40 : Int) < (a.length : Int) := by omega
      rw [decide_eq_false (show ¬ Lgt d a c from fun p => by have := p.2.1; omega)]
      refine Seat.fn_of (f := fun9) (noS o 9 _ rfl) rfl rfl rfl ?_; simp only [fun9, Proofs.Try.f9, Seat.W_seq, Seat.W_region_false, Seat.rq_nil, Seat.rq_cons, Seat.rqK_some, Seat.seq_normal, s_step, guardOf, s_guard_true, s_assign, s_move, s_len, s_pure, s_setT, boolAV, intAV, lenK, lenAV, mapEval, evalOp, ofValue, List.set_cons_succ, List.set_cons_zero, List.getElem?_cons_succ, List.getElem?_cons_zero, List.cons_append, List.nil_append, List.length_cons, List.length_nil, List.reduceReplicate, Nat.reduceAdd, Nat.reduceSub, Nat.zero_add, seat_T]
      simp only [Seat.W_seq, Seat.W_region_false, Seat.W_ret, Seat.cond_eq, Seat.condK_true, Seat.rq_nil, Seat.rq_cons, Seat.rqK_some, Seat.seq_normal, Seat.seq_ret, Seat.ret_ret, Seat.RetK, s_step, guardOf, s_guard_true, s_guard_false, s_assign, s_move, s_pick, s_bin, s_len, s_pure, s_setT, pickK, pickAV, binK, binAV, cmpAV, intBin, boolAV, intAV, lenK, lenAV, IV.norm, lendArgs, lendArg, lend_imm, resultsAV, resultAV, tupleOf, mapEval, evalOp, ofValue, List.set_cons_succ, List.set_cons_zero, List.getElem?_cons_succ, List.getElem?_cons_zero, Option.map_some, Option.some.injEq, Bool.false_eq_true, decide_true, decide_false, beq_self_eq_true, eq_self, gt_iff_lt, ↓reduceIte, exists_eq_left', seat_T, bq_tf, T_22, T_23, T_3, ints_len, h1', h2']
    · have h2' : ¬ (40 : Int) < (a.length : Int) := by omega
      by_cases h3 : 60 < c.length
      · have h3' : (60 : Int) < (c.length : Int) := by omega
        rw [decide_eq_false (show ¬ Lgt d a c from fun p => by have := p.2.2.1; omega)]
        refine Seat.fn_of (f := fun9) (noS o 9 _ rfl) rfl rfl rfl ?_; simp only [fun9, Proofs.Try.f9, Seat.W_seq, Seat.W_region_false, Seat.rq_nil, Seat.rq_cons, Seat.rqK_some, Seat.seq_normal, s_step, guardOf, s_guard_true, s_assign, s_move, s_len, s_pure, s_setT, boolAV, intAV, lenK, lenAV, mapEval, evalOp, ofValue, List.set_cons_succ, List.set_cons_zero, List.getElem?_cons_succ, List.getElem?_cons_zero, List.cons_append, List.nil_append, List.length_cons, List.length_nil, List.reduceReplicate, Nat.reduceAdd, Nat.reduceSub, Nat.zero_add, seat_T]
        simp only [Seat.W_seq, Seat.W_region_false, Seat.W_ret, Seat.cond_eq, Seat.condK_true, Seat.rq_nil, Seat.rq_cons, Seat.rqK_some, Seat.seq_normal, Seat.seq_ret, Seat.ret_ret, Seat.RetK, s_step, guardOf, s_guard_true, s_assign, s_move, s_pick, s_bin, s_len, s_pure, s_setT, pickK, pickAV, binK, binAV, intBin, boolAV, intAV, lenK, lenAV, IV.norm, lendArgs, lendArg, lend_imm, resultsAV, resultAV, tupleOf, mapEval, evalOp, ofValue, List.set_cons_succ, List.set_cons_zero, List.getElem?_cons_succ, List.getElem?_cons_zero, Option.map_some, Option.some.injEq, Bool.false_eq_true, decide_true, decide_false, beq_self_eq_true, eq_self, gt_iff_lt, ↓reduceIte, exists_eq_left', seat_T, T_22, T_23, ints_len, mat_len, h1', h2', h3']
      · have h3' : ¬ (60 : Int) < (c.length : Int) := by omega
        refine Seat.fn_of (f := fun9) (noS o 9 _ rfl) rfl rfl rfl ?_; simp only [fun9, Proofs.Try.f9, Seat.W_seq, Seat.W_region_false, Seat.rq_nil, Seat.rq_cons, Seat.rqK_some, Seat.seq_normal, s_step, guardOf, s_guard_true, s_assign, s_move, s_len, s_pure, s_setT, boolAV, intAV, lenK, lenAV, mapEval, evalOp, ofValue, List.set_cons_succ, List.set_cons_zero, List.getElem?_cons_succ, List.getElem?_cons_zero, List.cons_append, List.nil_append, List.length_cons, List.length_nil, List.reduceReplicate, Nat.reduceAdd, Nat.reduceSub, Nat.zero_add, seat_T]
        simp only [Seat.W_seq, Seat.W_block, Seat.W_loop, Seat.W_region_false, Seat.W_skip, Seat.cond_eq, Seat.condK_false, Seat.rq_nil, Seat.rq_cons, Seat.rqK_some, Seat.seq_normal, s_step, guardOf, s_guard_true, s_assign, s_move, s_pick, s_bin, s_len, s_pure, s_setT, pickK, pickAV, binK, binAV, intBin, boolAV, intAV, lenK, lenAV, mapEval, evalOp, ofValue, List.set_cons_succ, List.set_cons_zero, List.getElem?_cons_succ, List.getElem?_cons_zero, List.contains_cons, List.contains_nil, Option.getD_some, Nat.reduceAdd, Nat.reduceLeDiff, Nat.reduceBEq, Nat.zero_add, Bool.or_false, Bool.or_true, Bool.false_eq_true, decide_false, beq_self_eq_true, eq_self, gt_iff_lt, ↓reduceIte, seat_T, keepSt, keepTmps, keepObjs, kept, keepAV, keepLV_imm, promote, promoteT, firstRegion, k9, T_22, T_23, ints_len, mat_len, h1', h2', h3']
        refine Seat.loop_by (fun i : Nat => L9_4 (.leaf (.imm (.sl (mat c)))) (intAV .i64 i)) (fun i => i ≤ c.length ∧ ∀ r ∈ c.take i, r.length ≤ 60) (fun i => c.length - i) 0 rfl ⟨Nat.zero_le _, fun r hr => by cases hr⟩ ?_
        rintro i ⟨hi, hs⟩
        by_cases hlt : i < c.length
        · obtain ⟨r, hx⟩ := get_lt hlt
          have e1 : IntKind.wrap .i64 ((i : Int) + 1) = ((i + 1 : Nat) : Int) := wrap_i64 (by omega) (by omega)
          by_cases h4 : 60 < r.length
          · have h4' : (60 : Int) < (r.length : Int) := by omega
            rw [decide_eq_false (show ¬ Lgt d a c from fun p => by have := p.2.2.2 r (List.mem_of_getElem? hx); omega)]
            simp only [L9_4, Seat.W_seq, Seat.W_block, Seat.W_region_false, Seat.W_ret, Seat.W_skip, Seat.cond_eq, Seat.condK_true, Seat.rq_nil, Seat.rq_cons, Seat.rqK_some, Seat.seq_normal, Seat.seq_ret, Seat.blk_ret, Seat.ret_ret, Seat.RetK, loopEnd_ret, s_step, guardOf, s_guard_true, s_assign, s_move, s_bin, s_indexAddr, s_load, s_len, s_pure, s_setT, loadK, binK, binAV, intBin, boolAV, intAV, elemK, indexAddrK, indexRow, lenK, lenAV, IV.norm, lendArgs, lendArg, lend_imm, rowsOf_sl, resultsAV, resultAV, tupleOf, mkAV, TK.agg, mapEval, evalOp, ofValue, List.set_cons_succ, List.set_cons_zero, List.getElem?_cons_succ, List.getElem?_cons_zero, List.length_cons, List.length_nil, List.map_cons, List.map_nil, List.take_succ_cons, List.take_nil, Option.map_some, Option.getD_some, Option.some.injEq, Nat.zero_add, Nat.le_refl, Int.toNat_natCast, Int.natCast_nonneg, Bool.false_eq_true, decide_true, eq_self, gt_iff_lt, ↓reduceIte, exists_eq_left', seat_T, Int.ofNat_lt, firstRegion, k9, T_22, T_23, ints_len, mat_len, mat_get, hx, hlt, h4']
          · have h4' : ¬ (60 : Int) < (r.length : Int) := by omega
            simp only [L9_4, Seat.W_seq, Seat.W_block, Seat.W_region_false, Seat.W_skip, Seat.cond_eq, Seat.condK_true, Seat.condK_false, Seat.rq_nil, Seat.rq_cons, Seat.rqK_some, Seat.seq_normal, Seat.blk_normal, loopEnd_normal, s_step, guardOf, s_guard_true, s_assign, s_move, s_bin, s_indexAddr, s_load, s_len, s_pure, s_setT, loadK, binK, binAV, intBin, boolAV, intAV, elemK, indexAddrK, indexRow, lenK, lenAV, rowsOf_sl, mkAV, TK.agg, mapEval, evalOp, ofValue, List.set_cons_succ, List.set_cons_zero, List.getElem?_cons_succ, List.getElem?_cons_zero, List.length_cons, List.length_nil, List.map_cons, List.map_nil, List.take_succ_cons, List.take_nil, List.contains_cons, List.contains_nil, Option.map_some, Option.getD_some, Nat.reduceAdd, Nat.reduceLeDiff, Nat.reduceBEq, Nat.zero_add, Nat.le_refl, Int.toNat_natCast, Int.natCast_nonneg, Bool.or_false, Bool.or_true, Bool.false_eq_true, decide_true, decide_false, beq_self_eq_true, eq_self, gt_iff_lt, ↓reduceIte, seat_T, Int.ofNat_lt, keepSt, keepTmps, keepObjs, kept, keepAV, keepLV_imm, promote, promoteT, firstRegion, k9, T_22, T_23, ints_len, mat_len, mat_get, hx, hlt, h4', e1]
            refine ⟨i + 1, ⟨by omega, ?_⟩, by omega, rfl⟩
            intro q hq
            rw [List.take_add_one, hx, Option.toList_some, List.mem_append, List.mem_singleton] at hq
            rcases hq with hq | rfl
            · exact hs q hq
            · omega
        · rw [List.take_of_length_le (by omega)] at hs
          rw [decide_eq_true (show Lgt d a c from ⟨by omega, by omega, by omega, hs⟩)]
          simp only [L9_4, Seat.W_seq, Seat.W_region_false, Seat.W_exit, Seat.W_ret, Seat.cond_eq, Seat.condK_false, Seat.rq_nil, Seat.rq_cons, Seat.rqK_some, Seat.seq_normal, Seat.seq_exit, Seat.blk_exit, Seat.ret_ret, Seat.RetK, loopEnd_exit, s_step, guardOf, s_guard_true, s_assign, s_move, s_bin, s_len, s_pure, s_setT, binK, binAV, intBin, boolAV, intAV, lenK, lenAV, IV.norm, lendArgs, lendArg, lend_imm, resultsAV, resultAV, tupleOf, mapEval, evalOp, ofValue, List.set_cons_succ, List.set_cons_zero, List.getElem?_cons_succ, List.getElem?_cons_zero, Option.map_some, Option.getD_some, Option.some.injEq, decide_false, eq_self, ↓reduceIte, exists_eq_left', seat_T, Int.ofNat_lt, firstRegion, k9, T_23, mat_len, hlt]

theorem eq_self_pr (x y : Int) : eqLeaves [.imm (.int .i64 x), .imm (.int .i64 y)] [.imm (.int .i64 x), .imm (.int .i64 y)] = some true := by
  simp [eqLeaves, eqLeaf]
theorem fn24 (p : List (Int × Int)) (hp : p.length ≤ 1099511627776) : (seat o).fn 24 [.leaf (.imm (.sl (prs p))), .leaf (.imm (.sl (prs p)))] = some (boolAV true) := by
  refine Seat.fn_of (f := fun24) (noS o 24 _ rfl) rfl rfl rfl ?_; simp only [fun24, Proofs.Try.f24, Seat.W_seq, Seat.W_region_false, Seat.rq_nil, Seat.rq_cons, Seat.rqK_some, Seat.seq_normal, s_step, guardOf, s_guard_true, s_assign, s_move, s_len, s_pure, s_setT, boolAV, intAV, lenK, lenAV, mapEval, evalOp, ofValue, List.set_cons_succ, List.set_cons_zero, List.getElem?_cons_succ, List.getElem?_cons_zero, List.cons_append, List.nil_append, List.length_cons, List.length_nil, List.reduceReplicate, Nat.reduceAdd, Nat.reduceSub, Nat.zero_add, seat_T]
  simp only [Seat.W_seq, Seat.W_block, Seat.W_loop, Seat.W_region_false, Seat.W_skip, Seat.cond_eq, Seat.condK_false, Seat.rq_nil, Seat.rq_cons, Seat.rqK_some, Seat.seq_normal, s_step, guardOf, s_guard_true, s_assign, s_move, s_bin, s_len, s_pure, s_setT, binK, binAV, intBin, boolAV, intAV, lenK, lenAV, mapEval, evalOp, ofValue, List.set_cons_succ, List.set_cons_zero, List.getElem?_cons_succ, List.getElem?_cons_zero, List.contains_cons, List.contains_nil, Option.getD_some, Nat.reduceAdd, Nat.reduceLeDiff, Nat.reduceBEq, Nat.zero_add, Bool.or_false, Bool.or_true, Bool.not_true, Bool.false_eq_true, decide_true, decide_false, beq_self_eq_true, eq_self, ↓reduceIte, seat_T, int_bne, keepSt, keepTmps, keepObjs, kept, keepAV, keepLV_imm, promote, promoteT, firstRegion, k24, T_26, prs_len]
  refine Seat.loop_by (fun i : Nat => L24_4 (.leaf (.imm (.sl (prs p)))) (.leaf (.imm (.sl (prs p)))) (intAV .i64 i)) (fun i => i ≤ p.length) (fun i => p.length - i) 0 rfl (Nat.zero_le _) ?_
  intro i hi
  by_cases hlt : i < p.length
  · obtain ⟨⟨x, y⟩, hx⟩ := get_lt hlt
    have e1 : IntKind.wrap .i64 ((i : Int) + 1) = ((i + 1 : Nat) : Int) := wrap_i64 (by omega) (by omega)
    simp only [L24_4, Seat.W_seq, Seat.W_block, Seat.W_region_false, Seat.W_region_true, Seat.W_skip, Seat.cond_eq, Seat.condK_true, Seat.condK_false, Seat.rq_nil, Seat.rq_cons, Seat.rqK_some, Seat.rg_nil, Seat.rg_cons, Seat.rgK_some, Seat.endQ, Seat.seq_normal, Seat.blk_normal, loopEnd_normal, s_step, guardOf, s_guard_true, s_assign, s_move, s_bin, s_indexAddr, s_load, s_len, s_pure, s_setT, loadK, binK, binAV, cmpAV, intBin, boolAV, intAV, elemK, indexAddrK, indexRow, lenK, lenAV, rowsOf_sl, mkAV, TK.agg, mapEval, evalOp, ofValue, footA, pureCall, quietOp, readsT, writesT, guardLoc, tmpLoc, touch, looksOp, idsOf, AV.ids, LV.ids, Op.operands, List.set_cons_succ, List.set_cons_zero, List.getElem?_cons_succ, List.getElem?_cons_zero, List.cons_append, List.nil_append, List.append_nil, List.length_cons, List.length_nil, List.map_cons, List.map_nil, List.take_succ_cons, List.take_nil, List.flatMap_cons, List.flatMap_nil, List.contains_cons, List.contains_nil, Option.map_some, Option.getD_some, Option.toList_some, Option.some.injEq, Nat.reduceAdd, Nat.reduceMul, Nat.reduceLeDiff, Nat.reduceBEq, Nat.zero_add, Nat.mul_one, Nat.le_refl, Int.toNat_natCast, Int.natCast_nonneg, Bool.and_self, Bool.or_false, Bool.or_true, Bool.not_true, Bool.false_eq_true, reduceCtorEq, decide_true, decide_false, beq_self_eq_true, eq_self, ↓reduceIte, seat_T, Int.ofNat_lt, keepSt, keepTmps, keepObjs, kept, keepAV, keepLV_imm, promote, promoteT, firstRegion, k24, T_26, T_45, prs_len, prs_get, hx, hlt, e1, likeAll, likeLV, eq_self_pr]
    exact ⟨ord_of (by kernel_rfl), i + 1, by omega, by omega, rfl⟩
  · simp only [L24_4, Seat.W_seq, Seat.W_region_false, Seat.W_exit, Seat.W_ret, Seat.cond_eq, Seat.condK_false, Seat.rq_nil, Seat.rq_cons, Seat.rqK_some, Seat.seq_normal, Seat.seq_exit, Seat.blk_exit, Seat.ret_ret, Seat.RetK, loopEnd_exit, s_step, guardOf, s_guard_true, s_assign, s_move, s_bin, s_len, s_pure, s_setT, binK, binAV, intBin, boolAV, intAV, lenK, lenAV, IV.norm, lendArgs, lendArg, lend_imm, resultsAV, resultAV, tupleOf, mapEval, evalOp, ofValue, List.set_cons_succ, List.set_cons_zero, List.getElem?_cons_succ, List.getElem?_cons_zero, Option.map_some, Option.getD_some, Option.some.injEq, decide_false, eq_self, ↓reduceIte, exists_eq_left', seat_T, Int.ofNat_lt, firstRegion, k24, T_26, prs_len, hlt]

/-- An alignment. -/
structure Aln where
  ps : List (Int × Int)
  cost : Int
  pot : Mat
def Aln.av (x : Aln) : AV := .agg [.imm (.sl (prs x.ps)), .imm (.int .i64 x.cost), .imm (.sl (mat x.pot))]
def Aln.box (x : Aln) : Option AObj := some (.cells 28 0 [.imm (.sl (prs x.ps)), .imm (.int .i64 x.cost), .imm (.sl (mat x.pot))])
theorem fn13 (x : Aln) (h1 : x.ps.length ≤ 1099511627776) (h2 : x.pot.length ≤ 1099511627776) (h3 : Bdd x.pot) : (seat o).fn 13 [x.av, x.av] = some (boolAV true) := by
  have h24 := fn24 o x.ps h1
  simp only [boolAV] at h24
  refine Seat.fn_of (f := fun13) (noS o 13 _ rfl) rfl rfl rfl ?_; simp only [fun13, Proofs.Try.f13, Seat.W_seq, Seat.W_region_false, Seat.rq_cons, s_step, guardOf, s_guard_true, s_box, allocK, boxS, boolAV, evalOp, AV.leaves, List.set_cons_succ, List.set_cons_zero, List.getElem?_cons_zero, List.cons_append, List.nil_append, List.length_cons, List.length_nil, List.getD_cons_succ, List.getD_cons_zero, List.reduceReplicate, Nat.reduceAdd, Nat.reduceSub, Nat.reduceLT, Nat.zero_add, ↓reduceIte, seat_T]
  simp only [Aln.av, Seat.W_seq, Seat.W_block, Seat.W_loop, Seat.W_region_false, Seat.W_skip, Seat.cond_eq, Seat.condK_false, Seat.rq_nil, Seat.rq_cons, Seat.rqK_some, Seat.seq_normal, s_step, guardOf, s_guard_true, s_box, s_assign, s_move, s_pick, s_bin, s_un, s_fieldAddr, s_load, s_len, call_24, s_pure, s_setT, allocK, boxS, loadK, loadC, pickK, pickAV, binK, binAV, intBin, boolAV, intAV, unAV, fieldAddrK, lenK, lenAV, callS, callP, stripArgs, AV.stripA, strip_imm, IV.norm, mkAV, TK.agg, mapEval, evalOp, ofValue, AV.leaves, solid_imm, List.set_cons_succ, List.set_cons_zero, List.getElem?_cons_succ, List.getElem?_cons_zero, List.length_cons, List.length_nil, List.getD_cons_succ, List.getD_cons_zero, List.all_cons, List.all_nil, List.map_cons, List.map_nil, List.drop_succ_cons, List.drop_zero, List.take_succ_cons, List.take_zero, List.take_nil, List.contains_cons, List.contains_nil, Option.map_some, Option.bind_some, Option.getD_some, Nat.reduceAdd, Nat.reduceLT, Nat.reduceLeDiff, Nat.reduceBEq, Nat.zero_add, Nat.add_zero, Nat.le_refl, and_self, Bool.and_self, Bool.or_false, Bool.or_true, Bool.not_true, Bool.false_eq_true, decide_false, beq_self_eq_true, eq_self, ↓reduceIte, seat_T, keepSt, keepTmps, keepObjs, kept, keepAV, keepLV_imm, keepLV_ptr, keepObj, promote, promoteT, firstRegion, k13, T_28, T_23, T_26, T_3, mat_len, h24, bne_self_eq_false]
  refine Seat.loop_by (fun i : Nat => L13_4 (.leaf (.ptr 2 0 0)) (.leaf (.ptr 3 0 0)) (intAV .i64 i) x.box x.box) (fun i => i ≤ x.pot.length) (fun i => x.pot.length - i) 0 rfl (Nat.zero_le _) ?_
  intro i hi
  by_cases hlt : i < x.pot.length
  · obtain ⟨r, hx⟩ := get_lt hlt
    have hrl := h3 r (List.mem_of_getElem? hx)
    have e1 : IntKind.wrap .i64 ((i : Int) + 1) = ((i + 1 : Nat) : Int) := wrap_i64 (by omega) (by omega)
    simp only [L13_4, Aln.box, Seat.W_seq, Seat.W_block, Seat.W_loop, Seat.W_region_false, Seat.W_region_true, Seat.W_skip, Seat.cond_eq, Seat.condK_true, Seat.condK_false, Seat.rq_nil, Seat.rq_cons, Seat.rqK_some, Seat.rg_nil, Seat.rg_cons, Seat.rgK_some, Seat.endQ, Seat.seq_normal, s_step, guardOf, s_guard_true, s_assign, s_move, s_bin, s_fieldAddr, s_indexAddr, s_load, s_len, s_pure, s_setT, loadK, loadC, binK, binAV, intBin, boolAV, intAV, fieldAddrK, elemK, indexAddrK, indexRow, lenK, lenAV, rowsOf_sl, mkAV, TK.agg, mapEval, evalOp, ofValue, footA, pureCall, quietOp, readsT, writesT, guardLoc, tmpLoc, touch, looksOp, idsOf, AV.ids, LV.ids, Op.operands, Call.operands, List.set_cons_succ, List.set_cons_zero, List.getElem?_cons_succ, List.getElem?_cons_zero, List.cons_append, List.nil_append, List.append_nil, List.length_cons, List.length_nil, List.getD_cons_succ, List.getD_cons_zero, List.map_cons, List.map_nil, List.drop_succ_cons, List.drop_zero, List.take_succ_cons, List.take_nil, List.flatMap_cons, List.flatMap_nil, List.contains_cons, List.contains_nil, Option.map_some, Option.getD_some, Option.toList_some, Option.some.injEq, Nat.reduceAdd, Nat.reduceMul, Nat.reduceLT, Nat.reduceLeDiff, Nat.reduceBEq, Nat.zero_add, Nat.le_refl, Int.toNat_natCast, Int.natCast_nonneg, and_self, Bool.or_false, Bool.or_true, Bool.false_eq_true, reduceCtorEq, decide_true, decide_false, beq_self_eq_true, eq_self, ↓reduceIte, seat_T, Int.ofNat_lt, keepSt, keepTmps, keepObjs, kept, keepAV, keepLV_imm, keepLV_ptr, keepObj, promote, promoteT, firstRegion, k13, T_28, T_22, T_23, ints_len, mat_len, mat_get, hx, hlt, bne_self_eq_false]
    refine ⟨ord_of (by kernel_rfl), ?_⟩
    refine Seat.loop_by (fun j : Nat => L13_9 (.leaf (.ptr 2 0 0)) (.leaf (.ptr 3 0 0)) (intAV .i64 i) (intAV .i64 j) x.box x.box) (fun j => j ≤ r.length) (fun j => r.length - j) 0 rfl (Nat.zero_le _) ?_
    intro j hj
    by_cases hjlt : j < r.length
    · obtain ⟨y, hy⟩ := get_lt hjlt
      have e2 : IntKind.wrap .i64 ((j : Int) + 1) = ((j + 1 : Nat) : Int) := wrap_i64 (by omega) (by omega)
      simp only [L13_9, Aln.box, Seat.W_seq, Seat.W_block, Seat.W_region_false, Seat.W_region_true, Seat.W_skip, Seat.cond_eq, Seat.condK_true, Seat.condK_false, Seat.rq_nil, Seat.rq_cons, Seat.rqK_some, Seat.rg_nil, Seat.rg_cons, Seat.rgK_some, Seat.endQ, Seat.seq_normal, Seat.blk_normal, loopEnd_normal, s_step, guardOf, s_guard_true, s_assign, s_move, s_bin, s_fieldAddr, s_indexAddr, s_load, s_len, s_pure, s_setT, loadK, loadC, binK, binAV, intBin, boolAV, intAV, fieldAddrK, elemK, indexAddrK, indexRow, lenK, lenAV, rowsOf_sl, mkAV, TK.agg, mapEval, evalOp, ofValue, footA, pureCall, quietOp, readsT, writesT, guardLoc, tmpLoc, touch, looksOp, idsOf, AV.ids, LV.ids, Op.operands, List.set_cons_succ, List.set_cons_zero, List.getElem?_cons_succ, List.getElem?_cons_zero, List.cons_append, List.nil_append, List.append_nil, List.length_cons, List.length_nil, List.getD_cons_succ, List.getD_cons_zero, List.map_cons, List.map_nil, List.drop_succ_cons, List.drop_zero, List.take_succ_cons, List.take_nil, List.flatMap_cons, List.flatMap_nil, List.contains_cons, List.contains_nil, Option.map_some, Option.getD_some, Option.toList_some, Option.some.injEq, Nat.reduceAdd, Nat.reduceMul, Nat.reduceLT, Nat.reduceLeDiff, Nat.reduceBEq, Nat.zero_add, Nat.le_refl, Int.toNat_natCast, Int.natCast_nonneg, and_self, Bool.or_false, Bool.or_true, Bool.false_eq_true, reduceCtorEq, decide_true, decide_false, beq_self_eq_true, eq_self, ↓reduceIte, seat_T, Int.ofNat_lt, keepSt, keepTmps, keepObjs, kept, keepAV, keepLV_imm, keepLV_ptr, keepObj, promote, promoteT, firstRegion, k13, T_28, T_22, T_23, T_3, ints_len, ints_get, mat_get, hx, hy, hjlt, e2, bne_self_eq_false]
      exact ⟨ord_of (by kernel_rfl), j + 1, by omega, by omega, rfl⟩
    · simp only [L13_9, Aln.box, Seat.W_seq, Seat.W_region_false, Seat.W_exit, Seat.cond_eq, Seat.condK_false, Seat.rq_nil, Seat.rq_cons, Seat.rqK_some, Seat.seq_normal, Seat.seq_exit, Seat.blk_normal, Seat.blk_exit, loopEnd_normal, loopEnd_exit, s_step, guardOf, s_guard_true, s_assign, s_move, s_bin, s_fieldAddr, s_indexAddr, s_load, s_len, s_pure, s_setT, loadK, loadC, binK, binAV, intBin, boolAV, intAV, fieldAddrK, elemK, indexAddrK, indexRow, lenK, lenAV, rowsOf_sl, mkAV, TK.agg, mapEval, evalOp, ofValue, List.set_cons_succ, List.set_cons_zero, List.getElem?_cons_succ, List.getElem?_cons_zero, List.length_cons, List.length_nil, List.getD_cons_succ, List.getD_cons_zero, List.map_cons, List.map_nil, List.drop_succ_cons, List.drop_zero, List.take_succ_cons, List.take_nil, List.contains_cons, List.contains_nil, Option.map_some, Option.getD_some, Nat.reduceAdd, Nat.reduceLT, Nat.reduceLeDiff, Nat.reduceBEq, Nat.zero_add, Nat.le_refl, Int.toNat_natCast, Int.natCast_nonneg, and_self, Bool.or_false, Bool.or_true, Bool.false_eq_true, decide_false, beq_self_eq_true, eq_self, ↓reduceIte, seat_T, Int.ofNat_lt, keepSt, keepTmps, keepObjs, kept, keepAV, keepLV_imm, keepLV_ptr, keepObj, promote, promoteT, firstRegion, k13, T_28, T_22, T_23, ints_len, mat_get, hx, hjlt, e1]
      exact ⟨i + 1, by omega, by omega, rfl⟩
  · simp only [L13_4, Aln.box, Seat.W_seq, Seat.W_region_false, Seat.W_exit, Seat.W_ret, Seat.cond_eq, Seat.condK_false, Seat.rq_nil, Seat.rq_cons, Seat.rqK_some, Seat.seq_normal, Seat.seq_exit, Seat.blk_exit, Seat.ret_ret, Seat.RetK, loopEnd_exit, s_step, guardOf, s_guard_true, s_assign, s_move, s_bin, s_fieldAddr, s_load, s_len, s_pure, s_setT, loadK, loadC, binK, binAV, intBin, boolAV, intAV, fieldAddrK, lenK, lenAV, IV.norm, lendArgs, lendArg, lend_imm, resultsAV, resultAV, tupleOf, mkAV, TK.agg, mapEval, evalOp, ofValue, List.set_cons_succ, List.set_cons_zero, List.getElem?_cons_succ, List.getElem?_cons_zero, List.length_cons, List.length_nil, List.getD_cons_succ, List.getD_cons_zero, List.drop_succ_cons, List.drop_zero, List.take_succ_cons, List.take_nil, Option.map_some, Option.getD_some, Option.some.injEq, Nat.reduceAdd, Nat.reduceLT, Nat.zero_add, Nat.le_refl, and_self, Bool.false_eq_true, decide_false, eq_self, ↓reduceIte, exists_eq_left', seat_T, Int.ofNat_lt, firstRegion, k13, T_28, T_23, mat_len, hlt]

/-- The dice. -/
def dL : List Int → LV
  | [] => .clip []
  | x :: l => .imm (.sl (ints (x :: l)))
theorem dL_ne {l : List Int} (h : 0 < l.length) : dL l = .imm (.sl (ints l)) := by cases l with
  | nil => cases h
  | cons x l => rfl
theorem dL_keep {ob K} (l : List Int) : keepLV ob K (dL l) = dL l := by cases l <;> rfl
theorem dL_ids (l : List Int) : (dL l).ids = [] := by cases l <;> rfl
theorem dL_solid (l : List Int) : (dL l).solid = true := by cases l <;> rfl
theorem dL_strip (l : List Int) : (dL l).strip = some (.sl (ints l)) := by cases l <;> rfl
def dice (l : List Int) (p : Nat) : AObj := .cells 53 0 [dL l, .imm (.int .i64 p)]
theorem fn26 (id d : Nat) (ob : Nat → Option AObj) (l : List Int) (p : Nat) (n : Int) (hl : l.length ≤ 1099511627776) (h0 : 0 < n) (hn : n ≤ 1048576) (ho : ob id = some (dice l (min p l.length))) :
    (seat o).fnO 26 d [.leaf (.ptr id 0 0), .leaf (.imm (.int .i64 n))] ob = some (intAV .i64 (dv l n p), [(id, dice l (min (p + 1) l.length))]) := by
  simp only [dice] at ho
  by_cases hlt : p < l.length
  · have em : min p l.length = p := by omega
    have em1 : min (p + 1) l.length = p + 1 := by omega
    rw [em, dL_ne (by omega)] at ho
    rw [em1]
    obtain ⟨x, hx⟩ := get_lt hlt
    have h16 := fn16 o x n h0 hn
    simp only [intAV] at h16
    have e1 : IntKind.wrap .i64 ((p : Int) + 1) = ((p + 1 : Nat) : Int) := wrap_i64 (by omega) (by omega)
    have e2 : IntKind.wrap .i64 (((p + 1 : Nat) : Int) - 1) = ((p : Nat) : Int) := by rw [wrap_i64 (by omega) (by omega)]; omega
    have hlt' : ¬ l.length ≤ p := by omega
    have ev : dv l n p = x.emod n := by unfold dv; rw [hx]
    rw [ev]
    refine Seat.fnO_of (f := fun26) (ids := [id]) rfl rfl rfl rfl (by simp [idsAV, once, AV.ids, LV.ids, ho]) ?_
    simp only [fun26, Proofs.Try.f26, Seat.W_seq, Seat.W_region_false, Seat.W_region_true, Seat.rq_nil, Seat.rq_cons, Seat.rqK_some, Seat.rg_cons, Seat.rgK_some, Seat.seq_normal, s_step, guardOf, s_guard_true, s_assign, s_move, s_fieldAddr, s_nilCheck, s_pure, s_setT, intAV, fieldAddrK, nilK, renAV, renLV, indexIn, evalOp, ofValue, footA, pureCall, quietOp, readsT, writesT, guardLoc, tmpLoc, touch, looksOp, Op.operands, List.set_cons_succ, List.set_cons_zero, List.getElem?_cons_succ, List.getElem?_cons_zero, List.cons_append, List.nil_append, List.append_nil, List.length_cons, List.length_nil, List.map_cons, List.map_nil, List.flatMap_cons, List.flatMap_nil, List.reduceReplicate, Option.map_some, Option.map_none, Option.toList_some, Option.some.injEq, Nat.reduceAdd, Nat.reduceSub, Nat.reduceMul, Nat.zero_add, Bool.or_false, Bool.false_eq_true, reduceCtorEq, eq_self, ↓reduceIte, seat_T]
    simp only [Seat.W_seq, Seat.W_region_false, Seat.W_region_true, Seat.W_ret, Seat.W_skip, Seat.cond_eq, Seat.condK_false, Seat.rq_nil, Seat.rq_cons, Seat.rqK_some, Seat.rg_nil, Seat.rg_cons, Seat.rgK_some, Seat.endQ, Seat.seq_normal, s_step, guardOf, s_guard_true, s_assign, s_move, s_bin, s_fieldAddr, s_indexAddr, s_load, s_store, s_len, s_nilCheck, call_16, s_pure, s_setT, s_setN, storeS, storeK, loadK, loadC, binK, binAV, intBin, boolAV, intAV, fieldAddrK, elemK, indexAddrK, indexRow, lenK, lenAV, nilK, callS, callP, out_ret, OutK, handed, renAV, renLV, renObj, backUpd, stripArgs, AV.stripA, strip_imm, IV.norm, rowsOf_sl, resultsAV, resultAV, tupleOf, mkAV, TK.agg, setRange, mapEval, evalOp, ofValue, AV.leaves, solid_imm, footA, pureCall, quietOp, readsT, writesT, guardLoc, tmpLoc, touch, looksOp, idsOf, AV.ids, LV.ids, Op.operands, Call.operands, List.set_cons_succ, List.set_cons_zero, List.getElem?_cons_succ, List.getElem?_cons_zero, List.cons_append, List.nil_append, List.append_nil, List.length_cons, List.length_nil, List.getD_cons_succ, List.getD_cons_zero, List.all_cons, List.all_nil, List.map_cons, List.map_nil, List.drop_succ_cons, List.drop_zero, List.take_succ_cons, List.take_zero, List.drop_nil, List.take_nil, List.flatMap_cons, List.flatMap_nil, List.contains_cons, List.contains_nil, Option.map_some, Option.getD_some, Option.toList_some, Option.some.injEq, Nat.reduceAdd, Nat.reduceMul, Nat.reduceLT, Nat.reduceLeDiff, Nat.reduceBEq, Nat.zero_add, Nat.add_zero, Nat.mul_one, Nat.le_refl, Int.toNat_natCast, Int.natCast_nonneg, and_self, and_true, Bool.and_self, Bool.or_false, Bool.or_true, Bool.not_false, Bool.false_eq_true, reduceCtorEq, decide_false, eq_self, ge_iff_le, ↓reduceIte, seat_T, seat_O, Int.ofNat_le, T_53, T_22, T_3, ho, ints_len, ints_get, hx, hlt', e1, e2, h16, dice, dL_ne (show 0 < l.length by omega)]
    first | done | exact ⟨ord_of (by kernel_rfl), ord_of (by kernel_rfl)⟩
  · have em : min p l.length = l.length := by omega
    have em1 : min (p + 1) l.length = l.length := by omega
    rw [em] at ho
    rw [em1]
    have ev : dv l n p = 0 := by unfold dv; rw [List.getElem?_eq_none (by omega)]
    rw [ev]
    cases l with
    | nil =>
      simp only [dL, List.length_nil, Int.cast_ofNat_Int] at ho
      refine Seat.fnO_of (f := fun26) (ids := [id]) rfl rfl rfl rfl (by simp [idsAV, once, AV.ids, LV.ids, ho]) ?_
      simp only [fun26, Proofs.Try.f26, Seat.W_seq, Seat.W_region_false, Seat.W_region_true, Seat.rq_nil, Seat.rq_cons, Seat.rqK_some, Seat.rg_cons, Seat.rgK_some, Seat.seq_normal, s_step, guardOf, s_guard_true, s_assign, s_move, s_fieldAddr, s_nilCheck, s_pure, s_setT, intAV, fieldAddrK, nilK, renAV, renLV, indexIn, evalOp, ofValue, footA, pureCall, quietOp, readsT, writesT, guardLoc, tmpLoc, touch, looksOp, Op.operands, List.set_cons_succ, List.set_cons_zero, List.getElem?_cons_succ, List.getElem?_cons_zero, List.cons_append, List.nil_append, List.append_nil, List.length_cons, List.length_nil, List.map_cons, List.map_nil, List.flatMap_cons, List.flatMap_nil, List.reduceReplicate, Option.map_some, Option.map_none, Option.toList_some, Option.some.injEq, Nat.reduceAdd, Nat.reduceSub, Nat.reduceMul, Nat.zero_add, Bool.or_false, Bool.false_eq_true, reduceCtorEq, eq_self, ↓reduceIte, seat_T]
      simp only [Seat.W_seq, Seat.W_region_false, Seat.W_ret, Seat.cond_eq, Seat.condK_true, Seat.rq_nil, Seat.rq_cons, Seat.rqK_some, Seat.rg_nil, Seat.rg_cons, Seat.rgK_some, Seat.endQ, Seat.seq_normal, Seat.seq_ret, s_step, guardOf, s_guard_true, s_assign, s_move, s_bin, s_fieldAddr, s_load, s_len, s_nilCheck, s_pure, s_setT, loadK, loadC, binK, binAV, intBin, boolAV, intAV, fieldAddrK, lenK, lenAV, nilK, out_ret, OutK, handed, renAV, renLV, renObj, backUpd, resultsAV, resultAV, tupleOf, mkAV, TK.agg, mapEval, evalOp, ofValue, footA, pureCall, quietOp, readsT, writesT, guardLoc, tmpLoc, touch, looksOp, idsOf, AV.ids, LV.ids, Op.operands, Call.operands, List.set_cons_succ, List.set_cons_zero, List.getElem?_cons_succ, List.getElem?_cons_zero, List.cons_append, List.nil_append, List.append_nil, List.length_cons, List.length_nil, List.getD_cons_succ, List.getD_cons_zero, List.map_cons, List.map_nil, List.drop_succ_cons, List.drop_zero, List.take_succ_cons, List.take_zero, List.take_nil, List.flatMap_cons, List.flatMap_nil, Option.map_some, Option.getD_some, Option.toList_some, Option.some.injEq, Nat.reduceAdd, Nat.reduceMul, Nat.reduceLT, Nat.reduceLeDiff, Nat.zero_add, Nat.add_zero, Nat.le_refl, Int.reduceLE, Int.cast_ofNat_Int, and_self, and_true, Bool.or_false, Bool.false_eq_true, reduceCtorEq, decide_true, eq_self, ge_iff_le, ↓reduceIte, seat_T, T_53, T_22, T_3, ho, dice, dL]
      first | done | exact ord_of (by kernel_rfl)
    | cons y l =>
      simp only [dL] at ho
      refine Seat.fnO_of (f := fun26) (ids := [id]) rfl rfl rfl rfl (by simp [idsAV, once, AV.ids, LV.ids, ho]) ?_
      simp only [fun26, Proofs.Try.f26, Seat.W_seq, Seat.W_region_false, Seat.W_region_true, Seat.rq_nil, Seat.rq_cons, Seat.rqK_some, Seat.rg_cons, Seat.rgK_some, Seat.seq_normal, s_step, guardOf, s_guard_true, s_assign, s_move, s_fieldAddr, s_nilCheck, s_pure, s_setT, intAV, fieldAddrK, nilK, renAV, renLV, indexIn, evalOp, ofValue, footA, pureCall, quietOp, readsT, writesT, guardLoc, tmpLoc, touch, looksOp, Op.operands, List.set_cons_succ, List.set_cons_zero, List.getElem?_cons_succ, List.getElem?_cons_zero, List.cons_append, List.nil_append, List.append_nil, List.length_cons, List.length_nil, List.map_cons, List.map_nil, List.flatMap_cons, List.flatMap_nil, List.reduceReplicate, Option.map_some, Option.map_none, Option.toList_some, Option.some.injEq, Nat.reduceAdd, Nat.reduceSub, Nat.reduceMul, Nat.zero_add, Bool.or_false, Bool.false_eq_true, reduceCtorEq, eq_self, ↓reduceIte, seat_T]
      simp only [Seat.W_seq, Seat.W_region_false, Seat.W_ret, Seat.cond_eq, Seat.condK_true, Seat.rq_nil, Seat.rq_cons, Seat.rqK_some, Seat.rg_nil, Seat.rg_cons, Seat.rgK_some, Seat.endQ, Seat.seq_normal, Seat.seq_ret, s_step, guardOf, s_guard_true, s_assign, s_move, s_bin, s_fieldAddr, s_load, s_len, s_nilCheck, s_pure, s_setT, loadK, loadC, binK, binAV, intBin, boolAV, intAV, fieldAddrK, lenK, lenAV, nilK, out_ret, OutK, handed, renAV, renLV, renObj, backUpd, resultsAV, resultAV, tupleOf, mkAV, TK.agg, mapEval, evalOp, ofValue, footA, pureCall, quietOp, readsT, writesT, guardLoc, tmpLoc, touch, looksOp, idsOf, AV.ids, LV.ids, Op.operands, Call.operands, List.set_cons_succ, List.set_cons_zero, List.getElem?_cons_succ, List.getElem?_cons_zero, List.cons_append, List.nil_append, List.append_nil, List.length_cons, List.length_nil, List.getD_cons_succ, List.getD_cons_zero, List.map_cons, List.map_nil, List.drop_succ_cons, List.drop_zero, List.take_succ_cons, List.take_zero, List.take_nil, List.flatMap_cons, List.flatMap_nil, Option.map_some, Option.getD_some, Option.toList_some, Option.some.injEq, Nat.reduceAdd, Nat.reduceMul, Nat.reduceLT, Nat.reduceLeDiff, Nat.zero_add, Nat.add_zero, Nat.le_refl, and_self, and_true, Bool.or_false, Bool.false_eq_true, reduceCtorEq, decide_true, eq_self, ge_iff_le, ↓reduceIte, seat_T, Int.ofNat_le, T_53, T_22, T_3, ho, ints_len, dice, dL]
      first | done | exact ord_of (by kernel_rfl)
theorem fn25 (d : Nat) (ob : Nat → Option AObj) (l : List Int) (hl : l.length ≤ 16777216) (hd : ob d = none) :
    (seat o).fnO 25 d [.leaf (.imm (.sl (ints l)))] ob = some (.leaf (.ptr d 0 0), [(d, dice l 0)]) := by
  have hr : l.length * 8 ≤ room := room_of hl (by decide)
  refine Seat.fnO_of (f := fun25) (ids := []) rfl rfl rfl rfl rfl ?_
  simp only [fun25, Proofs.Try.f25, Seat.W_seq, Seat.W_region_false, Seat.rq_nil, Seat.rq_cons, Seat.rqK_some, Seat.seq_normal, s_step, guardOf, s_guard_true, s_assign, s_buildSlice, s_pure, s_setT, evalParts, clipK, rowsK, buildSliceK, renAV, renLV, indexIn, rowsAt, fillAV, evalOp, ofValue, List.set_cons_succ, List.set_cons_zero, List.cons_append, List.nil_append, List.append_nil, List.length_cons, List.length_nil, List.map_cons, List.map_nil, List.flatten_nil, List.reduceReplicate, Option.map_none, Nat.reduceSub, Nat.zero_add, Nat.zero_le, Nat.zero_mul, true_and, seat_T]
  cases l with
  | nil => simp only [Seat.W_ret, Seat.env_grow, Seat.rq_nil, Seat.rq_cons, Seat.rqK_some, Seat.seq_normal, s_step, guardOf, s_guard_true, s_box, s_assign, s_move, s_build, s_append, s_pure, s_setT, allocK, boxS, evalParts, aggK, buildK, out_ret, OutK, handed, renAV, renLV, renObj, backName, backUpd, appK, appR, appT, appE_e, rowsOf_sl, resultsAV, resultAV, tupleOf, fillAV, fieldAt, setRange, mapEval, evalOp, AV.leaves, solid_imm, solid_clip, List.set_cons_succ, List.set_cons_zero, List.getElem?_cons_succ, List.getElem?_cons_zero, List.cons_append, List.nil_append, List.length_cons, List.length_nil, List.getD_cons_succ, List.getD_cons_zero, List.all_cons, List.all_nil, List.map_cons, List.map_nil, List.drop_succ_cons, List.drop_zero, List.take_zero, List.contains_nil, Nat.reduceAdd, Nat.reduceLT, Nat.reduceLeDiff, Nat.zero_add, Int.cast_ofNat_Int, and_self, Bool.and_self, eq_self, ↓reduceIte, seat_T, T_53, T_22, T_3, hd, ints_nil, dice, dL]
  | cons x l =>
    have e : (ints (x :: l)).isEmpty = false := rfl
    have hr' : (l.length + 1) * 8 ≤ room := hr
    simp only [Seat.W_ret, Seat.env_grow, Seat.rq_nil, Seat.rq_cons, Seat.rqK_some, Seat.seq_normal, s_step, guardOf, s_guard_true, s_box, s_assign, s_move, s_build, s_append, s_pure, s_setT, allocK, boxS, evalParts, aggK, buildK, out_ret, OutK, handed, renAV, renLV, renObj, backName, backUpd, appK, appR, appT, appS, app1, appTail, rowsOf_sl, resultsAV, resultAV, tupleOf, fillAV, fieldAt, setRange, mapEval, evalOp, AV.leaves, solid_imm, solid_ap, List.set_cons_succ, List.set_cons_zero, List.getElem?_cons_succ, List.getElem?_cons_zero, List.cons_append, List.nil_append, List.length_cons, List.length_nil, List.getD_cons_succ, List.getD_cons_zero, List.all_cons, List.all_nil, List.map_cons, List.map_nil, List.drop_succ_cons, List.drop_zero, List.take_zero, List.contains_nil, Option.some.injEq, Nat.reduceAdd, Nat.reduceLT, Nat.reduceLeDiff, Nat.reduceEqDiff, Nat.zero_add, Int.cast_ofNat_Int, and_self, Bool.and_self, Bool.false_eq_true, eq_self, ↓reduceIte, seat_T, T_53, T_22, T_3, hd, appE_ne e, ints_len, ints_all, hr', dice, dL]
end Go.Ai
/- Reversing pairs in place. No condition. -/
namespace Go.Ai
set_option linter.unusedVariables false
set_option linter.unusedSimpArgs false
set_option maxRecDepth 100000
set_option maxHeartbeats 4000000
variable (o : Orac)

def prc (ps : List (Int × Int)) : List LV := ps.flatMap fun p => [.imm (.int .i64 p.1), .imm (.int .i64 p.2)]
theorem prc_nil : prc [] = [] := rfl
theorem prc_cons (p : Int × Int) (ps : List (Int × Int)) : prc (p :: ps) = .imm (.int .i64 p.1) :: .imm (.int .i64 p.2) :: prc ps := by simp [prc]
theorem prc_len (ps : List (Int × Int)) : (prc ps).length = ps.length * 2 := by
  induction ps with
  | nil => rfl
  | cons p ps ih => rw [prc_cons, List.length_cons, List.length_cons, ih, List.length_cons]; omega
theorem prc_keep {ob K} (ps : List (Int × Int)) : List.map (keepLV ob K) (prc ps) = prc ps := by
  induction ps with
  | nil => rfl
  | cons p ps ih => rw [prc_cons, List.map_cons, List.map_cons, ih]; rfl
theorem prc_ren {f} (ps : List (Int × Int)) : List.map (renLV f) (prc ps) = prc ps := by
  induction ps with
  | nil => rfl
  | cons p ps ih => rw [prc_cons, List.map_cons, List.map_cons, ih]; rfl
theorem prc_drop (ps : List (Int × Int)) : ∀ i, List.drop (i * 2) (prc ps) = prc (ps.drop i) := by
  induction ps with
  | nil => intro i; simp [prc]
  | cons p ps ih =>
    intro i
    cases i with
    | zero => simp
    | succ i => rw [show (i + 1) * 2 = i * 2 + 1 + 1 by omega, prc_cons, List.drop_succ_cons, List.drop_succ_cons, ih, List.drop_succ_cons]
theorem prc_take (ps : List (Int × Int)) : ∀ i, List.take (i * 2) (prc ps) = prc (ps.take i) := by
  induction ps with
  | nil => intro i; simp [prc]
  | cons p ps ih =>
    intro i
    cases i with
    | zero => simp [prc]
    | succ i => rw [show (i + 1) * 2 = i * 2 + 1 + 1 by omega, prc_cons, List.take_succ_cons, List.take_succ_cons, ih, List.take_succ_cons, prc_cons]
theorem prc_append (a b : List (Int × Int)) : prc (a ++ b) = prc a ++ prc b := by simp [prc]
theorem prc_get {ps : List (Int × Int)} {i : Nat} {a b : Int} (h : ps[i]? = some (a, b)) : List.take 2 (List.drop (i * 2) (prc ps)) = [.imm (.int .i64 a), .imm (.int .i64 b)] := by
  rw [prc_drop, drop_get h, prc_cons]; rfl
theorem prc_set {ps : List (Int × Int)} {i : Nat} (h : i < ps.length) (a b : Int) : List.take (i * 2) (prc ps) ++ .imm (.int .i64 a) :: .imm (.int .i64 b) :: List.drop (i * 2 + 2) (prc ps) = prc (ps.set i (a, b)) := by
  rw [show i * 2 + 2 = (i + 1) * 2 by omega, prc_drop, prc_take, List.set_eq_take_append_cons_drop, if_pos h, prc_append, prc_cons]

def zal : Option AObj := some (.cells 28 0 [.imm .nil, .imm (.int .i64 0), .imm .nil])
theorem fn22 (id d : Nat) (ob : Nat → Option AObj) (ps : List (Int × Int)) (ver n : Nat) (hn : n = ps.length) (hl : n ≤ 1048576) (ho : ob id = some (.cells 45 ver (prc ps))) :
    (seat o).fnO 22 d [.leaf (.ms id ver 2 0 n)] ob = some (.tup [], [(id, .cells 45 ver (prc ps.reverse))]) := by
  have e0 : IntKind.wrap .i64 ((n : Int) - 1) = (n : Int) - 1 := wrap_i64 (by omega) (by omega)
  refine Seat.fnO_of (f := fun22) (ids := [id]) rfl rfl rfl rfl (by simp [idsAV, once, AV.ids, LV.ids, ho]) ?_
  simp only [fun22, Proofs.Try.f22, Seat.W_seq, Seat.W_region_false, Seat.rq_cons, Seat.rqK_some, s_step, guardOf, s_guard_true, s_move, s_len, s_pure, s_setT, intAV, lenK, lenAV, renAV, renLV, indexIn, mapEval, evalOp, List.set_cons_succ, List.set_cons_zero, List.getElem?_cons_succ, List.getElem?_cons_zero, List.cons_append, List.nil_append, List.length_cons, List.length_nil, List.map_cons, List.map_nil, List.reduceReplicate, Option.map_some, Option.map_none, Nat.reduceSub, Nat.zero_add, eq_self, ↓reduceIte, seat_T]
  simp only [Seat.W_block, Seat.W_loop, Seat.rq_nil, Seat.rq_cons, Seat.rqK_some, Seat.seq_normal, s_step, guardOf, s_guard_true, s_assign, s_bin, s_pure, s_setT, binK, binAV, intBin, intAV, renObj, evalOp, ofValue, List.set_cons_succ, List.set_cons_zero, List.getElem?_cons_succ, List.getElem?_cons_zero, List.contains_cons, List.contains_nil, Option.map_some, Option.getD_some, Nat.reduceAdd, Nat.reduceLeDiff, Nat.reduceBEq, Nat.zero_add, Nat.le_refl, Bool.or_false, Bool.or_true, Bool.false_eq_true, decide_true, decide_false, beq_self_eq_true, eq_self, ↓reduceIte, seat_T, keepSt, keepTmps, keepObjs, kept, keepAV, keepLV_imm, keepLV_ms, keepObj, promote, promoteT, firstRegion, k22, T_26, ho, prc_ren, prc_keep, e0]
  refine Seat.loop_by (fun x : Nat × Int × List (Int × Int) => L22_1 (.leaf (.ms 28 ver 2 0 n)) (intAV .i64 x.1) (intAV .i64 x.2.1) [some (.cells 45 ver (prc x.2.2))]) (fun x => (x.1 : Int) + x.2.1 = (n : Int) - 1 ∧ x.1 ≤ n ∧ x.2.2.length = n ∧ ∀ k, k < n → x.2.2[k]? = if k < x.1 ∨ n ≤ k + x.1 then ps[n - 1 - k]? else ps[k]?) (fun x => n - x.1) (0, (n : Int) - 1, ps) rfl ⟨by simp only; omega, Nat.zero_le _, hn.symm, fun k hk => by simp only; rw [if_neg (by omega)]⟩ ?_
  rintro ⟨i, j, cur⟩ ⟨hij, hin, hcl, hc⟩
  simp only at hij hin hcl hc
  by_cases hlt : (i : Int) < j
  · obtain ⟨j, rfl⟩ := Int.eq_ofNat_of_zero_le (a := j) (by omega)
    have hlt' : i < j := by omega
    obtain ⟨⟨a, b⟩, ha⟩ := get_lt (l := cur) (i := i) (by omega)
    obtain ⟨⟨a', b'⟩, hb⟩ := get_lt (l := cur) (i := j) (by omega)
    have e1 : IntKind.wrap .i64 ((i : Int) + 1) = ((i + 1 : Nat) : Int) := wrap_i64 (by omega) (by omega)
    have e2 : IntKind.wrap .i64 ((j : Int) - 1) = (j : Int) - 1 := wrap_i64 (by omega) (by omega)
    have g1 := prc_get ha
    have g2 := prc_get hb
    have s1 := prc_set (ps := cur) (i := i) (by omega)
    have s2 := fun q => prc_set (ps := cur.set i q) (i := j) (by rw [List.length_set]; omega)
    have l1 : i < n := by omega
    have l2 : j < n := by omega
    have l3 : i * 2 + 2 ≤ (prc cur).length := by rw [prc_len]; omega
    have l4 : j * 2 + 2 ≤ (prc cur).length := by rw [prc_len]; omega
    have l5 : ∀ q, j * 2 + 2 ≤ (prc (cur.set i q)).length := by intro q; rw [prc_len, List.length_set]; omega
    simp only [L22_1, Seat.W_seq, Seat.W_block, Seat.W_region_false, Seat.W_region_true, Seat.W_skip, Seat.cond_eq, Seat.condK_true, Seat.rq_nil, Seat.rq_cons, Seat.rqK_some, Seat.rg_nil, Seat.rg_cons, Seat.rgK_some, Seat.endQ, Seat.seq_normal, Seat.blk_normal, loopEnd_normal, s_step, guardOf, s_guard_true, s_assign, s_move, s_bin, s_indexAddr, s_load, s_store, s_pure, s_setT, s_setN, storeS, storeK, loadK, loadC, binK, binAV, intBin, boolAV, intAV, indexAddrK, mkAV, TK.agg, setRange, evalOp, ofValue, AV.leaves, solid_imm, footA, pureCall, quietOp, readsT, writesT, guardLoc, tmpLoc, touch, looksOp, idsOf, AV.ids, LV.ids, LV.ids.idsAll, Op.operands, List.set_cons_succ, List.set_cons_zero, List.getElem?_cons_succ, List.getElem?_cons_zero, List.cons_append, List.nil_append, List.append_nil, List.length_cons, List.length_nil, List.getD_cons_succ, List.getD_cons_zero, List.all_cons, List.all_nil, List.map_cons, List.map_nil, List.flatMap_cons, List.flatMap_nil, List.contains_cons, List.contains_nil, Option.map_some, Option.getD_some, Option.toList_some, Option.toList_none, Option.some.injEq, Nat.reduceAdd, Nat.reduceMul, Nat.reduceLT, Nat.reduceLeDiff, Nat.reduceBEq, Nat.zero_add, Nat.le_refl, Int.toNat_natCast, Int.natCast_nonneg, and_self, Bool.and_self, Bool.or_false, Bool.or_true, Bool.false_eq_true, reduceCtorEq, decide_true, decide_false, beq_self_eq_true, eq_self, ↓reduceIte, seat_T, Int.ofNat_lt, keepSt, keepTmps, keepObjs, kept, keepAV, keepLV_imm, keepLV_ms, keepObj, promote, promoteT, firstRegion, k22, T_26, T_45, hlt', e1, e2, g1, g2, s1, s2, l1, l2, l3, l4, l5, prc_keep]
    refine ⟨ord_of (by kernel_rfl), (i + 1, (j : Int) - 1, (cur.set i (a', b')).set j (a, b)), ⟨by simp only; omega, by simp only; omega, by simp [hcl], ?_⟩, by simp only; omega, rfl⟩
    intro k hk
    have hi := hc i (by omega)
    have hj := hc j (by omega)
    rw [if_neg (by omega)] at hi hj
    simp only [List.getElem?_set, List.length_set]
    by_cases h1 : j = k
    · subst h1
      rw [if_pos rfl, if_pos (by omega), if_pos (by omega), ← ha, hi]
      congr 1; omega
    · rw [if_neg h1]
      by_cases h2 : i = k
      · subst h2
        rw [if_pos rfl, if_pos (by omega), if_pos (by omega), ← hb, hj]
        congr 1; omega
      · rw [if_neg h2, hc k hk]
        by_cases h3 : k < i ∨ n ≤ k + i
        · rw [if_pos h3, if_pos (by omega)]
        · rw [if_neg h3, if_neg (by omega)]
  · have er : cur = ps.reverse := by
      apply List.ext_getElem?
      intro k
      by_cases hk : k < n
      · rw [hc k hk, List.getElem?_reverse (by omega)]
        by_cases h3 : k < i ∨ n ≤ k + i
        · rw [if_pos h3, hn]
        · rw [if_neg h3]; congr 1; omega
      · rw [List.getElem?_eq_none (by omega), List.getElem?_eq_none (by rw [List.length_reverse]; omega)]
    subst er
    simp only [L22_1, Seat.W_seq, Seat.W_region_false, Seat.W_exit, Seat.cond_eq, Seat.condK_false, Seat.rq_nil, Seat.rq_cons, Seat.rqK_some, Seat.seq_normal, Seat.seq_exit, Seat.blk_exit, loopEnd_exit, s_step, guardOf, s_guard_true, s_move, s_bin, s_pure, s_setT, binK, binAV, intBin, boolAV, intAV, out_normal, OutK, handed, renObj, backUpd, resultsAV, tupleOf, evalOp, List.set_cons_succ, List.set_cons_zero, List.getElem?_cons_succ, List.getElem?_cons_zero, List.cons_append, List.nil_append, List.length_cons, List.length_nil, List.map_nil, Option.getD_some, Nat.zero_add, Nat.add_zero, decide_false, eq_self, ↓reduceIte, seat_T, firstRegion, k22, hlt, prc_ren]
end Go.Ai
/- The arguments that are made of numbers. No condition. -/
namespace Go.Ai
set_option linter.unusedVariables false
set_option linter.unusedSimpArgs false
set_option maxRecDepth 100000
set_option maxHeartbeats 4000000
variable (o : Orac)

def rowC : List Int → LV
  | [] => .imm .nil
  | x :: r => .imm (.sl (ints (x :: r)))
theorem rowC_keep {ob K} (r : List Int) : keepLV ob K (rowC r) = rowC r := by cases r <;> rfl
def rcs (A : Mat) : List LV := A.map rowC
theorem rcs_keep {ob K} (A : Mat) : List.map (keepLV ob K) (rcs A) = rcs A := by simp [rcs, rowC_keep]
theorem rcs_len (A : Mat) : (rcs A).length = A.length := by simp [rcs]
theorem flat_nil (m : Nat) : (List.replicate m [LV.imm IV.nil]).flatten = rcs [] ++ List.replicate m (.imm .nil) := by simp [rcs]

theorem rcs_snoc (A : Mat) (r : List Int) : rcs (A ++ [r]) = rcs A ++ [rowC r] := by simp [rcs]
theorem rowC_ne {r : List Int} (h : 0 < r.length) : rowC r = .imm (.sl (ints r)) := by cases r with
  | nil => cases h
  | cons x l => rfl
theorem rowC_strip (r : List Int) : (rowC r).strip = some (.sl (ints r)) := by cases r <;> rfl
theorem rows_rcs (A : Mat) : ∀ pre : List LV, rowsAt (pre ++ rcs A) 1 pre.length A.length = some (mat A) := by
  induction A with
  | nil => intro pre; rfl
  | cons r A ih =>
    intro pre
    have e1 : (List.drop (pre.length * 1) (pre ++ rcs (r :: A))).take 1 = [rowC r] := by simp [rcs]
    have e2 : pre ++ rcs (r :: A) = (pre ++ [rowC r]) ++ rcs A := by simp [rcs]
    have e3 := ih (pre ++ [rowC r])
    rw [List.length_append] at e3
    rw [List.length_cons, rowsAt, e1, e2]
    simp only [stripAll, rowC_strip]
    rw [show pre.length + 1 = pre.length + [rowC r].length from rfl, e3]
    rfl
theorem rows_rcs0 (A : Mat) {m : Nat} (h : A.length = m) : rowsAt (rcs A ++ List.replicate (m - m) (.imm .nil)) 1 0 m = some (mat A) := by
  subst h
  have := rows_rcs A []
  simpa using this
theorem fn15 (m n : Nat) (l : List Int) (hm : m ≤ 400) (hn : n ≤ 400) (hl : l.length ≤ 16777216) :
    (seat o).fn 15 [.leaf (.imm (.int .i64 (m : Int))), .leaf (.imm (.int .i64 (n : Int))), .leaf (.imm (.sl (ints l)))] = some (.tup [.leaf (.imm (.sl (ints (mDrop l n m)))), .leaf (.imm (.sl (ints (mAdd l n)))), .leaf (.imm (.sl (mat (mCost l n m))))]) := by
  have c25 : ∀ (d : Nat) (ob : Nat → Option AObj), ob d = none → _ := fun d ob hd => fn25 o d ob l hl hd
  refine Seat.fn_of (f := fun15) (noS o 15 _ rfl) rfl rfl rfl ?_; simp only [fun15, Proofs.Try.f15, Seat.W_seq, Seat.W_region_false, Seat.rq_nil, Seat.rq_cons, Seat.rqK_some, Seat.seq_normal, s_step, guardOf, s_guard_true, s_assign, s_move, call_25, s_pure, s_setT, callOS, callOD, mapEval, evalOp, ofValue, idsOf, AV.ids, LV.ids, LV.ids.idsAll, List.set_cons_succ, List.set_cons_zero, List.getElem?_cons_succ, List.getElem?_cons_zero, List.cons_append, List.nil_append, List.append_nil, List.length_cons, List.length_nil, List.reduceReplicate, List.contains_cons, List.contains_nil, Nat.reduceAdd, Nat.reduceSub, Nat.zero_add, Bool.or_false, seat_T]
  simp only [Seat.W_seq, Seat.W_block, Seat.W_loop, Seat.W_region_false, Seat.rq_nil, Seat.rq_cons, Seat.rqK_some, Seat.seq_normal, s_step, guardOf, s_guard_true, s_assign, s_pure, s_setT, upds, evalOp, ofValue, List.set_cons_succ, List.set_cons_zero, List.getElem?_cons_succ, List.getElem?_cons_zero, List.length_cons, List.length_nil, List.getD_cons_succ, List.getD_cons_zero, List.all_cons, List.all_nil, List.map_cons, List.map_nil, List.contains_cons, List.contains_nil, Option.map_some, Option.map_none, Option.getD_some, Nat.reduceAdd, Nat.reduceLT, Nat.reduceLeDiff, Nat.reduceBEq, Nat.zero_add, Int.cast_ofNat_Int, Bool.and_self, Bool.or_false, Bool.or_true, Bool.false_eq_true, decide_true, decide_false, beq_self_eq_true, eq_self, ↓reduceIte, seat_T, ob_getD, keepSt, keepTmps, keepObjs, kept, keepAV, keepLV_imm, keepLV_ptr, keepObj, promote, promoteT, seedLV, seedObj, firstRegion, k15, c25, dice, dL_keep]
  refine Seat.loop_by (fun j : Nat => L15_4 (intAV .i64 m) (intAV .i64 n) (.leaf (.ptr 17 0 0)) (.leaf (.imm .nil)) (.leaf (.ap 27 (ints (mAdd l j)))) (intAV .i64 j) (some (dice l (min j l.length))) (some (.tail 3 1 j)) none) (fun j => j ≤ n) (fun j => n - j) 0 (by simp only [L15_4, dice, intAV, Nat.zero_min, Int.cast_ofNat_Int]; rfl) (Nat.zero_le _) ?_
  intro j hj
  by_cases hlt : j < n
  · have c26 : ∀ (d : Nat) (ob : Nat → Option AObj), ob 17 = some (dice l (min j l.length)) → _ := fun d ob ho => fn26 o 17 d ob l j 6 (by omega) (by decide) (by decide) ho
    simp only [dice, intAV] at c26
    have e1 : IntKind.wrap .i64 ((j : Int) + 1) = ((j + 1 : Nat) : Int) := wrap_i64 (by omega) (by omega)
    have hr : (j + 1) * 8 ≤ room := room_of (by omega) (by decide)
    simp only [L15_4, Seat.W_seq, Seat.W_block, Seat.W_region_false, Seat.W_skip, Seat.cond_eq, Seat.condK_true, Seat.env_grow, Seat.rq_nil, Seat.rq_cons, Seat.rqK_some, Seat.seq_normal, Seat.blk_normal, loopEnd_normal, s_step, guardOf, s_guard_true, s_assign, s_move, s_bin, s_buildSlice, call_26, s_append, s_pure, s_setT, binK, binAV, intBin, boolAV, intAV, evalParts, clipK, rowsK, buildSliceK, callOS, callOD, upds, appK, appR, appT, appE_c, appS, app2, appTail, strip_imm, stripAll, IV.norm, rowsOf_clip, rowsAt, fillAV, setRange, mapEval, evalOp, ofValue, AV.leaves, solid_imm, idsOf, AV.ids, LV.ids, LV.ids.idsAll, List.set_cons_succ, List.set_cons_zero, List.getElem?_cons_succ, List.getElem?_cons_zero, List.cons_append, List.nil_append, List.append_nil, List.length_cons, List.length_nil, List.getD_cons_succ, List.getD_cons_zero, List.all_cons, List.all_nil, List.map_cons, List.map_nil, List.drop_succ_cons, List.drop_zero, List.take_succ_cons, List.take_zero, List.drop_nil, List.take_nil, List.flatten_cons, List.flatten_nil, List.reduceReplicate, List.contains_cons, List.contains_nil, Option.map_some, Option.map_none, Option.getD_some, Nat.reduceAdd, Nat.reduceLT, Nat.reduceLeDiff, Nat.reduceBEq, Nat.zero_add, Nat.mul_one, Nat.le_refl, and_self, Bool.and_self, Bool.or_false, Bool.or_true, Bool.false_eq_true, decide_true, decide_false, beq_self_eq_true, eq_self, ↓reduceIte, seat_T, ob_getD, Int.ofNat_lt, keepSt, keepTmps, keepObjs, kept, keepAV, keepLV_imm, keepLV_ptr, keepLV_ap, keepObj, promote, promoteT, firstRegion, k15, T_22, T_3, ints_len, mAdd_len, dice, dL_keep, c26, hlt, e1, hr, ints_snoc]
    exact ⟨j + 1, by omega, by omega, by simp only [mAdd_succ]⟩
  · obtain rfl : n = j := by omega
    have hrm : m * 24 ≤ room := room_of (by omega) (by decide)
    simp only [L15_4, Seat.W_seq, Seat.W_block, Seat.W_loop, Seat.W_region_false, Seat.W_exit, Seat.cond_eq, Seat.condK_false, Seat.rq_nil, Seat.rq_cons, Seat.rqK_some, Seat.seq_normal, Seat.seq_exit, Seat.blk_exit, loopEnd_exit, s_step, guardOf, s_guard_true, s_assign, s_move, s_bin, s_pure, s_setT, binK, binAV, intBin, boolAV, intAV, evalOp, ofValue, List.set_cons_succ, List.set_cons_zero, List.getElem?_cons_succ, List.getElem?_cons_zero, List.length_cons, List.length_nil, List.getD_cons_succ, List.getD_cons_zero, List.map_cons, List.map_nil, List.contains_cons, List.contains_nil, Option.map_some, Option.map_none, Option.getD_some, Nat.reduceAdd, Nat.reduceLT, Nat.reduceLeDiff, Nat.reduceBEq, Nat.zero_add, Int.toNat_natCast, Int.natCast_nonneg, and_self, Bool.or_false, Bool.or_true, Bool.false_eq_true, decide_false, beq_self_eq_true, eq_self, ↓reduceIte, seat_T, ob_getD, Int.ofNat_lt, s_makeSlice, mksS, mksT, mksC, keepSt, keepTmps, keepObjs, kept, keepAV, keepLV_imm, keepLV_ptr, keepLV_ap, keepLV_ms, keepObj, promote, promoteT, seedLV, seedObj, firstRegion, k15, T_22, T_23, dice, dL_keep, hlt, hrm, flat_nil, List.map_append, List.map_replicate, rcs_keep]
    refine Seat.loop_by (fun i : Nat => L15_9 (intAV .i64 m) (intAV .i64 n) (.leaf (.ptr 17 0 0)) (.leaf (.ap 39 (ints (mDrop l n i)))) (.leaf (.ap 27 (ints (mAdd l n)))) (.leaf (.ms 29 0 1 0 m)) (intAV .i64 i) (some (dice l (min (n + i * (n + 1)) l.length))) (some (.tail 3 1 n)) (some (.cells 22 0 (rcs (mCost l n i) ++ List.replicate (m - i) (.imm .nil)))) (some (.tail 3 1 i))) (fun i => i ≤ m) (fun i => m - i) 0 (by simp only [L15_9, dice, intAV, Nat.zero_mul, Nat.add_zero, Nat.sub_zero]; rfl) (Nat.zero_le _) ?_
    intro i hi
    by_cases hlt : i < m
    · have c26 : ∀ (d : Nat) (ob : Nat → Option AObj), ob 17 = some (dice l (min (n + i * (n + 1)) l.length)) → _ := fun d ob ho => fn26 o 17 d ob l _ 6 (by omega) (by decide) (by decide) ho
      simp only [dice, intAV] at c26
      have e1 : IntKind.wrap .i64 ((i : Int) + 1) = ((i + 1 : Nat) : Int) := wrap_i64 (by omega) (by omega)
      have hr : (i + 1) * 8 ≤ room := room_of (by omega) (by decide)
      have er : m - i = (m - i - 1) + 1 := by omega
      rw [er]
      simp only [L15_9, Seat.W_seq, Seat.W_block, Seat.W_loop, Seat.W_region_false, Seat.W_skip, Seat.cond_eq, Seat.condK_true, Seat.env_grow, Seat.rq_nil, Seat.rq_cons, Seat.rqK_some, Seat.seq_normal, s_step, guardOf, s_guard_true, s_assign, s_move, s_bin, s_buildSlice, call_26, s_append, s_pure, s_setT, binK, binAV, intBin, boolAV, intAV, evalParts, clipK, rowsK, buildSliceK, callOS, callOD, upds, appK, appR, appT, appE_c, appS, app2, appTail, strip_imm, stripAll, IV.norm, rowsOf_clip, rowsAt, fillAV, setRange, mapEval, evalOp, ofValue, AV.leaves, solid_imm, idsOf, AV.ids, LV.ids, LV.ids.idsAll, List.set_cons_succ, List.set_cons_zero, List.getElem?_cons_succ, List.getElem?_cons_zero, List.cons_append, List.nil_append, List.append_nil, List.length_cons, List.length_nil, List.getD_cons_succ, List.getD_cons_zero, List.all_cons, List.all_nil, List.map_cons, List.map_nil, List.drop_succ_cons, List.drop_zero, List.take_succ_cons, List.take_zero, List.drop_nil, List.take_nil, List.flatten_cons, List.flatten_nil, List.reduceReplicate, List.contains_cons, List.contains_nil, Option.map_some, Option.map_none, Option.getD_some, Nat.reduceAdd, Nat.reduceLT, Nat.reduceLeDiff, Nat.reduceBEq, Nat.zero_add, Nat.mul_one, Nat.le_refl, and_self, Bool.and_self, Bool.or_false, Bool.or_true, Bool.false_eq_true, decide_true, decide_false, beq_self_eq_true, eq_self, ↓reduceIte, seat_T, ob_getD, Int.ofNat_lt, keepSt, keepTmps, keepObjs, kept, keepAV, keepLV_imm, keepLV_ptr, keepLV_ap, keepLV_ms, keepObj, promote, promoteT, firstRegion, k15, T_22, T_3, ints_len, mDrop_len, dice, dL_keep, c26, hlt, hr, ints_snoc, List.map_append, List.map_replicate, rcs_keep, List.replicate_succ]
      refine Seat.loop_by (fun j : Nat => L15_13 (intAV .i64 m) (intAV .i64 n) (.leaf (.ptr 17 0 0)) (.leaf (.ap 39 (ints (mDrop l n (i + 1))))) (.leaf (.ap 27 (ints (mAdd l n)))) (.leaf (.ms 29 0 1 0 m)) (intAV .i64 i) (intAV .i64 j) (some (dice l (min (n + i * (n + 1) + 1 + j) l.length))) (some (.tail 3 1 n)) (some (.cells 22 0 (rcs (mCost l n i) ++ (if j = 0 then .imm .nil else .ap 55 (ints (mRow l n i j))) :: List.replicate (m - i - 1) (.imm .nil)))) (some (.tail 3 1 (i + 1))) (if j = 0 then none else some (.tail 3 1 j))) (fun j => j ≤ n) (fun j => n - j) 0 (by simp only [L15_13, dice, intAV, mDrop_succ, Nat.add_zero, if_true]; rfl) (Nat.zero_le _) ?_
      intro j hj
      by_cases hjlt : j < n
      · have c26 : ∀ (d : Nat) (ob : Nat → Option AObj), ob 17 = some (dice l (min (n + i * (n + 1) + 1 + j) l.length)) → _ := fun d ob ho => fn26 o 17 d ob l _ 10 (by omega) (by decide) (by decide) ho
        simp only [dice, intAV] at c26
        have e2 : IntKind.wrap .i64 ((j : Int) + 1) = ((j + 1 : Nat) : Int) := wrap_i64 (by omega) (by omega)
        have e3 : IntKind.wrap .i64 (dv l 10 (n + i * (n + 1) + 1 + j) - 1) = dv l 10 (n + i * (n + 1) + 1 + j) - 1 := by have := dv_bd l (n := 10) (by decide) (n + i * (n + 1) + 1 + j); exact wrap_i64 (by omega) (by omega)
        have hr : (j + 1) * 8 ≤ room := room_of (by omega) (by decide)
        have hr1 : 1 * 8 ≤ room := by decide
        have hci : (rcs (mCost l n i)).length = i := by rw [rcs_len, mCost_len]
        have m1 := mid_take hci
        have m2 := mid_drop hci
        have m3 := mid_drop1 hci
        have m4 := mid_len hci
        by_cases hj0 : j = 0
        · have i1 : (if j = 0 then LV.imm IV.nil else LV.ap 55 (ints (mRow l n i j))) = LV.imm IV.nil := if_pos hj0
          have i2 : (if j = 0 then none else some (AObj.tail 3 1 j)) = none := if_pos hj0
          simp only [L15_13, Seat.W_seq, Seat.W_block, Seat.W_region_false, Seat.W_region_true, Seat.W_skip, Seat.cond_eq, Seat.condK_true, Seat.env_grow, Seat.rq_nil, Seat.rq_cons, Seat.rqK_some, Seat.rg_nil, Seat.rg_cons, Seat.rgK_some, Seat.endQ, Seat.seq_normal, Seat.blk_normal, loopEnd_normal, s_step, guardOf, s_guard_true, s_assign, s_move, s_bin, s_indexAddr, s_buildSlice, s_load, s_store, call_26, s_append, s_pure, s_setT, s_setN, storeS, storeK, loadK, loadC, binK, binAV, intBin, boolAV, intAV, indexAddrK, evalParts, clipK, rowsK, buildSliceK, callOS, callOD, upds, appK, appR, appT, appE_c, appS, app1, appTail, strip_imm, stripAll, IV.norm, rowsOf_clip, rowsAt, mkAV, TK.agg, fillAV, setRange, mapEval, evalOp, ofValue, AV.leaves, solid_imm, solid_ap, footA, pureCall, quietOp, readsT, writesT, guardLoc, tmpLoc, touch, looksOp, idsOf, AV.ids, LV.ids, LV.ids.idsAll, Op.operands, Call.operands, List.set_cons_succ, List.set_cons_zero, List.getElem?_cons_succ, List.getElem?_cons_zero, List.cons_append, List.nil_append, List.append_nil, List.length_cons, List.length_nil, List.getD_cons_succ, List.getD_cons_zero, List.all_cons, List.all_nil, List.map_cons, List.map_nil, List.drop_succ_cons, List.drop_zero, List.take_succ_cons, List.take_zero, List.drop_nil, List.take_nil, List.flatten_cons, List.flatten_nil, List.flatMap_cons, List.flatMap_nil, List.reduceReplicate, List.contains_cons, List.contains_nil, Option.map_some, Option.getD_some, Option.toList_some, Option.toList_none, Option.some.injEq, Nat.reduceAdd, Nat.reduceMul, Nat.reduceLT, Nat.reduceLeDiff, Nat.reduceBEq, Nat.zero_add, Nat.one_mul, Nat.mul_one, Nat.le_refl, Int.toNat_natCast, Int.natCast_nonneg, and_self, Bool.and_self, Bool.or_false, Bool.or_true, Bool.not_true, Bool.false_eq_true, reduceCtorEq, decide_true, decide_false, beq_self_eq_true, eq_self, ↓reduceIte, seat_T, seat_O, ob_getD, Int.ofNat_lt, keepSt, keepTmps, keepObjs, kept, keepAV, keepLV_imm, keepLV_ptr, keepLV_ap, keepLV_ms, keepObj, promote, promoteT, firstRegion, k15, T_22, T_23, T_3, dice, dL_keep, c26, hjlt, hlt, e2, e3, List.map_append, List.map_replicate, rcs_keep, i1, i2, hr1, m1, m2, m3, m4]
          refine ⟨ord_of (by kernel_rfl), j + 1, by omega, by omega, ?_⟩
          subst hj0
          simp only [if_neg (Nat.succ_ne_zero 0), mRow_succ]
          rfl
        · have i1 : (if j = 0 then LV.imm IV.nil else LV.ap 55 (ints (mRow l n i j))) = LV.ap 55 (ints (mRow l n i j)) := if_neg hj0
          have i2 : (if j = 0 then none else some (AObj.tail 3 1 j)) = some (AObj.tail 3 1 j) := if_neg hj0
          simp only [L15_13, Seat.W_seq, Seat.W_block, Seat.W_region_false, Seat.W_region_true, Seat.W_skip, Seat.cond_eq, Seat.condK_true, Seat.env_grow, Seat.rq_nil, Seat.rq_cons, Seat.rqK_some, Seat.rg_nil, Seat.rg_cons, Seat.rgK_some, Seat.endQ, Seat.seq_normal, Seat.blk_normal, loopEnd_normal, s_step, guardOf, s_guard_true, s_assign, s_move, s_bin, s_indexAddr, s_buildSlice, s_load, s_store, call_26, s_append, s_pure, s_setT, s_setN, storeS, storeK, loadK, loadC, binK, binAV, intBin, boolAV, intAV, indexAddrK, evalParts, clipK, rowsK, buildSliceK, callOS, callOD, upds, appK, appR, appT, appE_c, appS, app2, appTail, strip_imm, stripAll, IV.norm, rowsOf_clip, rowsAt, mkAV, TK.agg, fillAV, setRange, mapEval, evalOp, ofValue, AV.leaves, solid_imm, solid_ap, footA, pureCall, quietOp, readsT, writesT, guardLoc, tmpLoc, touch, looksOp, idsOf, AV.ids, LV.ids, LV.ids.idsAll, Op.operands, Call.operands, List.set_cons_succ, List.set_cons_zero, List.getElem?_cons_succ, List.getElem?_cons_zero, List.cons_append, List.nil_append, List.append_nil, List.length_cons, List.length_nil, List.getD_cons_succ, List.getD_cons_zero, List.all_cons, List.all_nil, List.map_cons, List.map_nil, List.drop_succ_cons, List.drop_zero, List.take_succ_cons, List.take_zero, List.drop_nil, List.take_nil, List.flatten_cons, List.flatten_nil, List.flatMap_cons, List.flatMap_nil, List.reduceReplicate, List.contains_cons, List.contains_nil, Option.map_some, Option.getD_some, Option.toList_some, Option.toList_none, Option.some.injEq, Nat.reduceAdd, Nat.reduceMul, Nat.reduceLT, Nat.reduceLeDiff, Nat.reduceBEq, Nat.zero_add, Nat.mul_one, Nat.le_refl, Int.toNat_natCast, Int.natCast_nonneg, and_self, Bool.and_self, Bool.or_false, Bool.or_true, Bool.not_true, Bool.false_eq_true, reduceCtorEq, decide_true, decide_false, beq_self_eq_true, eq_self, ↓reduceIte, seat_T, seat_O, ob_getD, Int.ofNat_lt, keepSt, keepTmps, keepObjs, kept, keepAV, keepLV_imm, keepLV_ptr, keepLV_ap, keepLV_ms, keepObj, promote, promoteT, firstRegion, k15, T_22, T_23, T_3, ints_len, mRow_len, dice, dL_keep, c26, hjlt, hlt, e2, e3, ints_snoc, List.map_append, List.map_replicate, rcs_keep, i1, i2, hr, m1, m2, m3, m4]
          refine ⟨ord_of (by kernel_rfl), j + 1, by omega, by omega, ?_⟩
          simp only [if_neg (Nat.succ_ne_zero j), mRow_succ]
          rfl
      · obtain rfl : n = j := by omega
        have er2 : m - (i + 1) = m - i - 1 := by omega
        have ed : n + (i + 1) * (n + 1) = n + i * (n + 1) + 1 + n := by rw [Nat.succ_mul]; omega
        by_cases hn0 : n = 0
        · have i1 : (if n = 0 then LV.imm IV.nil else LV.ap 55 (ints (mRow l n i n))) = LV.imm IV.nil := if_pos hn0
          have i2 : (if n = 0 then none else some (AObj.tail 3 1 n)) = none := if_pos hn0
          have i3 : rowC (mRow l n i n) = LV.imm IV.nil := by subst hn0; rfl
          simp only [L15_13, Seat.W_seq, Seat.W_region_false, Seat.W_exit, Seat.cond_eq, Seat.condK_false, Seat.rq_nil, Seat.rq_cons, Seat.rqK_some, Seat.seq_normal, Seat.seq_exit, Seat.blk_normal, Seat.blk_exit, loopEnd_normal, loopEnd_exit, s_step, guardOf, s_guard_true, s_assign, s_move, s_bin, s_pure, s_setT, binK, binAV, intBin, boolAV, intAV, evalOp, ofValue, List.set_cons_succ, List.set_cons_zero, List.getElem?_cons_succ, List.getElem?_cons_zero, List.getD_cons_succ, List.getD_cons_zero, List.map_cons, List.map_nil, List.contains_cons, List.contains_nil, Option.map_some, Option.getD_some, Nat.reduceAdd, Nat.reduceLeDiff, Nat.reduceBEq, Nat.zero_add, Bool.or_false, Bool.or_true, Bool.false_eq_true, decide_false, beq_self_eq_true, eq_self, ↓reduceIte, seat_T, ob_getD, Int.ofNat_lt, keepSt, keepTmps, keepObjs, kept, keepAV, keepLV_imm, keepLV_ptr, keepLV_ap, keepLV_ms, keepObj, promote, promoteT, firstRegion, k15, dice, dL_keep, hjlt, e1, List.map_append, List.map_replicate, rcs_keep, i1, i2]
          refine ⟨i + 1, by omega, by omega, ?_⟩
          simp only [mCost_succ, rcs_snoc, i3, er2, ed, List.append_assoc, List.cons_append, List.nil_append]
        · have i1 : (if n = 0 then LV.imm IV.nil else LV.ap 55 (ints (mRow l n i n))) = LV.ap 55 (ints (mRow l n i n)) := if_neg hn0
          have i2 : (if n = 0 then none else some (AObj.tail 3 1 n)) = some (AObj.tail 3 1 n) := if_neg hn0
          have i3 : rowC (mRow l n i n) = LV.imm (.sl (ints (mRow l n i n))) := rowC_ne (by rw [mRow_len]; omega)
          simp only [L15_13, Seat.W_seq, Seat.W_region_false, Seat.W_exit, Seat.cond_eq, Seat.condK_false, Seat.rq_nil, Seat.rq_cons, Seat.rqK_some, Seat.seq_normal, Seat.seq_exit, Seat.blk_normal, Seat.blk_exit, loopEnd_normal, loopEnd_exit, s_step, guardOf, s_guard_true, s_assign, s_move, s_bin, s_pure, s_setT, binK, binAV, intBin, boolAV, intAV, evalOp, ofValue, List.set_cons_succ, List.set_cons_zero, List.getElem?_cons_succ, List.getElem?_cons_zero, List.getD_cons_succ, List.getD_cons_zero, List.map_cons, List.map_nil, List.contains_cons, List.contains_nil, Option.map_some, Option.getD_some, Nat.reduceAdd, Nat.reduceLeDiff, Nat.reduceBEq, Nat.zero_add, Bool.or_false, Bool.or_true, Bool.false_eq_true, decide_false, beq_self_eq_true, eq_self, ↓reduceIte, seat_T, ob_getD, Int.ofNat_lt, keepSt, keepTmps, keepObjs, kept, keepAV, keepLV_imm, keepLV_ptr, keepLV_ap, keepLV_ms, keepObj, promote, promoteT, firstRegion, k15, dice, dL_keep, hjlt, e1, List.map_append, List.map_replicate, rcs_keep, i1, i2]
          refine ⟨i + 1, by omega, by omega, ?_⟩
          simp only [mCost_succ, rcs_snoc, i3, er2, ed, List.append_assoc, List.cons_append, List.nil_append]
    · obtain rfl : m = i := by omega
      have hle : m ≤ (rcs (mCost l n m) ++ List.replicate (m - m) (LV.imm IV.nil)).length := by rw [List.length_append, rcs_len, mCost_len]; omega
      simp only [L15_9, Seat.W_seq, Seat.W_region_false, Seat.W_exit, Seat.W_ret, Seat.cond_eq, Seat.condK_false, Seat.rq_nil, Seat.rq_cons, Seat.rqK_some, Seat.seq_normal, Seat.seq_exit, Seat.blk_exit, Seat.ret_ret, Seat.RetK, loopEnd_exit, s_step, guardOf, s_guard_true, s_assign, s_move, s_bin, s_pure, s_setT, binK, binAV, intBin, boolAV, intAV, lendArgs, lendArg, lend_ap, lend_ms, rowsOf_ms, resultsAV, resultAV, tupleOf, evalOp, List.set_cons_succ, List.set_cons_zero, List.getElem?_cons_succ, List.getElem?_cons_zero, List.getD_cons_succ, List.getD_cons_zero, Option.map_some, Option.getD_some, Option.some.injEq, Nat.reduceLT, Nat.zero_add, Nat.mul_one, and_self, decide_false, eq_self, ↓reduceIte, exists_eq_left', seat_T, ob_getD, Int.ofNat_lt, firstRegion, k15, dice, hlt, rows_rcs0 _ (mCost_len l n m), hle]
end Go.Ai
