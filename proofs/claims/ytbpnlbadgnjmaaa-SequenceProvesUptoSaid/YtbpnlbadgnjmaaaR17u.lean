/- The laws of alignments: aligns, made, costs, least, proves. No condition. -/
import Derived.Test.YtbpnlbadgnjmaaaR17e
import Derived.Test.YtbpnlbadgnjmaaaR17m
import Derived.Test.YtbpnlbadgnjmaaaR17t
import Derived.Test.YtbpnlbadgnjmaaaAiRead2
namespace Go.Ai
set_option linter.unusedVariables false
set_option linter.unusedSimpArgs false
set_option maxRecDepth 100000
set_option maxHeartbeats 4000000
variable (o : Orac)

def aln (d a : List Int) (c : Mat) : Aln := ⟨(bk d a c d.length a.length).reverse, pot d a c d.length a.length, potTab d a c (d.length + 1) (a.length + 1)⟩
theorem at2_tab (d a : List Int) (c : Mat) {i j m n : Nat} (hi : i < m) (hj : j < n) : at2 (potTab d a c m n) i j = pot d a c i j := at2_of (potTab_get _ _ _ hi) (potRow_get _ _ _ hj)
theorem vfy_aln {d a : List Int} {c : Mat} (hp : Prp d a c) : Vfy d a c (aln d a c) := by
  have hld := hp.ld
  have hla := hp.la
  have hpp := pot_pots hp
  refine ⟨bk_costOf hp, potTab_len _ _ _ _ _, ?_, ?_, ?_, ⟨fun i j hi hj => ?_, fun i j hi hj => ?_, fun i j hi hj h0 => ?_⟩⟩
  · intro r hr
    simp only [aln, potTab, List.mem_map, List.mem_range] at hr
    obtain ⟨i, hi, rfl⟩ := hr
    refine ⟨potRow_len _ _ _ _ _, fun v hv => ?_⟩
    simp only [potRow, List.mem_map, List.mem_range] at hv
    obtain ⟨j, hj, rfl⟩ := hv
    have := pot_bd hp i j
    omega
  · show at2 (potTab d a c _ _) 0 0 = 0
    rw [at2_tab _ _ _ (by omega) (by omega), pot]
  · show at2 (potTab d a c _ _) _ _ = pot d a c _ _
    rw [at2_tab _ _ _ (by omega) (by omega)]
  · show at2 (potTab d a c _ _) _ _ ≤ at2 (potTab d a c _ _) _ _ + _
    rw [at2_tab _ _ _ (by omega) (by omega), at2_tab _ _ _ (by omega) (by omega)]; exact hpp.down i j hi hj
  · show at2 (potTab d a c _ _) _ _ ≤ at2 (potTab d a c _ _) _ _ + _
    rw [at2_tab _ _ _ (by omega) (by omega), at2_tab _ _ _ (by omega) (by omega)]; exact hpp.right i j hi hj
  · show at2 (potTab d a c _ _) _ _ ≤ at2 (potTab d a c _ _) _ _ + _
    rw [at2_tab _ _ _ (by omega) (by omega), at2_tab _ _ _ (by omega) (by omega)]; exact hpp.both i j hi hj h0
theorem prp_bdd {d a : List Int} {c : Mat} (hp : Prp d a c) : Bdd c := fun r hr => by have := (hp.rows r hr).1; have := hp.la; omega
theorem aln_ps {d a : List Int} {c : Mat} (hp : Prp d a c) : (aln d a c).ps.length ≤ 400 := by
  have := bk_len d a c d.length a.length
  have := hp.ld
  simp only [aln, List.length_reverse]; omega
theorem aln_pot {d a : List Int} {c : Mat} (hp : Prp d a c) : (aln d a c).pot.length ≤ 401 := by
  have := hp.ld
  simp only [aln, potTab_len]; omega
theorem aln_bdd {d a : List Int} {c : Mat} (hp : Prp d a c) : Bdd (aln d a c).pot := fun r hr => by
  simp only [aln, potTab, List.mem_map, List.mem_range] at hr
  obtain ⟨i, hi, rfl⟩ := hr
  rw [potRow_len]; have := hp.la; omega
theorem ver_aln {d a : List Int} {c : Mat} (hp : Prp d a c) : (seat o).fn 19 [.leaf (.imm (.sl (ints d))), .leaf (.imm (.sl (ints a))), .leaf (.imm (.sl (mat c))), (aln d a c).av] = some (boolAV true) := by
  have := hp.ld; have := hp.la; have := hp.lc; have := aln_ps hp; have := aln_pot hp
  exact fn19 o d a c _ (by omega) (by omega) (by omega) (prp_bdd hp) (by omega) (by omega) (aln_bdd hp) true ⟨fun _ => vfy_aln hp, fun _ => rfl⟩
theorem same_aln {d a : List Int} {c : Mat} (hp : Prp d a c) : (seat o).fn 13 [(aln d a c).av, (aln d a c).av] = some (boolAV true) := by
  have := aln_ps hp; have := aln_pot hp
  exact fn13 o _ (by omega) (by omega) (aln_bdd hp)

theorem awake_bk : bk [1, 1] [1] [[5], [0]] 2 1 = [(1, 0)] := by simp [bk, pot, at1, at2, Int.min_def]
theorem awake_pot : pot [1, 1] [1] [[5], [0]] 2 1 = 1 := by simp [pot, at1, at2, Int.min_def]
theorem awake_aln : aln [1, 1] [1] [[5], [0]] = ⟨[(1, 0)], 1, [[0, 1], [1, 2], [2, 1]]⟩ := by
  unfold aln
  simp [awake_bk, awake_pot, potTab, potRow, List.range_succ, pot, at1, at2, Int.min_def]
theorem fn10 : (seat o).fn 10 [] = some (boolAV true) := by
  have hp : Prp [1, 1] [1] [[5], [0]] := by decide
  have h11 : (seat o).fn 11 _ = some (.tup [(aln [1, 1] [1] [[5], [0]]).av, .leaf (.imm (.int .i64 0))]) := fn11_ok o _ _ _ hp
  have h19 := ver_aln o hp
  rw [awake_aln] at h11 h19
  simp only [boolAV, Aln.av, ints, mat, prs, List.map_cons, List.map_nil] at h11 h19
  refine Seat.fn_of (f := fun10) (noS o 10 _ rfl) rfl rfl rfl ?_; simp only [fun10, Proofs.Try.f10, Seat.W_seq, Seat.W_region_false, Seat.rq_nil, Seat.rq_cons, Seat.rqK_some, Seat.seq_normal, s_step, guardOf, s_guard_true, s_assign, s_buildSlice, s_pure, s_setT, boolAV, evalParts, clipK, rowsK, buildSliceK, rowsAt, fillAV, setRange, evalOp, ofValue, AV.leaves, solid_imm, List.set_cons_zero, List.cons_append, List.nil_append, List.append_nil, List.length_cons, List.length_nil, List.all_cons, List.all_nil, List.drop_succ_cons, List.drop_zero, List.take_zero, List.flatten_cons, List.flatten_nil, List.reduceReplicate, Nat.reduceSub, Nat.zero_add, Nat.zero_mul, Nat.one_mul, and_true, Bool.and_self, eq_self, seat_T]
  simp only [Seat.W_seq, Seat.W_region_false, Seat.W_ret, Seat.rq_nil, Seat.rq_cons, Seat.rqK_some, Seat.seq_normal, Seat.ret_ret, Seat.RetK, s_step, guardOf, s_guard_true, s_alloc, s_assign, s_move, s_pick, s_bin, s_extract, s_fieldAddr, s_indexAddr, s_build, s_buildSlice, s_load, s_store, s_len, call_11, call_19, s_pure, s_setT, s_setN, allocS, allocK, storeS, storeK, loadK, loadC, pickK, pickAV, binK, binAV, cmpAV, intBin, boolAV, intAV, extractK, fieldAddrK, elemK, indexAddrK, indexRow, evalParts, aggK, buildK, clipK, rowsK, buildSliceK, lenK, lenAV, callS, callP, stripArgs, AV.stripA, strip_imm, strip_clip, stripAll, IV.norm, lendArgs, lendArg, lend_imm, rowsOf_sl, rowsAt, resultsAV, resultAV, tupleOf, mkAV, TK.agg, fillAV, setRange, mapEval, evalOp, ofValue, AV.leaves, solid_imm, solid_clip, List.set_cons_succ, List.set_cons_zero, List.getElem?_cons_succ, List.getElem?_cons_zero, List.cons_append, List.nil_append, List.append_nil, List.length_cons, List.length_nil, List.getD_cons_succ, List.getD_cons_zero, List.all_cons, List.all_nil, List.map_cons, List.map_nil, List.drop_succ_cons, List.drop_zero, List.take_succ_cons, List.take_zero, List.drop_nil, List.take_nil, List.flatten_cons, List.flatten_nil, List.reduceReplicate, Option.map_some, Option.some.injEq, Nat.reduceAdd, Nat.reduceLT, Nat.reduceLeDiff, Nat.zero_add, Nat.add_zero, Nat.mul_one, Nat.le_refl, Int.reduceLE, Int.toNat_zero, Int.cast_ofNat_Int, and_self, Bool.and_self, Bool.false_eq_true, decide_true, beq_self_eq_true, eq_self, ↓reduceIte, exists_eq_left', seat_T, T_22, T_23, T_26, T_28, T_45, T_3, h11, h19, likeAll, likeLV, eq_self_pr]
  first | done | exact ord_of (by kernel_rfl) | exact ⟨ord_of (by kernel_rfl), ord_of (by kernel_rfl)⟩

theorem law3 (d a : List Int) (c : Mat) (hd : d.length ≤ 1099511627776) (ha : a.length ≤ 1099511627776) (hc : c.length ≤ 1099511627776) (hr : Bdd c) :
    (seat o).fn 3 [.leaf (.imm (.sl (ints d))), .leaf (.imm (.sl (ints a))), .leaf (.imm (.sl (mat c)))] = some (boolAV true) := by
  have h9 := fn9 o d a c hd ha hc hr
  have h10 := fn10 o
  simp only [boolAV] at h9 h10 ⊢
  by_cases hl : Lgt d a c
  · rw [decide_eq_true hl] at h9
    by_cases hp : Prp d a c
    · have h11 : (seat o).fn 11 _ = some (.tup [(aln d a c).av, .leaf (.imm (.int .i64 0))]) := fn11_ok o _ _ _ hp
      have h12 : (seat o).fn 12 _ = some (.tup [(aln d a c).av, .leaf (.imm (.int .i64 0))]) := fn12_ok o _ _ _ hp
      have h13 := same_aln o hp
      simp only [boolAV, Aln.av] at h11 h12 h13
      refine Seat.fn_of (f := fun3) (noS o 3 _ rfl) rfl rfl rfl ?_; simp only [fun3, Proofs.Try.f3, Seat.W_seq, Seat.W_region_false, Seat.rq_nil, Seat.rq_cons, Seat.rqK_some, Seat.seq_normal, s_step, guardOf, s_guard_true, s_assign, s_move, call_9, s_pure, s_setT, callS, callP, stripArgs, AV.stripA, strip_imm, IV.norm, mapEval, evalOp, ofValue, List.set_cons_succ, List.set_cons_zero, List.getElem?_cons_succ, List.getElem?_cons_zero, List.cons_append, List.nil_append, List.length_cons, List.length_nil, List.reduceReplicate, Option.map_some, Nat.reduceAdd, Nat.reduceSub, Nat.zero_add, seat_T]
      simp only [Seat.W_seq, Seat.W_region_false, Seat.W_ret, Seat.W_skip, Seat.cond_eq, Seat.condK_false, Seat.rq_nil, Seat.rq_cons, Seat.rqK_some, Seat.seq_normal, Seat.ret_ret, Seat.RetK, s_step, guardOf, s_guard_true, s_alloc, s_assign, s_move, s_pick, s_bin, s_un, s_extract, s_load, s_store, call_10, call_11, call_12, call_13, s_pure, s_setT, s_setN, allocS, allocK, storeS, storeK, loadK, loadC, pickK, pickAV, binK, binAV, intBin, boolAV, unAV, extractK, callS, callP, stripArgs, AV.stripA, strip_imm, stripAll, IV.norm, lendArgs, lendArg, lend_imm, resultsAV, resultAV, tupleOf, mkAV, TK.agg, setRange, mapEval, evalOp, ofValue, AV.leaves, solid_imm, List.set_cons_succ, List.set_cons_zero, List.getElem?_cons_succ, List.getElem?_cons_zero, List.nil_append, List.append_nil, List.length_cons, List.length_nil, List.getD_cons_succ, List.getD_cons_zero, List.all_cons, List.all_nil, List.map_cons, List.map_nil, List.drop_succ_cons, List.drop_zero, List.take_succ_cons, List.take_zero, List.drop_nil, List.take_nil, Option.map_some, Option.bind_some, Option.some.injEq, Nat.reduceAdd, Nat.reduceLT, Nat.zero_add, Nat.le_refl, and_self, Bool.and_self, Bool.not_true, beq_self_eq_true, eq_self, ↓reduceIte, exists_eq_left', seat_T, T_28, h9, h10, h11, h12, h13]
    · have h11 := fn11_no o d a c hd ha hc hr hp
      have h12 := fn12_no o d a c hd ha hc hr hp
      have h13 := fn13 o ⟨[], 0, []⟩ (by simp) (by simp) (fun r hr => by cases hr)
      simp only [boolAV, Aln.av, prs_nil, mat_nil] at h11 h12 h13
      refine Seat.fn_of (f := fun3) (noS o 3 _ rfl) rfl rfl rfl ?_; simp only [fun3, Proofs.Try.f3, Seat.W_seq, Seat.W_region_false, Seat.rq_nil, Seat.rq_cons, Seat.rqK_some, Seat.seq_normal, s_step, guardOf, s_guard_true, s_assign, s_move, call_9, s_pure, s_setT, callS, callP, stripArgs, AV.stripA, strip_imm, IV.norm, mapEval, evalOp, ofValue, List.set_cons_succ, List.set_cons_zero, List.getElem?_cons_succ, List.getElem?_cons_zero, List.cons_append, List.nil_append, List.length_cons, List.length_nil, List.reduceReplicate, Option.map_some, Nat.reduceAdd, Nat.reduceSub, Nat.zero_add, seat_T]
      simp only [Seat.W_seq, Seat.W_region_false, Seat.W_ret, Seat.W_skip, Seat.cond_eq, Seat.condK_false, Seat.rq_nil, Seat.rq_cons, Seat.rqK_some, Seat.seq_normal, Seat.ret_ret, Seat.RetK, s_step, guardOf, s_guard_true, s_alloc, s_assign, s_move, s_pick, s_bin, s_un, s_extract, s_load, s_store, call_10, call_11, call_12, call_13, s_pure, s_setT, s_setN, allocS, allocK, storeS, storeK, loadK, loadC, pickK, pickAV, binK, binAV, intBin, boolAV, unAV, extractK, callS, callP, stripArgs, AV.stripA, strip_imm, stripAll, IV.norm, lendArgs, lendArg, lend_imm, resultsAV, resultAV, tupleOf, mkAV, TK.agg, setRange, mapEval, evalOp, ofValue, AV.leaves, solid_imm, List.set_cons_succ, List.set_cons_zero, List.getElem?_cons_succ, List.getElem?_cons_zero, List.nil_append, List.append_nil, List.length_cons, List.length_nil, List.getD_cons_succ, List.getD_cons_zero, List.all_cons, List.all_nil, List.map_cons, List.map_nil, List.drop_succ_cons, List.drop_zero, List.take_succ_cons, List.take_zero, List.drop_nil, List.take_nil, Option.map_some, Option.bind_some, Option.some.injEq, Nat.reduceAdd, Nat.reduceLT, Nat.zero_add, Nat.le_refl, and_self, Bool.and_self, Bool.not_true, beq_self_eq_true, eq_self, ↓reduceIte, exists_eq_left', seat_T, T_28, h9, h10, h11, h12, h13]
  · rw [decide_eq_false hl] at h9
    refine Seat.fn_of (f := fun3) (noS o 3 _ rfl) rfl rfl rfl ?_; simp only [fun3, Proofs.Try.f3, Seat.W_seq, Seat.W_region_false, Seat.rq_nil, Seat.rq_cons, Seat.rqK_some, Seat.seq_normal, s_step, guardOf, s_guard_true, s_assign, s_move, call_9, s_pure, s_setT, callS, callP, stripArgs, AV.stripA, strip_imm, IV.norm, mapEval, evalOp, ofValue, List.set_cons_succ, List.set_cons_zero, List.getElem?_cons_succ, List.getElem?_cons_zero, List.cons_append, List.nil_append, List.length_cons, List.length_nil, List.reduceReplicate, Option.map_some, Nat.reduceAdd, Nat.reduceSub, Nat.zero_add, seat_T]
    simp only [Seat.W_seq, Seat.W_region_false, Seat.W_ret, Seat.cond_eq, Seat.condK_true, Seat.rq_nil, Seat.rq_cons, Seat.rqK_some, Seat.seq_normal, Seat.seq_ret, Seat.ret_ret, Seat.RetK, s_step, guardOf, s_guard_true, s_assign, s_un, call_10, s_pure, s_setT, boolAV, unAV, callS, callP, stripArgs, IV.norm, lendArgs, lendArg, lend_imm, resultsAV, resultAV, tupleOf, mapEval, evalOp, List.set_cons_succ, List.set_cons_zero, List.getElem?_cons_succ, List.getElem?_cons_zero, Option.map_some, Option.bind_some, Option.some.injEq, Bool.not_false, eq_self, exists_eq_left', seat_T, h9, h10]

theorem emod_nat (m k : Int) (h : 0 < k) : ∃ i : Nat, m.emod k = (i : Int) ∧ (i : Int) < k := by
  have h1 := Int.emod_nonneg m (b := k) (by omega)
  have h2 := Int.emod_lt_of_pos m h
  obtain ⟨i, hi⟩ := Int.eq_ofNat_of_zero_le h1
  exact ⟨i, hi, by omega⟩

theorem law4 (m n : Int) (l : List Int) (hl : l.length ≤ 1099511627776) :
    (seat o).fn 4 [.leaf (.imm (.int .i64 m)), .leaf (.imm (.int .i64 n)), .leaf (.imm (.sl (ints l)))] = some (boolAV true) := by
  have h14 := fn14 o l
  have h10 := fn10 o
  simp only [boolAV] at h14 h10 ⊢
  by_cases h : l.length ≤ 120
  · rw [decide_eq_true h] at h14
    have h16a := fn16 o m 9 (by decide) (by decide)
    have h16b := fn16 o n 9 (by decide) (by decide)
    obtain ⟨i, hi, hi9⟩ := emod_nat m 9 (by decide)
    obtain ⟨j, hj, hj9⟩ := emod_nat n 9 (by decide)
    rw [hi] at h16a
    rw [hj] at h16b
    have h15 := fn15 o i j l (by omega) (by omega) (by omega)
    have hp := made_prp l (m := i) (n := j) (by omega) (by omega)
    have h11 : (seat o).fn 11 _ = some (.tup [(aln (mDrop l j i) (mAdd l j) (mCost l j i)).av, .leaf (.imm (.int .i64 0))]) := fn11_ok o _ _ _ hp
    have h12 : (seat o).fn 12 _ = some (.tup [(aln (mDrop l j i) (mAdd l j) (mCost l j i)).av, .leaf (.imm (.int .i64 0))]) := fn12_ok o _ _ _ hp
    have h13 := same_aln o hp
    simp only [boolAV, intAV, Aln.av] at h11 h12 h13 h16a h16b h15
    refine Seat.fn_of (f := fun4) (noS o 4 _ rfl) rfl rfl rfl ?_; simp only [fun4, Proofs.Try.f4, Seat.W_seq, Seat.W_region_false, Seat.rq_nil, Seat.rq_cons, Seat.rqK_some, Seat.seq_normal, s_step, guardOf, s_guard_true, s_assign, s_move, call_14, s_pure, s_setT, callS, callP, stripArgs, AV.stripA, strip_imm, IV.norm, mapEval, evalOp, ofValue, List.set_cons_succ, List.set_cons_zero, List.getElem?_cons_succ, List.getElem?_cons_zero, List.cons_append, List.nil_append, List.length_cons, List.length_nil, List.reduceReplicate, Option.map_some, Nat.reduceAdd, Nat.reduceSub, Nat.zero_add, seat_T]
    simp only [Seat.W_seq, Seat.W_region_false, Seat.W_ret, Seat.W_skip, Seat.cond_eq, Seat.condK_false, Seat.rq_nil, Seat.rq_cons, Seat.rqK_some, Seat.seq_normal, Seat.ret_ret, Seat.RetK, s_step, guardOf, s_guard_true, s_alloc, s_assign, s_move, s_pick, s_bin, s_un, s_extract, s_load, s_store, call_10, call_11, call_12, call_13, call_15, call_16, s_pure, s_setT, s_setN, allocS, allocK, storeS, storeK, loadK, loadC, pickK, pickAV, binK, binAV, intBin, boolAV, unAV, extractK, callS, callP, stripArgs, AV.stripA, strip_imm, stripAll, IV.norm, lendArgs, lendArg, lend_imm, resultsAV, resultAV, tupleOf, mkAV, TK.agg, setRange, mapEval, evalOp, ofValue, AV.leaves, solid_imm, List.set_cons_succ, List.set_cons_zero, List.getElem?_cons_succ, List.getElem?_cons_zero, List.nil_append, List.append_nil, List.length_cons, List.length_nil, List.getD_cons_succ, List.getD_cons_zero, List.all_cons, List.all_nil, List.map_cons, List.map_nil, List.drop_succ_cons, List.drop_zero, List.take_succ_cons, List.take_zero, List.drop_nil, List.take_nil, Option.map_some, Option.bind_some, Option.some.injEq, Nat.reduceAdd, Nat.reduceLT, Nat.zero_add, Nat.le_refl, and_self, Bool.and_self, Bool.not_true, beq_self_eq_true, eq_self, ↓reduceIte, exists_eq_left', seat_T, T_28, h10, h14, h16a, h16b, h15, h11, h12, h13]
  · rw [decide_eq_false h] at h14
    refine Seat.fn_of (f := fun4) (noS o 4 _ rfl) rfl rfl rfl ?_; simp only [fun4, Proofs.Try.f4, Seat.W_seq, Seat.W_region_false, Seat.rq_nil, Seat.rq_cons, Seat.rqK_some, Seat.seq_normal, s_step, guardOf, s_guard_true, s_assign, s_move, call_14, s_pure, s_setT, callS, callP, stripArgs, AV.stripA, strip_imm, IV.norm, mapEval, evalOp, ofValue, List.set_cons_succ, List.set_cons_zero, List.getElem?_cons_succ, List.getElem?_cons_zero, List.cons_append, List.nil_append, List.length_cons, List.length_nil, List.reduceReplicate, Option.map_some, Nat.reduceAdd, Nat.reduceSub, Nat.zero_add, seat_T]
    simp only [Seat.W_seq, Seat.W_region_false, Seat.W_ret, Seat.cond_eq, Seat.condK_true, Seat.rq_nil, Seat.rq_cons, Seat.rqK_some, Seat.seq_normal, Seat.seq_ret, Seat.ret_ret, Seat.RetK, s_step, guardOf, s_guard_true, s_assign, s_un, call_10, s_pure, s_setT, boolAV, unAV, callS, callP, stripArgs, IV.norm, lendArgs, lendArg, lend_imm, resultsAV, resultAV, tupleOf, mapEval, evalOp, List.set_cons_succ, List.set_cons_zero, List.getElem?_cons_succ, List.getElem?_cons_zero, Option.map_some, Option.bind_some, Option.some.injEq, Bool.not_false, eq_self, exists_eq_left', seat_T, h10, h14]

theorem law5 (m n : Int) (l : List Int) (ps : List (Int × Int)) (raw : Mat) (hl : l.length ≤ 1099511627776) (hps : ps.length ≤ 1099511627776) (hw : raw.length ≤ 1099511627776) (hwr : Bdd raw) :
    (seat o).fn 5 [.leaf (.imm (.int .i64 m)), .leaf (.imm (.int .i64 n)), .leaf (.imm (.sl (ints l))), .leaf (.imm (.sl (prs ps))), .leaf (.imm (.sl (mat raw)))] = some (boolAV true) := by
  have h14 := fn14 o l
  have h10 := fn10 o
  have h9 := fn9 o [] [] raw (by simp) (by simp) hw hwr
  simp only [boolAV, ints_nil] at h14 h10 h9 ⊢
  by_cases h : l.length ≤ 120
  · rw [decide_eq_true h] at h14
    by_cases h2 : 40 < ps.length
    · have h2' : (40 : Int) < (ps.length : Int) := by omega
      refine Seat.fn_of (f := fun5) (noS o 5 _ rfl) rfl rfl rfl ?_; simp only [fun5, Proofs.Try.f5, Seat.W_seq, Seat.W_region_false, Seat.rq_nil, Seat.rq_cons, Seat.rqK_some, Seat.seq_normal, s_step, guardOf, s_guard_true, s_assign, s_move, call_14, s_pure, s_setT, callS, callP, stripArgs, AV.stripA, strip_imm, IV.norm, mapEval, evalOp, ofValue, List.set_cons_succ, List.set_cons_zero, List.getElem?_cons_succ, List.getElem?_cons_zero, List.cons_append, List.nil_append, List.length_cons, List.length_nil, List.reduceReplicate, Option.map_some, Nat.reduceAdd, Nat.reduceSub, Nat.zero_add, seat_T]
      simp only [Seat.W_seq, Seat.W_region_false, Seat.W_ret, Seat.cond_eq, Seat.condK_true, Seat.rq_nil, Seat.rq_cons, Seat.rqK_some, Seat.seq_normal, Seat.seq_ret, Seat.ret_ret, Seat.RetK, s_step, guardOf, s_guard_true, s_guard_false, s_assign, s_move, s_pick, s_bin, s_un, s_len, call_9, call_10, s_pure, s_setT, pickK, pickAV, binK, binAV, intBin, boolAV, intAV, unAV, lenK, lenAV, callS, callP, callQ, plainK, stripArgs, AV.stripA, strip_imm, IV.norm, lendArgs, lendArg, lend_imm, resultsAV, resultAV, tupleOf, mapEval, evalOp, ofValue, List.set_cons_succ, List.set_cons_zero, List.getElem?_cons_succ, List.getElem?_cons_zero, Option.map_some, Option.bind_some, Option.some.injEq, Bool.not_true, Bool.false_eq_true, decide_true, beq_self_eq_true, eq_self, gt_iff_lt, ↓reduceIte, exists_eq_left', seat_T, bq_tf, T_26, prs_len, h10, h14, h2']
    · have h2' : ¬ (40 : Int) < (ps.length : Int) := by omega
      by_cases h3 : Lgt [] [] raw
      · rw [decide_eq_true h3] at h9
        have h16a := fn16 o m 9 (by decide) (by decide)
        have h16b := fn16 o n 9 (by decide) (by decide)
        obtain ⟨i, hi, hi9⟩ := emod_nat m 9 (by decide)
        obtain ⟨j, hj, hj9⟩ := emod_nat n 9 (by decide)
        rw [hi] at h16a
        rw [hj] at h16b
        have h15 := fn15 o i j l (by omega) (by omega) (by omega)
        have hp := made_prp l (m := i) (n := j) (by omega) (by omega)
        have hb1 : (mDrop l j i).length ≤ 1099511627776 := by have := hp.ld; omega
        have hb2 : (mAdd l j).length ≤ 1099511627776 := by have := hp.la; omega
        have hb3 : (mCost l j i).length ≤ 1099511627776 := by have := hp.ld; have := hp.lc; omega
        have h17a := fn17 o (mDrop l j i) (mAdd l j) (mCost l j i) ps hb1 hb2 hb3 (prp_bdd hp) (by omega) _ rfl
        have h18a := fn18 o (mDrop l j i) (mAdd l j) (mCost l j i) ps hb1 hb2 hb3 (prp_bdd hp) (by omega) _ rfl
        have h17b := fn17 o (mDrop l j i) (mAdd l j) raw ps hb1 hb2 hw hwr (by omega) _ rfl
        have h18b := fn18 o (mDrop l j i) (mAdd l j) raw ps hb1 hb2 hw hwr (by omega) _ rfl
        simp only [intAV] at h16a h16b h15
        refine Seat.fn_of (f := fun5) (noS o 5 _ rfl) rfl rfl rfl ?_; simp only [fun5, Proofs.Try.f5, Seat.W_seq, Seat.W_region_false, Seat.rq_nil, Seat.rq_cons, Seat.rqK_some, Seat.seq_normal, s_step, guardOf, s_guard_true, s_assign, s_move, call_14, s_pure, s_setT, callS, callP, stripArgs, AV.stripA, strip_imm, IV.norm, mapEval, evalOp, ofValue, List.set_cons_succ, List.set_cons_zero, List.getElem?_cons_succ, List.getElem?_cons_zero, List.cons_append, List.nil_append, List.length_cons, List.length_nil, List.reduceReplicate, Option.map_some, Nat.reduceAdd, Nat.reduceSub, Nat.zero_add, seat_T]
        simp only [Seat.W_seq, Seat.W_region_false, Seat.W_ret, Seat.W_skip, Seat.cond_eq, Seat.condK_false, Seat.rq_nil, Seat.rq_cons, Seat.rqK_some, Seat.seq_normal, Seat.ret_ret, Seat.RetK, s_step, guardOf, s_guard_true, s_assign, s_move, s_pick, s_bin, s_un, s_extract, s_len, call_9, call_10, call_15, call_16, call_17, call_18, s_pure, s_setT, pickK, pickAV, binK, binAV, cmpAV, intBin, boolAV, intAV, unAV, extractK, lenK, lenAV, callS, callP, stripArgs, AV.stripA, strip_imm, IV.norm, lendArgs, lendArg, lend_imm, resultsAV, resultAV, tupleOf, mapEval, evalOp, ofValue, List.set_cons_succ, List.set_cons_zero, List.getElem?_cons_succ, List.getElem?_cons_zero, Option.map_some, Option.bind_some, Option.some.injEq, Bool.not_true, Bool.false_eq_true, decide_false, beq_self_eq_true, eq_self, gt_iff_lt, ↓reduceIte, exists_eq_left', seat_T, T_26, T_4, prs_len, h10, h14, h2', h9, h16a, h16b, h15, h17a, h18a, h17b, h18b]
      · rw [decide_eq_false h3] at h9
        refine Seat.fn_of (f := fun5) (noS o 5 _ rfl) rfl rfl rfl ?_; simp only [fun5, Proofs.Try.f5, Seat.W_seq, Seat.W_region_false, Seat.rq_nil, Seat.rq_cons, Seat.rqK_some, Seat.seq_normal, s_step, guardOf, s_guard_true, s_assign, s_move, call_14, s_pure, s_setT, callS, callP, stripArgs, AV.stripA, strip_imm, IV.norm, mapEval, evalOp, ofValue, List.set_cons_succ, List.set_cons_zero, List.getElem?_cons_succ, List.getElem?_cons_zero, List.cons_append, List.nil_append, List.length_cons, List.length_nil, List.reduceReplicate, Option.map_some, Nat.reduceAdd, Nat.reduceSub, Nat.zero_add, seat_T]
        simp only [Seat.W_seq, Seat.W_region_false, Seat.W_ret, Seat.cond_eq, Seat.condK_true, Seat.rq_nil, Seat.rq_cons, Seat.rqK_some, Seat.seq_normal, Seat.seq_ret, Seat.ret_ret, Seat.RetK, s_step, guardOf, s_guard_true, s_assign, s_move, s_pick, s_bin, s_un, s_len, call_9, call_10, s_pure, s_setT, pickK, pickAV, binK, binAV, intBin, boolAV, intAV, unAV, lenK, lenAV, callS, callP, stripArgs, AV.stripA, strip_imm, IV.norm, lendArgs, lendArg, lend_imm, resultsAV, resultAV, tupleOf, mapEval, evalOp, ofValue, List.set_cons_succ, List.set_cons_zero, List.getElem?_cons_succ, List.getElem?_cons_zero, Option.map_some, Option.bind_some, Option.some.injEq, Bool.not_true, Bool.not_false, Bool.false_eq_true, decide_false, beq_self_eq_true, eq_self, gt_iff_lt, ↓reduceIte, exists_eq_left', seat_T, T_26, prs_len, h10, h14, h2', h9]
  · rw [decide_eq_false h] at h14
    refine Seat.fn_of (f := fun5) (noS o 5 _ rfl) rfl rfl rfl ?_; simp only [fun5, Proofs.Try.f5, Seat.W_seq, Seat.W_region_false, Seat.rq_nil, Seat.rq_cons, Seat.rqK_some, Seat.seq_normal, s_step, guardOf, s_guard_true, s_assign, s_move, call_14, s_pure, s_setT, callS, callP, stripArgs, AV.stripA, strip_imm, IV.norm, mapEval, evalOp, ofValue, List.set_cons_succ, List.set_cons_zero, List.getElem?_cons_succ, List.getElem?_cons_zero, List.cons_append, List.nil_append, List.length_cons, List.length_nil, List.reduceReplicate, Option.map_some, Nat.reduceAdd, Nat.reduceSub, Nat.zero_add, seat_T]
    simp only [Seat.W_seq, Seat.W_region_false, Seat.W_ret, Seat.cond_eq, Seat.condK_true, Seat.rq_nil, Seat.rq_cons, Seat.rqK_some, Seat.seq_normal, Seat.seq_ret, Seat.ret_ret, Seat.RetK, s_step, guardOf, s_guard_true, s_guard_false, s_assign, s_move, s_pick, s_bin, s_un, s_len, call_9, call_10, s_pure, s_setT, pickK, pickAV, binK, binAV, cmpAV, boolAV, unAV, lenK, lenAV, callS, callP, callQ, plainK, stripArgs, AV.stripA, strip_imm, IV.norm, lendArgs, lendArg, lend_imm, resultsAV, resultAV, tupleOf, mapEval, evalOp, ofValue, List.set_cons_succ, List.set_cons_zero, List.getElem?_cons_succ, List.getElem?_cons_zero, Option.map_some, Option.bind_some, Option.some.injEq, Bool.not_false, eq_self, ↓reduceIte, exists_eq_left', seat_T, bq_tf, T_26, T_3, h10, h14]

theorem law7 (m n : Int) (l : List Int) (ps : List (Int × Int)) (hl : l.length ≤ 1099511627776) (hps : ps.length ≤ 1099511627776) :
    (seat o).fn 7 [.leaf (.imm (.int .i64 m)), .leaf (.imm (.int .i64 n)), .leaf (.imm (.sl (ints l))), .leaf (.imm (.sl (prs ps)))] = some (boolAV true) := by
  have h14 := fn14 o l
  have h10 := fn10 o
  simp only [boolAV] at h14 h10 ⊢
  by_cases h : l.length ≤ 120
  · rw [decide_eq_true h] at h14
    by_cases h2 : 40 < ps.length
    · have h2' : (40 : Int) < (ps.length : Int) := by omega
      refine Seat.fn_of (f := fun7) (noS o 7 _ rfl) rfl rfl rfl ?_; simp only [fun7, Proofs.Try.f7, Seat.W_seq, Seat.W_region_false, Seat.rq_nil, Seat.rq_cons, Seat.rqK_some, Seat.seq_normal, s_step, guardOf, s_guard_true, s_assign, s_move, call_14, s_pure, s_setT, callS, callP, stripArgs, AV.stripA, strip_imm, IV.norm, mapEval, evalOp, ofValue, List.set_cons_succ, List.set_cons_zero, List.getElem?_cons_succ, List.getElem?_cons_zero, List.cons_append, List.nil_append, List.length_cons, List.length_nil, List.reduceReplicate, Option.map_some, Nat.reduceAdd, Nat.reduceSub, Nat.zero_add, seat_T]
      simp only [Seat.W_seq, Seat.W_region_false, Seat.W_ret, Seat.cond_eq, Seat.condK_true, Seat.rq_nil, Seat.rq_cons, Seat.rqK_some, Seat.seq_normal, Seat.seq_ret, Seat.ret_ret, Seat.RetK, s_step, guardOf, s_guard_true, s_assign, s_move, s_pick, s_bin, s_un, s_len, call_10, s_pure, s_setT, pickK, pickAV, binK, binAV, intBin, boolAV, intAV, unAV, lenK, lenAV, callS, callP, stripArgs, IV.norm, lendArgs, lendArg, lend_imm, resultsAV, resultAV, tupleOf, mapEval, evalOp, ofValue, List.set_cons_succ, List.set_cons_zero, List.getElem?_cons_succ, List.getElem?_cons_zero, Option.map_some, Option.bind_some, Option.some.injEq, Bool.not_true, Bool.false_eq_true, decide_true, beq_self_eq_true, eq_self, gt_iff_lt, ↓reduceIte, exists_eq_left', seat_T, T_26, prs_len, h10, h14, h2']
    · have h2' : ¬ (40 : Int) < (ps.length : Int) := by omega
      have h16a := fn16 o m 9 (by decide) (by decide)
      have h16b := fn16 o n 9 (by decide) (by decide)
      obtain ⟨i, hi, hi9⟩ := emod_nat m 9 (by decide)
      obtain ⟨j, hj, hj9⟩ := emod_nat n 9 (by decide)
      rw [hi] at h16a
      rw [hj] at h16b
      have h15 := fn15 o i j l (by omega) (by omega) (by omega)
      have hp := made_prp l (m := i) (n := j) (by omega) (by omega)
      obtain ⟨d, hd⟩ : ∃ d, d = mDrop l j i := ⟨_, rfl⟩
      obtain ⟨a, ha⟩ : ∃ a, a = mAdd l j := ⟨_, rfl⟩
      obtain ⟨c, hc⟩ : ∃ c, c = mCost l j i := ⟨_, rfl⟩
      rw [← hd, ← ha, ← hc] at h15 hp
      have hb1 : d.length ≤ 1099511627776 := by have := hp.ld; omega
      have hb2 : a.length ≤ 1099511627776 := by have := hp.la; omega
      have hb3 : c.length ≤ 1099511627776 := by have := hp.ld; have := hp.lc; omega
      have h11 : (seat o).fn 11 _ = some (.tup [(aln d a c).av, .leaf (.imm (.int .i64 0))]) := fn11_ok o _ _ _ hp
      have h19 := ver_aln o hp
      have h17a := fn17 o d a c (aln d a c).ps hb1 hb2 hb3 (prp_bdd hp) (by have := aln_ps hp; omega) _ (vfy_aln hp).cost
      rcases hco : costOf d a c ps with ⟨s, ok⟩
      have h17b := fn17 o d a c ps hb1 hb2 hb3 (prp_bdd hp) (by omega) _ hco
      have hle : ok = true → (aln d a c).cost ≤ s := fun hok => by
        have := (pot_pots hp).leastOf (by rw [pot]) ps (by rw [hco]; exact hok)
        rw [hco] at this
        exact this
      simp only [boolAV, intAV, Aln.av] at h16a h16b h15 h11 h17a h17b h19
      cases ok with
      | false =>
        refine Seat.fn_of (f := fun7) (noS o 7 _ rfl) rfl rfl rfl ?_; simp only [fun7, Proofs.Try.f7, Seat.W_seq, Seat.W_region_false, Seat.rq_nil, Seat.rq_cons, Seat.rqK_some, Seat.seq_normal, s_step, guardOf, s_guard_true, s_assign, s_move, call_14, s_pure, s_setT, callS, callP, stripArgs, AV.stripA, strip_imm, IV.norm, mapEval, evalOp, ofValue, List.set_cons_succ, List.set_cons_zero, List.getElem?_cons_succ, List.getElem?_cons_zero, List.cons_append, List.nil_append, List.length_cons, List.length_nil, List.reduceReplicate, Option.map_some, Nat.reduceAdd, Nat.reduceSub, Nat.zero_add, seat_T]
        simp only [Seat.W_seq, Seat.W_region_false, Seat.W_ret, Seat.W_skip, Seat.cond_eq, Seat.condK_false, Seat.rq_nil, Seat.rq_cons, Seat.rqK_some, Seat.seq_normal, Seat.ret_ret, Seat.RetK, s_step, guardOf, s_guard_true, s_guard_false, s_alloc, s_assign, s_move, s_pick, s_bin, s_un, s_extract, s_fieldAddr, s_load, s_store, s_len, call_10, call_11, call_15, call_16, call_17, call_19, s_pure, s_setT, s_setN, allocS, allocK, storeS, storeK, loadK, loadC, pickK, pickAV, binK, binAV, cmpAV, intBin, boolAV, intAV, unAV, extractK, fieldAddrK, lenK, lenAV, callS, callP, stripArgs, AV.stripA, strip_imm, stripAll, IV.norm, lendArgs, lendArg, lend_imm, resultsAV, resultAV, tupleOf, mkAV, TK.agg, setRange, mapEval, evalOp, ofValue, AV.leaves, solid_imm, List.set_cons_succ, List.set_cons_zero, List.getElem?_cons_succ, List.getElem?_cons_zero, List.nil_append, List.append_nil, List.length_cons, List.length_nil, List.getD_cons_succ, List.getD_cons_zero, List.all_cons, List.all_nil, List.map_cons, List.map_nil, List.drop_succ_cons, List.drop_zero, List.take_succ_cons, List.take_zero, List.drop_nil, List.take_nil, Option.map_some, Option.bind_some, Option.some.injEq, Nat.reduceAdd, Nat.reduceLT, Nat.reduceLeDiff, Nat.zero_add, Nat.add_zero, Nat.le_refl, and_self, Bool.and_self, Bool.not_true, Bool.not_false, Bool.false_eq_true, decide_false, beq_self_eq_true, eq_self, gt_iff_lt, ↓reduceIte, exists_eq_left', seat_T, bq_tf, T_26, T_28, T_3, prs_len, h10, h14, h2', h16a, h16b, h15, h11, h17a, h17b, h19]
      | true =>
        have hle' := hle rfl
        refine Seat.fn_of (f := fun7) (noS o 7 _ rfl) rfl rfl rfl ?_; simp only [fun7, Proofs.Try.f7, Seat.W_seq, Seat.W_region_false, Seat.rq_nil, Seat.rq_cons, Seat.rqK_some, Seat.seq_normal, s_step, guardOf, s_guard_true, s_assign, s_move, call_14, s_pure, s_setT, callS, callP, stripArgs, AV.stripA, strip_imm, IV.norm, mapEval, evalOp, ofValue, List.set_cons_succ, List.set_cons_zero, List.getElem?_cons_succ, List.getElem?_cons_zero, List.cons_append, List.nil_append, List.length_cons, List.length_nil, List.reduceReplicate, Option.map_some, Nat.reduceAdd, Nat.reduceSub, Nat.zero_add, seat_T]
        simp only [Seat.W_seq, Seat.W_region_false, Seat.W_ret, Seat.W_skip, Seat.cond_eq, Seat.condK_false, Seat.rq_nil, Seat.rq_cons, Seat.rqK_some, Seat.seq_normal, Seat.ret_ret, Seat.RetK, s_step, guardOf, s_guard_true, s_alloc, s_assign, s_move, s_pick, s_bin, s_un, s_extract, s_fieldAddr, s_load, s_store, s_len, call_10, call_11, call_15, call_16, call_17, call_19, s_pure, s_setT, s_setN, allocS, allocK, storeS, storeK, loadK, loadC, pickK, pickAV, binK, binAV, intBin, boolAV, intAV, unAV, extractK, fieldAddrK, lenK, lenAV, callS, callP, stripArgs, AV.stripA, strip_imm, stripAll, IV.norm, lendArgs, lendArg, lend_imm, resultsAV, resultAV, tupleOf, mkAV, TK.agg, setRange, mapEval, evalOp, ofValue, AV.leaves, solid_imm, List.set_cons_succ, List.set_cons_zero, List.getElem?_cons_succ, List.getElem?_cons_zero, List.nil_append, List.append_nil, List.length_cons, List.length_nil, List.getD_cons_succ, List.getD_cons_zero, List.all_cons, List.all_nil, List.map_cons, List.map_nil, List.drop_succ_cons, List.drop_zero, List.take_succ_cons, List.take_zero, List.drop_nil, List.take_nil, Option.map_some, Option.bind_some, Option.some.injEq, Nat.reduceAdd, Nat.reduceLT, Nat.reduceLeDiff, Nat.zero_add, Nat.add_zero, Nat.le_refl, and_self, Bool.and_self, Bool.not_true, Bool.false_eq_true, decide_true, decide_false, beq_self_eq_true, eq_self, gt_iff_lt, ge_iff_le, ↓reduceIte, exists_eq_left', seat_T, T_26, T_28, T_3, prs_len, h10, h14, h2', h16a, h16b, h15, h11, h17a, h17b, h19, hle']
  · rw [decide_eq_false h] at h14
    refine Seat.fn_of (f := fun7) (noS o 7 _ rfl) rfl rfl rfl ?_; simp only [fun7, Proofs.Try.f7, Seat.W_seq, Seat.W_region_false, Seat.rq_nil, Seat.rq_cons, Seat.rqK_some, Seat.seq_normal, s_step, guardOf, s_guard_true, s_assign, s_move, call_14, s_pure, s_setT, callS, callP, stripArgs, AV.stripA, strip_imm, IV.norm, mapEval, evalOp, ofValue, List.set_cons_succ, List.set_cons_zero, List.getElem?_cons_succ, List.getElem?_cons_zero, List.cons_append, List.nil_append, List.length_cons, List.length_nil, List.reduceReplicate, Option.map_some, Nat.reduceAdd, Nat.reduceSub, Nat.zero_add, seat_T]
    simp only [Seat.W_seq, Seat.W_region_false, Seat.W_ret, Seat.cond_eq, Seat.condK_true, Seat.rq_nil, Seat.rq_cons, Seat.rqK_some, Seat.seq_normal, Seat.seq_ret, Seat.ret_ret, Seat.RetK, s_step, guardOf, s_guard_true, s_guard_false, s_assign, s_move, s_pick, s_bin, s_un, s_len, call_10, s_pure, s_setT, pickK, pickAV, binK, binAV, cmpAV, boolAV, unAV, lenK, lenAV, callS, callP, stripArgs, IV.norm, lendArgs, lendArg, lend_imm, resultsAV, resultAV, tupleOf, mapEval, evalOp, ofValue, List.set_cons_succ, List.set_cons_zero, List.getElem?_cons_succ, List.getElem?_cons_zero, Option.map_some, Option.bind_some, Option.some.injEq, Bool.not_false, eq_self, ↓reduceIte, exists_eq_left', seat_T, bq_tf, T_26, T_3, h10, h14]

theorem law8 (m n : Int) (l : List Int) (x : Aln) (ps : List (Int × Int)) (hl : l.length ≤ 1099511627776) (hps : ps.length ≤ 1099511627776) (hx1 : x.ps.length ≤ 1099511627776) (hx2 : x.pot.length ≤ 1099511627776) (hx3 : Bdd x.pot) :
    (seat o).fn 8 [.leaf (.imm (.int .i64 m)), .leaf (.imm (.int .i64 n)), .leaf (.imm (.sl (ints l))), x.av, .leaf (.imm (.sl (prs ps)))] = some (boolAV true) := by
  have h14 := fn14 o l
  have h10 := fn10 o
  have h9 := fn9 o [] [] x.pot (by simp) (by simp) hx2 hx3
  simp only [boolAV, ints_nil] at h14 h10 h9 ⊢
  by_cases h : l.length ≤ 120
  · rw [decide_eq_true h] at h14
    by_cases h2 : 40 < ps.length
    · have h2' : (40 : Int) < (ps.length : Int) := by omega
      refine Seat.fn_of (f := fun8) (noS o 8 _ rfl) rfl rfl rfl ?_; simp only [fun8, Proofs.Try.f8, Seat.W_seq, Seat.W_region_false, Seat.rq_cons, s_step, guardOf, s_guard_true, s_box, allocK, boxS, evalOp, AV.leaves, List.set_cons_succ, List.set_cons_zero, List.getElem?_cons_succ, List.getElem?_cons_zero, List.cons_append, List.nil_append, List.length_cons, List.length_nil, List.getD_cons_succ, List.getD_cons_zero, List.reduceReplicate, Nat.reduceAdd, Nat.reduceSub, Nat.reduceLT, Nat.zero_add, ↓reduceIte, seat_T]
      simp only [Aln.av, Seat.W_seq, Seat.W_region_false, Seat.W_ret, Seat.cond_eq, Seat.condK_true, Seat.rq_nil, Seat.rq_cons, Seat.rqK_some, Seat.seq_normal, Seat.seq_ret, Seat.ret_ret, Seat.RetK, s_step, guardOf, s_guard_true, s_guard_false, s_assign, s_move, s_pick, s_bin, s_un, s_fieldAddr, s_load, s_len, call_9, call_10, call_14, s_pure, s_setT, loadK, pickK, pickAV, binK, binAV, cmpAV, intBin, boolAV, intAV, unAV, fieldAddrK, lenK, lenAV, callS, callP, callQ, plainK, stripArgs, AV.stripA, strip_imm, IV.norm, lendArgs, lendArg, lend_imm, resultsAV, resultAV, tupleOf, mapEval, evalOp, ofValue, solid_imm, List.set_cons_succ, List.set_cons_zero, List.getElem?_cons_succ, List.getElem?_cons_zero, List.length_cons, List.length_nil, List.all_cons, List.all_nil, Option.map_some, Option.bind_some, Option.some.injEq, Nat.reduceAdd, Nat.reduceLT, Nat.zero_add, Nat.add_zero, and_self, Bool.and_self, Bool.not_true, Bool.false_eq_true, decide_true, beq_self_eq_true, eq_self, gt_iff_lt, ↓reduceIte, exists_eq_left', seat_T, bq_tf, T_23, T_26, T_28, T_3, prs_len, h10, h14, h2']
    · have h2' : ¬ (40 : Int) < (ps.length : Int) := by omega
      by_cases h4 : 40 < x.ps.length
      · have h4' : (40 : Int) < (x.ps.length : Int) := by omega
        refine Seat.fn_of (f := fun8) (noS o 8 _ rfl) rfl rfl rfl ?_; simp only [fun8, Proofs.Try.f8, Seat.W_seq, Seat.W_region_false, Seat.rq_cons, s_step, guardOf, s_guard_true, s_box, allocK, boxS, evalOp, AV.leaves, List.set_cons_succ, List.set_cons_zero, List.getElem?_cons_succ, List.getElem?_cons_zero, List.cons_append, List.nil_append, List.length_cons, List.length_nil, List.getD_cons_succ, List.getD_cons_zero, List.reduceReplicate, Nat.reduceAdd, Nat.reduceSub, Nat.reduceLT, Nat.zero_add, ↓reduceIte, seat_T]
        simp only [Aln.av, Seat.W_seq, Seat.W_region_false, Seat.W_ret, Seat.cond_eq, Seat.condK_true, Seat.rq_nil, Seat.rq_cons, Seat.rqK_some, Seat.seq_normal, Seat.seq_ret, Seat.ret_ret, Seat.RetK, s_step, guardOf, s_guard_true, s_guard_false, s_assign, s_move, s_pick, s_bin, s_un, s_fieldAddr, s_load, s_len, call_9, call_10, call_14, s_pure, s_setT, loadK, loadC, pickK, pickAV, binK, binAV, intBin, boolAV, intAV, unAV, fieldAddrK, lenK, lenAV, callS, callP, callQ, plainK, stripArgs, AV.stripA, strip_imm, IV.norm, lendArgs, lendArg, lend_imm, resultsAV, resultAV, tupleOf, mkAV, TK.agg, mapEval, evalOp, ofValue, solid_imm, List.set_cons_succ, List.set_cons_zero, List.getElem?_cons_succ, List.getElem?_cons_zero, List.length_cons, List.length_nil, List.getD_cons_succ, List.getD_cons_zero, List.all_cons, List.all_nil, List.drop_zero, List.take_succ_cons, List.take_zero, Option.map_some, Option.bind_some, Option.some.injEq, Nat.reduceAdd, Nat.reduceLT, Nat.reduceLeDiff, Nat.zero_add, Nat.add_zero, and_self, Bool.and_self, Bool.not_true, Bool.false_eq_true, decide_true, decide_false, beq_self_eq_true, eq_self, gt_iff_lt, ↓reduceIte, exists_eq_left', seat_T, bq_tf, T_23, T_26, T_28, prs_len, h10, h14, h2', h4']
      · have h4' : ¬ (40 : Int) < (x.ps.length : Int) := by omega
        by_cases h3 : Lgt [] [] x.pot
        · rw [decide_eq_true h3] at h9
          have h16a := fn16 o m 5 (by decide) (by decide)
          have h16b := fn16 o n 5 (by decide) (by decide)
          obtain ⟨i, hi, hi9⟩ := emod_nat m 5 (by decide)
          obtain ⟨j, hj, hj9⟩ := emod_nat n 5 (by decide)
          rw [hi] at h16a
          rw [hj] at h16b
          have h15 := fn15 o i j l (by omega) (by omega) (by omega)
          have hp := made_prp l (m := i) (n := j) (by omega) (by omega)
          obtain ⟨d, hd⟩ : ∃ d, d = mDrop l j i := ⟨_, rfl⟩
          obtain ⟨a, ha⟩ : ∃ a, a = mAdd l j := ⟨_, rfl⟩
          obtain ⟨c, hc⟩ : ∃ c, c = mCost l j i := ⟨_, rfl⟩
          rw [← hd, ← ha, ← hc] at h15 hp
          have hb1 : d.length ≤ 1099511627776 := by have := hp.ld; omega
          have hb2 : a.length ≤ 1099511627776 := by have := hp.la; omega
          have hb3 : c.length ≤ 1099511627776 := by have := hp.ld; have := hp.lc; omega
          by_cases hv : Vfy d a c x
          · have h19 := fn19 o d a c x hb1 hb2 hb3 (prp_bdd hp) (by omega) hx2 hx3 true ⟨fun _ => hv, fun _ => rfl⟩
            have h17a := fn17 o d a c x.ps hb1 hb2 hb3 (prp_bdd hp) (by omega) _ hv.cost
            rcases hco : costOf d a c ps with ⟨s, ok⟩
            have h17b := fn17 o d a c ps hb1 hb2 hb3 (prp_bdd hp) (by omega) _ hco
            have hle : ok = true → x.cost ≤ s := fun hok => by
              have := hv.pots.leastOf hv.v0 ps (by rw [hco]; exact hok)
              rw [hco, hv.vm] at this
              exact this
            simp only [boolAV, intAV, Aln.av] at h16a h16b h15 h17a h17b h19
            cases ok with
            | false =>
              refine Seat.fn_of (f := fun8) (noS o 8 _ rfl) rfl rfl rfl ?_; simp only [fun8, Proofs.Try.f8, Seat.W_seq, Seat.W_region_false, Seat.rq_cons, s_step, guardOf, s_guard_true, s_box, allocK, boxS, evalOp, AV.leaves, List.set_cons_succ, List.set_cons_zero, List.getElem?_cons_succ, List.getElem?_cons_zero, List.cons_append, List.nil_append, List.length_cons, List.length_nil, List.getD_cons_succ, List.getD_cons_zero, List.reduceReplicate, Nat.reduceAdd, Nat.reduceSub, Nat.reduceLT, Nat.zero_add, ↓reduceIte, seat_T]
              simp only [Aln.av, Seat.W_seq, Seat.W_region_false, Seat.W_ret, Seat.W_skip, Seat.cond_eq, Seat.condK_false, Seat.rq_nil, Seat.rq_cons, Seat.rqK_some, Seat.seq_normal, Seat.ret_ret, Seat.RetK, s_step, guardOf, s_guard_true, s_guard_false, s_assign, s_move, s_pick, s_bin, s_un, s_extract, s_fieldAddr, s_load, s_len, call_9, call_10, call_14, call_15, call_16, call_17, call_19, s_pure, s_setT, loadK, loadC, pickK, pickAV, binK, binAV, cmpAV, intBin, boolAV, intAV, unAV, extractK, fieldAddrK, lenK, lenAV, callS, callP, stripArgs, AV.stripA, strip_imm, stripAll, IV.norm, lendArgs, lendArg, lend_imm, resultsAV, resultAV, tupleOf, mkAV, TK.agg, mapEval, evalOp, ofValue, solid_imm, List.set_cons_succ, List.set_cons_zero, List.getElem?_cons_succ, List.getElem?_cons_zero, List.length_cons, List.length_nil, List.getD_cons_succ, List.getD_cons_zero, List.all_cons, List.all_nil, List.map_cons, List.map_nil, List.drop_succ_cons, List.drop_zero, List.take_succ_cons, List.take_zero, List.take_nil, Option.map_some, Option.bind_some, Option.some.injEq, Nat.reduceAdd, Nat.reduceLT, Nat.reduceLeDiff, Nat.zero_add, Nat.add_zero, Nat.le_refl, and_self, Bool.and_self, Bool.not_true, Bool.not_false, Bool.false_eq_true, decide_false, beq_self_eq_true, eq_self, gt_iff_lt, ↓reduceIte, exists_eq_left', seat_T, bq_tf, T_23, T_26, T_28, T_3, prs_len, h10, h14, h2', h4', h9, h16a, h16b, h15, h17a, h17b, h19]
            | true =>
              have hle' := hle rfl
              refine Seat.fn_of (f := fun8) (noS o 8 _ rfl) rfl rfl rfl ?_; simp only [fun8, Proofs.Try.f8, Seat.W_seq, Seat.W_region_false, Seat.rq_cons, s_step, guardOf, s_guard_true, s_box, allocK, boxS, evalOp, AV.leaves, List.set_cons_succ, List.set_cons_zero, List.getElem?_cons_succ, List.getElem?_cons_zero, List.cons_append, List.nil_append, List.length_cons, List.length_nil, List.getD_cons_succ, List.getD_cons_zero, List.reduceReplicate, Nat.reduceAdd, Nat.reduceSub, Nat.reduceLT, Nat.zero_add, ↓reduceIte, seat_T]
              simp only [Aln.av, Seat.W_seq, Seat.W_region_false, Seat.W_ret, Seat.W_skip, Seat.cond_eq, Seat.condK_false, Seat.rq_nil, Seat.rq_cons, Seat.rqK_some, Seat.seq_normal, Seat.ret_ret, Seat.RetK, s_step, guardOf, s_guard_true, s_assign, s_move, s_pick, s_bin, s_un, s_extract, s_fieldAddr, s_load, s_len, call_9, call_10, call_14, call_15, call_16, call_17, call_19, s_pure, s_setT, loadK, loadC, pickK, pickAV, binK, binAV, intBin, boolAV, intAV, unAV, extractK, fieldAddrK, lenK, lenAV, callS, callP, stripArgs, AV.stripA, strip_imm, stripAll, IV.norm, lendArgs, lendArg, lend_imm, resultsAV, resultAV, tupleOf, mkAV, TK.agg, mapEval, evalOp, ofValue, solid_imm, List.set_cons_succ, List.set_cons_zero, List.getElem?_cons_succ, List.getElem?_cons_zero, List.length_cons, List.length_nil, List.getD_cons_succ, List.getD_cons_zero, List.all_cons, List.all_nil, List.map_cons, List.map_nil, List.drop_succ_cons, List.drop_zero, List.take_succ_cons, List.take_zero, List.take_nil, Option.map_some, Option.bind_some, Option.some.injEq, Nat.reduceAdd, Nat.reduceLT, Nat.reduceLeDiff, Nat.zero_add, Nat.add_zero, Nat.le_refl, and_self, Bool.and_self, Bool.not_true, Bool.false_eq_true, decide_true, decide_false, beq_self_eq_true, eq_self, gt_iff_lt, ge_iff_le, ↓reduceIte, exists_eq_left', seat_T, T_23, T_26, T_28, T_3, prs_len, h10, h14, h2', h4', h9, h16a, h16b, h15, h17a, h17b, h19, hle']
          · have h19 := fn19 o d a c x hb1 hb2 hb3 (prp_bdd hp) (by omega) hx2 hx3 false ⟨fun q => (Bool.noConfusion q), fun q => (hv q).elim⟩
            simp only [boolAV, intAV, Aln.av] at h16a h16b h15 h19
            refine Seat.fn_of (f := fun8) (noS o 8 _ rfl) rfl rfl rfl ?_; simp only [fun8, Proofs.Try.f8, Seat.W_seq, Seat.W_region_false, Seat.rq_cons, s_step, guardOf, s_guard_true, s_box, allocK, boxS, evalOp, AV.leaves, List.set_cons_succ, List.set_cons_zero, List.getElem?_cons_succ, List.getElem?_cons_zero, List.cons_append, List.nil_append, List.length_cons, List.length_nil, List.getD_cons_succ, List.getD_cons_zero, List.reduceReplicate, Nat.reduceAdd, Nat.reduceSub, Nat.reduceLT, Nat.zero_add, ↓reduceIte, seat_T]
            simp only [Aln.av, Seat.W_seq, Seat.W_region_false, Seat.W_ret, Seat.W_skip, Seat.cond_eq, Seat.condK_true, Seat.condK_false, Seat.rq_nil, Seat.rq_cons, Seat.rqK_some, Seat.seq_normal, Seat.seq_ret, Seat.ret_ret, Seat.RetK, s_step, guardOf, s_guard_true, s_assign, s_move, s_pick, s_bin, s_un, s_extract, s_fieldAddr, s_load, s_len, call_9, call_10, call_14, call_15, call_16, call_19, s_pure, s_setT, loadK, loadC, pickK, pickAV, binK, binAV, intBin, boolAV, intAV, unAV, extractK, fieldAddrK, lenK, lenAV, callS, callP, stripArgs, AV.stripA, strip_imm, stripAll, IV.norm, lendArgs, lendArg, lend_imm, resultsAV, resultAV, tupleOf, mkAV, TK.agg, mapEval, evalOp, ofValue, solid_imm, List.set_cons_succ, List.set_cons_zero, List.getElem?_cons_succ, List.getElem?_cons_zero, List.length_cons, List.length_nil, List.getD_cons_succ, List.getD_cons_zero, List.all_cons, List.all_nil, List.map_cons, List.map_nil, List.drop_succ_cons, List.drop_zero, List.take_succ_cons, List.take_zero, List.take_nil, Option.map_some, Option.bind_some, Option.some.injEq, Nat.reduceAdd, Nat.reduceLT, Nat.reduceLeDiff, Nat.zero_add, Nat.add_zero, Nat.le_refl, and_self, Bool.and_self, Bool.not_true, Bool.not_false, Bool.false_eq_true, decide_false, beq_self_eq_true, eq_self, gt_iff_lt, ↓reduceIte, exists_eq_left', seat_T, T_23, T_26, T_28, prs_len, h10, h14, h2', h4', h9, h16a, h16b, h15, h19]
        · rw [decide_eq_false h3] at h9
          refine Seat.fn_of (f := fun8) (noS o 8 _ rfl) rfl rfl rfl ?_; simp only [fun8, Proofs.Try.f8, Seat.W_seq, Seat.W_region_false, Seat.rq_cons, s_step, guardOf, s_guard_true, s_box, allocK, boxS, evalOp, AV.leaves, List.set_cons_succ, List.set_cons_zero, List.getElem?_cons_succ, List.getElem?_cons_zero, List.cons_append, List.nil_append, List.length_cons, List.length_nil, List.getD_cons_succ, List.getD_cons_zero, List.reduceReplicate, Nat.reduceAdd, Nat.reduceSub, Nat.reduceLT, Nat.zero_add, ↓reduceIte, seat_T]
          simp only [Aln.av, Seat.W_seq, Seat.W_region_false, Seat.W_ret, Seat.cond_eq, Seat.condK_true, Seat.rq_nil, Seat.rq_cons, Seat.rqK_some, Seat.seq_normal, Seat.seq_ret, Seat.ret_ret, Seat.RetK, s_step, guardOf, s_guard_true, s_assign, s_move, s_pick, s_bin, s_un, s_fieldAddr, s_load, s_len, call_9, call_10, call_14, s_pure, s_setT, loadK, loadC, pickK, pickAV, binK, binAV, intBin, boolAV, intAV, unAV, fieldAddrK, lenK, lenAV, callS, callP, stripArgs, AV.stripA, strip_imm, IV.norm, lendArgs, lendArg, lend_imm, resultsAV, resultAV, tupleOf, mkAV, TK.agg, mapEval, evalOp, ofValue, solid_imm, List.set_cons_succ, List.set_cons_zero, List.getElem?_cons_succ, List.getElem?_cons_zero, List.length_cons, List.length_nil, List.getD_cons_succ, List.getD_cons_zero, List.all_cons, List.all_nil, List.drop_succ_cons, List.drop_zero, List.take_succ_cons, List.take_zero, List.take_nil, Option.map_some, Option.bind_some, Option.some.injEq, Nat.reduceAdd, Nat.reduceLT, Nat.reduceLeDiff, Nat.zero_add, Nat.add_zero, Nat.le_refl, and_self, Bool.and_self, Bool.not_true, Bool.not_false, Bool.false_eq_true, decide_false, beq_self_eq_true, eq_self, gt_iff_lt, ↓reduceIte, exists_eq_left', seat_T, T_23, T_26, T_28, prs_len, h10, h14, h2', h4', h9]
  · rw [decide_eq_false h] at h14
    refine Seat.fn_of (f := fun8) (noS o 8 _ rfl) rfl rfl rfl ?_; simp only [fun8, Proofs.Try.f8, Seat.W_seq, Seat.W_region_false, Seat.rq_cons, s_step, guardOf, s_guard_true, s_box, allocK, boxS, evalOp, AV.leaves, List.set_cons_succ, List.set_cons_zero, List.getElem?_cons_succ, List.getElem?_cons_zero, List.cons_append, List.nil_append, List.length_cons, List.length_nil, List.getD_cons_succ, List.getD_cons_zero, List.reduceReplicate, Nat.reduceAdd, Nat.reduceSub, Nat.reduceLT, Nat.zero_add, ↓reduceIte, seat_T]
    simp only [Aln.av, Seat.W_seq, Seat.W_region_false, Seat.W_ret, Seat.cond_eq, Seat.condK_true, Seat.rq_nil, Seat.rq_cons, Seat.rqK_some, Seat.seq_normal, Seat.seq_ret, Seat.ret_ret, Seat.RetK, s_step, guardOf, s_guard_true, s_guard_false, s_assign, s_move, s_pick, s_bin, s_un, s_fieldAddr, s_load, s_len, call_9, call_10, call_14, s_pure, s_setT, loadK, pickK, pickAV, binK, binAV, cmpAV, boolAV, unAV, fieldAddrK, lenK, lenAV, callS, callP, callQ, plainK, stripArgs, AV.stripA, strip_imm, IV.norm, lendArgs, lendArg, lend_imm, resultsAV, resultAV, tupleOf, mapEval, evalOp, ofValue, solid_imm, List.set_cons_succ, List.set_cons_zero, List.getElem?_cons_succ, List.getElem?_cons_zero, List.length_cons, List.length_nil, List.all_cons, List.all_nil, Option.map_some, Option.bind_some, Option.some.injEq, Nat.reduceAdd, Nat.reduceLT, Nat.zero_add, Nat.add_zero, and_self, Bool.and_self, Bool.not_false, eq_self, ↓reduceIte, exists_eq_left', seat_T, bq_tf, T_23, T_26, T_28, T_3, h10, h14]
end Go.Ai
/- The arguments of the laws of alignments. No condition. -/
namespace Go.Ai
set_option linter.unusedVariables false
set_option linter.unusedSimpArgs false
set_option maxRecDepth 100000
variable (o : Orac)

/-- An argument of the laws. -/
def ArgOk (t : Nat) (a : AV) : Prop := ∃ ty fuel xs, T t = some ty ∧ IsT T fuel t xs ∧ a = argAV ty xs ∧ IV.szRow xs ≤ 1048576
theorem rows_as {α : Type} (f : α → List IV) (Q : α → Prop) : ∀ rows : List (List IV), (∀ r ∈ rows, ∃ a, r = f a ∧ Q a ∧ 1 ≤ IV.szRow r) → ∃ vs : List α, rows = vs.map f ∧ (∀ a ∈ vs, Q a) ∧ vs.length ≤ IV.szRows rows := by
  intro rows
  induction rows with
  | nil => intro _; exact ⟨[], rfl, (fun a ha => absurd ha List.not_mem_nil), Nat.zero_le _⟩
  | cons r rows ih =>
    intro h
    obtain ⟨vs, rfl, h2, h4⟩ := ih fun r hr => h r (List.mem_cons_of_mem _ hr)
    obtain ⟨a, rfl, h5, h7⟩ := h r List.mem_cons_self
    refine ⟨a :: vs, rfl, ?_, ?_⟩
    · intro x hx
      rcases List.mem_cons.1 hx with rfl | hx
      · exact h5
      · exact h2 x hx
    · simp only [List.length_cons, IV.szRows]; omega
theorem szRows_mem {r : List IV} {rows : List (List IV)} (h : r ∈ rows) : IV.szRow r ≤ IV.szRows rows := by
  induction rows with
  | nil => cases h
  | cons q rows ih =>
    simp only [IV.szRows]
    rcases List.mem_cons.1 h with rfl | h
    · omega
    · have := ih h; omega
theorem int_is {n : Nat} {xs : List IV} (h : IsT T n 3 xs) : ∃ m : Int, xs = [.int .i64 m] := by
  cases n with
  | zero => exact h.elim
  | succ n =>
    simp only [IsT, T_3] at h
    obtain ⟨m, rfl, hw⟩ := h
    exact ⟨m, rfl⟩
theorem ints_is {n : Nat} {xs : List IV} (h : IsT T n 22 xs) : ∃ l : List Int, xs = [.sl (ints l)] ∧ l.length < IV.szRow xs := by
  cases n with
  | zero => exact h.elim
  | succ n =>
    simp only [IsT, T_22] at h
    obtain ⟨rows, rfl, _, hr⟩ := h
    obtain ⟨p, rfl, _, h2⟩ := rows_as (fun x : Int => [IV.int .i64 x]) (fun _ => True) rows fun r hr' => by
      obtain ⟨m, rfl⟩ := int_is (hr r hr')
      exact ⟨m, rfl, trivial, by simp only [IV.szRow, IV.sz]; omega⟩
    exact ⟨p, rfl, by simp only [IV.szRow, IV.sz]; omega⟩
theorem mat_is {n : Nat} {xs : List IV} (h : IsT T n 23 xs) : ∃ c : Mat, xs = [.sl (mat c)] ∧ c.length < IV.szRow xs ∧ ∀ r ∈ c, r.length < IV.szRow xs := by
  cases n with
  | zero => exact h.elim
  | succ n =>
    simp only [IsT, T_23] at h
    obtain ⟨rows, rfl, _, hr⟩ := h
    obtain ⟨p, rfl, h1, h2⟩ := rows_as (fun x : List Int => [IV.sl (ints x)]) (fun x => x.length < IV.szRows rows) rows fun r hr' => by
      obtain ⟨l, rfl, hl⟩ := ints_is (hr r hr')
      have := szRows_mem hr'
      exact ⟨l, rfl, by omega, by simp only [IV.szRow, IV.sz]; omega⟩
    refine ⟨p, rfl, by simp only [IV.szRow, IV.sz]; omega, fun r hr => ?_⟩
    have := h1 r hr
    simp only [IV.szRow, IV.sz]; omega
theorem int_arg {a : AV} (h : ArgOk 3 a) : ∃ n : Int, a = .leaf (.imm (.int .i64 n)) := by
  obtain ⟨ty, fuel, xs, h1, h2, rfl, h3⟩ := h
  rw [T_3] at h1
  injection h1 with h1
  subst h1
  obtain ⟨m, rfl⟩ := int_is h2
  exact ⟨m, by simp [argAV, TK.agg]⟩
theorem ints_arg {a : AV} (h : ArgOk 22 a) : ∃ l : List Int, a = .leaf (.imm (.sl (ints l))) ∧ l.length ≤ 1048576 := by
  obtain ⟨ty, fuel, xs, h1, h2, rfl, h3⟩ := h
  rw [T_22] at h1
  injection h1 with h1
  subst h1
  obtain ⟨l, rfl, hl⟩ := ints_is h2
  exact ⟨l, by simp [argAV, TK.agg], by omega⟩
theorem mat_arg {a : AV} (h : ArgOk 23 a) : ∃ c : Mat, a = .leaf (.imm (.sl (mat c))) ∧ c.length ≤ 1048576 ∧ Bdd c := by
  obtain ⟨ty, fuel, xs, h1, h2, rfl, h3⟩ := h
  rw [T_23] at h1
  injection h1 with h1
  subst h1
  obtain ⟨l, rfl, hl, hr⟩ := mat_is h2
  exact ⟨l, by simp [argAV, TK.agg], by omega, fun r hr' => by have := hr r hr'; omega⟩
theorem three_args {l0 : List AV} {t u v : Nat} (hl : l0.length = 3) (h : ∀ (j : Nat) q a, [t, u, v][j]? = some q → l0[j]? = some a → ArgOk q a) : ∃ a b c, l0 = [a, b, c] ∧ ArgOk t a ∧ ArgOk u b ∧ ArgOk v c := by
  match l0, hl with
  | [a, b, c], _ => exact ⟨a, b, c, rfl, h 0 t a rfl rfl, h 1 u b rfl rfl, h 2 v c rfl rfl⟩
theorem lawA3 (l0 : List AV) (hl : l0.length = 3) (h : ∀ (j : Nat) t a, [22, 22, 23][j]? = some t → l0[j]? = some a → ArgOk t a) : (seat o).fn 3 l0 = some (boolAV true) := by
  obtain ⟨a, b, c, rfl, ha, hb, hc⟩ := three_args hl h
  obtain ⟨d, rfl, hd⟩ := ints_arg ha
  obtain ⟨e, rfl, he⟩ := ints_arg hb
  obtain ⟨f, rfl, hf, hf2⟩ := mat_arg hc
  exact law3 o d e f (by omega) (by omega) (by omega) hf2
theorem lawA4 (l0 : List AV) (hl : l0.length = 3) (h : ∀ (j : Nat) t a, [3, 3, 22][j]? = some t → l0[j]? = some a → ArgOk t a) : (seat o).fn 4 l0 = some (boolAV true) := by
  obtain ⟨a, b, c, rfl, ha, hb, hc⟩ := three_args hl h
  obtain ⟨d, rfl⟩ := int_arg ha
  obtain ⟨e, rfl⟩ := int_arg hb
  obtain ⟨f, rfl, hf⟩ := ints_arg hc
  exact law4 o d e f (by omega)
end Go.Ai
/- The arguments of the laws of alignments, with pairs. No condition. -/
namespace Go.Ai
set_option linter.unusedVariables false
set_option linter.unusedSimpArgs false
set_option maxRecDepth 100000
variable (o : Orac)

/-- An argument of the laws. -/
def ArgOk2 (t : Nat) (a : AV) : Prop := ∃ ty fuel xs, T t = some ty ∧ IsT2 T fuel t xs ∧ a = argAV ty xs ∧ IV.szRow xs ≤ 1048576
theorem int_is2 {n : Nat} {xs : List IV} (h : IsT2 T n 3 xs) : ∃ m : Int, xs = [.int .i64 m] := by
  cases n with
  | zero => exact h.elim
  | succ n =>
    simp only [IsT2, T_3] at h
    obtain ⟨m, rfl, hw⟩ := h
    exact ⟨m, rfl⟩
theorem ints_is2 {n : Nat} {xs : List IV} (h : IsT2 T n 22 xs) : ∃ l : List Int, xs = [.sl (ints l)] ∧ l.length < IV.szRow xs := by
  cases n with
  | zero => exact h.elim
  | succ n =>
    simp only [IsT2, T_22] at h
    obtain ⟨rows, rfl, _, hr⟩ := h
    obtain ⟨p, rfl, _, h2⟩ := rows_as (fun x : Int => [IV.int .i64 x]) (fun _ => True) rows fun r hr' => by
      obtain ⟨m, rfl⟩ := int_is2 (hr r hr')
      exact ⟨m, rfl, trivial, by simp only [IV.szRow, IV.sz]; omega⟩
    exact ⟨p, rfl, by simp only [IV.szRow, IV.sz]; omega⟩
theorem mat_is2 {n : Nat} {xs : List IV} (h : IsT2 T n 23 xs) : ∃ c : Mat, xs = [.sl (mat c)] ∧ c.length < IV.szRow xs ∧ ∀ r ∈ c, r.length < IV.szRow xs := by
  cases n with
  | zero => exact h.elim
  | succ n =>
    simp only [IsT2, T_23] at h
    obtain ⟨rows, rfl, _, hr⟩ := h
    obtain ⟨p, rfl, h1, h2⟩ := rows_as (fun x : List Int => [IV.sl (ints x)]) (fun x => x.length < IV.szRows rows) rows fun r hr' => by
      obtain ⟨l, rfl, hl⟩ := ints_is2 (hr r hr')
      have := szRows_mem hr'
      exact ⟨l, rfl, by omega, by simp only [IV.szRow, IV.sz]; omega⟩
    refine ⟨p, rfl, by simp only [IV.szRow, IV.sz]; omega, fun r hr => ?_⟩
    have := h1 r hr
    simp only [IV.szRow, IV.sz]; omega
theorem int_arg2 {a : AV} (h : ArgOk2 3 a) : ∃ n : Int, a = .leaf (.imm (.int .i64 n)) := by
  obtain ⟨ty, fuel, xs, h1, h2, rfl, h3⟩ := h
  rw [T_3] at h1
  injection h1 with h1
  subst h1
  obtain ⟨m, rfl⟩ := int_is2 h2
  exact ⟨m, by simp [argAV, TK.agg]⟩
theorem ints_arg2 {a : AV} (h : ArgOk2 22 a) : ∃ l : List Int, a = .leaf (.imm (.sl (ints l))) ∧ l.length ≤ 1048576 := by
  obtain ⟨ty, fuel, xs, h1, h2, rfl, h3⟩ := h
  rw [T_22] at h1
  injection h1 with h1
  subst h1
  obtain ⟨l, rfl, hl⟩ := ints_is2 h2
  exact ⟨l, by simp [argAV, TK.agg], by omega⟩
theorem mat_arg2 {a : AV} (h : ArgOk2 23 a) : ∃ c : Mat, a = .leaf (.imm (.sl (mat c))) ∧ c.length ≤ 1048576 ∧ Bdd c := by
  obtain ⟨ty, fuel, xs, h1, h2, rfl, h3⟩ := h
  rw [T_23] at h1
  injection h1 with h1
  subst h1
  obtain ⟨l, rfl, hl, hr⟩ := mat_is2 h2
  exact ⟨l, by simp [argAV, TK.agg], by omega, fun r hr' => by have := hr r hr'; omega⟩
theorem pr_is2 {n : Nat} {xs : List IV} (h : IsT2 T n 45 xs) : ∃ p : Int × Int, xs = [.int .i64 p.1, .int .i64 p.2] := by
  cases n with
  | zero => exact h.elim
  | succ n =>
    simp only [IsT2, T_45] at h
    obtain ⟨hl, te, hte, hi⟩ := h
    rw [T_3] at hte
    injection hte with hte
    subst hte
    have h0 := hi 0 (by omega)
    have h1 := hi 1 (by omega)
    match xs, hl with
    | [a, b], _ =>
      simp only [Nat.zero_mul, Nat.one_mul, List.drop_zero, List.drop_succ_cons, List.take_succ_cons, List.take_zero] at h0 h1
      obtain ⟨x, hx⟩ := int_is2 h0
      obtain ⟨y, hy⟩ := int_is2 h1
      injection hx with hx
      injection hy with hy
      exact ⟨(x, y), by rw [hx, hy]⟩
theorem prs_is2 {n : Nat} {xs : List IV} (h : IsT2 T n 26 xs) : ∃ l : List (Int × Int), xs = [.sl (prs l)] ∧ l.length < IV.szRow xs := by
  cases n with
  | zero => exact h.elim
  | succ n =>
    simp only [IsT2, T_26] at h
    obtain ⟨rows, rfl, _, hr⟩ := h
    obtain ⟨p, rfl, _, h2⟩ := rows_as (fun x : Int × Int => [IV.int .i64 x.1, IV.int .i64 x.2]) (fun _ => True) rows fun r hr' => by
      obtain ⟨m, rfl⟩ := pr_is2 (hr r hr')
      exact ⟨m, rfl, trivial, by simp only [IV.szRow, IV.sz]; omega⟩
    exact ⟨p, rfl, by simp only [IV.szRow, IV.sz]; omega⟩
theorem aln_is2 {n : Nat} {xs : List IV} (h : IsT2 T n 28 xs) : ∃ x : Aln, xs = [.sl (prs x.ps), .int .i64 x.cost, .sl (mat x.pot)] ∧ x.ps.length < IV.szRow xs ∧ x.pot.length < IV.szRow xs ∧ ∀ r ∈ x.pot, r.length < IV.szRow xs := by
  cases n with
  | zero => exact h.elim
  | succ n =>
    simp only [IsT2, T_28] at h
    obtain ⟨hl, hf⟩ := h
    obtain ⟨t0, e0, i0⟩ := hf (0, 26) (by simp)
    obtain ⟨t1, e1, i1⟩ := hf (1, 3) (by simp)
    obtain ⟨t2, e2, i2⟩ := hf (2, 23) (by simp)
    rw [T_26] at e0
    rw [T_3] at e1
    rw [T_23] at e2
    injection e0 with e0; subst e0
    injection e1 with e1; subst e1
    injection e2 with e2; subst e2
    match xs, hl with
    | [a, b, c], _ =>
      simp only [List.drop_zero, List.drop_succ_cons, List.take_succ_cons, List.take_zero] at i0 i1 i2
      obtain ⟨ps, hps, lps⟩ := prs_is2 i0
      obtain ⟨m, hm⟩ := int_is2 i1
      obtain ⟨p, hp, lp, lr⟩ := mat_is2 i2
      injection hps with hps; subst hps
      injection hm with hm; subst hm
      injection hp with hp; subst hp
      simp only [IV.szRow] at lps lp lr ⊢
      exact ⟨⟨ps, m, p⟩, rfl, by simp only; omega, by simp only; omega, fun r hr => by have := lr r hr; omega⟩
theorem prs_arg2 {a : AV} (h : ArgOk2 26 a) : ∃ l : List (Int × Int), a = .leaf (.imm (.sl (prs l))) ∧ l.length ≤ 1048576 := by
  obtain ⟨ty, fuel, xs, h1, h2, rfl, h3⟩ := h
  rw [T_26] at h1
  injection h1 with h1
  subst h1
  obtain ⟨l, rfl, hl⟩ := prs_is2 h2
  exact ⟨l, by simp [argAV, TK.agg], by omega⟩
theorem aln_arg2 {a : AV} (h : ArgOk2 28 a) : ∃ x : Aln, a = x.av ∧ x.ps.length ≤ 1048576 ∧ x.pot.length ≤ 1048576 ∧ Bdd x.pot := by
  obtain ⟨ty, fuel, xs, h1, h2, rfl, h3⟩ := h
  rw [T_28] at h1
  injection h1 with h1
  subst h1
  obtain ⟨x, rfl, h4, h5, h6⟩ := aln_is2 h2
  exact ⟨x, by simp [argAV, TK.agg, Aln.av], by omega, by omega, fun r hr => by have := h6 r hr; omega⟩
theorem lawA5 (l0 : List AV) (hl : l0.length = 5) (h : ∀ (j : Nat) t a, [3, 3, 22, 26, 23][j]? = some t → l0[j]? = some a → ArgOk2 t a) : (seat o).fn 5 l0 = some (boolAV true) := by
  match l0, hl with
  | [a, b, c, d, e], _ =>
    obtain ⟨m, rfl⟩ := int_arg2 (h 0 3 a rfl rfl)
    obtain ⟨n, rfl⟩ := int_arg2 (h 1 3 b rfl rfl)
    obtain ⟨l, rfl, hl⟩ := ints_arg2 (h 2 22 c rfl rfl)
    obtain ⟨ps, rfl, hps⟩ := prs_arg2 (h 3 26 d rfl rfl)
    obtain ⟨w, rfl, hw, hw2⟩ := mat_arg2 (h 4 23 e rfl rfl)
    exact law5 o m n l ps w (by omega) (by omega) (by omega) hw2
theorem lawA7 (l0 : List AV) (hl : l0.length = 4) (h : ∀ (j : Nat) t a, [3, 3, 22, 26][j]? = some t → l0[j]? = some a → ArgOk2 t a) : (seat o).fn 7 l0 = some (boolAV true) := by
  match l0, hl with
  | [a, b, c, d], _ =>
    obtain ⟨m, rfl⟩ := int_arg2 (h 0 3 a rfl rfl)
    obtain ⟨n, rfl⟩ := int_arg2 (h 1 3 b rfl rfl)
    obtain ⟨l, rfl, hl⟩ := ints_arg2 (h 2 22 c rfl rfl)
    obtain ⟨ps, rfl, hps⟩ := prs_arg2 (h 3 26 d rfl rfl)
    exact law7 o m n l ps (by omega) (by omega)
theorem lawA8 (l0 : List AV) (hl : l0.length = 5) (h : ∀ (j : Nat) t a, [3, 3, 22, 28, 26][j]? = some t → l0[j]? = some a → ArgOk2 t a) : (seat o).fn 8 l0 = some (boolAV true) := by
  match l0, hl with
  | [a, b, c, d, e], _ =>
    obtain ⟨m, rfl⟩ := int_arg2 (h 0 3 a rfl rfl)
    obtain ⟨n, rfl⟩ := int_arg2 (h 1 3 b rfl rfl)
    obtain ⟨l, rfl, hl⟩ := ints_arg2 (h 2 22 c rfl rfl)
    obtain ⟨x, rfl, hx1, hx2, hx3⟩ := aln_arg2 (h 3 28 d rfl rfl)
    obtain ⟨ps, rfl, hps⟩ := prs_arg2 (h 4 26 e rfl rfl)
    exact law8 o m n l x ps (by omega) (by omega) (by omega) (by omega) hx3
end Go.Ai
