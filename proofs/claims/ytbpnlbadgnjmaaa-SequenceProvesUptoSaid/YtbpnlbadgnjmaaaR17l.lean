/- What Align answers. No condition. -/
import Derived.Test.YtbpnlbadgnjmaaaR17e
import Derived.Test.YtbpnlbadgnjmaaaR17d
import Derived.Test.YtbpnlbadgnjmaaaR17c
import Derived.Test.YtbpnlbadgnjmaaaR17a
namespace Go.Ai
set_option linter.unusedVariables false
set_option linter.unusedSimpArgs false
set_option maxRecDepth 100000
set_option maxHeartbeats 4000000
variable (o : Orac)

def sls (A : Mat) : List LV := A.map fun r => .imm (.sl (ints r))
theorem sls_keep {ob K} (A : Mat) : List.map (keepLV ob K) (sls A) = sls A := by simp [sls, keepLV_imm]
theorem sls_len (A : Mat) : (sls A).length = A.length := by simp [sls]
theorem sls_snoc (A : Mat) (r : List Int) : sls (A ++ [r]) = sls A ++ [.imm (.sl (ints r))] := by simp [sls]
theorem sls_flat (m : Nat) : (List.replicate m [LV.imm IV.nil]).flatten = sls [] ++ List.replicate m (.imm .nil) := by simp [sls]
theorem sls_get {A : Mat} {i : Nat} {r : List Int} (h : A[i]? = some r) (S : List LV) : List.take 1 (List.drop i (sls A ++ S)) = [.imm (.sl (ints r))] := by
  obtain ⟨hi, hx⟩ := List.getElem?_eq_some_iff.1 h
  have e : (sls A ++ S).drop i = .imm (.sl (ints r)) :: (sls A ++ S).drop (i + 1) := by
    apply drop_get
    rw [List.getElem?_append_left (by rw [sls_len]; exact hi)]
    simp [sls, h]
  rw [e]; rfl
theorem rep_keep {ob K} (m : Nat) (v : IV) : List.map (keepLV ob K) (List.replicate m (.imm v)) = List.replicate m (.imm v) := by simp [keepLV_imm]
def nc (l : List Int) : List LV := l.map fun x => .imm (.int .i64 x)
theorem nc_keep {ob K} (l : List Int) : List.map (keepLV ob K) (nc l) = nc l := by simp [nc, keepLV_imm]
theorem nc_len (l : List Int) : (nc l).length = l.length := by simp [nc]
theorem nc_snoc (l : List Int) (x : Int) : nc (l ++ [x]) = nc l ++ [.imm (.int .i64 x)] := by simp [nc]
theorem nc_flat (m : Nat) : (List.replicate m [LV.imm (IV.int .i64 0)]).flatten = nc [] ++ List.replicate m (.imm (.int .i64 0)) := by simp [nc]
theorem nc_get {l : List Int} {i : Nat} {x : Int} (h : l[i]? = some x) (S : List LV) : List.take 1 (List.drop i (nc l ++ S)) = [.imm (.int .i64 x)] := by
  obtain ⟨hi, hx⟩ := List.getElem?_eq_some_iff.1 h
  have e : (nc l ++ S).drop i = .imm (.int .i64 x) :: (nc l ++ S).drop (i + 1) := by
    apply drop_get
    rw [List.getElem?_append_left (by rw [nc_len]; exact hi)]
    simp [nc, h]
  rw [e]; rfl
theorem rows_nc (l : List Int) : ∀ pre : List LV, rowsAt (pre ++ nc l) 1 pre.length l.length = some (ints l) := by
  induction l with
  | nil => intro pre; rfl
  | cons r l ih =>
    intro pre
    have e1 : (List.drop (pre.length * 1) (pre ++ nc (r :: l))).take 1 = [.imm (.int .i64 r)] := by simp [nc]
    have e2 : pre ++ nc (r :: l) = (pre ++ [.imm (.int .i64 r)]) ++ nc l := by simp [nc]
    have e3 := ih (pre ++ [.imm (.int .i64 r)])
    rw [List.length_append] at e3
    rw [List.length_cons, rowsAt, e1, e2]
    rw [show pre.length + 1 = pre.length + [LV.imm (.int .i64 r)].length from rfl, e3]
    rfl
theorem rows_nc0 (l : List Int) {m : Nat} (h : l.length = m) : rowsAt (nc l ++ List.replicate (m - m) (.imm (.int .i64 0))) 1 0 m = some (ints l) := by
  subst h
  have := rows_nc l []
  simpa using this
theorem rows_sls (A : Mat) : ∀ pre : List LV, rowsAt (pre ++ sls A) 1 pre.length A.length = some (mat A) := by
  induction A with
  | nil => intro pre; rfl
  | cons r A ih =>
    intro pre
    have e1 : (List.drop (pre.length * 1) (pre ++ sls (r :: A))).take 1 = [.imm (.sl (ints r))] := by simp [sls]
    have e2 : pre ++ sls (r :: A) = (pre ++ [.imm (.sl (ints r))]) ++ sls A := by simp [sls]
    have e3 := ih (pre ++ [.imm (.sl (ints r))])
    rw [List.length_append] at e3
    rw [List.length_cons, rowsAt, e1, e2]
    rw [show pre.length + 1 = pre.length + [LV.imm (.sl (ints r))].length from rfl, e3]
    rfl
theorem rows_sls0 (A : Mat) {m : Nat} (h : A.length = m) : rowsAt (sls A) 1 0 m = some (mat A) := by
  subst h
  have := rows_sls A []
  simpa using this
theorem rows_prc (ps : List (Int × Int)) : ∀ (pre : List LV) (q : Nat), pre.length = q * 2 → rowsAt (pre ++ prc ps) 2 q ps.length = some (prs ps) := by
  induction ps with
  | nil => intro pre q h; rfl
  | cons p ps ih =>
    intro pre q h
    have e1 : (List.drop (q * 2) (pre ++ prc (p :: ps))).take 2 = [.imm (.int .i64 p.1), .imm (.int .i64 p.2)] := by rw [← h, prc_cons]; simp
    have e2 : pre ++ prc (p :: ps) = (pre ++ [.imm (.int .i64 p.1), .imm (.int .i64 p.2)]) ++ prc ps := by rw [prc_cons]; simp
    have e3 := ih (pre ++ [.imm (.int .i64 p.1), .imm (.int .i64 p.2)]) (q + 1) (by simp [h]; omega)
    rw [List.length_cons, rowsAt, e1, e2, e3]
    rfl
theorem rows_prc0 (ps : List (Int × Int)) {m : Nat} (h : ps.length = m) : rowsAt (prc ps) 2 0 m = some (prs ps) := by
  subst h
  have := rows_prc ps [] 0 rfl
  simpa using this

theorem prs_nil : prs [] = [] := rfl
theorem mat_nil : mat [] = [] := rfl
theorem fn11_no (d a : List Int) (c : Mat) (hd : d.length ≤ 1099511627776) (ha : a.length ≤ 1099511627776) (hc : c.length ≤ 1099511627776) (hr : Bdd c) (hp : ¬ Prp d a c) :
    (seat o).fn 11 [.leaf (.imm (.sl (ints d))), .leaf (.imm (.sl (ints a))), .leaf (.imm (.sl (mat c)))] = some (.tup [(Aln.mk [] 0 []).av, .leaf (.imm (.int .i64 5))]) := by
  have h21 := fn21 o d a c hd ha hc hr
  rw [decide_eq_false hp] at h21
  simp only [boolAV] at h21
  refine Seat.fn_of (f := fun11) (noS o 11 _ rfl) rfl rfl rfl ?_; simp only [fun11, Proofs.Try.f11, Seat.W_seq, Seat.W_block, Seat.W_loop, Seat.W_region_false, Seat.W_region_true, Seat.W_exit, Seat.W_ret, Seat.W_skip, Seat.cond_eq, Seat.condK_true, Seat.condK_false, Seat.env_grow, Seat.rq_nil, Seat.rq_cons, Seat.rqK_some, Seat.rg_nil, Seat.rg_cons, Seat.rgK_some, Seat.endQ, Seat.seq_normal, Seat.seq_exit, Seat.seq_ret, Seat.blk_normal, Seat.blk_exit, Seat.blk_ret, Seat.ret_normal, Seat.ret_ret, Seat.RetK, loopEnd_normal, loopEnd_exit, loopEnd_ret, s_step, guardOf, s_guard_true, s_guard_false, s_box, s_alloc, s_assign, s_move, s_pick, s_bin, s_un, s_extract, s_fieldAddr, s_field, s_indexAddr, s_index, s_slice, s_build, s_buildSlice, s_load, s_store, s_len, s_min, s_max, s_nilCheck, call_3, call_4, call_5, call_6, call_7, call_8, call_9, call_10, call_11, call_12, call_13, call_14, call_15, call_16, call_17, call_18, call_19, call_20, call_21, call_22, call_23, call_24, call_25, call_26, call_27, call_tmp, s_append, s_convert, convK, bytesOfRows, s_pure, s_setT, s_setN, allocS, allocK, boxS, storeS, storeK, loadK, loadC, pickK, pickAV, binK, binAV, cmpAV, intBin, boolAV, intAV, strBin, unAV, extractK, fieldAddrK, fieldK, elemK, indexAddrK, indexK, indexRow, sliceStrK, sliceRows, sliceStr, cutRows, evalParts, aggK, buildK, clipK, rowsK, buildSliceK, lenK, lenAV, nilK, s_makeFunc, funcK, leafs, minK, minAll, minAV, callS, callP, callQ, callOS, callOD, callTS, upds, out_normal, out_ret, OutK, handed, renAV, renLV, renLV.renAll, renAV.renTup, renObj, backName, backUpd, indexIn, plainK, appK, appR, appT, appE_e, appE_c, nilLV_solid, nilLV_strip, nilLV_lend, nilLV_rows, nilLV_ids, appS, app1, app2, app3, appTail, appCells, isNil, stripArgs, AV.stripA, strip_imm, strip_ap, strip_clip, strip_ptr, strip_iptr, strip_ms, strip_func, stripAll, IV.norm, lendArgs, lendArg, lend_imm, lend_ap, lend_clip, lend_ptr, lend_iptr, lend_ms, lendAll, rowsOf_nil, rowsOf_sl, rowsOf_ap, rowsOf_clip, rowsOf_ms, rowsAt, resultsAV, resultAV, tupleOf, mkAV, TK.agg, fillAV, fieldAt, setRange, optEval, mapEval, evalOp, ofValue, AV.leaves, solid_imm, solid_ptr, solid_iptr, solid_ms, solid_ap, solid_clip, solid_func, AV.plain, LV.plain, IV.plain, footA, pureCall, quietOp, readsT, writesT, guardLoc, tmpLoc, touch, looksOp, idsOf, AV.ids, LV.ids, LV.ids.idsAll, Op.operands, Call.operands, List.set_cons_succ, List.set_cons_zero, List.getElem?_cons_succ, List.getElem?_cons_zero, List.cons_append, List.nil_append, List.append_nil, List.length_cons, List.length_nil, List.getD_cons_succ, List.getD_cons_zero, List.all_cons, List.all_nil, List.map_cons, List.map_nil, List.drop_succ_cons, List.drop_zero, List.take_succ_cons, List.take_zero, List.drop_nil, List.take_nil, List.isEmpty_cons, List.isEmpty_nil, List.flatten_cons, List.flatten_nil, List.flatMap_cons, List.flatMap_nil, List.reduceReplicate, List.contains_cons, List.contains_nil, List.headD_cons, Option.map_some, Option.map_none, Option.bind_some, Option.getD_some, Option.getD_none, Option.toList_some, Option.toList_none, Option.isSome_some, Option.some.injEq, Option.bind_none, Nat.reduceAdd, Nat.reduceSub, Nat.reduceMul, Nat.reduceLT, Nat.reduceLeDiff, Nat.reduceEqDiff, Nat.reduceBEq, Nat.zero_add, Nat.add_zero, Nat.zero_le, Nat.zero_mul, Nat.one_mul, Nat.mul_one, Nat.le_refl, Nat.lt_irrefl, Nat.not_lt_zero, Int.toNat_natCast, Int.natCast_nonneg, Int.reduceLT, Int.reduceLE, Int.reduceToNat, Int.reduceNeg, Int.toNat_zero, Int.reduceAdd, Int.reduceSub, Int.cast_ofNat_Int, Int.ofNat_eq_natCast, and_self, and_true, true_and, false_and, and_false, if_true, if_false, ite_true, ite_false, Bool.and_self, Bool.and_true, Bool.true_and, Bool.false_and, Bool.and_false, Bool.or_false, Bool.false_or, Bool.true_or, Bool.or_true, Bool.not_true, Bool.not_false, Bool.false_eq_true, reduceCtorEq, decide_true, decide_false, beq_self_eq_true, decide_not, Bool.not_eq_true, eq_self, gt_iff_lt, ge_iff_le, ↓reduceIte, exists_eq_left', exists_eq_left, exists_eq, true_implies, seat_T, seat_O, ob_getD, str_beq, bq_tf, bq_ft, int_beq, int_bne, Int.ofNat_lt, Int.ofNat_le, Int.natCast_inj, Int.ofNat_inj]
  simp only [Seat.W_seq, Seat.W_block, Seat.W_loop, Seat.W_region_false, Seat.W_region_true, Seat.W_exit, Seat.W_ret, Seat.W_skip, Seat.cond_eq, Seat.condK_true, Seat.condK_false, Seat.env_grow, Seat.rq_nil, Seat.rq_cons, Seat.rqK_some, Seat.rg_nil, Seat.rg_cons, Seat.rgK_some, Seat.endQ, Seat.seq_normal, Seat.seq_exit, Seat.seq_ret, Seat.blk_normal, Seat.blk_exit, Seat.blk_ret, Seat.ret_normal, Seat.ret_ret, Seat.RetK, loopEnd_normal, loopEnd_exit, loopEnd_ret, s_step, guardOf, s_guard_true, s_guard_false, s_box, s_alloc, s_assign, s_move, s_pick, s_bin, s_un, s_extract, s_fieldAddr, s_field, s_indexAddr, s_index, s_slice, s_build, s_buildSlice, s_load, s_store, s_len, s_min, s_max, s_nilCheck, call_3, call_4, call_5, call_6, call_7, call_8, call_9, call_10, call_11, call_12, call_13, call_14, call_15, call_16, call_17, call_18, call_19, call_20, call_21, call_22, call_23, call_24, call_25, call_26, call_27, call_tmp, s_append, s_convert, convK, bytesOfRows, s_pure, s_setT, s_setN, allocS, allocK, boxS, storeS, storeK, loadK, loadC, pickK, pickAV, binK, binAV, cmpAV, intBin, boolAV, intAV, strBin, unAV, extractK, fieldAddrK, fieldK, elemK, indexAddrK, indexK, indexRow, sliceStrK, sliceRows, sliceStr, cutRows, evalParts, aggK, buildK, clipK, rowsK, buildSliceK, lenK, lenAV, nilK, s_makeFunc, funcK, leafs, minK, minAll, minAV, callS, callP, callQ, callOS, callOD, callTS, upds, out_normal, out_ret, OutK, handed, renAV, renLV, renLV.renAll, renAV.renTup, renObj, backName, backUpd, indexIn, plainK, appK, appR, appT, appE_e, appE_c, nilLV_solid, nilLV_strip, nilLV_lend, nilLV_rows, nilLV_ids, appS, app1, app2, app3, appTail, appCells, isNil, stripArgs, AV.stripA, strip_imm, strip_ap, strip_clip, strip_ptr, strip_iptr, strip_ms, strip_func, stripAll, IV.norm, lendArgs, lendArg, lend_imm, lend_ap, lend_clip, lend_ptr, lend_iptr, lend_ms, lendAll, rowsOf_nil, rowsOf_sl, rowsOf_ap, rowsOf_clip, rowsOf_ms, rowsAt, resultsAV, resultAV, tupleOf, mkAV, TK.agg, fillAV, fieldAt, setRange, optEval, mapEval, evalOp, ofValue, AV.leaves, solid_imm, solid_ptr, solid_iptr, solid_ms, solid_ap, solid_clip, solid_func, AV.plain, LV.plain, IV.plain, footA, pureCall, quietOp, readsT, writesT, guardLoc, tmpLoc, touch, looksOp, idsOf, AV.ids, LV.ids, LV.ids.idsAll, Op.operands, Call.operands, List.set_cons_succ, List.set_cons_zero, List.getElem?_cons_succ, List.getElem?_cons_zero, List.cons_append, List.nil_append, List.append_nil, List.length_cons, List.length_nil, List.getD_cons_succ, List.getD_cons_zero, List.all_cons, List.all_nil, List.map_cons, List.map_nil, List.drop_succ_cons, List.drop_zero, List.take_succ_cons, List.take_zero, List.drop_nil, List.take_nil, List.isEmpty_cons, List.isEmpty_nil, List.flatten_cons, List.flatten_nil, List.flatMap_cons, List.flatMap_nil, List.reduceReplicate, List.contains_cons, List.contains_nil, List.headD_cons, Option.map_some, Option.map_none, Option.bind_some, Option.getD_some, Option.getD_none, Option.toList_some, Option.toList_none, Option.isSome_some, Option.some.injEq, Option.bind_none, Nat.reduceAdd, Nat.reduceSub, Nat.reduceMul, Nat.reduceLT, Nat.reduceLeDiff, Nat.reduceEqDiff, Nat.reduceBEq, Nat.zero_add, Nat.add_zero, Nat.zero_le, Nat.zero_mul, Nat.one_mul, Nat.mul_one, Nat.le_refl, Nat.lt_irrefl, Nat.not_lt_zero, Int.toNat_natCast, Int.natCast_nonneg, Int.reduceLT, Int.reduceLE, Int.reduceToNat, Int.reduceNeg, Int.toNat_zero, Int.reduceAdd, Int.reduceSub, Int.cast_ofNat_Int, Int.ofNat_eq_natCast, and_self, and_true, true_and, false_and, and_false, if_true, if_false, ite_true, ite_false, Bool.and_self, Bool.and_true, Bool.true_and, Bool.false_and, Bool.and_false, Bool.or_false, Bool.false_or, Bool.true_or, Bool.or_true, Bool.not_true, Bool.not_false, Bool.false_eq_true, reduceCtorEq, decide_true, decide_false, beq_self_eq_true, decide_not, Bool.not_eq_true, eq_self, gt_iff_lt, ge_iff_le, ↓reduceIte, exists_eq_left', exists_eq_left, exists_eq, true_implies, seat_T, seat_O, ob_getD, str_beq, bq_tf, bq_ft, int_beq, int_bne, Int.ofNat_lt, Int.ofNat_le, Int.natCast_inj, Int.ofNat_inj, nilLV_keep, nilO_keep, keepSt, keepTmps, keepObjs, kept, keepAV, keepLV_imm, keepLV_ptr, keepLV_iptr, keepLV_ap, keepLV_clip, keepLV_ms, keepLV_func, keepLV_und, keepLV_dead, keepObj, promote, promoteT, seedLV, seedObj, firstRegion, k11, T_22, T_23, T_26, T_28, T_3, ints_len, mat_len, h21, Aln.av, prs_nil, mat_nil]
end Go.Ai
/- Verify's last loop, its state. No condition. -/
namespace Go.Ai
set_option linter.unusedVariables false
set_option linter.unusedSimpArgs false
set_option maxRecDepth 100000
set_option maxHeartbeats 4000000
variable (o : Orac)

def V19 (d a : List Int) (c : Mat) (x : Aln) (m n i j : Nat) : St := L19_23 (.leaf (.imm (.sl (ints d)))) (.leaf (.imm (.sl (ints a)))) (.leaf (.imm (.sl (mat c)))) (.leaf (.ptr 7 0 0)) (intAV .i64 (m : Int)) (intAV .i64 (n : Int)) (intAV .i64 (i : Int)) (intAV .i64 ((m + 1 : Nat) : Int)) (intAV .i64 (i : Int)) (intAV .i64 ((n + 1 : Nat) : Int)) (intAV .i64 (j : Int)) x.box
end Go.Ai
/- Alignments: no pairs are cheaper than what potentials allow, and the way back is as cheap. No condition. -/
namespace Go.Ai
set_option linter.unusedVariables false
set_option linter.unusedSimpArgs false
set_option maxRecDepth 100000

def psum (f : Nat → Int) : Nat → Int
  | 0 => 0
  | k + 1 => psum f k + f k
theorem psum_take (l : List Int) : ∀ k, psum (at1 l) k = (l.take k).sum := by
  intro k
  induction k with
  | zero => simp [psum]
  | succ k ih =>
    simp only [psum, ih]
    by_cases h : k < l.length
    · rw [sum_take_succ (get_at1 h)]
    · have e1 : l.take (k + 1) = l := List.take_of_length_le (by omega)
      have e2 : l.take k = l := List.take_of_length_le (by omega)
      have e3 : at1 l k = 0 := by unfold at1; rw [List.getElem?_eq_none (by omega)]; rfl
      rw [e1, e2, e3]; omega
theorem psum_all (l : List Int) : psum (at1 l) l.length = l.sum := by rw [psum_take, List.take_length]

/-- What potentials must keep. -/
structure Pots (d a : List Int) (c : Mat) (V : Nat → Nat → Int) : Prop where
  down : ∀ i j, i < d.length → j ≤ a.length → V (i + 1) j ≤ V i j + at1 d i
  right : ∀ i j, i ≤ d.length → j < a.length → V i (j + 1) ≤ V i j + at1 a j
  both : ∀ i j, i < d.length → j < a.length → 0 ≤ at2 c i j → V (i + 1) (j + 1) ≤ V i j + at2 c i j
theorem Pots.downs {d a : List Int} {c : Mat} {V : Nat → Nat → Int} (h : Pots d a c V) {j : Nat} (hj : j ≤ a.length) (i0 : Nat) : ∀ k, i0 + k ≤ d.length → V (i0 + k) j ≤ V i0 j + psum (at1 d) (i0 + k) - psum (at1 d) i0 := by
  intro k
  induction k with
  | zero => intro _; simp only [Nat.add_zero]; omega
  | succ k ih =>
    intro hk
    have h1 := ih (by omega)
    have h2 := h.down (i0 + k) j (by omega) hj
    have e : psum (at1 d) (i0 + (k + 1)) = psum (at1 d) (i0 + k) + at1 d (i0 + k) := rfl
    rw [e]; rw [← Nat.add_assoc]; omega
theorem Pots.rights {d a : List Int} {c : Mat} {V : Nat → Nat → Int} (h : Pots d a c V) {i : Nat} (hi : i ≤ d.length) (j0 : Nat) : ∀ k, j0 + k ≤ a.length → V i (j0 + k) ≤ V i j0 + psum (at1 a) (j0 + k) - psum (at1 a) j0 := by
  intro k
  induction k with
  | zero => intro _; simp only [Nat.add_zero]; omega
  | succ k ih =>
    intro hk
    have h1 := ih (by omega)
    have h2 := h.right i (j0 + k) hi (by omega)
    have e : psum (at1 a) (j0 + (k + 1)) = psum (at1 a) (j0 + k) + at1 a (j0 + k) := rfl
    rw [e]; rw [← Nat.add_assoc]; omega
theorem Pots.steps {d a : List Int} {c : Mat} {V : Nat → Nat → Int} (h : Pots d a c V) {i0 j0 i j : Nat} (h1 : i0 ≤ i) (h2 : j0 ≤ j) (h3 : i ≤ d.length) (h4 : j ≤ a.length) :
    V i j ≤ V i0 j0 + (psum (at1 d) i - psum (at1 d) i0) + (psum (at1 a) j - psum (at1 a) j0) := by
  have e1 := h.downs (j := j) h4 i0 (i - i0) (by omega)
  have e2 := h.rights (i := i0) (by omega) j0 (j - j0) (by omega)
  rw [show i0 + (i - i0) = i by omega] at e1
  rw [show j0 + (j - j0) = j by omega] at e2
  omega
theorem Pots.least {d a : List Int} {c : Mat} {V : Nat → Nat → Int} (h : Pots d a c V) (ps : List (Int × Int)) : ∀ (i0 j0 : Nat) (s : Int), i0 ≤ d.length → j0 ≤ a.length →
    V i0 j0 ≤ s - (d.sum - psum (at1 d) i0) - (a.sum - psum (at1 a) j0) → ∀ r, cst d a c ((i0 : Int) - 1, (j0 : Int) - 1, s) ps = some r → V d.length a.length ≤ r.2.2 := by
  induction ps with
  | nil =>
    intro i0 j0 s hi hj hv r hr
    simp only [cst, Option.some.injEq] at hr
    subst hr
    have := h.steps hi hj (Nat.le_refl _) (Nat.le_refl _)
    rw [psum_all, psum_all] at this
    simp only; omega
  | cons p ps ih =>
    intro i0 j0 s hi hj hv r hr
    simp only [cst] at hr
    split at hr
    · rename_i hc
      obtain ⟨h1, h2, h3, h4, h5⟩ := hc
      obtain ⟨p1, hp1⟩ := Int.eq_ofNat_of_zero_le (a := p.1) (by omega)
      obtain ⟨p2, hp2⟩ := Int.eq_ofNat_of_zero_le (a := p.2) (by omega)
      rw [hp1] at h1 h3 h5 hr
      rw [hp2] at h2 h4 h5 hr
      simp only [Int.toNat_natCast] at h5 hr
      have e1 := h.steps (i0 := i0) (j0 := j0) (i := p1) (j := p2) (by omega) (by omega) (by omega) (by omega)
      have e2 := h.both p1 p2 (by omega) (by omega) h5
      refine ih (p1 + 1) (p2 + 1) (s + (at2 c p1 p2 - at1 d p1 - at1 a p2)) (by omega) (by omega) ?_ r ?_
      · have e3 : psum (at1 d) (p1 + 1) = psum (at1 d) p1 + at1 d p1 := rfl
        have e4 : psum (at1 a) (p2 + 1) = psum (at1 a) p2 + at1 a p2 := rfl
        rw [e3, e4]; omega
      · rw [show ((p1 + 1 : Nat) : Int) - 1 = (p1 : Int) by omega, show ((p2 + 1 : Nat) : Int) - 1 = (p2 : Int) by omega]; exact hr
    · cases hr
theorem Pots.leastOf {d a : List Int} {c : Mat} {V : Nat → Nat → Int} (h : Pots d a c V) (h0 : V 0 0 = 0) (ps : List (Int × Int)) (hok : (costOf d a c ps).2 = true) : V d.length a.length ≤ (costOf d a c ps).1 := by
  unfold costOf at hok ⊢
  split at hok
  · rename_i hp
    rw [if_pos hp]
    cases hr : cst d a c (-1, -1, d.sum + a.sum) ps with
    | none => rw [hr] at hok; cases hok
    | some r =>
      have := h.least ps 0 0 (d.sum + a.sum) (by omega) (by omega) (by rw [h0]; simp only [psum]; omega) r (by simpa using hr)
      obtain ⟨x, y, z⟩ := r
      exact this
  · cases hok
theorem pot_pots {d a : List Int} {c : Mat} (h : Prp d a c) : Pots d a c (pot d a c) := by
  refine ⟨fun i j hi hj => ?_, fun i j hi hj => ?_, fun i j hi hj h0 => ?_⟩
  · cases j with
    | zero => rw [pot]; omega
    | succ j => rw [pot.eq_4]; split <;> omega
  · cases i with
    | zero => rw [pot.eq_3]; omega
    | succ i => rw [pot.eq_4]; split <;> omega
  · rw [pot.eq_4, if_pos h0]; omega
theorem cst_append (d a : List Int) (c : Mat) (ps qs : List (Int × Int)) : ∀ st, cst d a c st (ps ++ qs) = (cst d a c st ps).bind fun st => cst d a c st qs := by
  induction ps with
  | nil => intro st; rfl
  | cons p ps ih =>
    rintro ⟨li, lj, s⟩
    simp only [List.cons_append, cst]
    split
    · exact ih _
    · rfl
theorem bk_cost {d a : List Int} {c : Mat} (h : Prp d a c) (i : Nat) : ∀ j, i ≤ d.length → j ≤ a.length → ∃ li lj : Int, li < i ∧ lj < j ∧ cst d a c (-1, -1, d.sum + a.sum) (bk d a c i j).reverse = some (li, lj, d.sum + a.sum + pot d a c i j - psum (at1 d) i - psum (at1 a) j) := by
  induction i with
  | zero =>
    intro j
    induction j with
    | zero =>
      intro _ _
      refine ⟨-1, -1, by omega, by omega, ?_⟩
      rw [bk, pot]; simp [cst, psum]
    | succ j ih =>
      intro hi hj
      obtain ⟨li, lj, h1, h2, h3⟩ := ih hi (by omega)
      refine ⟨li, lj, h1, by omega, ?_⟩
      rw [bk, h3, pot.eq_3]
      have e4 : psum (at1 a) (j + 1) = psum (at1 a) j + at1 a j := rfl
      rw [e4]
      congr 3; omega
  | succ i ihi =>
    intro j
    have e3 : psum (at1 d) (i + 1) = psum (at1 d) i + at1 d i := rfl
    induction j with
    | zero =>
      intro hi hj
      obtain ⟨li, lj, h1, h2, h3⟩ := ihi 0 (by omega) hj
      refine ⟨li, lj, by omega, h2, ?_⟩
      rw [bk, h3, pot.eq_2, e3]
      congr 3; omega
    | succ j ihj =>
      intro hi hj
      have e4 : psum (at1 a) (j + 1) = psum (at1 a) j + at1 a j := rfl
      rw [bk]
      split
      · rename_i hc
        obtain ⟨li, lj, h1, h2, h3⟩ := ihi j (by omega) (by omega)
        refine ⟨i, j, by omega, by omega, ?_⟩
        rw [List.reverse_cons, cst_append, h3, Option.bind_some, hc.2, e3, e4]
        simp only [cst]
        rw [if_pos ⟨h1, h2, by omega, by omega, by simpa using hc.1⟩]
        simp only [Int.toNat_natCast]
        congr 3; omega
      · rename_i hn
        split
        · rename_i hc
          obtain ⟨li, lj, h1, h2, h3⟩ := ihi (j + 1) (by omega) hj
          refine ⟨li, lj, by omega, h2, ?_⟩
          rw [h3, hc, e3]
          congr 3; omega
        · rename_i hc
          obtain ⟨li, lj, h1, h2, h3⟩ := ihj hi (by omega)
          refine ⟨li, lj, h1, by omega, ?_⟩
          have e5 : pot d a c (i + 1) (j + 1) = pot d a c (i + 1) j + at1 a j := by
            by_cases h0 : 0 ≤ at2 c i j
            · have hn' : pot d a c (i + 1) (j + 1) ≠ pot d a c i j + at2 c i j := fun e => hn ⟨h0, e⟩
              rw [pot.eq_4, if_pos h0] at hn' hc ⊢
              omega
            · rw [pot.eq_4, if_neg h0] at hc ⊢
              omega
          rw [h3, e5, e4]
          congr 3; omega
theorem bk_costOf {d a : List Int} {c : Mat} (h : Prp d a c) : costOf d a c (bk d a c d.length a.length).reverse = (pot d a c d.length a.length, true) := by
  obtain ⟨li, lj, h1, h2, h3⟩ := bk_cost h d.length a.length (Nat.le_refl _) (Nat.le_refl _)
  unfold costOf
  rw [if_pos h, h3, psum_all, psum_all]
  simp only [cres]
  congr 1; omega
end Go.Ai
