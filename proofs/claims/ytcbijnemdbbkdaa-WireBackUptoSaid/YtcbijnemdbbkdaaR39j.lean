/- The law WireTexts, as what the abstract run answers. Where sizes are at most 1048576. -/
import Derived.Test.YtcbijnemdbbkdaaR39i
namespace Go.Ai
set_option linter.unusedVariables false
set_option linter.unusedSimpArgs false
set_option maxRecDepth 100000
set_option maxHeartbeats 4000000

/-- A count: known, what, and the place behind it. -/
def cntOk (bs : List UInt8) (a : Nat) : Bool := (numA bs 11 a 0 0).1 && decide (0 ≤ unz (numA bs 11 a 0 0).2.1 ∧ unz (numA bs 11 a 0 0).2.1 ≤ (bs.length : Int) - ((numA bs 11 a 0 0).2.2 : Int))
def cntP (bs : List UInt8) (a : Nat) : Nat := (numA bs 11 a 0 0).2.2
def cntN (bs : List UInt8) (a : Nat) : Nat := (unz (numA bs 11 a 0 0).2.1).toNat
theorem cnt_facts {bs : List UInt8} {a : Nat} (h : cntOk bs a = true) : (numA bs 11 a 0 0).1 = true ∧ unz (numA bs 11 a 0 0).2.1 = (cntN bs a : Int) ∧ cntP bs a + cntN bs a ≤ bs.length := by
  unfold cntOk at h
  rw [Bool.and_eq_true, decide_eq_true_eq] at h
  refine ⟨h.1, ?_, ?_⟩
  · unfold cntN; omega
  · unfold cntP cntN; omega

theorem fn48 (id d : Nat) (ob : Nat → Option AObj) (bs : List UInt8) (a : Nat) (hl : bs.length ≤ 1099511627776) (ha : a ≤ bs.length) (ho : ob id = some (rdr bs a false)) :
    (seat o).fnO 48 d [.leaf (.ptr id 0 0)] ob = some (intAV .i64 (if cntOk bs a = true then (cntN bs a : Int) else 0), [(id, rdr bs (cntP bs a : Int) (!cntOk bs a))]) := by
  have hp : cntP bs a ≤ bs.length := numA_at bs 11 a 0 0 ha
  have c30 : ∀ (d : Nat) (ob : Nat → Option AObj), ob 23 = some (rdr bs (a : Int) false) → (seat o).fnO 30 d [.leaf (.ptr 23 0 0)] ob = some (intAV .i64 (if (numA bs 11 a 0 0).1 = true then unz (numA bs 11 a 0 0).2.1 else 0), [(23, rdr bs (cntP bs a : Int) (!(numA bs 11 a 0 0).1))]) := fun d ob ho => fn30 23 d ob bs a hl ha ho
  have c40 : ∀ (d : Nat) (ob : Nat → Option AObj), ob 23 = some (rdr bs (cntP bs a : Int) false) → _ := fun d ob ho => fn40 23 d ob bs (cntP bs a) false hl hp ho
  have c46 : ∀ (d : Nat) (ob : Nat → Option AObj) (b : Bool), ob 23 = some (rdr bs (cntP bs a : Int) b) → (seat o).fnO 46 d [.leaf (.ptr 23 0 0)] ob = some (intAV .i64 0, [(23, rdr bs (cntP bs a : Int) true)]) := fun d ob b ho => fn46 23 d ob bs (cntP bs a : Int) b ho
  have c46t := fun d ob => c46 d ob true
  have c46f := fun d ob => c46 d ob false
  simp only [rdr, intAV] at c40 c46t c46f
  cases hk : (numA bs 11 a 0 0).1 with
  | false =>
    have hc : cntOk bs a = false := by unfold cntOk; rw [hk]; rfl
    rw [hc]
    rw [hk] at c30
    simp only [rdr, intAV, Bool.false_eq_true, if_false, Bool.not_false] at c30
    refine Seat.fnO_of (f := fun48) (ids := [id]) rfl rfl rfl rfl (by simp [idsAV, once, AV.ids, LV.ids, ho]) ?_
    simp only [fun48, Proofs.Try.f48, Seat.W_seq, Seat.W_region_false, Seat.rq_nil, Seat.rq_cons, Seat.rqK_some, Seat.seq_normal, s_step, guardOf, s_guard_true, s_assign, s_move, call_30, s_pure, s_setT, intAV, callOS, callOD, renAV, renLV, indexIn, mapEval, evalOp, ofValue, idsOf, AV.ids, LV.ids, LV.ids.idsAll, List.set_cons_succ, List.set_cons_zero, List.getElem?_cons_succ, List.getElem?_cons_zero, List.cons_append, List.nil_append, List.append_nil, List.length_cons, List.length_nil, List.map_cons, List.map_nil, List.reduceReplicate, List.contains_cons, List.contains_nil, Option.map_some, Option.map_none, Nat.reduceAdd, Nat.reduceSub, Nat.zero_add, Bool.or_false, Bool.not_false, Bool.false_eq_true, eq_self, ↓reduceIte, seat_T]
    simp only [Seat.W_seq, Seat.W_region_false, Seat.W_ret, Seat.cond_eq, Seat.condK_true, Seat.rq_nil, Seat.rq_cons, Seat.rqK_some, Seat.seq_normal, Seat.seq_ret, s_step, guardOf, s_guard_true, s_guard_false, s_assign, s_move, s_pick, s_bin, s_fieldAddr, s_load, s_nilCheck, call_40, call_46, s_pure, s_setT, loadK, loadC, pickK, pickAV, binK, binAV, cmpAV, fieldAddrK, nilK, callOS, callOD, upds, out_ret, OutK, handed, renAV, renLV, renObj, backUpd, resultsAV, resultAV, tupleOf, mkAV, TK.agg, mapEval, evalOp, ofValue, idsOf, AV.ids, LV.ids, LV.ids.idsAll, List.set_cons_succ, List.set_cons_zero, List.getElem?_cons_succ, List.getElem?_cons_zero, List.cons_append, List.nil_append, List.append_nil, List.length_cons, List.length_nil, List.getD_cons_succ, List.getD_cons_zero, List.all_cons, List.all_nil, List.map_cons, List.map_nil, List.drop_succ_cons, List.drop_zero, List.take_succ_cons, List.take_nil, List.contains_cons, List.contains_nil, Option.map_some, Option.getD_some, Nat.reduceAdd, Nat.reduceLT, Nat.reduceBEq, Nat.zero_add, Nat.add_zero, Nat.le_refl, and_self, Bool.and_self, Bool.or_false, Bool.false_eq_true, decide_true, beq_self_eq_true, eq_self, ↓reduceIte, seat_T, ob_getD, bq_tf, T_55, T_3, T_4, ho, rdr, c30, c46t]
  | true =>
    rw [hk] at c30
    simp only [rdr, intAV, if_true, Bool.not_true] at c30
    by_cases hneg : unz (numA bs 11 a 0 0).2.1 < 0
    · have hc : cntOk bs a = false := by unfold cntOk; rw [hk, decide_eq_false (by omega)]; rfl
      rw [hc]
      refine Seat.fnO_of (f := fun48) (ids := [id]) rfl rfl rfl rfl (by simp [idsAV, once, AV.ids, LV.ids, ho]) ?_
      simp only [fun48, Proofs.Try.f48, Seat.W_seq, Seat.W_region_false, Seat.rq_nil, Seat.rq_cons, Seat.rqK_some, Seat.seq_normal, s_step, guardOf, s_guard_true, s_assign, s_move, call_30, s_pure, s_setT, intAV, callOS, callOD, renAV, renLV, indexIn, mapEval, evalOp, ofValue, idsOf, AV.ids, LV.ids, LV.ids.idsAll, List.set_cons_succ, List.set_cons_zero, List.getElem?_cons_succ, List.getElem?_cons_zero, List.cons_append, List.nil_append, List.append_nil, List.length_cons, List.length_nil, List.map_cons, List.map_nil, List.reduceReplicate, List.contains_cons, List.contains_nil, Option.map_some, Option.map_none, Nat.reduceAdd, Nat.reduceSub, Nat.zero_add, Bool.or_false, Bool.not_false, Bool.false_eq_true, eq_self, ↓reduceIte, seat_T]
      simp only [Seat.W_seq, Seat.W_region_false, Seat.W_ret, Seat.cond_eq, Seat.condK_true, Seat.rq_nil, Seat.rq_cons, Seat.rqK_some, Seat.seq_normal, Seat.seq_ret, s_step, guardOf, s_guard_true, s_guard_false, s_assign, s_move, s_pick, s_bin, s_fieldAddr, s_load, s_nilCheck, call_40, call_46, s_pure, s_setT, loadK, loadC, pickK, pickAV, binK, binAV, cmpAV, intBin, boolAV, fieldAddrK, nilK, callOS, callOD, upds, out_ret, OutK, handed, renAV, renLV, renObj, backUpd, resultsAV, resultAV, tupleOf, mkAV, TK.agg, mapEval, evalOp, ofValue, idsOf, AV.ids, LV.ids, LV.ids.idsAll, List.set_cons_succ, List.set_cons_zero, List.getElem?_cons_succ, List.getElem?_cons_zero, List.cons_append, List.nil_append, List.append_nil, List.length_cons, List.length_nil, List.getD_cons_succ, List.getD_cons_zero, List.all_cons, List.all_nil, List.map_cons, List.map_nil, List.drop_succ_cons, List.drop_zero, List.take_succ_cons, List.take_nil, List.contains_cons, List.contains_nil, Option.map_some, Option.getD_some, Nat.reduceAdd, Nat.reduceLT, Nat.reduceBEq, Nat.zero_add, Nat.add_zero, Nat.le_refl, and_self, Bool.and_self, Bool.or_false, Bool.false_eq_true, decide_true, beq_self_eq_true, eq_self, ↓reduceIte, seat_T, ob_getD, bq_tf, T_55, T_3, T_4, ho, rdr, c30, c46f, hneg]
    · by_cases hbig : ((bs.length - cntP bs a : Nat) : Int) < unz (numA bs 11 a 0 0).2.1
      · have hc : cntOk bs a = false := by unfold cntOk; rw [hk, decide_eq_false (by unfold cntP at hbig hp; omega)]; rfl
        rw [hc]
        refine Seat.fnO_of (f := fun48) (ids := [id]) rfl rfl rfl rfl (by simp [idsAV, once, AV.ids, LV.ids, ho]) ?_
        simp only [fun48, Proofs.Try.f48, Seat.W_seq, Seat.W_region_false, Seat.rq_nil, Seat.rq_cons, Seat.rqK_some, Seat.seq_normal, s_step, guardOf, s_guard_true, s_assign, s_move, call_30, s_pure, s_setT, intAV, callOS, callOD, renAV, renLV, indexIn, mapEval, evalOp, ofValue, idsOf, AV.ids, LV.ids, LV.ids.idsAll, List.set_cons_succ, List.set_cons_zero, List.getElem?_cons_succ, List.getElem?_cons_zero, List.cons_append, List.nil_append, List.append_nil, List.length_cons, List.length_nil, List.map_cons, List.map_nil, List.reduceReplicate, List.contains_cons, List.contains_nil, Option.map_some, Option.map_none, Nat.reduceAdd, Nat.reduceSub, Nat.zero_add, Bool.or_false, Bool.not_false, Bool.false_eq_true, eq_self, ↓reduceIte, seat_T]
        simp only [Seat.W_seq, Seat.W_region_false, Seat.W_ret, Seat.cond_eq, Seat.condK_true, Seat.rq_nil, Seat.rq_cons, Seat.rqK_some, Seat.seq_normal, Seat.seq_ret, s_step, guardOf, s_guard_true, s_assign, s_move, s_pick, s_bin, s_fieldAddr, s_load, s_nilCheck, call_40, call_46, s_pure, s_setT, loadK, loadC, pickK, pickAV, binK, binAV, intBin, boolAV, fieldAddrK, nilK, callOS, callOD, upds, out_ret, OutK, handed, renAV, renLV, renObj, backUpd, resultsAV, resultAV, tupleOf, mkAV, TK.agg, mapEval, evalOp, ofValue, idsOf, AV.ids, LV.ids, LV.ids.idsAll, List.set_cons_succ, List.set_cons_zero, List.getElem?_cons_succ, List.getElem?_cons_zero, List.cons_append, List.nil_append, List.append_nil, List.length_cons, List.length_nil, List.getD_cons_succ, List.getD_cons_zero, List.all_cons, List.all_nil, List.map_cons, List.map_nil, List.drop_succ_cons, List.drop_zero, List.take_succ_cons, List.take_nil, List.contains_cons, List.contains_nil, Option.map_some, Option.getD_some, Nat.reduceAdd, Nat.reduceLT, Nat.reduceBEq, Nat.zero_add, Nat.add_zero, Nat.le_refl, and_self, Bool.and_self, Bool.or_false, Bool.false_eq_true, decide_true, decide_false, beq_self_eq_true, eq_self, gt_iff_lt, ↓reduceIte, seat_T, ob_getD, T_55, T_4, ho, rdr, c30, c40, c46f, hneg, hbig]
      · have hc : cntOk bs a = true := by unfold cntOk; rw [hk, decide_eq_true (by unfold cntP at hbig hp; omega)]; rfl
        rw [hc, ← (cnt_facts hc).2.1]
        refine Seat.fnO_of (f := fun48) (ids := [id]) rfl rfl rfl rfl (by simp [idsAV, once, AV.ids, LV.ids, ho]) ?_
        simp only [fun48, Proofs.Try.f48, Seat.W_seq, Seat.W_region_false, Seat.rq_nil, Seat.rq_cons, Seat.rqK_some, Seat.seq_normal, s_step, guardOf, s_guard_true, s_assign, s_move, call_30, s_pure, s_setT, intAV, callOS, callOD, renAV, renLV, indexIn, mapEval, evalOp, ofValue, idsOf, AV.ids, LV.ids, LV.ids.idsAll, List.set_cons_succ, List.set_cons_zero, List.getElem?_cons_succ, List.getElem?_cons_zero, List.cons_append, List.nil_append, List.append_nil, List.length_cons, List.length_nil, List.map_cons, List.map_nil, List.reduceReplicate, List.contains_cons, List.contains_nil, Option.map_some, Option.map_none, Nat.reduceAdd, Nat.reduceSub, Nat.zero_add, Bool.or_false, Bool.not_true, eq_self, ↓reduceIte, seat_T]
        simp only [Seat.W_seq, Seat.W_region_false, Seat.W_ret, Seat.W_skip, Seat.cond_eq, Seat.condK_false, Seat.rq_nil, Seat.rq_cons, Seat.rqK_some, Seat.seq_normal, s_step, guardOf, s_guard_true, s_assign, s_move, s_pick, s_bin, s_fieldAddr, s_load, s_nilCheck, call_40, s_pure, s_setT, loadK, loadC, pickK, pickAV, binK, binAV, intBin, boolAV, fieldAddrK, nilK, callOS, callOD, upds, out_ret, OutK, handed, renAV, renLV, renObj, backUpd, resultsAV, resultAV, tupleOf, mkAV, TK.agg, mapEval, evalOp, ofValue, idsOf, AV.ids, LV.ids, LV.ids.idsAll, List.set_cons_succ, List.set_cons_zero, List.getElem?_cons_succ, List.getElem?_cons_zero, List.cons_append, List.nil_append, List.append_nil, List.length_cons, List.length_nil, List.getD_cons_succ, List.getD_cons_zero, List.all_cons, List.all_nil, List.map_cons, List.map_nil, List.drop_succ_cons, List.drop_zero, List.take_succ_cons, List.take_nil, List.contains_cons, List.contains_nil, Option.map_some, Option.getD_some, Nat.reduceAdd, Nat.reduceLT, Nat.reduceBEq, Nat.zero_add, Nat.add_zero, Nat.le_refl, and_self, Bool.and_self, Bool.or_false, Bool.false_eq_true, decide_true, decide_false, beq_self_eq_true, eq_self, gt_iff_lt, ↓reduceIte, seat_T, ob_getD, T_55, T_4, ho, rdr, c30, c40, hneg, hbig]

theorem fn48_bad (id d : Nat) (ob : Nat → Option AObj) (bs : List UInt8) (a : Int) (ho : ob id = some (rdr bs a true)) :
    (seat o).fnO 48 d [.leaf (.ptr id 0 0)] ob = some (intAV .i64 0, [(id, rdr bs a true)]) := by
  have c30 : ∀ (d : Nat) (ob : Nat → Option AObj), ob 23 = some (rdr bs a true) → _ := fun d ob ho => fn30_bad 23 d ob bs a ho
  have c46 : ∀ (d : Nat) (ob : Nat → Option AObj), ob 23 = some (rdr bs a true) → _ := fun d ob ho => fn46 23 d ob bs a true ho
  simp only [rdr, intAV] at c30 c46
  refine Seat.fnO_of (f := fun48) (ids := [id]) rfl rfl rfl rfl (by simp [idsAV, once, AV.ids, LV.ids, ho]) ?_
  simp only [fun48, Proofs.Try.f48, Seat.W_seq, Seat.W_region_false, Seat.rq_nil, Seat.rq_cons, Seat.rqK_some, Seat.seq_normal, s_step, guardOf, s_guard_true, s_assign, s_move, call_30, s_pure, s_setT, intAV, callOS, callOD, renAV, renLV, indexIn, mapEval, evalOp, ofValue, idsOf, AV.ids, LV.ids, LV.ids.idsAll, List.set_cons_succ, List.set_cons_zero, List.getElem?_cons_succ, List.getElem?_cons_zero, List.cons_append, List.nil_append, List.append_nil, List.length_cons, List.length_nil, List.map_cons, List.map_nil, List.reduceReplicate, List.contains_cons, List.contains_nil, Option.map_some, Option.map_none, Nat.reduceAdd, Nat.reduceSub, Nat.zero_add, Bool.or_false, eq_self, ↓reduceIte, seat_T]
  simp only [Seat.W_seq, Seat.W_region_false, Seat.W_ret, Seat.cond_eq, Seat.condK_true, Seat.rq_nil, Seat.rq_cons, Seat.rqK_some, Seat.seq_normal, Seat.seq_ret, s_step, guardOf, s_guard_true, s_guard_false, s_assign, s_move, s_pick, s_bin, s_fieldAddr, s_load, s_nilCheck, call_40, call_46, s_pure, s_setT, loadK, loadC, pickK, pickAV, binK, binAV, cmpAV, fieldAddrK, nilK, callOS, callOD, upds, out_ret, OutK, handed, renAV, renLV, renObj, backUpd, resultsAV, resultAV, tupleOf, mkAV, TK.agg, mapEval, evalOp, ofValue, idsOf, AV.ids, LV.ids, LV.ids.idsAll, List.set_cons_succ, List.set_cons_zero, List.getElem?_cons_succ, List.getElem?_cons_zero, List.cons_append, List.nil_append, List.append_nil, List.length_cons, List.length_nil, List.getD_cons_succ, List.getD_cons_zero, List.all_cons, List.all_nil, List.map_cons, List.map_nil, List.drop_succ_cons, List.drop_zero, List.take_succ_cons, List.take_nil, List.contains_cons, List.contains_nil, Option.map_some, Option.getD_some, Nat.reduceAdd, Nat.reduceLT, Nat.reduceBEq, Nat.zero_add, Nat.add_zero, Nat.le_refl, and_self, Bool.and_self, Bool.or_false, Bool.false_eq_true, decide_true, beq_self_eq_true, eq_self, ↓reduceIte, seat_T, ob_getD, bq_tf, T_55, T_3, T_4, ho, rdr, c30, c46]

theorem slice_rob (bs : List UInt8) (p q : Nat) (h1 : p ≤ q) (h2 : q ≤ bs.length) : sliceRows (.imm (.sl (rowsOfBytes bs))) (rowsOfBytes bs) 1 (some (p : Int)) (some (q : Int)) none = some (.leaf (.imm (.sl (rowsOfBytes ((bs.take q).drop p))))) := by
  have hm : rowsOfBytes ((bs.take q).drop p) = ((rowsOfBytes bs).take q).drop p := by simp [rowsOfBytes, List.map_take, List.map_drop]
  unfold sliceRows cutRows
  simp only [Option.getD_some, rob_len]
  rw [if_pos ⟨by omega, by omega, by omega⟩]
  simp only [Int.toNat_natCast]
  by_cases h : p = 0 ∧ q = bs.length
  · rw [if_pos h, hm, h.1, h.2, List.drop_zero, List.take_of_length_le (by rw [rob_len]; exact Nat.le_refl _)]
  · rw [if_neg h, rob_all]
    simp only [if_true, hm]
def sub (bs : List UInt8) (p q : Nat) : ByteArray := ⟨((bs.take q).drop p).toArray⟩

theorem fn36 (id d : Nat) (ob : Nat → Option AObj) (bs : List UInt8) (a : Nat) (hl : bs.length ≤ 1099511627776) (ha : a ≤ bs.length) (ho : ob id = some (rdr bs a false)) :
    (seat o).fnO 36 d [.leaf (.ptr id 0 0)] ob = some (.leaf (.imm (.str (if cntOk bs a = true then sub bs (cntP bs a) (cntP bs a + cntN bs a) else ⟨#[]⟩))), [(id, rdr bs (if cntOk bs a = true then ((cntP bs a + cntN bs a : Nat) : Int) else (cntP bs a : Int)) (!cntOk bs a))]) := by
  have c48 : ∀ (d : Nat) (ob : Nat → Option AObj), ob 36 = some (rdr bs (a : Int) false) → _ := fun d ob ho => fn48 36 d ob bs a hl ha ho
  cases hk : cntOk bs a with
  | false =>
    rw [hk] at c48
    simp only [rdr, intAV, Bool.false_eq_true, if_false, Bool.not_false] at c48
    refine Seat.fnO_of (f := fun36) (ids := [id]) rfl rfl rfl rfl (by simp [idsAV, once, AV.ids, LV.ids, ho]) ?_
    simp only [fun36, Proofs.Try.f36, Seat.W_seq, Seat.W_region_false, Seat.rq_nil, Seat.rq_cons, Seat.rqK_some, Seat.seq_normal, s_step, guardOf, s_guard_true, s_assign, s_move, call_48, s_pure, s_setT, callOS, callOD, renAV, renLV, indexIn, mapEval, evalOp, ofValue, idsOf, AV.ids, LV.ids, LV.ids.idsAll, List.set_cons_succ, List.set_cons_zero, List.getElem?_cons_succ, List.getElem?_cons_zero, List.cons_append, List.nil_append, List.append_nil, List.length_cons, List.length_nil, List.map_cons, List.map_nil, List.reduceReplicate, List.contains_cons, List.contains_nil, Option.map_some, Option.map_none, Nat.reduceAdd, Nat.reduceSub, Nat.zero_add, Bool.or_false, Bool.not_false, Bool.false_eq_true, eq_self, ↓reduceIte, seat_T]
    simp only [Seat.W_seq, Seat.W_region_false, Seat.W_ret, Seat.cond_eq, Seat.condK_true, Seat.rq_nil, Seat.rq_cons, Seat.rqK_some, Seat.seq_normal, Seat.seq_ret, s_step, guardOf, s_guard_true, s_assign, s_move, s_fieldAddr, s_load, s_nilCheck, s_pure, s_setT, loadK, loadC, fieldAddrK, nilK, upds, out_ret, OutK, handed, renAV, renLV, renObj, backUpd, resultsAV, resultAV, tupleOf, mkAV, TK.agg, evalOp, ofValue, List.set_cons_succ, List.set_cons_zero, List.getElem?_cons_succ, List.getElem?_cons_zero, List.length_cons, List.length_nil, List.getD_cons_succ, List.getD_cons_zero, List.all_cons, List.all_nil, List.map_cons, List.map_nil, List.drop_succ_cons, List.drop_zero, List.take_succ_cons, List.take_nil, Option.map_some, Option.getD_some, Nat.reduceAdd, Nat.reduceLT, Nat.reduceBEq, Nat.zero_add, Nat.add_zero, Nat.le_refl, and_self, Bool.and_self, Bool.or_false, Bool.false_eq_true, decide_true, beq_self_eq_true, eq_self, ↓reduceIte, seat_T, ob_getD, T_55, T_4, ho, rdr, c48]
  | true =>
    rw [hk] at c48
    simp only [rdr, intAV, if_true, Bool.not_true] at c48
    obtain ⟨_, _, hle⟩ := cnt_facts hk
    have e1 : IntKind.wrap .i64 ((cntP bs a : Int) + (cntN bs a : Int)) = ((cntP bs a + cntN bs a : Nat) : Int) := by rw [wrap_i64 (by omega) (by omega)]; omega
    have hsl := slice_rob bs (cntP bs a) (cntP bs a + cntN bs a) (by omega) hle
    refine Seat.fnO_of (f := fun36) (ids := [id]) rfl rfl rfl rfl (by simp [idsAV, once, AV.ids, LV.ids, ho]) ?_
    simp only [fun36, Proofs.Try.f36, Seat.W_seq, Seat.W_region_false, Seat.rq_nil, Seat.rq_cons, Seat.rqK_some, Seat.seq_normal, s_step, guardOf, s_guard_true, s_assign, s_move, call_48, s_pure, s_setT, callOS, callOD, renAV, renLV, indexIn, mapEval, evalOp, ofValue, idsOf, AV.ids, LV.ids, LV.ids.idsAll, List.set_cons_succ, List.set_cons_zero, List.getElem?_cons_succ, List.getElem?_cons_zero, List.cons_append, List.nil_append, List.append_nil, List.length_cons, List.length_nil, List.map_cons, List.map_nil, List.reduceReplicate, List.contains_cons, List.contains_nil, Option.map_some, Option.map_none, Nat.reduceAdd, Nat.reduceSub, Nat.zero_add, Bool.or_false, Bool.not_true, eq_self, ↓reduceIte, seat_T]
    simp only [Seat.W_seq, Seat.W_region_false, Seat.W_region_true, Seat.W_ret, Seat.W_skip, Seat.cond_eq, Seat.condK_false, Seat.rq_nil, Seat.rq_cons, Seat.rqK_some, Seat.rg_nil, Seat.rg_cons, Seat.rgK_some, Seat.endQ, Seat.seq_normal, s_step, guardOf, s_guard_true, s_assign, s_move, s_bin, s_fieldAddr, s_slice, s_load, s_store, s_nilCheck, s_convert, convK, s_pure, s_setT, s_setN, storeS, storeK, loadK, loadC, binK, binAV, intBin, intAV, fieldAddrK, sliceStrK, nilK, upds, out_ret, OutK, handed, renAV, renLV, renObj, backUpd, rowsOf_sl, resultsAV, resultAV, tupleOf, mkAV, TK.agg, setRange, optEval, evalOp, AV.leaves, solid_imm, footA, pureCall, quietOp, readsT, writesT, guardLoc, tmpLoc, touch, looksOp, idsOf, AV.ids, LV.ids, Op.operands, List.set_cons_succ, List.set_cons_zero, List.getElem?_cons_succ, List.getElem?_cons_zero, List.cons_append, List.nil_append, List.append_nil, List.length_cons, List.length_nil, List.getD_cons_succ, List.getD_cons_zero, List.all_cons, List.all_nil, List.map_cons, List.map_nil, List.drop_succ_cons, List.drop_zero, List.take_succ_cons, List.take_zero, List.take_nil, List.flatMap_cons, List.flatMap_nil, Option.map_some, Option.getD_some, Option.toList_some, Option.some.injEq, Nat.reduceAdd, Nat.reduceMul, Nat.reduceLT, Nat.reduceLeDiff, Nat.reduceBEq, Nat.zero_add, Nat.add_zero, Nat.le_refl, and_self, and_true, Bool.and_self, Bool.or_false, Bool.false_eq_true, reduceCtorEq, decide_true, beq_self_eq_true, eq_self, ↓reduceIte, seat_T, ob_getD, T_55, T_22, T_9, T_5, T_3, T_4, ho, rdr, c48, e1, hsl, bor_rob, sub]
    exact ord_of (by kernel_rfl)
theorem fn36_bad (id d : Nat) (ob : Nat → Option AObj) (bs : List UInt8) (a : Int) (ho : ob id = some (rdr bs a true)) :
    (seat o).fnO 36 d [.leaf (.ptr id 0 0)] ob = some (.leaf (.imm (.str ⟨#[]⟩)), [(id, rdr bs a true)]) := by
  have c48 : ∀ (d : Nat) (ob : Nat → Option AObj), ob 36 = some (rdr bs a true) → _ := fun d ob ho => fn48_bad 36 d ob bs a ho
  simp only [rdr, intAV] at c48
  refine Seat.fnO_of (f := fun36) (ids := [id]) rfl rfl rfl rfl (by simp [idsAV, once, AV.ids, LV.ids, ho]) ?_
  simp only [fun36, Proofs.Try.f36, Seat.W_seq, Seat.W_region_false, Seat.rq_nil, Seat.rq_cons, Seat.rqK_some, Seat.seq_normal, s_step, guardOf, s_guard_true, s_assign, s_move, call_48, s_pure, s_setT, callOS, callOD, renAV, renLV, indexIn, mapEval, evalOp, ofValue, idsOf, AV.ids, LV.ids, LV.ids.idsAll, List.set_cons_succ, List.set_cons_zero, List.getElem?_cons_succ, List.getElem?_cons_zero, List.cons_append, List.nil_append, List.append_nil, List.length_cons, List.length_nil, List.map_cons, List.map_nil, List.reduceReplicate, List.contains_cons, List.contains_nil, Option.map_some, Option.map_none, Nat.reduceAdd, Nat.reduceSub, Nat.zero_add, Bool.or_false, eq_self, ↓reduceIte, seat_T]
  simp only [Seat.W_seq, Seat.W_region_false, Seat.W_ret, Seat.cond_eq, Seat.condK_true, Seat.rq_nil, Seat.rq_cons, Seat.rqK_some, Seat.seq_normal, Seat.seq_ret, s_step, guardOf, s_guard_true, s_assign, s_move, s_fieldAddr, s_load, s_nilCheck, s_pure, s_setT, loadK, loadC, fieldAddrK, nilK, upds, out_ret, OutK, handed, renAV, renLV, renObj, backUpd, resultsAV, resultAV, tupleOf, mkAV, TK.agg, evalOp, ofValue, List.set_cons_succ, List.set_cons_zero, List.getElem?_cons_succ, List.getElem?_cons_zero, List.length_cons, List.length_nil, List.getD_cons_succ, List.getD_cons_zero, List.all_cons, List.all_nil, List.map_cons, List.map_nil, List.drop_succ_cons, List.drop_zero, List.take_succ_cons, List.take_nil, Option.map_some, Option.getD_some, Nat.reduceAdd, Nat.reduceLT, Nat.reduceBEq, Nat.zero_add, Nat.add_zero, Nat.le_refl, and_self, Bool.and_self, Bool.or_false, Bool.false_eq_true, decide_true, beq_self_eq_true, eq_self, ↓reduceIte, seat_T, ob_getD, T_55, T_4, ho, rdr, c48]

/-- The text, the place behind it, and the error. -/
def gt (bs : List UInt8) (a : Int) : ByteArray × Int × Int :=
  if a < 0 ∨ (bs.length : Int) < a then (⟨#[]⟩, 0, 13) else if cntOk bs a.toNat = true then (sub bs (cntP bs a.toNat) (cntP bs a.toNat + cntN bs a.toNat), ((cntP bs a.toNat + cntN bs a.toNat : Nat) : Int), 0) else (⟨#[]⟩, 0, 13)
def tupS (r : ByteArray × Int × Int) : AV := .tup [.leaf (.imm (.str r.1)), intAV .i64 r.2.1, intAV .i64 r.2.2]

theorem fn19 (bs : List UInt8) (a : Int) (hl : bs.length ≤ 1099511627776) : (seat o).fn 19 [.leaf (.imm (.sl (rowsOfBytes bs))), .leaf (.imm (.int .i64 a))] = some (tupS (gt bs a)) := by
  have c29 : ∀ (d : Nat) (ob : Nat → Option AObj), ob d = none → _ := fun d ob hd => fn29 d ob bs a hd
  by_cases hbad : a < 0 ∨ (bs.length : Int) < a
  · rw [decide_eq_true hbad] at c29
    have c36 : ∀ (d : Nat) (ob : Nat → Option AObj), ob 11 = some (rdr bs a true) → _ := fun d ob ho => fn36_bad 11 d ob bs a ho
    have hg : gt bs a = (⟨#[]⟩, 0, 13) := by unfold gt; rw [if_pos hbad]
    rw [hg]
    simp only [rdr] at c29 c36
    refine Seat.fn_of (f := fun19) (noS o 19 _ rfl) rfl rfl rfl ?_; simp only [fun19, Proofs.Try.f19, Seat.W_seq, Seat.W_region_false, Seat.rq_nil, Seat.rq_cons, Seat.rqK_some, Seat.seq_normal, s_step, guardOf, s_guard_true, s_assign, s_move, call_29, s_pure, s_setT, callOS, callOD, mapEval, evalOp, ofValue, idsOf, AV.ids, LV.ids, LV.ids.idsAll, List.set_cons_succ, List.set_cons_zero, List.getElem?_cons_succ, List.getElem?_cons_zero, List.cons_append, List.nil_append, List.append_nil, List.length_cons, List.length_nil, List.reduceReplicate, List.contains_cons, List.contains_nil, Nat.reduceAdd, Nat.reduceSub, Nat.zero_add, Bool.or_false, seat_T]
    simp only [Seat.W_seq, Seat.W_region_false, Seat.W_ret, Seat.cond_eq, Seat.condK_true, Seat.rq_nil, Seat.rq_cons, Seat.rqK_some, Seat.seq_normal, Seat.seq_ret, Seat.ret_ret, Seat.RetK, s_step, guardOf, s_guard_true, s_assign, s_move, s_fieldAddr, s_load, s_nilCheck, call_36, s_pure, s_setT, loadK, loadC, intAV, fieldAddrK, nilK, callOS, callOD, upds, IV.norm, lendArgs, lendArg, lend_imm, resultsAV, resultAV, tupleOf, mkAV, TK.agg, mapEval, evalOp, ofValue, idsOf, AV.ids, LV.ids, LV.ids.idsAll, List.set_cons_succ, List.set_cons_zero, List.getElem?_cons_succ, List.getElem?_cons_zero, List.cons_append, List.nil_append, List.append_nil, List.length_cons, List.length_nil, List.getD_cons_succ, List.getD_cons_zero, List.all_cons, List.all_nil, List.drop_succ_cons, List.drop_zero, List.take_succ_cons, List.take_nil, List.contains_cons, List.contains_nil, Option.map_some, Option.some.injEq, Nat.reduceAdd, Nat.reduceLT, Nat.reduceBEq, Nat.zero_add, Nat.le_refl, and_self, Bool.and_self, Bool.or_false, Bool.false_eq_true, decide_true, beq_self_eq_true, eq_self, ↓reduceIte, exists_eq_left', seat_T, ob_getD, T_55, T_4, c29, c36, tupS]
  · rw [decide_eq_false hbad] at c29
    obtain ⟨n, rfl⟩ : ∃ n : Nat, a = (n : Int) := ⟨a.toNat, by omega⟩
    have hn : n ≤ bs.length := by omega
    have c36 : ∀ (d : Nat) (ob : Nat → Option AObj), ob 11 = some (rdr bs (n : Int) false) → _ := fun d ob ho => fn36 11 d ob bs n hl hn ho
    have hg : gt bs (n : Int) = if cntOk bs n = true then (sub bs (cntP bs n) (cntP bs n + cntN bs n), ((cntP bs n + cntN bs n : Nat) : Int), 0) else (⟨#[]⟩, 0, 13) := by unfold gt; rw [if_neg hbad, Int.toNat_natCast]
    rw [hg]
    cases hr : cntOk bs n with
    | true =>
      rw [hr] at c36
      simp only [rdr, if_true, Bool.not_true] at c29 c36
      refine Seat.fn_of (f := fun19) (noS o 19 _ rfl) rfl rfl rfl ?_; simp only [fun19, Proofs.Try.f19, Seat.W_seq, Seat.W_region_false, Seat.rq_nil, Seat.rq_cons, Seat.rqK_some, Seat.seq_normal, s_step, guardOf, s_guard_true, s_assign, s_move, call_29, s_pure, s_setT, callOS, callOD, mapEval, evalOp, ofValue, idsOf, AV.ids, LV.ids, LV.ids.idsAll, List.set_cons_succ, List.set_cons_zero, List.getElem?_cons_succ, List.getElem?_cons_zero, List.cons_append, List.nil_append, List.append_nil, List.length_cons, List.length_nil, List.reduceReplicate, List.contains_cons, List.contains_nil, Nat.reduceAdd, Nat.reduceSub, Nat.zero_add, Bool.or_false, eq_self, ↓reduceIte, seat_T]
      simp only [Seat.W_seq, Seat.W_region_false, Seat.W_region_true, Seat.W_ret, Seat.W_skip, Seat.cond_eq, Seat.condK_false, Seat.rq_nil, Seat.rq_cons, Seat.rqK_some, Seat.rg_nil, Seat.rg_cons, Seat.rgK_some, Seat.endQ, Seat.seq_normal, Seat.ret_ret, Seat.RetK, s_step, guardOf, s_guard_true, s_assign, s_move, s_fieldAddr, s_load, s_nilCheck, call_36, s_pure, s_setT, loadK, loadC, intAV, fieldAddrK, nilK, callOS, callOD, upds, IV.norm, lendArgs, lendArg, lend_imm, resultsAV, resultAV, tupleOf, mkAV, TK.agg, mapEval, evalOp, ofValue, footA, pureCall, quietOp, readsT, writesT, guardLoc, tmpLoc, touch, looksOp, idsOf, AV.ids, LV.ids, LV.ids.idsAll, Op.operands, List.set_cons_succ, List.set_cons_zero, List.getElem?_cons_succ, List.getElem?_cons_zero, List.cons_append, List.nil_append, List.append_nil, List.length_cons, List.length_nil, List.getD_cons_succ, List.getD_cons_zero, List.all_cons, List.all_nil, List.map_cons, List.map_nil, List.drop_succ_cons, List.drop_zero, List.take_succ_cons, List.take_zero, List.take_nil, List.flatMap_cons, List.flatMap_nil, List.contains_cons, List.contains_nil, Option.map_some, Option.toList_some, Option.some.injEq, Nat.reduceAdd, Nat.reduceMul, Nat.reduceLT, Nat.reduceLeDiff, Nat.reduceBEq, Nat.zero_add, Nat.le_refl, and_self, and_true, Bool.and_self, Bool.or_false, Bool.false_eq_true, reduceCtorEq, decide_true, beq_self_eq_true, eq_self, ↓reduceIte, exists_eq_left', seat_T, ob_getD, T_55, T_3, T_4, c29, c36, tupS]
      exact ord_of (by kernel_rfl)
    | false =>
      rw [hr] at c36
      simp only [rdr, Bool.false_eq_true, if_false, Bool.not_false] at c29 c36
      refine Seat.fn_of (f := fun19) (noS o 19 _ rfl) rfl rfl rfl ?_; simp only [fun19, Proofs.Try.f19, Seat.W_seq, Seat.W_region_false, Seat.rq_nil, Seat.rq_cons, Seat.rqK_some, Seat.seq_normal, s_step, guardOf, s_guard_true, s_assign, s_move, call_29, s_pure, s_setT, callOS, callOD, mapEval, evalOp, ofValue, idsOf, AV.ids, LV.ids, LV.ids.idsAll, List.set_cons_succ, List.set_cons_zero, List.getElem?_cons_succ, List.getElem?_cons_zero, List.cons_append, List.nil_append, List.append_nil, List.length_cons, List.length_nil, List.reduceReplicate, List.contains_cons, List.contains_nil, Nat.reduceAdd, Nat.reduceSub, Nat.zero_add, Bool.or_false, Bool.false_eq_true, ↓reduceIte, seat_T]
      simp only [Seat.W_seq, Seat.W_region_false, Seat.W_ret, Seat.cond_eq, Seat.condK_true, Seat.rq_nil, Seat.rq_cons, Seat.rqK_some, Seat.seq_normal, Seat.seq_ret, Seat.ret_ret, Seat.RetK, s_step, guardOf, s_guard_true, s_assign, s_move, s_fieldAddr, s_load, s_nilCheck, call_36, s_pure, s_setT, loadK, loadC, intAV, fieldAddrK, nilK, callOS, callOD, upds, IV.norm, lendArgs, lendArg, lend_imm, resultsAV, resultAV, tupleOf, mkAV, TK.agg, mapEval, evalOp, ofValue, idsOf, AV.ids, LV.ids, LV.ids.idsAll, List.set_cons_succ, List.set_cons_zero, List.getElem?_cons_succ, List.getElem?_cons_zero, List.cons_append, List.nil_append, List.append_nil, List.length_cons, List.length_nil, List.getD_cons_succ, List.getD_cons_zero, List.all_cons, List.all_nil, List.drop_succ_cons, List.drop_zero, List.take_succ_cons, List.take_nil, List.contains_cons, List.contains_nil, Option.map_some, Option.some.injEq, Nat.reduceAdd, Nat.reduceLT, Nat.reduceBEq, Nat.zero_add, Nat.le_refl, and_self, Bool.and_self, Bool.or_false, Bool.false_eq_true, decide_true, beq_self_eq_true, eq_self, ↓reduceIte, exists_eq_left', seat_T, ob_getD, T_55, T_4, c29, c36, tupS]

theorem fn20 (bs : List UInt8) (a : Int) (hl : bs.length ≤ 1099511627776) : (seat o).fn 20 [.leaf (.imm (.sl (rowsOfBytes bs))), .leaf (.imm (.int .i64 a))] = some (tupS (gt bs a)) := by
  have h10 := fn10 bs a hl
  by_cases hbad : a < 0 ∨ (bs.length : Int) < a
  · have hi : gi bs a = (0, 0, 13) := by unfold gi; rw [if_pos hbad]
    have hg : gt bs a = (⟨#[]⟩, 0, 13) := by unfold gt; rw [if_pos hbad]
    rw [hi] at h10
    rw [hg]
    have z : ¬ (13 : Int) = 0 := by decide
    simp only [tup3, intAV] at h10
    refine Seat.fn_of (f := fun20) (noS o 20 _ rfl) rfl rfl rfl ?_; simp only [fun20, Proofs.Try.f20, Seat.W_seq, Seat.W_region_false, Seat.rq_nil, Seat.rq_cons, Seat.rqK_some, Seat.seq_normal, s_step, guardOf, s_guard_true, s_assign, s_move, call_10, s_pure, s_setT, callS, callP, stripArgs, AV.stripA, strip_imm, IV.norm, mapEval, evalOp, ofValue, List.set_cons_succ, List.set_cons_zero, List.getElem?_cons_succ, List.getElem?_cons_zero, List.cons_append, List.nil_append, List.length_cons, List.length_nil, List.reduceReplicate, Option.map_some, Nat.reduceAdd, Nat.reduceSub, Nat.zero_add, seat_T]
    simp only [Seat.W_seq, Seat.W_region_false, Seat.W_ret, Seat.cond_eq, Seat.condK_true, Seat.rq_nil, Seat.rq_cons, Seat.rqK_some, Seat.seq_normal, Seat.seq_ret, Seat.ret_ret, Seat.RetK, s_step, guardOf, s_guard_true, s_guard_false, s_assign, s_move, s_pick, s_bin, s_extract, s_len, s_pure, s_setT, pickK, pickAV, binK, binAV, cmpAV, intBin, boolAV, intAV, extractK, lenK, lenAV, IV.norm, lendArgs, lendArg, lend_imm, resultsAV, resultAV, tupleOf, mapEval, evalOp, ofValue, List.set_cons_succ, List.set_cons_zero, List.getElem?_cons_succ, List.getElem?_cons_zero, Option.map_some, Option.some.injEq, Bool.not_false, decide_false, eq_self, ↓reduceIte, exists_eq_left', seat_T, bq_tf, int_bne, T_22, T_3, h10, tupS, z]
  · obtain ⟨n, rfl⟩ : ∃ n : Nat, a = (n : Int) := ⟨a.toNat, by omega⟩
    have hn : n ≤ bs.length := by omega
    have hp : cntP bs n ≤ bs.length := numA_at bs 11 n 0 0 hn
    have hg : gt bs (n : Int) = if cntOk bs n = true then (sub bs (cntP bs n) (cntP bs n + cntN bs n), ((cntP bs n + cntN bs n : Nat) : Int), 0) else (⟨#[]⟩, 0, 13) := by unfold gt; rw [if_neg hbad, Int.toNat_natCast]
    have hi : gi bs (n : Int) = if (numA bs 11 n 0 0).1 = true then (unz (numA bs 11 n 0 0).2.1, (cntP bs n : Int), 0) else (0, 0, 13) := by unfold gi; rw [if_neg hbad, Int.toNat_natCast]; rfl
    rw [hg]
    cases hk : (numA bs 11 n 0 0).1 with
    | false =>
      have hc : cntOk bs n = false := by unfold cntOk; rw [hk]; rfl
      rw [hc]
      rw [hk] at hi
      simp only [Bool.false_eq_true, if_false] at hi ⊢
      rw [hi] at h10
      have z : ¬ (13 : Int) = 0 := by decide
      simp only [tup3, intAV] at h10
      refine Seat.fn_of (f := fun20) (noS o 20 _ rfl) rfl rfl rfl ?_; simp only [fun20, Proofs.Try.f20, Seat.W_seq, Seat.W_region_false, Seat.rq_nil, Seat.rq_cons, Seat.rqK_some, Seat.seq_normal, s_step, guardOf, s_guard_true, s_assign, s_move, call_10, s_pure, s_setT, callS, callP, stripArgs, AV.stripA, strip_imm, IV.norm, mapEval, evalOp, ofValue, List.set_cons_succ, List.set_cons_zero, List.getElem?_cons_succ, List.getElem?_cons_zero, List.cons_append, List.nil_append, List.length_cons, List.length_nil, List.reduceReplicate, Option.map_some, Nat.reduceAdd, Nat.reduceSub, Nat.zero_add, seat_T]
      simp only [Seat.W_seq, Seat.W_region_false, Seat.W_ret, Seat.cond_eq, Seat.condK_true, Seat.rq_nil, Seat.rq_cons, Seat.rqK_some, Seat.seq_normal, Seat.seq_ret, Seat.ret_ret, Seat.RetK, s_step, guardOf, s_guard_true, s_guard_false, s_assign, s_move, s_pick, s_bin, s_extract, s_len, s_pure, s_setT, pickK, pickAV, binK, binAV, cmpAV, intBin, boolAV, intAV, extractK, lenK, lenAV, IV.norm, lendArgs, lendArg, lend_imm, resultsAV, resultAV, tupleOf, mapEval, evalOp, ofValue, List.set_cons_succ, List.set_cons_zero, List.getElem?_cons_succ, List.getElem?_cons_zero, Option.map_some, Option.some.injEq, Bool.not_false, decide_false, eq_self, ↓reduceIte, exists_eq_left', seat_T, bq_tf, int_bne, T_22, T_3, h10, tupS, z]
    | true =>
      rw [hk] at hi
      simp only [if_true] at hi
      rw [hi] at h10
      simp only [tup3, intAV] at h10
      have e0 : IntKind.wrap .i64 ((bs.length : Int) - (cntP bs n : Int)) = ((bs.length - cntP bs n : Nat) : Int) := by rw [wrap_i64 (by omega) (by omega)]; omega
      by_cases hneg : unz (numA bs 11 n 0 0).2.1 < 0
      · have hc : cntOk bs n = false := by unfold cntOk; rw [hk, decide_eq_false (by omega)]; rfl
        rw [hc]
        refine Seat.fn_of (f := fun20) (noS o 20 _ rfl) rfl rfl rfl ?_; simp only [fun20, Proofs.Try.f20, Seat.W_seq, Seat.W_region_false, Seat.rq_nil, Seat.rq_cons, Seat.rqK_some, Seat.seq_normal, s_step, guardOf, s_guard_true, s_assign, s_move, call_10, s_pure, s_setT, callS, callP, stripArgs, AV.stripA, strip_imm, IV.norm, mapEval, evalOp, ofValue, List.set_cons_succ, List.set_cons_zero, List.getElem?_cons_succ, List.getElem?_cons_zero, List.cons_append, List.nil_append, List.length_cons, List.length_nil, List.reduceReplicate, Option.map_some, Nat.reduceAdd, Nat.reduceSub, Nat.zero_add, Bool.false_eq_true, ↓reduceIte, seat_T]
        simp only [Seat.W_seq, Seat.W_region_false, Seat.W_ret, Seat.cond_eq, Seat.condK_true, Seat.rq_nil, Seat.rq_cons, Seat.rqK_some, Seat.seq_normal, Seat.seq_ret, Seat.ret_ret, Seat.RetK, s_step, guardOf, s_guard_true, s_guard_false, s_assign, s_move, s_pick, s_bin, s_extract, s_len, s_pure, s_setT, pickK, pickAV, binK, binAV, cmpAV, intBin, boolAV, intAV, extractK, lenK, lenAV, IV.norm, lendArgs, lendArg, lend_imm, resultsAV, resultAV, tupleOf, mapEval, evalOp, ofValue, List.set_cons_succ, List.set_cons_zero, List.getElem?_cons_succ, List.getElem?_cons_zero, Option.map_some, Option.some.injEq, Bool.not_true, Bool.false_eq_true, decide_true, beq_self_eq_true, eq_self, ↓reduceIte, exists_eq_left', seat_T, bq_tf, int_bne, T_22, T_3, h10, tupS, hneg]
      · by_cases hbig : ((bs.length - cntP bs n : Nat) : Int) < unz (numA bs 11 n 0 0).2.1
        · have hc : cntOk bs n = false := by unfold cntOk; rw [hk, decide_eq_false (by unfold cntP at hbig hp; omega)]; rfl
          rw [hc]
          refine Seat.fn_of (f := fun20) (noS o 20 _ rfl) rfl rfl rfl ?_; simp only [fun20, Proofs.Try.f20, Seat.W_seq, Seat.W_region_false, Seat.rq_nil, Seat.rq_cons, Seat.rqK_some, Seat.seq_normal, s_step, guardOf, s_guard_true, s_assign, s_move, call_10, s_pure, s_setT, callS, callP, stripArgs, AV.stripA, strip_imm, IV.norm, mapEval, evalOp, ofValue, List.set_cons_succ, List.set_cons_zero, List.getElem?_cons_succ, List.getElem?_cons_zero, List.cons_append, List.nil_append, List.length_cons, List.length_nil, List.reduceReplicate, Option.map_some, Nat.reduceAdd, Nat.reduceSub, Nat.zero_add, Bool.false_eq_true, ↓reduceIte, seat_T]
          simp only [Seat.W_seq, Seat.W_region_false, Seat.W_ret, Seat.cond_eq, Seat.condK_true, Seat.rq_nil, Seat.rq_cons, Seat.rqK_some, Seat.seq_normal, Seat.seq_ret, Seat.ret_ret, Seat.RetK, s_step, guardOf, s_guard_true, s_assign, s_move, s_pick, s_bin, s_extract, s_len, s_pure, s_setT, pickK, pickAV, binK, binAV, intBin, boolAV, intAV, extractK, lenK, lenAV, IV.norm, lendArgs, lendArg, lend_imm, resultsAV, resultAV, tupleOf, mapEval, evalOp, ofValue, List.set_cons_succ, List.set_cons_zero, List.getElem?_cons_succ, List.getElem?_cons_zero, Option.map_some, Option.some.injEq, Bool.not_true, Bool.false_eq_true, decide_true, decide_false, beq_self_eq_true, eq_self, gt_iff_lt, ↓reduceIte, exists_eq_left', seat_T, int_bne, T_22, h10, tupS, hneg, rob_len, e0, hbig]
        · have hc : cntOk bs n = true := by unfold cntOk; rw [hk, decide_eq_true (by unfold cntP at hbig hp; omega)]; rfl
          obtain ⟨_, hv, hle⟩ := cnt_facts hc
          rw [hv] at h10 hneg hbig
          have e1 : IntKind.wrap .i64 ((cntP bs n : Int) + (cntN bs n : Int)) = ((cntP bs n + cntN bs n : Nat) : Int) := by rw [wrap_i64 (by omega) (by omega)]; omega
          have hsl := slice_rob bs (cntP bs n) (cntP bs n + cntN bs n) (by omega) hle
          rw [hc]
          simp only [if_true]
          refine Seat.fn_of (f := fun20) (noS o 20 _ rfl) rfl rfl rfl ?_; simp only [fun20, Proofs.Try.f20, Seat.W_seq, Seat.W_region_false, Seat.rq_nil, Seat.rq_cons, Seat.rqK_some, Seat.seq_normal, s_step, guardOf, s_guard_true, s_assign, s_move, call_10, s_pure, s_setT, callS, callP, stripArgs, AV.stripA, strip_imm, IV.norm, mapEval, evalOp, ofValue, List.set_cons_succ, List.set_cons_zero, List.getElem?_cons_succ, List.getElem?_cons_zero, List.cons_append, List.nil_append, List.length_cons, List.length_nil, List.reduceReplicate, Option.map_some, Nat.reduceAdd, Nat.reduceSub, Nat.zero_add, seat_T]
          simp only [Seat.W_seq, Seat.W_region_false, Seat.W_ret, Seat.W_skip, Seat.cond_eq, Seat.condK_false, Seat.rq_nil, Seat.rq_cons, Seat.rqK_some, Seat.seq_normal, Seat.ret_ret, Seat.RetK, s_step, guardOf, s_guard_true, s_assign, s_move, s_pick, s_bin, s_extract, s_slice, s_len, s_convert, convK, s_pure, s_setT, pickK, pickAV, binK, binAV, intBin, boolAV, intAV, extractK, sliceStrK, lenK, lenAV, IV.norm, lendArgs, lendArg, lend_imm, rowsOf_sl, resultsAV, resultAV, tupleOf, optEval, mapEval, evalOp, ofValue, List.set_cons_succ, List.set_cons_zero, List.getElem?_cons_succ, List.getElem?_cons_zero, Option.map_some, Option.some.injEq, Bool.not_true, Bool.false_eq_true, decide_true, decide_false, beq_self_eq_true, eq_self, gt_iff_lt, ↓reduceIte, exists_eq_left', seat_T, int_bne, T_22, T_5, T_9, h10, tupS, hneg, rob_len, e0, hbig, e1, hsl, bor_rob, sub]

theorem fn37_clip (d : Nat) (ob : Nat → Option AObj) (l : List UInt8) (s : ByteArray) (hs : s.size ≤ 1048576) (hl : l.length ≤ 274877906944) (hd : ob d = none) :
    (seat o).fnO 37 d [.leaf (.clip (rowsOfBytes l)), .leaf (.imm (.str s))] ob = some (.leaf (.ap d (rowsOfBytes (l ++ bText s))), [(d, .tail 5 1 (l ++ bText s).length)]) := by
  have hnl := bInt_len (i64_nat (n := s.size) (by omega))
  have c1 : ∀ (d : Nat) (ob : Nat → Option AObj), ob d = none → (seat o).fnO 31 d [.leaf (.clip (rowsOfBytes l)), .leaf (.imm (.int .i64 (s.size : Int)))] ob = some (.leaf (.ap d (rowsOfBytes (l ++ bInt s.size))), [(d, .tail 5 1 (l ++ bInt s.size).length)]) := fun d ob hd => by
    rw [List.length_append]
    exact fn31_clip d ob l (s.size : Int) (by omega) (by omega) (by omega) hd
  have hsz : s.data.toList.length = s.size := by simp
  have hr : (l ++ bInt s.size).length + s.data.toList.length ≤ room := room_one' (by rw [List.length_append, hsz]; omega)
  have e2 : rowsOfBytes (l ++ bInt s.size) ++ rowsOfBytes s.data.toList = rowsOfBytes (l ++ bText s) := by rw [← rob_append, List.append_assoc]; rfl
  have e3 : (l ++ bInt s.size).length + s.data.toList.length = (l ++ bText s).length := by rw [← List.length_append, List.append_assoc]; rfl
  refine Seat.fnO_of (f := fun37) (ids := []) rfl rfl rfl rfl rfl ?_
  simp only [fun37, Proofs.Try.f37, Seat.W_seq, Seat.W_region_false, Seat.rq_nil, Seat.rq_cons, Seat.rqK_some, Seat.seq_normal, s_step, guardOf, s_guard_true, s_assign, s_move, s_len, s_pure, s_setT, intAV, lenK, lenAV, renAV, renLV, indexIn, mapEval, evalOp, ofValue, List.set_cons_succ, List.set_cons_zero, List.getElem?_cons_succ, List.getElem?_cons_zero, List.cons_append, List.nil_append, List.append_nil, List.length_cons, List.length_nil, List.map_cons, List.map_nil, List.reduceReplicate, Option.map_none, Nat.reduceAdd, Nat.reduceSub, Nat.zero_add, seat_T]
  simp only [Seat.env_grow, Seat.rq_cons, Seat.rqK_some, s_step, guardOf, s_guard_true, s_move, call_31, s_append, s_pure, s_setT, callOS, callOD, upds, appK, appR, appT, mapEval, evalOp, idsOf, AV.ids, LV.ids, LV.ids.idsAll, List.set_cons_succ, List.set_cons_zero, List.getElem?_cons_succ, List.getElem?_cons_zero, List.nil_append, List.append_nil, List.length_cons, List.length_nil, List.getD_cons_succ, List.getD_cons_zero, List.all_cons, List.all_nil, List.contains_cons, List.contains_nil, Nat.reduceAdd, Nat.reduceLT, Nat.zero_add, and_self, Bool.and_self, Bool.or_false, decide_true, beq_self_eq_true, eq_self, ↓reduceIte, seat_T, ob_getD, T_22, T_9, T_5, hd, c1, rob_all]
  rw [appE_ap (by rw [rob_len]; rfl) (by rw [rob_len, rob_len, Nat.mul_one]; exact hr), rob_len, rob_len, e2, e3]
  simp only [Seat.W_ret, Seat.rq_nil, Seat.rq_cons, Seat.rqK_some, Seat.seq_normal, s_step, guardOf, s_guard_true, s_assign, s_pure, s_setT, out_ret, OutK, handed, renAV, renLV, renObj, backName, backUpd, resultsAV, resultAV, tupleOf, evalOp, List.set_cons_succ, List.set_cons_zero, List.getElem?_cons_succ, List.getElem?_cons_zero, List.nil_append, List.length_nil, List.getD_cons_succ, List.getD_cons_zero, List.map_cons, List.map_nil, Nat.reduceLT, Nat.reduceLeDiff, eq_self, ↓reduceIte, seat_T]
theorem fn21 (d : Nat) (ob : Nat → Option AObj) (l : List UInt8) (s : ByteArray) (hs : s.size ≤ 1048576) (hl : l.length ≤ 274877906944) (hd : ob d = none) :
    (seat o).fnO 21 d [.leaf (.imm (.sl (rowsOfBytes l))), .leaf (.imm (.str s))] ob = some (.leaf (.ap d (rowsOfBytes (l ++ bText s))), [(d, .tail 5 1 (l ++ bText s).length)]) := by
  have h33 := fn33 l (by omega)
  refine Seat.fnO_of (f := fun21) (ids := []) rfl rfl rfl rfl rfl ?_
  simp only [fun21, Proofs.Try.f21, Seat.W_seq, Seat.W_region_false, Seat.rq_nil, Seat.rq_cons, Seat.rqK_some, Seat.seq_normal, s_step, guardOf, s_guard_true, s_assign, s_move, call_33, s_pure, s_setT, callS, callP, renAV, renLV, indexIn, stripArgs, AV.stripA, strip_imm, IV.norm, mapEval, evalOp, ofValue, List.set_cons_succ, List.set_cons_zero, List.getElem?_cons_succ, List.getElem?_cons_zero, List.cons_append, List.nil_append, List.append_nil, List.length_cons, List.length_nil, List.map_cons, List.map_nil, List.reduceReplicate, Option.map_some, Option.map_none, Nat.reduceAdd, Nat.reduceSub, Nat.zero_add, seat_T]
  simp only [Seat.W_ret, Seat.rq_nil, Seat.rq_cons, Seat.rqK_some, Seat.seq_normal, s_step, guardOf, s_guard_true, s_assign, s_move, call_32, call_37, s_pure, s_setT, callOS, callOD, upds, out_ret, OutK, handed, renAV, renLV, renObj, backName, backUpd, resultsAV, resultAV, tupleOf, mapEval, evalOp, idsOf, AV.ids, LV.ids, LV.ids.idsAll, List.set_cons_succ, List.set_cons_zero, List.getElem?_cons_succ, List.getElem?_cons_zero, List.nil_append, List.append_nil, List.length_cons, List.length_nil, List.getD_cons_succ, List.getD_cons_zero, List.all_cons, List.all_nil, List.map_cons, List.map_nil, List.contains_cons, List.contains_nil, Nat.reduceAdd, Nat.reduceLT, Nat.reduceLeDiff, Nat.zero_add, Bool.and_self, Bool.or_false, decide_true, beq_self_eq_true, eq_self, ↓reduceIte, seat_T, ob_getD, h33, fn32, fn37_clip _ _ l s hs hl, hd]
theorem fn22 (d : Nat) (ob : Nat → Option AObj) (l : List UInt8) (s : ByteArray) (hs : s.size ≤ 1048576) (hl : l.length ≤ 274877906944) (hd : ob d = none) :
    (seat o).fnO 22 d [.leaf (.imm (.sl (rowsOfBytes l))), .leaf (.imm (.str s))] ob = some (.leaf (.ap d (rowsOfBytes (l ++ bText s))), [(d, .tail 5 1 (l ++ bText s).length)]) := by
  have hnl := bInt_len (i64_nat (n := s.size) (by omega))
  have c1 : ∀ (d : Nat) (ob : Nat → Option AObj), ob d = none → (seat o).fnO 13 d [.leaf (.imm (.sl (rowsOfBytes l))), .leaf (.imm (.int .i64 (s.size : Int)))] ob = some (.leaf (.ap d (rowsOfBytes (l ++ bInt s.size))), [(d, .tail 5 1 (l ++ bInt s.size).length)]) := fun d ob hd => by
    rw [List.length_append]
    exact fn13 d ob l (s.size : Int) (by omega) (by omega) (by omega) hd
  have hsz : s.data.toList.length = s.size := by simp
  have hr : (l ++ bInt s.size).length + s.data.toList.length ≤ room := room_one' (by rw [List.length_append, hsz]; omega)
  have e2 : rowsOfBytes (l ++ bInt s.size) ++ rowsOfBytes s.data.toList = rowsOfBytes (l ++ bText s) := by rw [← rob_append, List.append_assoc]; rfl
  have e3 : (l ++ bInt s.size).length + s.data.toList.length = (l ++ bText s).length := by rw [← List.length_append, List.append_assoc]; rfl
  refine Seat.fnO_of (f := fun22) (ids := []) rfl rfl rfl rfl rfl ?_
  simp only [fun22, Proofs.Try.f22, Seat.W_seq, Seat.W_region_false, Seat.rq_nil, Seat.rq_cons, Seat.rqK_some, Seat.seq_normal, s_step, guardOf, s_guard_true, s_assign, s_move, s_len, s_pure, s_setT, intAV, lenK, lenAV, renAV, renLV, indexIn, mapEval, evalOp, ofValue, List.set_cons_succ, List.set_cons_zero, List.getElem?_cons_succ, List.getElem?_cons_zero, List.cons_append, List.nil_append, List.append_nil, List.length_cons, List.length_nil, List.map_cons, List.map_nil, List.reduceReplicate, Option.map_none, Nat.reduceAdd, Nat.reduceSub, Nat.zero_add, seat_T]
  simp only [Seat.env_grow, Seat.rq_cons, Seat.rqK_some, s_step, guardOf, s_guard_true, s_move, call_13, s_append, s_pure, s_setT, callOS, callOD, upds, appK, appR, appT, mapEval, evalOp, idsOf, AV.ids, LV.ids, LV.ids.idsAll, List.set_cons_succ, List.set_cons_zero, List.getElem?_cons_succ, List.getElem?_cons_zero, List.nil_append, List.append_nil, List.length_cons, List.length_nil, List.getD_cons_succ, List.getD_cons_zero, List.all_cons, List.all_nil, List.contains_cons, List.contains_nil, Nat.reduceAdd, Nat.reduceLT, Nat.zero_add, and_self, Bool.and_self, Bool.or_false, decide_true, beq_self_eq_true, eq_self, ↓reduceIte, seat_T, ob_getD, T_22, T_9, T_5, hd, c1, rob_all]
  rw [appE_ap (by rw [rob_len]; rfl) (by rw [rob_len, rob_len, Nat.mul_one]; exact hr), rob_len, rob_len, e2, e3]
  simp only [Seat.W_ret, Seat.rq_nil, Seat.rq_cons, Seat.rqK_some, Seat.seq_normal, s_step, guardOf, s_guard_true, s_assign, s_pure, s_setT, out_ret, OutK, handed, renAV, renLV, renObj, backName, backUpd, resultsAV, resultAV, tupleOf, evalOp, List.set_cons_succ, List.set_cons_zero, List.getElem?_cons_succ, List.getElem?_cons_zero, List.nil_append, List.length_nil, List.getD_cons_succ, List.getD_cons_zero, List.map_cons, List.map_nil, Nat.reduceLT, Nat.reduceLeDiff, eq_self, ↓reduceIte, seat_T]

theorem fn5 (bs : List UInt8) (s : ByteArray) (a : Int) (hl : bs.length ≤ 1048576) (hs : s.size ≤ 1048576) : (seat o).fn 5 [.leaf (.imm (.sl (rowsOfBytes bs))), .leaf (.imm (.str s)), .leaf (.imm (.int .i64 a))] = some (boolAV true) := by
  have h8 := fn8
  simp only [boolAV] at h8
  have e0 : IntKind.wrap .i64 ((bs.length : Int) + (s.size : Int)) = ((bs.length + s.size : Nat) : Int) := by rw [wrap_i64 (by omega) (by omega)]; omega
  by_cases h : (2000 : Int) < ((bs.length + s.size : Nat) : Int)
  · refine Seat.fn_of (f := fun5) (noS o 5 _ rfl) rfl rfl rfl ?_; simp only [fun5, Proofs.Try.f5, Seat.W_seq, Seat.W_region_false, Seat.rq_nil, Seat.rq_cons, Seat.rqK_some, Seat.seq_normal, s_step, guardOf, s_guard_true, s_assign, s_move, s_len, s_pure, s_setT, boolAV, intAV, lenK, lenAV, mapEval, evalOp, ofValue, List.set_cons_succ, List.set_cons_zero, List.getElem?_cons_succ, List.getElem?_cons_zero, List.cons_append, List.nil_append, List.length_cons, List.length_nil, List.reduceReplicate, Nat.reduceAdd, Nat.reduceSub, Nat.zero_add, seat_T]
    simp only [Seat.W_seq, Seat.W_region_false, Seat.W_ret, Seat.cond_eq, Seat.condK_true, Seat.rq_nil, Seat.rq_cons, Seat.rqK_some, Seat.seq_normal, Seat.seq_ret, Seat.ret_ret, Seat.RetK, s_step, guardOf, s_guard_true, s_assign, s_move, s_bin, s_len, call_8, s_pure, s_setT, binK, binAV, intBin, boolAV, intAV, lenK, lenAV, callS, callP, stripArgs, IV.norm, lendArgs, lendArg, lend_imm, resultsAV, resultAV, tupleOf, mapEval, evalOp, ofValue, List.set_cons_succ, List.set_cons_zero, List.getElem?_cons_succ, List.getElem?_cons_zero, Option.map_some, Option.some.injEq, decide_true, eq_self, gt_iff_lt, ↓reduceIte, exists_eq_left', seat_T, T_22, T_9, rob_len, e0, h, h8]
  · have h19 := fn19 bs a (by omega)
    have h20 := fn20 bs a (by omega)
    have c21 : ∀ (d : Nat) (ob : Nat → Option AObj), ob d = none → _ := fun d ob hd => fn21 d ob bs s hs (by omega) hd
    have c22 : ∀ (d : Nat) (ob : Nat → Option AObj), ob d = none → _ := fun d ob hd => fn22 d ob bs s hs (by omega) hd
    have h11 := fn11 (bs ++ bText s) (bs ++ bText s)
    rw [decide_eq_true rfl] at h11
    simp only [tupS, intAV, boolAV] at h19 h20 h11
    refine Seat.fn_of (f := fun5) (noS o 5 _ rfl) rfl rfl rfl ?_; simp only [fun5, Proofs.Try.f5, Seat.W_seq, Seat.W_region_false, Seat.rq_nil, Seat.rq_cons, Seat.rqK_some, Seat.seq_normal, s_step, guardOf, s_guard_true, s_assign, s_move, s_len, s_pure, s_setT, boolAV, intAV, lenK, lenAV, mapEval, evalOp, ofValue, List.set_cons_succ, List.set_cons_zero, List.getElem?_cons_succ, List.getElem?_cons_zero, List.cons_append, List.nil_append, List.length_cons, List.length_nil, List.reduceReplicate, Nat.reduceAdd, Nat.reduceSub, Nat.zero_add, seat_T]
    simp only [Seat.W_seq, Seat.W_region_false, Seat.W_ret, Seat.W_skip, Seat.cond_eq, Seat.condK_false, Seat.rq_nil, Seat.rq_cons, Seat.rqK_some, Seat.seq_normal, Seat.ret_ret, Seat.RetK, s_step, guardOf, s_guard_true, s_assign, s_move, s_pick, s_bin, s_extract, s_len, call_8, call_11, call_19, call_20, call_21, call_22, s_pure, s_setT, pickK, pickAV, binK, binAV, intBin, boolAV, intAV, strBin, extractK, lenK, lenAV, callS, callP, callOS, callOD, upds, stripArgs, AV.stripA, strip_imm, strip_ap, IV.norm, lendArgs, lendArg, lend_imm, resultsAV, resultAV, tupleOf, mapEval, evalOp, ofValue, idsOf, AV.ids, LV.ids, LV.ids.idsAll, List.set_cons_succ, List.set_cons_zero, List.getElem?_cons_succ, List.getElem?_cons_zero, List.nil_append, List.append_nil, List.length_cons, List.length_nil, List.getD_cons_succ, List.getD_cons_zero, List.all_cons, List.all_nil, List.contains_cons, List.contains_nil, Option.map_some, Option.some.injEq, Nat.reduceAdd, Nat.reduceLT, Nat.zero_add, Bool.and_self, Bool.or_false, decide_true, decide_false, beq_self_eq_true, eq_self, gt_iff_lt, ↓reduceIte, exists_eq_left', seat_T, ob_getD, T_22, T_9, rob_len, e0, h, h8, h19, h20, h11, c21, c22]
theorem str_arg {a : AV} (h : ArgOk 9 a) : ∃ s : ByteArray, a = .leaf (.imm (.str s)) ∧ s.size ≤ 1048576 := by
  obtain ⟨ty, fuel, xs, h1, h2, rfl, h3⟩ := h
  rw [T_9] at h1
  injection h1 with h1
  subst h1
  cases fuel with
  | zero => exact h2.elim
  | succ n =>
    simp only [IsT, T_9] at h2
    obtain ⟨s, rfl, _⟩ := h2
    refine ⟨s, by simp [argAV, TK.agg], ?_⟩
    simp only [IV.szRow, IV.sz] at h3
    omega
theorem law5 (l0 : List AV) (hl : l0.length = 3) (h : ∀ (j : Nat) t a, [22, 9, 3][j]? = some t → l0[j]? = some a → ArgOk t a) : (seat o).fn 5 l0 = some (boolAV true) := by
  obtain ⟨a, b, c, rfl, ha, hb, hc⟩ := three_args hl h
  obtain ⟨bs, rfl, hbs⟩ := bytes_arg ha
  obtain ⟨s, rfl, hs⟩ := str_arg hb
  obtain ⟨p, rfl, hp⟩ := int_arg hc
  exact fn5 bs s p hbs hs
end Go.Ai
