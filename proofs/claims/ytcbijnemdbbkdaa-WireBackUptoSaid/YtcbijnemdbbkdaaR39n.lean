/- What the program's readers answer. Where there are at most 16777216 bytes. -/
import Derived.Test.YtcbijnemdbbkdaaR39m
namespace Go.Ai
set_option linter.unusedVariables false
set_option linter.unusedSimpArgs false
set_option maxRecDepth 100000
set_option maxHeartbeats 4000000

/-- Where a reader is, and whether it has failed. -/
abbrev Rs := Int × Bool
def Good (bs : List UInt8) (r : Rs) : Prop := r.2 = false → ∃ a : Nat, r.1 = (a : Int) ∧ a ≤ bs.length
def rN (bs : List UInt8) (r : Rs) : Int × Rs := if r.2 then (0, r) else (if (numA bs 11 r.1.toNat 0 0).1 then unz (numA bs 11 r.1.toNat 0 0).2.1 else 0, ((numA bs 11 r.1.toNat 0 0).2.2 : Int), !(numA bs 11 r.1.toNat 0 0).1)
def rC (bs : List UInt8) (r : Rs) : Nat × Rs := if r.2 then (0, r) else (if cntOk bs r.1.toNat then cntN bs r.1.toNat else 0, (cntP bs r.1.toNat : Int), !cntOk bs r.1.toNat)
def rT (bs : List UInt8) (r : Rs) : ByteArray × Rs := if r.2 then (⟨#[]⟩, r) else if cntOk bs r.1.toNat then (sub bs (cntP bs r.1.toNat) (cntP bs r.1.toNat + cntN bs r.1.toNat), ((cntP bs r.1.toNat + cntN bs r.1.toNat : Nat) : Int), false) else (⟨#[]⟩, (cntP bs r.1.toNat : Int), true)
def rF (bs : List UInt8) (r : Rs) : Bool × Rs := if r.2 then (false, r) else match bs[r.1.toNat]? with
  | none => (false, r.1, true)
  | some c => if 1 < c.toNat then (false, r.1, true) else (decide (c.toNat = 1), ((r.1.toNat + 1 : Nat) : Int), false)
def rdrO (bs : List UInt8) (r : Rs) : AObj := rdr bs r.1 r.2

theorem rN_good {bs : List UInt8} {r : Rs} (h : Good bs r) : Good bs (rN bs r).2 := by
  unfold rN
  split
  · exact h
  · rename_i hr
    obtain ⟨a, ha, hl⟩ := h (by simpa using hr)
    rw [ha, Int.toNat_natCast]
    intro _
    exact ⟨_, rfl, numA_at bs 11 a 0 0 hl⟩
theorem rC_good {bs : List UInt8} {r : Rs} (h : Good bs r) : Good bs (rC bs r).2 := by
  unfold rC
  split
  · exact h
  · rename_i hr
    obtain ⟨a, ha, hl⟩ := h (by simpa using hr)
    rw [ha, Int.toNat_natCast]
    intro _
    exact ⟨_, rfl, numA_at bs 11 a 0 0 hl⟩
theorem rT_good {bs : List UInt8} {r : Rs} (h : Good bs r) : Good bs (rT bs r).2 := by
  unfold rT
  split
  · exact h
  · split
    · rename_i hr hc
      intro _
      exact ⟨_, rfl, (cnt_facts hc).2.2⟩
    · intro h; cases h
theorem rF_good {bs : List UInt8} {r : Rs} (h : Good bs r) : Good bs (rF bs r).2 := by
  unfold rF
  split
  · exact h
  · split
    · intro h; cases h
    · rename_i c hc
      obtain ⟨hi, _⟩ := List.getElem?_eq_some_iff.1 hc
      split
      · intro h; cases h
      · intro _; exact ⟨_, rfl, by omega⟩
theorem rC_le {bs : List UInt8} {r : Rs} (h : Good bs r) : (rC bs r).1 ≤ bs.length := by
  unfold rC
  split
  · exact Nat.zero_le _
  · by_cases hc : cntOk bs r.1.toNat = true
    · rw [if_pos hc]; have := (cnt_facts hc).2.2; omega
    · rw [if_neg hc]; exact Nat.zero_le _

theorem read30 (id d : Nat) (ob : Nat → Option AObj) (bs : List UInt8) (r : Rs) (hl : bs.length ≤ 16777216) (hg : Good bs r) (ho : ob id = some (rdrO bs r)) :
    (seat o).fnO 30 d [.leaf (.ptr id 0 0)] ob = some (intAV .i64 (rN bs r).1, [(id, rdrO bs (rN bs r).2)]) := by
  obtain ⟨p, b⟩ := r
  cases b with
  | true => exact fn30_bad id d ob bs p ho
  | false =>
    obtain ⟨a, ha, hle⟩ := hg rfl
    simp only at ha
    subst ha
    rw [fn30 id d ob bs a (by omega) hle ho]
    simp only [rN, rdrO, Bool.false_eq_true, if_false, Int.toNat_natCast]
theorem read48 (id d : Nat) (ob : Nat → Option AObj) (bs : List UInt8) (r : Rs) (hl : bs.length ≤ 16777216) (hg : Good bs r) (ho : ob id = some (rdrO bs r)) :
    (seat o).fnO 48 d [.leaf (.ptr id 0 0)] ob = some (intAV .i64 ((rC bs r).1 : Int), [(id, rdrO bs (rC bs r).2)]) := by
  obtain ⟨p, b⟩ := r
  cases b with
  | true => exact fn48_bad id d ob bs p ho
  | false =>
    obtain ⟨a, ha, hle⟩ := hg rfl
    simp only at ha
    subst ha
    rw [fn48 id d ob bs a (by omega) hle ho]
    simp only [rC, rdrO, Bool.false_eq_true, if_false, Int.toNat_natCast]
    cases cntOk bs a <;> rfl
theorem read36 (id d : Nat) (ob : Nat → Option AObj) (bs : List UInt8) (r : Rs) (hl : bs.length ≤ 16777216) (hg : Good bs r) (ho : ob id = some (rdrO bs r)) :
    (seat o).fnO 36 d [.leaf (.ptr id 0 0)] ob = some (.leaf (.imm (.str (rT bs r).1)), [(id, rdrO bs (rT bs r).2)]) := by
  obtain ⟨p, b⟩ := r
  cases b with
  | true => exact fn36_bad id d ob bs p ho
  | false =>
    obtain ⟨a, ha, hle⟩ := hg rfl
    simp only at ha
    subst ha
    rw [fn36 id d ob bs a (by omega) hle ho]
    simp only [rT, rdrO, Bool.false_eq_true, if_false, Int.toNat_natCast]
    cases cntOk bs a <;> rfl
theorem read52 (id d : Nat) (ob : Nat → Option AObj) (bs : List UInt8) (r : Rs) (hl : bs.length ≤ 16777216) (hg : Good bs r) (ho : ob id = some (rdrO bs r)) :
    (seat o).fnO 52 d [.leaf (.ptr id 0 0)] ob = some (boolAV (rF bs r).1, [(id, rdrO bs (rF bs r).2)]) := by
  obtain ⟨p, b⟩ := r
  cases b with
  | true =>
    have c46 : ∀ (d : Nat) (ob : Nat → Option AObj), ob 47 = some (rdr bs p true) → _ := fun d ob ho => fn46 47 d ob bs p true ho
    simp only [rdr, intAV] at c46
    simp only [rdrO, rdr] at ho
    refine Seat.fnO_of (f := fun52) (ids := [id]) rfl rfl rfl rfl (by simp [idsAV, once, AV.ids, LV.ids, ho]) ?_
    simp only [fun52, Proofs.Try.f52, Seat.W_seq, Seat.W_region_false, Seat.W_region_true, Seat.rq_nil, Seat.rq_cons, Seat.rqK_some, Seat.rg_cons, Seat.rgK_some, Seat.seq_normal, s_step, guardOf, s_guard_true, s_assign, s_move, s_fieldAddr, s_nilCheck, s_pure, s_setT, boolAV, fieldAddrK, nilK, renAV, renLV, indexIn, evalOp, ofValue, footA, pureCall, quietOp, readsT, writesT, guardLoc, tmpLoc, touch, looksOp, Op.operands, List.set_cons_succ, List.set_cons_zero, List.getElem?_cons_succ, List.getElem?_cons_zero, List.cons_append, List.nil_append, List.append_nil, List.length_cons, List.length_nil, List.map_cons, List.map_nil, List.flatMap_cons, List.flatMap_nil, List.reduceReplicate, Option.map_some, Option.map_none, Option.toList_some, Option.some.injEq, Nat.reduceAdd, Nat.reduceSub, Nat.reduceMul, Nat.zero_add, Bool.or_false, Bool.false_eq_true, reduceCtorEq, eq_self, ↓reduceIte, seat_T]
    simp only [Seat.W_seq, Seat.W_region_false, Seat.W_ret, Seat.cond_eq, Seat.condK_true, Seat.rq_nil, Seat.rq_cons, Seat.rqK_some, Seat.rg_nil, Seat.rg_cons, Seat.rgK_some, Seat.endQ, Seat.seq_normal, Seat.seq_ret, s_step, guardOf, s_guard_true, s_guard_false, s_assign, s_move, s_pick, s_bin, s_fieldAddr, s_indexAddr, s_load, s_nilCheck, call_40, call_46, s_pure, s_setT, loadK, loadC, pickK, pickAV, binK, binAV, cmpAV, intBin, boolAV, fieldAddrK, indexAddrK, nilK, callOS, callOD, upds, out_ret, OutK, handed, renAV, renLV, renObj, backUpd, resultsAV, resultAV, tupleOf, mkAV, TK.agg, mapEval, evalOp, ofValue, footA, pureCall, quietOp, readsT, writesT, guardLoc, tmpLoc, touch, looksOp, idsOf, AV.ids, LV.ids, LV.ids.idsAll, Op.operands, Call.operands, List.set_cons_succ, List.set_cons_zero, List.getElem?_cons_succ, List.getElem?_cons_zero, List.cons_append, List.nil_append, List.append_nil, List.length_cons, List.length_nil, List.getD_cons_succ, List.getD_cons_zero, List.all_cons, List.all_nil, List.map_cons, List.map_nil, List.drop_succ_cons, List.drop_zero, List.take_succ_cons, List.take_nil, List.flatMap_cons, List.flatMap_nil, List.contains_cons, List.contains_nil, Option.map_some, Option.getD_some, Option.toList_some, Option.some.injEq, Nat.reduceAdd, Nat.reduceMul, Nat.reduceLT, Nat.reduceBEq, Nat.zero_add, Nat.add_zero, Nat.le_refl, and_self, and_true, Bool.and_self, Bool.or_false, Bool.not_true, Bool.false_eq_true, reduceCtorEq, decide_true, beq_self_eq_true, eq_self, ↓reduceIte, seat_T, ob_getD, bq_tf, int_bne, T_55, T_22, T_5, T_3, T_4, ho, rdrO, rdr, rF, c46]
    exact ord_of (by kernel_rfl)
  | false =>
    obtain ⟨a, ha, hle⟩ := hg rfl
    simp only at ha
    subst ha
    have c40 : ∀ (d : Nat) (ob : Nat → Option AObj), ob 47 = some (rdr bs (a : Int) false) → _ := fun d ob ho => fn40 47 d ob bs a false (by omega) hle ho
    have c46 : ∀ (d : Nat) (ob : Nat → Option AObj), ob 47 = some (rdr bs (a : Int) false) → _ := fun d ob ho => fn46 47 d ob bs (a : Int) false ho
    simp only [rdr, intAV] at c40 c46
    simp only [rdrO, rdr] at ho
    cases hc : bs[a]? with
    | none =>
      have hz : ((bs.length - a : Nat) : Int) = 0 := by have := List.getElem?_eq_none_iff.1 hc; omega
      rw [hz] at c40
      refine Seat.fnO_of (f := fun52) (ids := [id]) rfl rfl rfl rfl (by simp [idsAV, once, AV.ids, LV.ids, ho]) ?_
      simp only [fun52, Proofs.Try.f52, Seat.W_seq, Seat.W_region_false, Seat.W_region_true, Seat.rq_nil, Seat.rq_cons, Seat.rqK_some, Seat.rg_cons, Seat.rgK_some, Seat.seq_normal, s_step, guardOf, s_guard_true, s_assign, s_move, s_fieldAddr, s_nilCheck, s_pure, s_setT, boolAV, fieldAddrK, nilK, renAV, renLV, indexIn, evalOp, ofValue, footA, pureCall, quietOp, readsT, writesT, guardLoc, tmpLoc, touch, looksOp, Op.operands, List.set_cons_succ, List.set_cons_zero, List.getElem?_cons_succ, List.getElem?_cons_zero, List.cons_append, List.nil_append, List.append_nil, List.length_cons, List.length_nil, List.map_cons, List.map_nil, List.flatMap_cons, List.flatMap_nil, List.reduceReplicate, Option.map_some, Option.map_none, Option.toList_some, Option.some.injEq, Nat.reduceAdd, Nat.reduceSub, Nat.reduceMul, Nat.zero_add, Bool.or_false, Bool.false_eq_true, reduceCtorEq, eq_self, ↓reduceIte, seat_T]
      simp only [Seat.W_seq, Seat.W_region_false, Seat.W_ret, Seat.cond_eq, Seat.condK_true, Seat.rq_nil, Seat.rq_cons, Seat.rqK_some, Seat.rg_nil, Seat.rg_cons, Seat.rgK_some, Seat.endQ, Seat.seq_normal, Seat.seq_ret, s_step, guardOf, s_guard_true, s_guard_false, s_assign, s_move, s_pick, s_bin, s_fieldAddr, s_indexAddr, s_load, s_nilCheck, call_40, call_46, s_pure, s_setT, loadK, loadC, pickK, pickAV, binK, binAV, cmpAV, intBin, boolAV, fieldAddrK, indexAddrK, nilK, callOS, callOD, upds, out_ret, OutK, handed, renAV, renLV, renObj, backUpd, resultsAV, resultAV, tupleOf, mkAV, TK.agg, mapEval, evalOp, ofValue, footA, pureCall, quietOp, readsT, writesT, guardLoc, tmpLoc, touch, looksOp, idsOf, AV.ids, LV.ids, LV.ids.idsAll, Op.operands, Call.operands, List.set_cons_succ, List.set_cons_zero, List.getElem?_cons_succ, List.getElem?_cons_zero, List.cons_append, List.nil_append, List.append_nil, List.length_cons, List.length_nil, List.getD_cons_succ, List.getD_cons_zero, List.all_cons, List.all_nil, List.map_cons, List.map_nil, List.drop_succ_cons, List.drop_zero, List.take_succ_cons, List.take_nil, List.flatMap_cons, List.flatMap_nil, List.contains_cons, List.contains_nil, Option.map_some, Option.getD_some, Option.toList_some, Option.some.injEq, Nat.reduceAdd, Nat.reduceMul, Nat.reduceLT, Nat.reduceBEq, Nat.zero_add, Nat.add_zero, Nat.le_refl, Int.toNat_natCast, and_self, and_true, Bool.and_self, Bool.or_false, Bool.or_true, Bool.not_true, Bool.false_eq_true, reduceCtorEq, decide_true, beq_self_eq_true, eq_self, ↓reduceIte, seat_T, seat_O, ob_getD, bq_tf, int_bne, T_55, T_22, T_5, T_3, T_4, ho, rdrO, rdr, rF, hc, c40, c46]
      exact ord_of (by kernel_rfl)
    | some c =>
      have hlt := (List.getElem?_eq_some_iff.1 hc).1
      have hz : ¬ (bs.length - a) = 0 := by omega
      have hz' : ¬ ((bs.length - a : Nat) : Int) = 0 := by omega
      have e1 : IntKind.wrap .i64 ((a : Int) + 1) = ((a + 1 : Nat) : Int) := wrap_i64 (by omega) (by omega)
      have e2 : IntKind.wrap .i64 (((a + 1 : Nat) : Int) - 1) = (a : Int) := by rw [wrap_i64 (by omega) (by omega)]; omega
      have hgt : (rowsOfBytes bs)[a]? = some [.int .u8 (c.toNat : Int)] := by rw [rob_get, hc]; rfl
      by_cases h1 : 1 < c.toNat
      · have h1' : (1 : Int) < (c.toNat : Int) := by omega
        refine Seat.fnO_of (f := fun52) (ids := [id]) rfl rfl rfl rfl (by simp [idsAV, once, AV.ids, LV.ids, ho]) ?_
        simp only [fun52, Proofs.Try.f52, Seat.W_seq, Seat.W_region_false, Seat.W_region_true, Seat.rq_nil, Seat.rq_cons, Seat.rqK_some, Seat.rg_cons, Seat.rgK_some, Seat.seq_normal, s_step, guardOf, s_guard_true, s_assign, s_move, s_fieldAddr, s_nilCheck, s_pure, s_setT, boolAV, fieldAddrK, nilK, renAV, renLV, indexIn, evalOp, ofValue, footA, pureCall, quietOp, readsT, writesT, guardLoc, tmpLoc, touch, looksOp, Op.operands, List.set_cons_succ, List.set_cons_zero, List.getElem?_cons_succ, List.getElem?_cons_zero, List.cons_append, List.nil_append, List.append_nil, List.length_cons, List.length_nil, List.map_cons, List.map_nil, List.flatMap_cons, List.flatMap_nil, List.reduceReplicate, Option.map_some, Option.map_none, Option.toList_some, Option.some.injEq, Nat.reduceAdd, Nat.reduceSub, Nat.reduceMul, Nat.zero_add, Bool.or_false, Bool.false_eq_true, reduceCtorEq, eq_self, ↓reduceIte, seat_T]
        simp only [Seat.W_seq, Seat.W_region_false, Seat.W_ret, Seat.cond_eq, Seat.condK_true, Seat.rq_nil, Seat.rq_cons, Seat.rqK_some, Seat.rg_nil, Seat.rg_cons, Seat.rgK_some, Seat.endQ, Seat.seq_normal, Seat.seq_ret, s_step, guardOf, s_guard_true, s_assign, s_move, s_pick, s_bin, s_fieldAddr, s_indexAddr, s_load, s_nilCheck, call_40, call_46, s_pure, s_setT, loadK, loadC, pickK, pickAV, binK, binAV, intBin, boolAV, fieldAddrK, elemK, indexAddrK, indexRow, nilK, callOS, callOD, upds, out_ret, OutK, handed, renAV, renLV, renObj, backUpd, rowsOf_sl, resultsAV, resultAV, tupleOf, mkAV, TK.agg, mapEval, evalOp, ofValue, footA, pureCall, quietOp, readsT, writesT, guardLoc, tmpLoc, touch, looksOp, idsOf, AV.ids, LV.ids, LV.ids.idsAll, Op.operands, Call.operands, List.set_cons_succ, List.set_cons_zero, List.getElem?_cons_succ, List.getElem?_cons_zero, List.cons_append, List.nil_append, List.append_nil, List.length_cons, List.length_nil, List.getD_cons_succ, List.getD_cons_zero, List.all_cons, List.all_nil, List.map_cons, List.map_nil, List.drop_succ_cons, List.drop_zero, List.take_succ_cons, List.take_zero, List.take_nil, List.flatMap_cons, List.flatMap_nil, List.contains_cons, List.contains_nil, Option.map_some, Option.getD_some, Option.toList_some, Option.some.injEq, Nat.reduceAdd, Nat.reduceMul, Nat.reduceLT, Nat.reduceLeDiff, Nat.reduceBEq, Nat.zero_add, Nat.add_zero, Nat.le_refl, Int.toNat_natCast, Int.natCast_nonneg, and_self, and_true, Bool.and_self, Bool.or_false, Bool.or_true, Bool.not_true, Bool.false_eq_true, reduceCtorEq, decide_true, decide_false, beq_self_eq_true, eq_self, gt_iff_lt, ↓reduceIte, seat_T, seat_O, ob_getD, int_beq, int_bne, T_55, T_22, T_5, T_3, T_4, ho, rdrO, rdr, rF, hc, c40, c46, hz', hgt, h1, h1']
        exact ord_of (by kernel_rfl)
      · have h1' : ¬ (1 : Int) < (c.toNat : Int) := by omega
        have h2 : decide ((c.toNat : Int) = 1) = decide (c.toNat = 1) := by congr 1; exact propext ⟨fun h => by omega, fun h => by omega⟩
        refine Seat.fnO_of (f := fun52) (ids := [id]) rfl rfl rfl rfl (by simp [idsAV, once, AV.ids, LV.ids, ho]) ?_
        simp only [fun52, Proofs.Try.f52, Seat.W_seq, Seat.W_region_false, Seat.W_region_true, Seat.rq_nil, Seat.rq_cons, Seat.rqK_some, Seat.rg_cons, Seat.rgK_some, Seat.seq_normal, s_step, guardOf, s_guard_true, s_assign, s_move, s_fieldAddr, s_nilCheck, s_pure, s_setT, boolAV, fieldAddrK, nilK, renAV, renLV, indexIn, evalOp, ofValue, footA, pureCall, quietOp, readsT, writesT, guardLoc, tmpLoc, touch, looksOp, Op.operands, List.set_cons_succ, List.set_cons_zero, List.getElem?_cons_succ, List.getElem?_cons_zero, List.cons_append, List.nil_append, List.append_nil, List.length_cons, List.length_nil, List.map_cons, List.map_nil, List.flatMap_cons, List.flatMap_nil, List.reduceReplicate, Option.map_some, Option.map_none, Option.toList_some, Option.some.injEq, Nat.reduceAdd, Nat.reduceSub, Nat.reduceMul, Nat.zero_add, Bool.or_false, Bool.false_eq_true, reduceCtorEq, eq_self, ↓reduceIte, seat_T]
        simp only [Seat.W_seq, Seat.W_region_false, Seat.W_region_true, Seat.W_ret, Seat.W_skip, Seat.cond_eq, Seat.condK_false, Seat.rq_nil, Seat.rq_cons, Seat.rqK_some, Seat.rg_nil, Seat.rg_cons, Seat.rgK_some, Seat.endQ, Seat.seq_normal, s_step, guardOf, s_guard_true, s_assign, s_move, s_pick, s_bin, s_fieldAddr, s_indexAddr, s_load, s_store, s_nilCheck, call_40, s_pure, s_setT, s_setN, storeS, storeK, loadK, loadC, pickK, pickAV, binK, binAV, intBin, boolAV, intAV, fieldAddrK, elemK, indexAddrK, indexRow, nilK, callOS, callOD, upds, out_ret, OutK, handed, renAV, renLV, renObj, backUpd, rowsOf_sl, resultsAV, resultAV, tupleOf, mkAV, TK.agg, setRange, mapEval, evalOp, ofValue, AV.leaves, solid_imm, footA, pureCall, quietOp, readsT, writesT, guardLoc, tmpLoc, touch, looksOp, idsOf, AV.ids, LV.ids, LV.ids.idsAll, Op.operands, Call.operands, List.set_cons_succ, List.set_cons_zero, List.getElem?_cons_succ, List.getElem?_cons_zero, List.cons_append, List.nil_append, List.append_nil, List.length_cons, List.length_nil, List.getD_cons_succ, List.getD_cons_zero, List.all_cons, List.all_nil, List.map_cons, List.map_nil, List.drop_succ_cons, List.drop_zero, List.take_succ_cons, List.take_zero, List.take_nil, List.flatMap_cons, List.flatMap_nil, List.contains_cons, List.contains_nil, Option.map_some, Option.getD_some, Option.toList_some, Option.some.injEq, Nat.reduceAdd, Nat.reduceMul, Nat.reduceLT, Nat.reduceLeDiff, Nat.reduceBEq, Nat.zero_add, Nat.add_zero, Nat.le_refl, Int.toNat_natCast, Int.natCast_nonneg, and_self, and_true, Bool.and_self, Bool.or_false, Bool.or_true, Bool.not_true, Bool.false_eq_true, reduceCtorEq, decide_true, decide_false, beq_self_eq_true, eq_self, gt_iff_lt, ↓reduceIte, seat_T, seat_O, ob_getD, int_beq, T_55, T_22, T_5, T_3, T_4, ho, rdrO, rdr, rF, hc, c40, hz', hgt, h1, h1', e1, e2, h2]
        exact ⟨ord_of (by kernel_rfl), ord_of (by kernel_rfl)⟩

/-- A list of what a reader gets. -/
def rL {α : Type} (get : Rs → α × Rs) : Nat → Rs → List α × Rs
  | 0, r => ([], r)
  | n + 1, r => if r.2 then ([], r) else ((get r).1 :: (rL get n (get r).2).1, (rL get n (get r).2).2)
theorem rL_len {α : Type} (get : Rs → α × Rs) : ∀ (n : Nat) (r : Rs), (rL get n r).1.length ≤ n := by
  intro n
  induction n with
  | zero => intro r; exact Nat.le_refl _
  | succ n ih =>
    intro r
    unfold rL
    split
    · exact Nat.zero_le _
    · have := ih (get r).2
      simp only [List.length_cons]
      omega
theorem rL_good {α : Type} {bs : List UInt8} {get : Rs → α × Rs} (hg : ∀ r, Good bs r → Good bs (get r).2) : ∀ (n : Nat) (r : Rs), Good bs r → Good bs (rL get n r).2 := by
  intro n
  induction n with
  | zero => intro r h; exact h
  | succ n ih =>
    intro r h
    unfold rL
    split
    · exact h
    · exact ih _ (hg r h)
theorem room_of {n k : Nat} (h : n ≤ 16777216) (hk : k ≤ 1048576) : n * k ≤ room := by
  have : n * k ≤ 16777216 * 1048576 := Nat.mul_le_mul h hk
  unfold room
  omega

theorem read49 (id d : Nat) (ob : Nat → Option AObj) (bs : List UInt8) (r : Rs) (hl : bs.length ≤ 16777216) (hg : Good bs r) (ho : ob id = some (rdrO bs r)) (hd : ob d = none) :
    (seat o).fnO 49 d [.leaf (.ptr id 0 0), .leaf (.func 30 [.ptr id 0 0] [])] ob = some (.leaf (.ap d (ints (rL (rN bs) (rC bs r).1 (rC bs r).2).1)), [(id, rdrO bs (rL (rN bs) (rC bs r).1 (rC bs r).2).2), (d, .tail 3 1 (rL (rN bs) (rC bs r).1 (rC bs r).2).1.length)]) := by
  have c48 : ∀ (d : Nat) (ob : Nat → Option AObj), ob 28 = some (rdrO bs r) → _ := fun d ob ho => read48 28 d ob bs r hl hg ho
  have hcl := rC_le hg
  have hcg := rC_good hg
  obtain ⟨N, hN⟩ : ∃ N, N = (rC bs r).1 := ⟨_, rfl⟩
  obtain ⟨R, hR⟩ : ∃ R, R = (rC bs r).2 := ⟨_, rfl⟩
  rw [← hN, ← hR] at c48
  rw [← hN] at hcl
  rw [← hR] at hcg
  rw [← hN, ← hR]
  obtain ⟨F, hF⟩ : ∃ F, F = rL (rN bs) N R := ⟨_, rfl⟩
  rw [← hF]
  simp only [rdrO, rdr, intAV] at c48 ho
  refine Seat.fnO_of (f := fun49) (ids := [id]) rfl rfl rfl rfl (by simp [idsAV, once, AV.ids, LV.ids, LV.ids.idsAll, ho]) ?_
  simp only [fun49, Proofs.Try.f49, Seat.W_seq, Seat.W_region_false, Seat.rq_nil, Seat.rq_cons, Seat.rqK_some, Seat.seq_normal, s_step, guardOf, s_guard_true, s_assign, s_move, call_48, s_pure, s_setT, callOS, callOD, renAV, renLV, renLV.renAll, indexIn, mapEval, evalOp, ofValue, idsOf, AV.ids, LV.ids, LV.ids.idsAll, List.set_cons_succ, List.set_cons_zero, List.getElem?_cons_succ, List.getElem?_cons_zero, List.cons_append, List.nil_append, List.append_nil, List.length_cons, List.length_nil, List.map_cons, List.map_nil, List.reduceReplicate, List.contains_cons, List.contains_nil, Option.map_some, Option.map_none, Nat.reduceAdd, Nat.reduceSub, Nat.zero_add, Bool.or_false, eq_self, ↓reduceIte, seat_T]
  simp only [Seat.W_seq, Seat.W_block, Seat.W_loop, Seat.W_region_false, Seat.rq_nil, Seat.rq_cons, Seat.rqK_some, Seat.seq_normal, s_step, guardOf, s_guard_true, s_assign, s_pure, s_setT, upds, renLV, renObj, evalOp, ofValue, LV.ids, LV.ids.idsAll, List.set_cons_succ, List.set_cons_zero, List.getElem?_cons_succ, List.getElem?_cons_zero, List.append_nil, List.length_cons, List.length_nil, List.getD_cons_succ, List.getD_cons_zero, List.all_cons, List.all_nil, List.map_cons, List.map_nil, List.contains_cons, List.contains_nil, Option.map_some, Option.map_none, Option.getD_some, Nat.reduceAdd, Nat.reduceLT, Nat.reduceLeDiff, Nat.reduceBEq, Nat.zero_add, Nat.le_refl, Bool.and_self, Bool.or_false, Bool.or_true, Bool.false_eq_true, decide_true, decide_false, beq_self_eq_true, eq_self, ↓reduceIte, seat_T, ob_getD, keepSt, keepTmps, keepObjs, kept, keepAV, keepLV_imm, keepLV_ptr, keepLV_func, keepObj, promote, promoteT, seedLV, seedObj, firstRegion, k49, ho, hd, rdrO, rdr, c48]
  refine Seat.loop_by (fun s : List Int × Rs => L49_4 (.leaf (.ptr 28 0 0)) (.leaf (.func 30 [.ptr 28 0 0] [])) (intAV .i64 (N : Int)) (.leaf (.ap 26 (ints s.1))) (intAV .i64 (s.1.length : Int)) none (some (.tail 3 1 s.1.length)) [some (rdrO bs s.2)]) (fun s => Good bs s.2 ∧ s.1.length ≤ N ∧ (s.1 ++ (rL (rN bs) (N - s.1.length) s.2).1, (rL (rN bs) (N - s.1.length) s.2).2) = F) (fun s => N - s.1.length) ([], R) rfl ⟨hcg, Nat.zero_le _, by rw [hF]; rfl⟩ ?_
  rintro ⟨l, q⟩ ⟨hq, hle, hv⟩
  simp only at hq hle hv
  by_cases hlt : l.length < N
  · obtain ⟨m, hm⟩ : ∃ m, N - l.length = m + 1 := ⟨N - l.length - 1, by omega⟩
    rw [hm, rL] at hv
    cases hb : q.2 with
    | true =>
      rw [hb] at hv
      simp only [if_true, List.append_nil] at hv
      subst hv
      simp only [L49_4, Seat.W_seq, Seat.W_region_false, Seat.W_exit, Seat.W_ret, Seat.cond_eq, Seat.condK_false, Seat.rq_nil, Seat.rq_cons, Seat.rqK_some, Seat.seq_normal, Seat.seq_exit, Seat.blk_exit, loopEnd_exit, s_step, guardOf, s_guard_true, s_assign, s_move, s_pick, s_bin, s_un, s_fieldAddr, s_load, s_nilCheck, s_pure, s_setT, loadK, loadC, pickK, pickAV, binK, binAV, intBin, boolAV, intAV, unAV, fieldAddrK, nilK, out_ret, OutK, handed, renAV, renLV, renObj, backName, backUpd, resultsAV, resultAV, tupleOf, mkAV, TK.agg, evalOp, ofValue, List.set_cons_succ, List.set_cons_zero, List.getElem?_cons_succ, List.getElem?_cons_zero, List.cons_append, List.nil_append, List.length_cons, List.length_nil, List.getD_cons_succ, List.getD_cons_zero, List.map_cons, List.map_nil, List.drop_succ_cons, List.drop_zero, List.take_succ_cons, List.take_nil, Option.bind_some, Option.getD_some, Nat.reduceAdd, Nat.reduceLT, Nat.reduceLeDiff, Nat.zero_add, Nat.add_zero, Nat.le_refl, and_self, Bool.not_true, Bool.false_eq_true, decide_true, beq_self_eq_true, eq_self, ↓reduceIte, seat_T, Int.ofNat_lt, firstRegion, k49, T_55, T_4, rdrO, rdr, hlt, hb]
    | false =>
      rw [hb] at hv
      simp only [Bool.false_eq_true, if_false] at hv
      have c30 : ∀ (d : Nat) (ob : Nat → Option AObj), ob 28 = some (rdrO bs q) → _ := fun d ob ho => read30 28 d ob bs q hl hq ho
      have e1 : IntKind.wrap .i64 ((l.length : Int) + 1) = ((l.length + 1 : Nat) : Int) := wrap_i64 (by omega) (by omega)
      have hr : (l.length + 1) * 8 ≤ room := room_of (by omega) (by decide)
      simp only [rdrO, rdr, intAV, hb] at c30
      simp only [L49_4, Seat.W_seq, Seat.W_block, Seat.W_region_false, Seat.W_skip, Seat.cond_eq, Seat.condK_true, Seat.env_grow, Seat.rq_nil, Seat.rq_cons, Seat.rqK_some, Seat.seq_normal, Seat.blk_normal, loopEnd_normal, s_step, guardOf, s_guard_true, s_assign, s_move, s_pick, s_bin, s_un, s_fieldAddr, s_buildSlice, s_load, s_nilCheck, call_tmp, s_append, s_pure, s_setT, loadK, loadC, pickK, pickAV, binK, binAV, intBin, boolAV, intAV, unAV, fieldAddrK, evalParts, clipK, rowsK, buildSliceK, nilK, callOD, callTS, upds, appK, appR, appT, appE_c, appS, app2, appTail, strip_imm, stripAll, IV.norm, rowsOf_clip, rowsAt, mkAV, TK.agg, fillAV, setRange, mapEval, evalOp, ofValue, AV.leaves, solid_imm, idsOf, AV.ids, LV.ids, LV.ids.idsAll, List.set_cons_succ, List.set_cons_zero, List.getElem?_cons_succ, List.getElem?_cons_zero, List.cons_append, List.nil_append, List.append_nil, List.length_cons, List.length_nil, List.getD_cons_succ, List.getD_cons_zero, List.all_cons, List.all_nil, List.map_cons, List.map_nil, List.drop_succ_cons, List.drop_zero, List.take_succ_cons, List.take_zero, List.drop_nil, List.take_nil, List.flatten_cons, List.flatten_nil, List.reduceReplicate, List.contains_cons, List.contains_nil, Option.map_some, Option.map_none, Option.bind_some, Option.getD_some, Nat.reduceAdd, Nat.reduceLT, Nat.reduceLeDiff, Nat.reduceBEq, Nat.zero_add, Nat.mul_one, Nat.le_refl, and_self, Bool.and_self, Bool.or_false, Bool.or_true, Bool.not_false, Bool.false_eq_true, decide_true, decide_false, beq_self_eq_true, eq_self, ↓reduceIte, seat_T, seat_O, ob_getD, Int.ofNat_lt, keepSt, keepTmps, keepObjs, kept, keepAV, keepLV_imm, keepLV_ptr, keepLV_ap, keepLV_func, keepObj, promote, promoteT, firstRegion, k49, T_55, T_33, T_4, T_3, rdrO, rdr, hlt, hb, c30, e1, ints_len, hr]
      refine ⟨(l ++ [(rN bs q).1], (rN bs q).2), ⟨rN_good hq, by simp only [List.length_append, List.length_cons, List.length_nil]; omega, ?_⟩, by simp only [List.length_append, List.length_cons, List.length_nil]; omega, ?_⟩
      · have : N - (l ++ [(rN bs q).1]).length = m := by simp only [List.length_append, List.length_cons, List.length_nil]; omega
        simp only [this]
        rw [List.append_assoc]
        exact hv
      · simp [ints]
  · have e : N - l.length = 0 := by omega
    rw [e, rL] at hv
    simp only [List.append_nil] at hv
    subst hv
    simp only [L49_4, Seat.W_seq, Seat.W_region_false, Seat.W_exit, Seat.W_ret, Seat.cond_eq, Seat.condK_false, Seat.rq_nil, Seat.rq_cons, Seat.rqK_some, Seat.seq_normal, Seat.seq_exit, Seat.blk_exit, loopEnd_exit, s_step, guardOf, s_guard_true, s_guard_false, s_assign, s_move, s_pick, s_bin, s_un, s_fieldAddr, s_load, s_nilCheck, s_pure, s_setT, loadK, pickK, pickAV, binK, binAV, intBin, boolAV, intAV, unAV, fieldAddrK, nilK, out_ret, OutK, handed, renAV, renLV, renObj, backName, backUpd, resultsAV, resultAV, tupleOf, evalOp, ofValue, List.set_cons_succ, List.set_cons_zero, List.getElem?_cons_succ, List.getElem?_cons_zero, List.cons_append, List.nil_append, List.length_cons, List.length_nil, List.getD_cons_succ, List.getD_cons_zero, List.map_cons, List.map_nil, Option.bind_some, Option.getD_some, Nat.reduceLT, Nat.reduceLeDiff, Nat.zero_add, Nat.add_zero, Bool.false_eq_true, decide_false, eq_self, ↓reduceIte, seat_T, bq_ft, Int.ofNat_lt, firstRegion, k49, T_55, T_4, rdrO, rdr, hlt]
end Go.Ai
