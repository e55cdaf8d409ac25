/- What the program's readers of cells and commits answer. Where there are at most 16777216 bytes. -/
import Derived.Test.YtcbijnemdbbkdaaR39n
namespace Go.Ai
set_option linter.unusedVariables false
set_option linter.unusedSimpArgs false
set_option maxRecDepth 100000
set_option maxHeartbeats 4000000

def Cel.av (c : Cel) : AV := .agg [.imm (.int .i64 c.id), .imm (.int .i64 c.fld), .imm (.int .i64 c.n), .imm (.bool c.flag), .imm (.str c.text), .imm (.int .i64 c.ref)]
def rCell (bs : List UInt8) (r : Rs) : Cel × Rs :=
  (⟨(rN bs r).1, (rN bs (rN bs r).2).1, (rN bs (rN bs (rN bs r).2).2).1, (rF bs (rN bs (rN bs (rN bs r).2).2).2).1, (rT bs (rF bs (rN bs (rN bs (rN bs r).2).2).2).2).1, (rN bs (rT bs (rF bs (rN bs (rN bs (rN bs r).2).2).2).2).2).1⟩, (rN bs (rT bs (rF bs (rN bs (rN bs (rN bs r).2).2).2).2).2).2)
theorem rCell_good {bs : List UInt8} {r : Rs} (h : Good bs r) : Good bs (rCell bs r).2 := rN_good (rT_good (rF_good (rN_good (rN_good (rN_good h)))))
theorem read51 (id d : Nat) (ob : Nat → Option AObj) (bs : List UInt8) (r : Rs) (hl : bs.length ≤ 16777216) (hg : Good bs r) (ho : ob id = some (rdrO bs r)) :
    (seat o).fnO 51 d [.leaf (.ptr id 0 0)] ob = some ((rCell bs r).1.av, [(id, rdrO bs (rCell bs r).2)]) := by
  have cN : ∀ (q : Rs), Good bs q → ∀ (d : Nat) (ob : Nat → Option AObj), ob 27 = some (rdrO bs q) → (seat o).fnO 30 d [.leaf (.ptr 27 0 0)] ob = some (intAV .i64 (rN bs q).1, [(27, rdrO bs (rN bs q).2)]) := fun q hq d ob ho => read30 27 d ob bs q hl hq ho
  have hg1 := rN_good hg
  have hg2 := rN_good hg1
  have hg3 := rN_good hg2
  have hg4 := rF_good hg3
  have hg5 := rT_good hg4
  have c1 := cN _ hg
  have c2 := cN _ hg1
  have c3 := cN _ hg2
  have c4 : ∀ (d : Nat) (ob : Nat → Option AObj), ob 27 = some (rdrO bs (rN bs (rN bs (rN bs r).2).2).2) → _ := fun d ob ho => read52 27 d ob bs _ hl hg3 ho
  have c5 : ∀ (d : Nat) (ob : Nat → Option AObj), ob 27 = some (rdrO bs (rF bs (rN bs (rN bs (rN bs r).2).2).2).2) → _ := fun d ob ho => read36 27 d ob bs _ hl hg4 ho
  have c6 := cN _ hg5
  simp only [rdrO, rdr, intAV, boolAV] at c1 c2 c3 c4 c5 c6 ho
  refine Seat.fnO_of (f := fun51) (ids := [id]) rfl rfl rfl rfl (by simp [idsAV, once, AV.ids, LV.ids, ho]) ?_
  simp only [fun51, Proofs.Try.f51, Seat.W_seq, Seat.W_region_false, Seat.rq_cons, s_step, guardOf, s_guard_true, s_alloc, allocS, allocK, renAV, renLV, indexIn, List.set_cons_succ, List.set_cons_zero, List.cons_append, List.nil_append, List.length_cons, List.length_nil, List.getD_cons_succ, List.getD_cons_zero, List.map_cons, List.map_nil, List.reduceReplicate, Option.map_some, Option.map_none, Nat.reduceAdd, Nat.reduceSub, Nat.reduceLT, Nat.zero_add, eq_self, ↓reduceIte, seat_T]
  simp only [Seat.W_seq, Seat.W_region_false, Seat.W_ret, Seat.rq_nil, Seat.rq_cons, Seat.rqK_some, Seat.seq_normal, s_step, guardOf, s_guard_true, s_alloc, s_move, s_fieldAddr, s_load, s_store, call_30, call_36, call_52, s_pure, s_setT, s_setN, allocS, allocK, storeS, storeK, loadK, loadC, fieldAddrK, callOS, callOD, upds, out_ret, OutK, handed, renAV, renLV, renObj, backUpd, resultsAV, resultAV, tupleOf, mkAV, TK.agg, setRange, mapEval, evalOp, AV.leaves, solid_imm, idsOf, AV.ids, LV.ids, LV.ids.idsAll, List.set_cons_succ, List.set_cons_zero, List.getElem?_cons_succ, List.getElem?_cons_zero, List.cons_append, List.nil_append, List.append_nil, List.length_cons, List.length_nil, List.getD_cons_succ, List.getD_cons_zero, List.all_cons, List.all_nil, List.map_cons, List.map_nil, List.drop_succ_cons, List.drop_zero, List.take_succ_cons, List.take_zero, List.drop_nil, List.take_nil, List.contains_cons, List.contains_nil, Option.map_some, Option.getD_some, Nat.reduceAdd, Nat.reduceLT, Nat.reduceLeDiff, Nat.reduceBEq, Nat.zero_add, Nat.add_zero, Nat.le_refl, and_self, Bool.and_self, Bool.or_false, decide_true, beq_self_eq_true, eq_self, ↓reduceIte, seat_T, ob_getD, T_61, T_59, T_9, T_4, T_3, ho, rdrO, rdr, c1, c2, c3, c4, c5, c6, rCell, Cel.av]

/-- A commit. -/
def rCom (bs : List UInt8) (r : Rs) : Com × Rs :=
  let s := rN bs r
  let p := rL (rN bs) (rC bs s.2).1 (rC bs s.2).2
  let k := rL (rN bs) (rC bs p.2).1 (rC bs p.2).2
  let t := rT bs k.2
  let w := rL (rCell bs) (rC bs t.2).1 (rC bs t.2).2
  (⟨s.1, p.1, k.1, t.1, w.1⟩, w.2)
theorem rCom_good {bs : List UInt8} {r : Rs} (h : Good bs r) : Good bs (rCom bs r).2 :=
  rL_good (fun _ => rCell_good) _ _ (rC_good (rT_good (rL_good (fun _ => rN_good) _ _ (rC_good (rL_good (fun _ => rN_good) _ _ (rC_good (rN_good h)))))))
def cels (cs : List Cel) : List (List IV) := cs.map Cel.row
theorem cels_len (cs : List Cel) : (cels cs).length = cs.length := List.length_map _

theorem read50 (id d : Nat) (ob : Nat → Option AObj) (bs : List UInt8) (r : Rs) (hl : bs.length ≤ 16777216) (hg : Good bs r) (ho : ob id = some (rdrO bs r)) (hd : ob d = none) :
    (seat o).fnO 50 d [.leaf (.ptr id 0 0), .leaf (.func 51 [.ptr id 0 0] [])] ob = some (.leaf (.ap d (cels (rL (rCell bs) (rC bs r).1 (rC bs r).2).1)), [(id, rdrO bs (rL (rCell bs) (rC bs r).1 (rC bs r).2).2), (d, .tail 61 6 (rL (rCell bs) (rC bs r).1 (rC bs r).2).1.length)]) := by
  have c48 : ∀ (d : Nat) (ob : Nat → Option AObj), ob 28 = some (rdrO bs r) → _ := fun d ob ho => read48 28 d ob bs r hl hg ho
  have hcl := rC_le hg
  have hcg := rC_good hg
  obtain ⟨N, hN⟩ : ∃ N, N = (rC bs r).1 := ⟨_, rfl⟩
  obtain ⟨R, hR⟩ : ∃ R, R = (rC bs r).2 := ⟨_, rfl⟩
  rw [← hN, ← hR] at c48
  rw [← hN] at hcl
  rw [← hR] at hcg
  rw [← hN, ← hR]
  obtain ⟨F, hF⟩ : ∃ F, F = rL (rCell bs) N R := ⟨_, rfl⟩
  rw [← hF]
  simp only [rdrO, rdr, intAV] at c48 ho
  refine Seat.fnO_of (f := fun50) (ids := [id]) rfl rfl rfl rfl (by simp [idsAV, once, AV.ids, LV.ids, LV.ids.idsAll, ho]) ?_
  simp only [fun50, Proofs.Try.f50, Seat.W_seq, Seat.W_region_false, Seat.rq_nil, Seat.rq_cons, Seat.rqK_some, Seat.seq_normal, s_step, guardOf, s_guard_true, s_assign, s_move, call_48, s_pure, s_setT, callOS, callOD, renAV, renLV, renLV.renAll, indexIn, mapEval, evalOp, ofValue, idsOf, AV.ids, LV.ids, LV.ids.idsAll, List.set_cons_succ, List.set_cons_zero, List.getElem?_cons_succ, List.getElem?_cons_zero, List.cons_append, List.nil_append, List.append_nil, List.length_cons, List.length_nil, List.map_cons, List.map_nil, List.reduceReplicate, List.contains_cons, List.contains_nil, Option.map_some, Option.map_none, Nat.reduceAdd, Nat.reduceSub, Nat.zero_add, Bool.or_false, eq_self, ↓reduceIte, seat_T]
  simp only [Seat.W_seq, Seat.W_block, Seat.W_loop, Seat.W_region_false, Seat.rq_nil, Seat.rq_cons, Seat.rqK_some, Seat.seq_normal, s_step, guardOf, s_guard_true, s_assign, s_pure, s_setT, upds, renLV, renObj, evalOp, ofValue, LV.ids, LV.ids.idsAll, List.set_cons_succ, List.set_cons_zero, List.getElem?_cons_succ, List.getElem?_cons_zero, List.append_nil, List.length_cons, List.length_nil, List.getD_cons_succ, List.getD_cons_zero, List.all_cons, List.all_nil, List.map_cons, List.map_nil, List.contains_cons, List.contains_nil, Option.map_some, Option.map_none, Option.getD_some, Nat.reduceAdd, Nat.reduceLT, Nat.reduceLeDiff, Nat.reduceBEq, Nat.zero_add, Nat.le_refl, Bool.and_self, Bool.or_false, Bool.or_true, Bool.false_eq_true, decide_true, decide_false, beq_self_eq_true, eq_self, ↓reduceIte, seat_T, ob_getD, keepSt, keepTmps, keepObjs, kept, keepAV, keepLV_imm, keepLV_ptr, keepLV_func, keepObj, promote, promoteT, seedLV, seedObj, firstRegion, k50, ho, hd, rdrO, rdr, c48]
  refine Seat.loop_by (fun s : List Cel × Rs => L50_4 (.leaf (.ptr 28 0 0)) (.leaf (.func 51 [.ptr 28 0 0] [])) (intAV .i64 (N : Int)) (.leaf (.ap 26 (cels s.1))) (intAV .i64 (s.1.length : Int)) none (some (.tail 61 6 s.1.length)) [some (rdrO bs s.2)]) (fun s => Good bs s.2 ∧ s.1.length ≤ N ∧ (s.1 ++ (rL (rCell bs) (N - s.1.length) s.2).1, (rL (rCell bs) (N - s.1.length) s.2).2) = F) (fun s => N - s.1.length) ([], R) rfl ⟨hcg, Nat.zero_le _, by rw [hF]; rfl⟩ ?_
  rintro ⟨l, q⟩ ⟨hq, hle, hv⟩
  simp only at hq hle hv
  by_cases hlt : l.length < N
  · obtain ⟨m, hm⟩ : ∃ m, N - l.length = m + 1 := ⟨N - l.length - 1, by omega⟩
    rw [hm, rL] at hv
    cases hb : q.2 with
    | true =>
      rw [hb] at hv
      simp only [if_true, List.append_nil] at hv
      subst hv
      simp only [L50_4, Seat.W_seq, Seat.W_region_false, Seat.W_exit, Seat.W_ret, Seat.cond_eq, Seat.condK_false, Seat.rq_nil, Seat.rq_cons, Seat.rqK_some, Seat.seq_normal, Seat.seq_exit, Seat.blk_exit, loopEnd_exit, s_step, guardOf, s_guard_true, s_assign, s_move, s_pick, s_bin, s_un, s_fieldAddr, s_load, s_nilCheck, s_pure, s_setT, loadK, loadC, pickK, pickAV, binK, binAV, intBin, boolAV, intAV, unAV, fieldAddrK, nilK, out_ret, OutK, handed, renAV, renLV, renObj, backName, backUpd, resultsAV, resultAV, tupleOf, mkAV, TK.agg, evalOp, ofValue, List.set_cons_succ, List.set_cons_zero, List.getElem?_cons_succ, List.getElem?_cons_zero, List.cons_append, List.nil_append, List.length_cons, List.length_nil, List.getD_cons_succ, List.getD_cons_zero, List.map_cons, List.map_nil, List.drop_succ_cons, List.drop_zero, List.take_succ_cons, List.take_nil, Option.bind_some, Option.getD_some, Nat.reduceAdd, Nat.reduceLT, Nat.reduceLeDiff, Nat.zero_add, Nat.add_zero, Nat.le_refl, and_self, Bool.not_true, Bool.false_eq_true, decide_true, beq_self_eq_true, eq_self, ↓reduceIte, seat_T, Int.ofNat_lt, firstRegion, k50, T_55, T_4, rdrO, rdr, hlt, hb]
    | false =>
      rw [hb] at hv
      simp only [Bool.false_eq_true, if_false] at hv
      have c30 : ∀ (d : Nat) (ob : Nat → Option AObj), ob 28 = some (rdrO bs q) → _ := fun d ob ho => read51 28 d ob bs q hl hq ho
      have e1 : IntKind.wrap .i64 ((l.length : Int) + 1) = ((l.length + 1 : Nat) : Int) := wrap_i64 (by omega) (by omega)
      have hr : (l.length + 1) * 56 ≤ room := room_of (by omega) (by decide)
      simp only [rdrO, rdr, hb, Cel.av] at c30
      simp only [L50_4, Seat.W_seq, Seat.W_block, Seat.W_region_false, Seat.W_skip, Seat.cond_eq, Seat.condK_true, Seat.env_grow, Seat.rq_nil, Seat.rq_cons, Seat.rqK_some, Seat.seq_normal, Seat.blk_normal, loopEnd_normal, s_step, guardOf, s_guard_true, s_assign, s_move, s_pick, s_bin, s_un, s_fieldAddr, s_buildSlice, s_load, s_nilCheck, call_tmp, s_append, s_pure, s_setT, loadK, loadC, pickK, pickAV, binK, binAV, intBin, boolAV, intAV, unAV, fieldAddrK, evalParts, clipK, rowsK, buildSliceK, nilK, callOD, callTS, upds, appK, appR, appT, appE_c, appS, app2, appTail, strip_imm, stripAll, IV.norm, rowsOf_clip, rowsAt, mkAV, TK.agg, fillAV, setRange, mapEval, evalOp, ofValue, AV.leaves, solid_imm, idsOf, AV.ids, LV.ids, LV.ids.idsAll, List.set_cons_succ, List.set_cons_zero, List.getElem?_cons_succ, List.getElem?_cons_zero, List.cons_append, List.nil_append, List.append_nil, List.length_cons, List.length_nil, List.getD_cons_succ, List.getD_cons_zero, List.all_cons, List.all_nil, List.map_cons, List.map_nil, List.drop_succ_cons, List.drop_zero, List.take_succ_cons, List.take_zero, List.drop_nil, List.take_nil, List.flatten_cons, List.flatten_nil, List.reduceReplicate, List.contains_cons, List.contains_nil, Option.map_some, Option.map_none, Option.bind_some, Option.getD_some, Nat.reduceAdd, Nat.reduceLT, Nat.reduceLeDiff, Nat.reduceBEq, Nat.zero_add, Nat.zero_mul, Nat.one_mul, Nat.le_refl, and_self, Bool.and_self, Bool.or_false, Bool.or_true, Bool.not_false, Bool.false_eq_true, decide_true, decide_false, beq_self_eq_true, eq_self, ↓reduceIte, seat_T, seat_O, ob_getD, Int.ofNat_lt, keepSt, keepTmps, keepObjs, kept, keepAV, keepLV_imm, keepLV_ptr, keepLV_ap, keepLV_func, keepObj, promote, promoteT, firstRegion, k50, T_55, T_61, T_34, T_4, rdrO, rdr, hlt, hb, c30, e1, cels_len, hr]
      refine ⟨(l ++ [(rCell bs q).1], (rCell bs q).2), ⟨rCell_good hq, by simp only [List.length_append, List.length_cons, List.length_nil]; omega, ?_⟩, by simp only [List.length_append, List.length_cons, List.length_nil]; omega, ?_⟩
      · have : N - (l ++ [(rCell bs q).1]).length = m := by simp only [List.length_append, List.length_cons, List.length_nil]; omega
        simp only [this]
        rw [List.append_assoc]
        exact hv
      · simp [cels, Cel.row]
  · have e : N - l.length = 0 := by omega
    rw [e, rL] at hv
    simp only [List.append_nil] at hv
    subst hv
    simp only [L50_4, Seat.W_seq, Seat.W_region_false, Seat.W_exit, Seat.W_ret, Seat.cond_eq, Seat.condK_false, Seat.rq_nil, Seat.rq_cons, Seat.rqK_some, Seat.seq_normal, Seat.seq_exit, Seat.blk_exit, loopEnd_exit, s_step, guardOf, s_guard_true, s_guard_false, s_assign, s_move, s_pick, s_bin, s_un, s_fieldAddr, s_load, s_nilCheck, s_pure, s_setT, loadK, pickK, pickAV, binK, binAV, intBin, boolAV, intAV, unAV, fieldAddrK, nilK, out_ret, OutK, handed, renAV, renLV, renObj, backName, backUpd, resultsAV, resultAV, tupleOf, evalOp, ofValue, List.set_cons_succ, List.set_cons_zero, List.getElem?_cons_succ, List.getElem?_cons_zero, List.cons_append, List.nil_append, List.length_cons, List.length_nil, List.getD_cons_succ, List.getD_cons_zero, List.map_cons, List.map_nil, Option.bind_some, Option.getD_some, Nat.reduceLT, Nat.reduceLeDiff, Nat.zero_add, Nat.add_zero, Bool.false_eq_true, decide_false, eq_self, ↓reduceIte, seat_T, bq_ft, Int.ofNat_lt, firstRegion, k50, T_55, T_4, rdrO, rdr, hlt]
theorem read39 (id d : Nat) (ob : Nat → Option AObj) (bs : List UInt8) (r : Rs) (hl : bs.length ≤ 16777216) (hg : Good bs r) (ho : ob id = some (rdrO bs r)) :
    (seat o).fnO 39 d [.leaf (.ptr id 0 0)] ob = some ((rCom bs r).1.av, [(id, rdrO bs (rCom bs r).2)]) := by
  have hg1 := rN_good hg
  have c1 : ∀ (d : Nat) (ob : Nat → Option AObj), ob 26 = some (rdrO bs r) → _ := fun d ob ho => read30 26 d ob bs _ hl hg ho
  have c2 : ∀ (d : Nat) (ob : Nat → Option AObj), ob 26 = some (rdrO bs (rN bs r).2) → ob d = none → _ := fun d ob ho hd => read49 26 d ob bs _ hl hg1 ho hd
  obtain ⟨p, hp⟩ : ∃ p, p = rL (rN bs) (rC bs (rN bs r).2).1 (rC bs (rN bs r).2).2 := ⟨_, rfl⟩
  rw [← hp] at c2
  have hg2 : Good bs p.2 := by rw [hp]; exact rL_good (fun _ => rN_good) _ _ (rC_good hg1)
  have c3 : ∀ (d : Nat) (ob : Nat → Option AObj), ob 26 = some (rdrO bs p.2) → ob d = none → _ := fun d ob ho hd => read49 26 d ob bs _ hl hg2 ho hd
  obtain ⟨k, hk⟩ : ∃ k, k = rL (rN bs) (rC bs p.2).1 (rC bs p.2).2 := ⟨_, rfl⟩
  rw [← hk] at c3
  have hg3 : Good bs k.2 := by rw [hk]; exact rL_good (fun _ => rN_good) _ _ (rC_good hg2)
  have hg4 := rT_good hg3
  have c4 : ∀ (d : Nat) (ob : Nat → Option AObj), ob 26 = some (rdrO bs k.2) → _ := fun d ob ho => read36 26 d ob bs _ hl hg3 ho
  have c5 : ∀ (d : Nat) (ob : Nat → Option AObj), ob 26 = some (rdrO bs (rT bs k.2).2) → ob d = none → _ := fun d ob ho hd => read50 26 d ob bs _ hl hg4 ho hd
  simp only [rdrO, rdr, intAV] at c1 c2 c3 c4 c5 ho
  refine Seat.fnO_of (f := fun39) (ids := [id]) rfl rfl rfl rfl (by simp [idsAV, once, AV.ids, LV.ids, ho]) ?_
  simp only [fun39, Proofs.Try.f39, Seat.W_seq, Seat.W_region_false, Seat.rq_cons, s_step, guardOf, s_guard_true, s_alloc, allocS, allocK, renAV, renLV, indexIn, List.set_cons_succ, List.set_cons_zero, List.cons_append, List.nil_append, List.length_cons, List.length_nil, List.getD_cons_succ, List.getD_cons_zero, List.map_cons, List.map_nil, List.reduceReplicate, Option.map_some, Option.map_none, Nat.reduceAdd, Nat.reduceSub, Nat.reduceLT, Nat.zero_add, eq_self, ↓reduceIte, seat_T]
  simp only [Seat.W_seq, Seat.W_region_false, Seat.W_ret, Seat.rq_nil, Seat.rq_cons, Seat.rqK_some, Seat.seq_normal, s_step, guardOf, s_guard_true, s_alloc, s_move, s_fieldAddr, s_load, s_store, call_30, call_36, call_49, call_50, s_pure, s_setT, s_setN, allocS, allocK, storeS, storeK, loadK, loadC, fieldAddrK, s_makeFunc, funcK, leafs, callOS, callOD, upds, out_ret, OutK, handed, renAV, renLV, renObj, backName, backUpd, resultsAV, resultAV, tupleOf, mkAV, TK.agg, setRange, mapEval, evalOp, AV.leaves, solid_imm, solid_ap, idsOf, AV.ids, LV.ids, LV.ids.idsAll, List.set_cons_succ, List.set_cons_zero, List.getElem?_cons_succ, List.getElem?_cons_zero, List.cons_append, List.nil_append, List.append_nil, List.length_cons, List.length_nil, List.getD_cons_succ, List.getD_cons_zero, List.all_cons, List.all_nil, List.map_cons, List.map_nil, List.drop_succ_cons, List.drop_zero, List.take_succ_cons, List.take_zero, List.drop_nil, List.take_nil, List.contains_cons, List.contains_nil, Option.map_some, Option.getD_some, Nat.reduceAdd, Nat.reduceLT, Nat.reduceLeDiff, Nat.reduceBEq, Nat.zero_add, Nat.add_zero, Nat.le_refl, and_self, Bool.and_self, Bool.or_false, Bool.or_true, reduceCtorEq, decide_true, beq_self_eq_true, eq_self, ↓reduceIte, seat_T, ob_getD, T_36, T_34, T_33, T_9, T_3, ho, rdrO, rdr, c1, c2, c3, c4, c5, rCom, Com.av, ← hp, ← hk]
  rfl

theorem read38 (id d : Nat) (ob : Nat → Option AObj) (bs : List UInt8) (r : Rs) (hl : bs.length ≤ 16777216) (hg : Good bs r) (ho : ob id = some (rdrO bs r)) (hd : ob d = none) :
    (seat o).fnO 38 d [.leaf (.ptr id 0 0), .leaf (.func 39 [.ptr id 0 0] [])] ob = some (.leaf (.ap d (coms (rL (rCom bs) (rC bs r).1 (rC bs r).2).1)), [(id, rdrO bs (rL (rCom bs) (rC bs r).1 (rC bs r).2).2), (d, .tail 36 5 (rL (rCom bs) (rC bs r).1 (rC bs r).2).1.length)]) := by
  have c48 : ∀ (d : Nat) (ob : Nat → Option AObj), ob 28 = some (rdrO bs r) → _ := fun d ob ho => read48 28 d ob bs r hl hg ho
  have hcl := rC_le hg
  have hcg := rC_good hg
  obtain ⟨N, hN⟩ : ∃ N, N = (rC bs r).1 := ⟨_, rfl⟩
  obtain ⟨R, hR⟩ : ∃ R, R = (rC bs r).2 := ⟨_, rfl⟩
  rw [← hN, ← hR] at c48
  rw [← hN] at hcl
  rw [← hR] at hcg
  rw [← hN, ← hR]
  obtain ⟨F, hF⟩ : ∃ F, F = rL (rCom bs) N R := ⟨_, rfl⟩
  rw [← hF]
  simp only [rdrO, rdr, intAV] at c48 ho
  refine Seat.fnO_of (f := fun38) (ids := [id]) rfl rfl rfl rfl (by simp [idsAV, once, AV.ids, LV.ids, LV.ids.idsAll, ho]) ?_
  simp only [fun38, Proofs.Try.f38, Seat.W_seq, Seat.W_region_false, Seat.rq_nil, Seat.rq_cons, Seat.rqK_some, Seat.seq_normal, s_step, guardOf, s_guard_true, s_assign, s_move, call_48, s_pure, s_setT, callOS, callOD, renAV, renLV, renLV.renAll, indexIn, mapEval, evalOp, ofValue, idsOf, AV.ids, LV.ids, LV.ids.idsAll, List.set_cons_succ, List.set_cons_zero, List.getElem?_cons_succ, List.getElem?_cons_zero, List.cons_append, List.nil_append, List.append_nil, List.length_cons, List.length_nil, List.map_cons, List.map_nil, List.reduceReplicate, List.contains_cons, List.contains_nil, Option.map_some, Option.map_none, Nat.reduceAdd, Nat.reduceSub, Nat.zero_add, Bool.or_false, eq_self, ↓reduceIte, seat_T]
  simp only [Seat.W_seq, Seat.W_block, Seat.W_loop, Seat.W_region_false, Seat.rq_nil, Seat.rq_cons, Seat.rqK_some, Seat.seq_normal, s_step, guardOf, s_guard_true, s_assign, s_pure, s_setT, upds, renLV, renObj, evalOp, ofValue, LV.ids, LV.ids.idsAll, List.set_cons_succ, List.set_cons_zero, List.getElem?_cons_succ, List.getElem?_cons_zero, List.append_nil, List.length_cons, List.length_nil, List.getD_cons_succ, List.getD_cons_zero, List.all_cons, List.all_nil, List.map_cons, List.map_nil, List.contains_cons, List.contains_nil, Option.map_some, Option.map_none, Option.getD_some, Nat.reduceAdd, Nat.reduceLT, Nat.reduceLeDiff, Nat.reduceBEq, Nat.zero_add, Nat.le_refl, Bool.and_self, Bool.or_false, Bool.or_true, Bool.false_eq_true, decide_true, decide_false, beq_self_eq_true, eq_self, ↓reduceIte, seat_T, ob_getD, keepSt, keepTmps, keepObjs, kept, keepAV, keepLV_imm, keepLV_ptr, keepLV_func, keepObj, promote, promoteT, seedLV, seedObj, firstRegion, k38, ho, hd, rdrO, rdr, c48]
  refine Seat.loop_by (fun s : List Com × Rs => L38_4 (.leaf (.ptr 28 0 0)) (.leaf (.func 39 [.ptr 28 0 0] [])) (intAV .i64 (N : Int)) (.leaf (.ap 26 (coms s.1))) (intAV .i64 (s.1.length : Int)) none (some (.tail 36 5 s.1.length)) [some (rdrO bs s.2)]) (fun s => Good bs s.2 ∧ s.1.length ≤ N ∧ (s.1 ++ (rL (rCom bs) (N - s.1.length) s.2).1, (rL (rCom bs) (N - s.1.length) s.2).2) = F) (fun s => N - s.1.length) ([], R) rfl ⟨hcg, Nat.zero_le _, by rw [hF]; rfl⟩ ?_
  rintro ⟨l, q⟩ ⟨hq, hle, hv⟩
  simp only at hq hle hv
  by_cases hlt : l.length < N
  · obtain ⟨m, hm⟩ : ∃ m, N - l.length = m + 1 := ⟨N - l.length - 1, by omega⟩
    rw [hm, rL] at hv
    cases hb : q.2 with
    | true =>
      rw [hb] at hv
      simp only [if_true, List.append_nil] at hv
      subst hv
      simp only [L38_4, Seat.W_seq, Seat.W_region_false, Seat.W_exit, Seat.W_ret, Seat.cond_eq, Seat.condK_false, Seat.rq_nil, Seat.rq_cons, Seat.rqK_some, Seat.seq_normal, Seat.seq_exit, Seat.blk_exit, loopEnd_exit, s_step, guardOf, s_guard_true, s_assign, s_move, s_pick, s_bin, s_un, s_fieldAddr, s_load, s_nilCheck, s_pure, s_setT, loadK, loadC, pickK, pickAV, binK, binAV, intBin, boolAV, intAV, unAV, fieldAddrK, nilK, out_ret, OutK, handed, renAV, renLV, renObj, backName, backUpd, resultsAV, resultAV, tupleOf, mkAV, TK.agg, evalOp, ofValue, List.set_cons_succ, List.set_cons_zero, List.getElem?_cons_succ, List.getElem?_cons_zero, List.cons_append, List.nil_append, List.length_cons, List.length_nil, List.getD_cons_succ, List.getD_cons_zero, List.map_cons, List.map_nil, List.drop_succ_cons, List.drop_zero, List.take_succ_cons, List.take_nil, Option.bind_some, Option.getD_some, Nat.reduceAdd, Nat.reduceLT, Nat.reduceLeDiff, Nat.zero_add, Nat.add_zero, Nat.le_refl, and_self, Bool.not_true, Bool.false_eq_true, decide_true, beq_self_eq_true, eq_self, ↓reduceIte, seat_T, Int.ofNat_lt, firstRegion, k38, T_55, T_4, rdrO, rdr, hlt, hb]
    | false =>
      rw [hb] at hv
      simp only [Bool.false_eq_true, if_false] at hv
      have c30 : ∀ (d : Nat) (ob : Nat → Option AObj), ob 28 = some (rdrO bs q) → _ := fun d ob ho => read39 28 d ob bs q hl hq ho
      have e1 : IntKind.wrap .i64 ((l.length : Int) + 1) = ((l.length + 1 : Nat) : Int) := wrap_i64 (by omega) (by omega)
      have hr : (l.length + 1) * 96 ≤ room := room_of (by omega) (by decide)
      simp only [rdrO, rdr, hb, Com.av] at c30
      simp only [L38_4, Seat.W_seq, Seat.W_block, Seat.W_region_false, Seat.W_skip, Seat.cond_eq, Seat.condK_true, Seat.env_grow, Seat.rq_nil, Seat.rq_cons, Seat.rqK_some, Seat.seq_normal, Seat.blk_normal, loopEnd_normal, s_step, guardOf, s_guard_true, s_assign, s_move, s_pick, s_bin, s_un, s_fieldAddr, s_buildSlice, s_load, s_nilCheck, call_tmp, s_append, s_pure, s_setT, loadK, loadC, pickK, pickAV, binK, binAV, intBin, boolAV, intAV, unAV, fieldAddrK, evalParts, clipK, rowsK, buildSliceK, nilK, callOD, callTS, upds, appK, appR, appT, appE_c, appS, app2, appTail, strip_imm, stripAll, IV.norm, rowsOf_clip, rowsAt, mkAV, TK.agg, fillAV, setRange, mapEval, evalOp, ofValue, AV.leaves, solid_imm, idsOf, AV.ids, LV.ids, LV.ids.idsAll, List.set_cons_succ, List.set_cons_zero, List.getElem?_cons_succ, List.getElem?_cons_zero, List.cons_append, List.nil_append, List.append_nil, List.length_cons, List.length_nil, List.getD_cons_succ, List.getD_cons_zero, List.all_cons, List.all_nil, List.map_cons, List.map_nil, List.drop_succ_cons, List.drop_zero, List.take_succ_cons, List.take_zero, List.drop_nil, List.take_nil, List.flatten_cons, List.flatten_nil, List.reduceReplicate, List.contains_cons, List.contains_nil, Option.map_some, Option.map_none, Option.bind_some, Option.getD_some, Nat.reduceAdd, Nat.reduceLT, Nat.reduceLeDiff, Nat.reduceBEq, Nat.zero_add, Nat.zero_mul, Nat.one_mul, Nat.le_refl, and_self, Bool.and_self, Bool.or_false, Bool.or_true, Bool.not_false, Bool.false_eq_true, decide_true, decide_false, beq_self_eq_true, eq_self, ↓reduceIte, seat_T, seat_O, ob_getD, Int.ofNat_lt, keepSt, keepTmps, keepObjs, kept, keepAV, keepLV_imm, keepLV_ptr, keepLV_ap, keepLV_func, keepObj, promote, promoteT, firstRegion, k38, T_55, T_36, T_30, T_4, rdrO, rdr, hlt, hb, c30, e1, coms_len, hr]
      refine ⟨(l ++ [(rCom bs q).1], (rCom bs q).2), ⟨rCom_good hq, by simp only [List.length_append, List.length_cons, List.length_nil]; omega, ?_⟩, by simp only [List.length_append, List.length_cons, List.length_nil]; omega, ?_⟩
      · have : N - (l ++ [(rCom bs q).1]).length = m := by simp only [List.length_append, List.length_cons, List.length_nil]; omega
        simp only [this]
        rw [List.append_assoc]
        exact hv
      · simp [coms, Com.row]
  · have e : N - l.length = 0 := by omega
    rw [e, rL] at hv
    simp only [List.append_nil] at hv
    subst hv
    simp only [L38_4, Seat.W_seq, Seat.W_region_false, Seat.W_exit, Seat.W_ret, Seat.cond_eq, Seat.condK_false, Seat.rq_nil, Seat.rq_cons, Seat.rqK_some, Seat.seq_normal, Seat.seq_exit, Seat.blk_exit, loopEnd_exit, s_step, guardOf, s_guard_true, s_guard_false, s_assign, s_move, s_pick, s_bin, s_un, s_fieldAddr, s_load, s_nilCheck, s_pure, s_setT, loadK, pickK, pickAV, binK, binAV, intBin, boolAV, intAV, unAV, fieldAddrK, nilK, out_ret, OutK, handed, renAV, renLV, renObj, backName, backUpd, resultsAV, resultAV, tupleOf, evalOp, ofValue, List.set_cons_succ, List.set_cons_zero, List.getElem?_cons_succ, List.getElem?_cons_zero, List.cons_append, List.nil_append, List.length_cons, List.length_nil, List.getD_cons_succ, List.getD_cons_zero, List.map_cons, List.map_nil, Option.bind_some, Option.getD_some, Nat.reduceLT, Nat.reduceLeDiff, Nat.zero_add, Nat.add_zero, Bool.false_eq_true, decide_false, eq_self, ↓reduceIte, seat_T, bq_ft, Int.ofNat_lt, firstRegion, k38, T_55, T_4, rdrO, rdr, hlt]

/-- What GetCommits and GetCommit hand back. -/
def start (bs : List UInt8) (a : Int) : Rs := (a, decide (a < 0 ∨ (bs.length : Int) < a))
theorem start_good (bs : List UInt8) (a : Int) : Good bs (start bs a) := by
  intro h
  have h : ¬ (a < 0 ∨ (bs.length : Int) < a) := of_decide_eq_false h
  exact ⟨a.toNat, by simp only [start]; omega, by omega⟩
def rComs (bs : List UInt8) : List Com × Rs := rL (rCom bs) (rC bs (start bs 0)).1 (rC bs (start bs 0)).2
theorem rComs_good (bs : List UInt8) : Good bs (rComs bs).2 := rL_good (fun _ => rCom_good) _ _ (rC_good (start_good bs 0))
def gCs (bs : List UInt8) : List Com × Int := if (rComs bs).2.2 = true ∨ (rComs bs).2.1 < bs.length then ([], 13) else ((rComs bs).1, 0)
def gC (bs : List UInt8) (a : Int) : Com × Int × Int := if (rCom bs (start bs a)).2.2 then (zcom, 0, 13) else ((rCom bs (start bs a)).1, (rCom bs (start bs a)).2.1, 0)
theorem read29 (d : Nat) (ob : Nat → Option AObj) (bs : List UInt8) (a : Int) (hd : ob d = none) : (seat o).fnO 29 d [.leaf (.imm (.sl (rowsOfBytes bs))), .leaf (.imm (.int .i64 a))] ob = some (.leaf (.ptr d 0 0), [(d, rdrO bs (start bs a))]) := fn29 d ob bs a hd
theorem fn25 (bs : List UInt8) (a : Int) (hl : bs.length ≤ 16777216) : (seat o).fn 25 [.leaf (.imm (.sl (rowsOfBytes bs))), .leaf (.imm (.int .i64 a))] = some (.tup [(gC bs a).1.av, intAV .i64 (gC bs a).2.1, intAV .i64 (gC bs a).2.2]) := by
  have c29 : ∀ (d : Nat) (ob : Nat → Option AObj), ob d = none → _ := fun d ob hd => read29 d ob bs a hd
  have c39 : ∀ (d : Nat) (ob : Nat → Option AObj), ob 11 = some (rdrO bs (start bs a)) → _ := fun d ob ho => read39 11 d ob bs (start bs a) hl (start_good bs a) ho
  cases hb : (rCom bs (start bs a)).2.2 with
  | true =>
    have hg : gC bs a = (zcom, 0, 13) := by unfold gC; rw [hb]; rfl
    rw [hg]
    simp only [rdrO, rdr, Com.av, hb] at c29 c39
    refine Seat.fn_of (f := fun25) (noS o 25 _ rfl) rfl rfl rfl ?_; simp only [fun25, Proofs.Try.f25, Seat.W_seq, Seat.W_region_false, Seat.rq_cons, s_step, guardOf, s_guard_true, s_alloc, allocS, allocK, intAV, List.set_cons_succ, List.set_cons_zero, List.cons_append, List.nil_append, List.length_cons, List.length_nil, List.getD_cons_succ, List.getD_cons_zero, List.reduceReplicate, Nat.reduceAdd, Nat.reduceSub, Nat.reduceLT, Nat.zero_add, ↓reduceIte, seat_T]
    simp only [Seat.W_seq, Seat.W_region_false, Seat.W_ret, Seat.cond_eq, Seat.condK_true, Seat.rq_nil, Seat.rq_cons, Seat.rqK_some, Seat.seq_normal, Seat.seq_ret, Seat.ret_ret, Seat.RetK, s_step, guardOf, s_guard_true, s_alloc, s_assign, s_move, s_fieldAddr, s_build, s_load, s_store, s_nilCheck, call_29, call_39, s_pure, s_setT, s_setN, allocS, allocK, storeS, storeK, loadK, loadC, fieldAddrK, evalParts, aggK, buildK, nilK, callOS, callOD, upds, IV.norm, lendArgs, lendArg, lend_imm, lendAll, resultsAV, resultAV, tupleOf, mkAV, TK.agg, fillAV, setRange, mapEval, evalOp, ofValue, AV.leaves, solid_imm, idsOf, AV.ids, LV.ids, LV.ids.idsAll, List.set_cons_succ, List.set_cons_zero, List.getElem?_cons_succ, List.getElem?_cons_zero, List.cons_append, List.nil_append, List.append_nil, List.length_cons, List.length_nil, List.getD_cons_succ, List.getD_cons_zero, List.all_cons, List.all_nil, List.map_cons, List.map_nil, List.drop_succ_cons, List.drop_zero, List.take_succ_cons, List.take_zero, List.drop_nil, List.take_nil, List.contains_cons, List.contains_nil, Option.map_some, Option.some.injEq, Nat.reduceAdd, Nat.reduceLT, Nat.reduceBEq, Nat.zero_add, Nat.le_refl, and_self, Bool.and_self, Bool.or_false, Bool.false_eq_true, decide_true, beq_self_eq_true, eq_self, ↓reduceIte, exists_eq_left', seat_T, ob_getD, T_36, T_55, T_4, c29, c39, Com.av, zcom, ints, List.map_nil]
  | false =>
    have hg : gC bs a = ((rCom bs (start bs a)).1, (rCom bs (start bs a)).2.1, 0) := by unfold gC; rw [hb]; rfl
    rw [hg]
    simp only [rdrO, rdr, Com.av, hb] at c29 c39
    refine Seat.fn_of (f := fun25) (noS o 25 _ rfl) rfl rfl rfl ?_; simp only [fun25, Proofs.Try.f25, Seat.W_seq, Seat.W_region_false, Seat.rq_cons, s_step, guardOf, s_guard_true, s_alloc, allocS, allocK, intAV, List.set_cons_succ, List.set_cons_zero, List.cons_append, List.nil_append, List.length_cons, List.length_nil, List.getD_cons_succ, List.getD_cons_zero, List.reduceReplicate, Nat.reduceAdd, Nat.reduceSub, Nat.reduceLT, Nat.zero_add, ↓reduceIte, seat_T]
    simp only [Seat.W_seq, Seat.W_region_false, Seat.W_region_true, Seat.W_ret, Seat.W_skip, Seat.cond_eq, Seat.condK_false, Seat.rq_nil, Seat.rq_cons, Seat.rqK_some, Seat.rg_nil, Seat.rg_cons, Seat.rgK_some, Seat.endQ, Seat.seq_normal, Seat.ret_ret, Seat.RetK, s_step, guardOf, s_guard_true, s_alloc, s_assign, s_move, s_fieldAddr, s_load, s_store, s_nilCheck, call_29, call_39, s_pure, s_setT, s_setN, allocS, allocK, storeS, storeK, loadK, loadC, fieldAddrK, nilK, callOS, callOD, upds, IV.norm, lendArgs, lendArg, lend_imm, lendAll, resultsAV, resultAV, tupleOf, mkAV, TK.agg, setRange, mapEval, evalOp, ofValue, AV.leaves, solid_imm, footA, pureCall, quietOp, readsT, writesT, guardLoc, tmpLoc, touch, looksOp, idsOf, AV.ids, LV.ids, LV.ids.idsAll, Op.operands, List.set_cons_succ, List.set_cons_zero, List.getElem?_cons_succ, List.getElem?_cons_zero, List.cons_append, List.nil_append, List.append_nil, List.length_cons, List.length_nil, List.getD_cons_succ, List.getD_cons_zero, List.all_cons, List.all_nil, List.map_cons, List.map_nil, List.drop_succ_cons, List.drop_zero, List.take_succ_cons, List.take_zero, List.drop_nil, List.take_nil, List.flatMap_cons, List.flatMap_nil, List.contains_cons, List.contains_nil, Option.map_some, Option.toList_some, Option.toList_none, Option.some.injEq, Nat.reduceAdd, Nat.reduceMul, Nat.reduceLT, Nat.reduceLeDiff, Nat.reduceBEq, Nat.zero_add, Nat.le_refl, and_self, and_true, Bool.and_self, Bool.or_false, Bool.false_eq_true, reduceCtorEq, decide_true, beq_self_eq_true, eq_self, ↓reduceIte, exists_eq_left', seat_T, ob_getD, T_36, T_55, T_3, T_4, c29, c39, Com.av]
    exact ord_of (by kernel_rfl)
theorem fn23 (bs : List UInt8) (hl : bs.length ≤ 16777216) : (seat o).fn 23 [.leaf (.imm (.sl (rowsOfBytes bs)))] = some (.tup [.leaf (.imm (.sl (coms (gCs bs).1))), intAV .i64 (gCs bs).2]) := by
  have c29 : ∀ (d : Nat) (ob : Nat → Option AObj), ob d = none → _ := fun d ob hd => read29 d ob bs 0 hd
  have c38 : ∀ (d : Nat) (ob : Nat → Option AObj), ob 7 = some (rdrO bs (start bs 0)) → ob d = none → _ := fun d ob ho hd => read38 7 d ob bs (start bs 0) hl (start_good bs 0) ho hd
  obtain ⟨R, hR⟩ : ∃ R, R = rComs bs := ⟨_, rfl⟩
  have hR' : rL (rCom bs) (rC bs (start bs 0)).1 (rC bs (start bs 0)).2 = R := by rw [hR]; rfl
  rw [hR'] at c38
  have hgood := rComs_good bs
  rw [← hR] at hgood
  cases hb : R.2.2 with
  | true =>
    have hg : gCs bs = ([], 13) := by unfold gCs; rw [← hR, if_pos (.inl hb)]
    rw [hg]
    simp only [rdrO, rdr, hb] at c29 c38
    refine Seat.fn_of (f := fun23) (noS o 23 _ rfl) rfl rfl rfl ?_; simp only [fun23, Proofs.Try.f23, Seat.W_seq, Seat.W_region_false, Seat.rq_nil, Seat.rq_cons, Seat.rqK_some, Seat.seq_normal, s_step, guardOf, s_guard_true, s_assign, s_move, call_29, s_pure, s_setT, intAV, callOS, callOD, mapEval, evalOp, ofValue, idsOf, AV.ids, LV.ids, LV.ids.idsAll, List.set_cons_succ, List.set_cons_zero, List.getElem?_cons_succ, List.getElem?_cons_zero, List.cons_append, List.nil_append, List.append_nil, List.length_cons, List.length_nil, List.reduceReplicate, List.contains_cons, List.contains_nil, Nat.reduceAdd, Nat.reduceSub, Nat.zero_add, Bool.or_false, seat_T]
    simp only [Seat.W_seq, Seat.W_region_false, Seat.W_ret, Seat.cond_eq, Seat.condK_true, Seat.rq_nil, Seat.rq_cons, Seat.rqK_some, Seat.seq_normal, Seat.seq_ret, Seat.ret_ret, Seat.RetK, s_step, guardOf, s_guard_true, s_guard_false, s_assign, s_move, s_pick, s_bin, s_fieldAddr, s_load, s_nilCheck, call_38, call_40, s_pure, s_setT, loadK, loadC, pickK, pickAV, binK, binAV, cmpAV, fieldAddrK, nilK, s_makeFunc, funcK, leafs, callOS, callOD, upds, IV.norm, lendArgs, lendArg, lend_imm, resultsAV, resultAV, tupleOf, mkAV, TK.agg, mapEval, evalOp, ofValue, idsOf, AV.ids, LV.ids, LV.ids.idsAll, List.set_cons_succ, List.set_cons_zero, List.getElem?_cons_succ, List.getElem?_cons_zero, List.cons_append, List.nil_append, List.append_nil, List.length_cons, List.length_nil, List.getD_cons_succ, List.getD_cons_zero, List.all_cons, List.all_nil, List.map_nil, List.drop_succ_cons, List.drop_zero, List.take_succ_cons, List.take_nil, List.contains_cons, List.contains_nil, Option.map_some, Option.some.injEq, Nat.reduceAdd, Nat.reduceLT, Nat.reduceBEq, Nat.zero_add, Nat.le_refl, and_self, Bool.and_self, Bool.or_false, Bool.or_true, Bool.false_eq_true, decide_true, beq_self_eq_true, eq_self, ↓reduceIte, exists_eq_left', seat_T, ob_getD, bq_tf, T_55, T_3, T_4, c29, c38, coms, List.map_nil]
  | false =>
    obtain ⟨p, hp, hpl⟩ := hgood hb
    have c40 : ∀ (d : Nat) (ob : Nat → Option AObj), ob 7 = some (rdr bs (p : Int) false) → _ := fun d ob ho => fn40 7 d ob bs p false (by omega) hpl ho
    simp only [rdrO, rdr, hb, hp, intAV] at c29 c38 c40
    by_cases h0 : p < bs.length
    · have hg : gCs bs = ([], 13) := by unfold gCs; rw [← hR, if_pos (.inr (by omega))]
      have h0' : 0 < bs.length - p := by omega
      have h0'' : (0 : Int) < ((bs.length - p : Nat) : Int) := by omega
      rw [hg]
      refine Seat.fn_of (f := fun23) (noS o 23 _ rfl) rfl rfl rfl ?_; simp only [fun23, Proofs.Try.f23, Seat.W_seq, Seat.W_region_false, Seat.rq_nil, Seat.rq_cons, Seat.rqK_some, Seat.seq_normal, s_step, guardOf, s_guard_true, s_assign, s_move, call_29, s_pure, s_setT, intAV, callOS, callOD, mapEval, evalOp, ofValue, idsOf, AV.ids, LV.ids, LV.ids.idsAll, List.set_cons_succ, List.set_cons_zero, List.getElem?_cons_succ, List.getElem?_cons_zero, List.cons_append, List.nil_append, List.append_nil, List.length_cons, List.length_nil, List.reduceReplicate, List.contains_cons, List.contains_nil, Nat.reduceAdd, Nat.reduceSub, Nat.zero_add, Bool.or_false, seat_T]
      simp only [Seat.W_seq, Seat.W_region_false, Seat.W_ret, Seat.cond_eq, Seat.condK_true, Seat.rq_nil, Seat.rq_cons, Seat.rqK_some, Seat.seq_normal, Seat.seq_ret, Seat.ret_ret, Seat.RetK, s_step, guardOf, s_guard_true, s_assign, s_move, s_pick, s_bin, s_fieldAddr, s_load, s_nilCheck, call_38, call_40, s_pure, s_setT, loadK, loadC, pickK, pickAV, binK, binAV, intBin, boolAV, fieldAddrK, nilK, s_makeFunc, funcK, leafs, callOS, callOD, upds, IV.norm, lendArgs, lendArg, lend_imm, resultsAV, resultAV, tupleOf, mkAV, TK.agg, mapEval, evalOp, ofValue, idsOf, AV.ids, LV.ids, LV.ids.idsAll, List.set_cons_succ, List.set_cons_zero, List.getElem?_cons_succ, List.getElem?_cons_zero, List.cons_append, List.nil_append, List.append_nil, List.length_cons, List.length_nil, List.getD_cons_succ, List.getD_cons_zero, List.all_cons, List.all_nil, List.map_nil, List.drop_succ_cons, List.drop_zero, List.take_succ_cons, List.take_nil, List.contains_cons, List.contains_nil, Option.map_some, Option.some.injEq, Nat.reduceAdd, Nat.reduceLT, Nat.reduceBEq, Nat.zero_add, Nat.le_refl, and_self, Bool.and_self, Bool.or_false, Bool.or_true, Bool.false_eq_true, decide_true, beq_self_eq_true, eq_self, gt_iff_lt, ↓reduceIte, exists_eq_left', seat_T, ob_getD, T_55, T_4, c29, c38, c40, h0'', coms, List.map_nil]
    · have hg : gCs bs = (R.1, 0) := by unfold gCs; rw [← hR, hb, if_neg (by rw [hp]; simp; omega)]
      have h0'' : ¬ (0 : Int) < ((bs.length - p : Nat) : Int) := by omega
      rw [hg]
      refine Seat.fn_of (f := fun23) (noS o 23 _ rfl) rfl rfl rfl ?_; simp only [fun23, Proofs.Try.f23, Seat.W_seq, Seat.W_region_false, Seat.rq_nil, Seat.rq_cons, Seat.rqK_some, Seat.seq_normal, s_step, guardOf, s_guard_true, s_assign, s_move, call_29, s_pure, s_setT, intAV, callOS, callOD, mapEval, evalOp, ofValue, idsOf, AV.ids, LV.ids, LV.ids.idsAll, List.set_cons_succ, List.set_cons_zero, List.getElem?_cons_succ, List.getElem?_cons_zero, List.cons_append, List.nil_append, List.append_nil, List.length_cons, List.length_nil, List.reduceReplicate, List.contains_cons, List.contains_nil, Nat.reduceAdd, Nat.reduceSub, Nat.zero_add, Bool.or_false, seat_T]
      simp only [Seat.W_seq, Seat.W_region_false, Seat.W_ret, Seat.W_skip, Seat.cond_eq, Seat.condK_false, Seat.rq_nil, Seat.rq_cons, Seat.rqK_some, Seat.seq_normal, Seat.ret_ret, Seat.RetK, s_step, guardOf, s_guard_true, s_assign, s_move, s_pick, s_bin, s_fieldAddr, s_load, s_nilCheck, call_38, call_40, s_pure, s_setT, loadK, loadC, pickK, pickAV, binK, binAV, intBin, boolAV, fieldAddrK, nilK, s_makeFunc, funcK, leafs, callOS, callOD, upds, IV.norm, lendArgs, lendArg, lend_imm, lend_ap, resultsAV, resultAV, tupleOf, mkAV, TK.agg, mapEval, evalOp, ofValue, idsOf, AV.ids, LV.ids, LV.ids.idsAll, List.set_cons_succ, List.set_cons_zero, List.getElem?_cons_succ, List.getElem?_cons_zero, List.cons_append, List.nil_append, List.append_nil, List.length_cons, List.length_nil, List.getD_cons_succ, List.getD_cons_zero, List.all_cons, List.all_nil, List.drop_succ_cons, List.drop_zero, List.take_succ_cons, List.take_nil, List.contains_cons, List.contains_nil, Option.map_some, Option.some.injEq, Nat.reduceAdd, Nat.reduceLT, Nat.reduceBEq, Nat.zero_add, Nat.le_refl, and_self, Bool.and_self, Bool.or_false, Bool.or_true, Bool.false_eq_true, decide_true, decide_false, beq_self_eq_true, eq_self, gt_iff_lt, ↓reduceIte, exists_eq_left', seat_T, ob_getD, T_55, T_4, c29, c38, c40, h0'']
end Go.Ai
