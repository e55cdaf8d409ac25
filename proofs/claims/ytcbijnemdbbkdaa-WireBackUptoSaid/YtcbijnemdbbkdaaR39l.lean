/- The law WireCommits, as what the abstract run answers. Where sizes are at most 1048576. -/
import Derived.Test.YtcbijnemdbbkdaaR39k
namespace Go.Ai
set_option linter.unusedVariables false
set_option linter.unusedSimpArgs false
set_option maxRecDepth 100000
set_option maxHeartbeats 4000000

theorem fn34_ap (id d : Nat) (ob : Nat → Option AObj) (l : List UInt8) (c : Com) (hc : c.Ok) (hl0 : l.length ≤ 68719476800) (ho : ob id = some (.tail 5 1 l.length)) :
    (seat o).fnO 34 d [.leaf (.ap id (rowsOfBytes l)), c.av] ob = some (.leaf (.ap id (rowsOfBytes (l ++ c.bytes))), [(id, .tail 5 1 (l ++ c.bytes).length)]) := by
  have hw := hc.room
  have hh := c.head_len
  have b1 := bInt_len hc.stamp
  have p1 : ∀ (d : Nat) (ob : Nat → Option AObj), ob 61 = some (.tail 5 1 l.length) → _ := fun d ob ho => put31 61 d ob l c.stamp hc.stamp (by omega) ho
  have hl : c.head.length = (bInt c.stamp).length + ((bInts c.parents).length + ((bInts c.picks).length + ((bText c.note).length + (bInt c.writes.length).length))) := by simp [Com.head]
  have p2 : ∀ (d : Nat) (ob : Nat → Option AObj), ob 61 = some (.tail 5 1 (l ++ bInt c.stamp).length) → _ := fun d ob ho => fn47 61 d ob (l ++ bInt c.stamp) c.parents hc.parents hc.lp (by simp only [List.length_append]; omega) ho
  have p3 : ∀ (d : Nat) (ob : Nat → Option AObj), ob 61 = some (.tail 5 1 (l ++ bInt c.stamp ++ bInts c.parents).length) → _ := fun d ob ho => fn47 61 d ob (l ++ bInt c.stamp ++ bInts c.parents) c.picks hc.picks hc.lk (by simp only [List.length_append]; omega) ho
  have p4 : ∀ (d : Nat) (ob : Nat → Option AObj), ob 61 = some (.tail 5 1 (l ++ bInt c.stamp ++ bInts c.parents ++ bInts c.picks).length) → _ := fun d ob ho => fn37 61 d ob (l ++ bInt c.stamp ++ bInts c.parents ++ bInts c.picks) c.note hc.note (by simp only [List.length_append]; omega) ho
  have p5 : ∀ (d : Nat) (ob : Nat → Option AObj), ob 61 = some (.tail 5 1 (l ++ bInt c.stamp ++ bInts c.parents ++ bInts c.picks ++ bText c.note).length) → _ := fun d ob ho => put31 61 d ob (l ++ bInt c.stamp ++ bInts c.parents ++ bInts c.picks ++ bText c.note) (c.writes.length : Int) (i64_nat (by have := hc.lw; omega)) (by simp only [List.length_append]; omega) ho
  have e0 : l ++ bInt c.stamp ++ bInts c.parents ++ bInts c.picks ++ bText c.note ++ bInt c.writes.length = l ++ wr c 0 := by rw [wr_zero]; simp only [Com.head, List.append_assoc]
  rw [e0] at p5
  refine Seat.fnO_of (f := fun34) (ids := [id]) rfl rfl rfl rfl (by show List.filter _ [id] = [id]; simp [ho]) ?_
  simp only [fun34, Proofs.Try.f34, Seat.W_seq, Seat.W_region_false, Seat.rq_cons, s_step, guardOf, s_guard_true, s_box, allocK, boxS, renAV, renLV, indexIn, evalOp, AV.leaves, List.set_cons_succ, List.set_cons_zero, List.getElem?_cons_succ, List.getElem?_cons_zero, List.cons_append, List.nil_append, List.length_cons, List.length_nil, List.getD_cons_succ, List.getD_cons_zero, List.map_cons, List.map_nil, List.reduceReplicate, Option.map_some, Option.map_none, Nat.reduceAdd, Nat.reduceSub, Nat.reduceLT, Nat.zero_add, eq_self, ↓reduceIte, seat_T]
  simp only [Com.av, Seat.W_seq, Seat.W_block, Seat.W_loop, Seat.W_region_false, Seat.W_region_true, Seat.rq_nil, Seat.rq_cons, Seat.rqK_some, Seat.rg_nil, Seat.rg_cons, Seat.rgK_some, Seat.endQ, Seat.seq_normal, s_step, guardOf, s_guard_true, s_assign, s_move, s_fieldAddr, s_load, s_len, call_31, call_37, call_47, s_pure, s_setT, loadK, loadC, intAV, fieldAddrK, lenK, lenAV, callOS, callOD, upds, renAV, renLV, renObj, mkAV, TK.agg, mapEval, evalOp, ofValue, solid_imm, footA, pureCall, quietOp, readsT, writesT, guardLoc, tmpLoc, touch, looksOp, idsOf, AV.ids, LV.ids, LV.ids.idsAll, Op.operands, Call.operands, List.set_cons_succ, List.set_cons_zero, List.getElem?_cons_succ, List.getElem?_cons_zero, List.cons_append, List.nil_append, List.append_nil, List.length_cons, List.length_nil, List.getD_cons_succ, List.getD_cons_zero, List.all_cons, List.all_nil, List.map_cons, List.map_nil, List.drop_succ_cons, List.drop_zero, List.take_succ_cons, List.take_zero, List.take_nil, List.flatMap_cons, List.flatMap_nil, List.contains_cons, List.contains_nil, Option.map_some, Option.map_none, Option.getD_some, Option.toList_some, Option.some.injEq, Nat.reduceAdd, Nat.reduceMul, Nat.reduceLT, Nat.reduceLeDiff, Nat.reduceBEq, Nat.zero_add, Nat.add_zero, Nat.le_refl, and_self, Bool.and_self, Bool.or_false, Bool.or_true, Bool.not_true, Bool.false_eq_true, reduceCtorEq, decide_true, decide_false, beq_self_eq_true, eq_self, ↓reduceIte, seat_T, seat_O, ob_getD, keepSt, keepTmps, keepObjs, kept, keepAV, keepLV_imm, keepLV_ap, keepObj, promote, promoteT, firstRegion, k34, T_36, T_34, T_33, T_9, T_3, ho, p1, p2, p3, p4, p5, clen]
  refine ⟨ord_of (by kernel_rfl), ord_of (by kernel_rfl), ?_⟩
  refine Seat.loop_by (fun i : Nat => L34_4 (.leaf (.ap 61 (rowsOfBytes (l ++ wr c i)))) (.leaf (.imm (.sl (c.writes.map Cel.row)))) (intAV .i64 (c.writes.length : Int)) (intAV .i64 i) none none none none none none [some (.tail 5 1 (l ++ wr c i).length)]) (fun i => i ≤ c.writes.length) (fun i => c.writes.length - i) 0 rfl (Nat.zero_le _) ?_
  intro i hi
  have hwl := wr_len c i
  by_cases hlt : i < c.writes.length
  · obtain ⟨x, hx⟩ := get_lt hlt
    have hxo := hc.writes x (List.mem_of_getElem? hx)
    have hlw := hc.lw
    have e1 : IntKind.wrap .i64 ((i : Int) + 1) = ((i + 1 : Nat) : Int) := wrap_i64 (by omega) (by omega)
    have hn := wr_len c (i + 1)
    have hsn := wr_snoc hx
    have hb : x.bytes.length = (bInt x.id).length + ((bInt x.fld).length + ((bInt x.n).length + (1 + ((bText x.text).length + (bInt x.ref).length)))) := by simp [Cel.bytes]; omega
    have hbl : (wr c i).length + x.bytes.length = (wr c (i + 1)).length := by rw [← hsn, List.length_append]
    have q1 : ∀ (d : Nat) (ob : Nat → Option AObj), ob 61 = some (.tail 5 1 (l ++ wr c i).length) → _ := fun d ob ho => put31 61 d ob (l ++ wr c i) x.id hxo.id (by simp only [List.length_append]; omega) ho
    have q2 : ∀ (d : Nat) (ob : Nat → Option AObj), ob 61 = some (.tail 5 1 (l ++ wr c i ++ bInt x.id).length) → _ := fun d ob ho => put31 61 d ob (l ++ wr c i ++ bInt x.id) x.fld hxo.fld (by simp only [List.length_append]; omega) ho
    have q3 : ∀ (d : Nat) (ob : Nat → Option AObj), ob 61 = some (.tail 5 1 (l ++ wr c i ++ bInt x.id ++ bInt x.fld).length) → _ := fun d ob ho => put31 61 d ob (l ++ wr c i ++ bInt x.id ++ bInt x.fld) x.n hxo.n (by simp only [List.length_append]; omega) ho
    obtain ⟨z, hz⟩ : ∃ z, z = l ++ wr c i ++ bInt x.id ++ bInt x.fld ++ bInt x.n := ⟨_, rfl⟩
    have hzl : z.length ≤ l.length + (wr c (i + 1)).length := by rw [hz]; simp only [List.length_append]; omega
    rw [← hz] at q3
    obtain ⟨f, hf⟩ : ∃ f : UInt8, f = if x.flag then 1 else 0 := ⟨_, rfl⟩
    have q4 : ∀ (d : Nat) (ob : Nat → Option AObj), ob 61 = some (.tail 5 1 (z ++ [f]).length) → _ := fun d ob ho => fn37 61 d ob (z ++ [f]) x.text hxo.text (by simp only [List.length_append, List.length_cons, List.length_nil]; omega) ho
    have hq5 : (z ++ [f] ++ bText x.text).length ≤ l.length + (wr c (i + 1)).length := by rw [hz]; simp only [List.length_append, List.length_cons, List.length_nil]; omega
    have q5 : ∀ (d : Nat) (ob : Nat → Option AObj), ob 61 = some (.tail 5 1 (z ++ [f] ++ bText x.text).length) → _ := fun d ob ho => put31 61 d ob (z ++ [f] ++ bText x.text) x.ref hxo.ref (by omega) ho
    have e5 : z ++ [f] ++ bText x.text ++ bInt x.ref = l ++ wr c (i + 1) := by rw [← hsn, hz, hf]; simp only [Cel.bytes, List.append_assoc]
    rw [e5] at q5
    have hr : (z ++ [f]).length ≤ room := room_one' (by simp only [List.length_append, List.length_cons, List.length_nil]; omega)
    have e6 : rowsOfBytes z ++ [[.int .u8 (f.toNat : Int)]] = rowsOfBytes (z ++ [f]) := by rw [← rob_one, ← rob_append]
    have e7 : z.length + 1 = (z ++ [f]).length := by simp
    cases hfl : x.flag with
    | true =>
      rw [hfl] at hf
      have hf1 : (f.toNat : Int) = 1 := by rw [hf]; rfl
      rw [hf1] at e6
      simp only [L34_4, Seat.W_seq, Seat.W_block, Seat.W_region_false, Seat.W_region_true, Seat.W_skip, Seat.cond_eq, Seat.condK_true, Seat.env_grow, Seat.rq_nil, Seat.rq_cons, Seat.rqK_some, Seat.rg_nil, Seat.rg_cons, Seat.rgK_some, Seat.endQ, Seat.seq_normal, Seat.blk_normal, loopEnd_normal, s_step, guardOf, s_guard_true, s_alloc, s_assign, s_move, s_bin, s_fieldAddr, s_indexAddr, s_buildSlice, s_load, s_store, call_31, call_37, s_append, s_pure, s_setT, s_setN, allocS, allocK, storeS, storeK, loadK, loadC, binK, binAV, intBin, boolAV, intAV, fieldAddrK, elemK, indexAddrK, indexRow, evalParts, clipK, rowsK, buildSliceK, callOS, callOD, upds, appK, appR, appT, appE_c, appS, app2, appTail, strip_imm, stripAll, IV.norm, rowsOf_sl, rowsOf_clip, rowsAt, mkAV, TK.agg, fillAV, setRange, mapEval, evalOp, ofValue, AV.leaves, solid_imm, footA, pureCall, quietOp, readsT, writesT, guardLoc, tmpLoc, touch, looksOp, idsOf, AV.ids, LV.ids, LV.ids.idsAll, Op.operands, Call.operands, List.set_cons_succ, List.set_cons_zero, List.getElem?_cons_succ, List.getElem?_cons_zero, List.cons_append, List.nil_append, List.append_nil, List.length_cons, List.length_nil, List.getD_cons_succ, List.getD_cons_zero, List.all_cons, List.all_nil, List.map_cons, List.map_nil, List.drop_succ_cons, List.drop_zero, List.take_succ_cons, List.take_zero, List.drop_nil, List.take_nil, List.flatten_cons, List.flatten_nil, List.flatMap_cons, List.flatMap_nil, List.reduceReplicate, List.contains_cons, List.contains_nil, Option.map_some, Option.map_none, Option.getD_some, Option.toList_some, Option.some.injEq, Nat.reduceAdd, Nat.reduceMul, Nat.reduceLT, Nat.reduceLeDiff, Nat.reduceBEq, Nat.zero_add, Nat.add_zero, Nat.mul_one, Nat.le_refl, Int.toNat_natCast, Int.natCast_nonneg, and_self, Bool.and_self, Bool.or_false, Bool.or_true, Bool.not_true, Bool.false_eq_true, reduceCtorEq, decide_true, decide_false, beq_self_eq_true, eq_self, ↓reduceIte, seat_T, seat_O, ob_getD, Int.ofNat_lt, keepSt, keepTmps, keepObjs, kept, keepAV, keepLV_imm, keepLV_ap, keepObj, promote, promoteT, firstRegion, k34, T_34, T_22, T_9, T_5, T_4, T_3, T_61, T_59, crow_get, hx, Cel.row, hlt, hfl, e1, q1, q2, q3, q4, q5, rob_len, hr, e6, e7]
      exact ⟨ord_of (by kernel_rfl), ord_of (by kernel_rfl), i + 1, by omega, by omega, rfl⟩
    | false =>
      rw [hfl] at hf
      have hf1 : (f.toNat : Int) = 0 := by rw [hf]; rfl
      rw [hf1] at e6
      simp only [L34_4, Seat.W_seq, Seat.W_block, Seat.W_region_false, Seat.W_region_true, Seat.W_skip, Seat.cond_eq, Seat.condK_true, Seat.condK_false, Seat.env_grow, Seat.rq_nil, Seat.rq_cons, Seat.rqK_some, Seat.rg_nil, Seat.rg_cons, Seat.rgK_some, Seat.endQ, Seat.seq_normal, Seat.blk_normal, loopEnd_normal, s_step, guardOf, s_guard_true, s_alloc, s_assign, s_move, s_bin, s_fieldAddr, s_indexAddr, s_buildSlice, s_load, s_store, call_31, call_37, s_append, s_pure, s_setT, s_setN, allocS, allocK, storeS, storeK, loadK, loadC, binK, binAV, intBin, boolAV, intAV, fieldAddrK, elemK, indexAddrK, indexRow, evalParts, clipK, rowsK, buildSliceK, callOS, callOD, upds, appK, appR, appT, appE_c, appS, app2, appTail, strip_imm, stripAll, IV.norm, rowsOf_sl, rowsOf_clip, rowsAt, mkAV, TK.agg, fillAV, setRange, mapEval, evalOp, ofValue, AV.leaves, solid_imm, footA, pureCall, quietOp, readsT, writesT, guardLoc, tmpLoc, touch, looksOp, idsOf, AV.ids, LV.ids, LV.ids.idsAll, Op.operands, Call.operands, List.set_cons_succ, List.set_cons_zero, List.getElem?_cons_succ, List.getElem?_cons_zero, List.cons_append, List.nil_append, List.append_nil, List.length_cons, List.length_nil, List.getD_cons_succ, List.getD_cons_zero, List.all_cons, List.all_nil, List.map_cons, List.map_nil, List.drop_succ_cons, List.drop_zero, List.take_succ_cons, List.take_zero, List.drop_nil, List.take_nil, List.flatten_cons, List.flatten_nil, List.flatMap_cons, List.flatMap_nil, List.reduceReplicate, List.contains_cons, List.contains_nil, Option.map_some, Option.map_none, Option.getD_some, Option.toList_some, Option.some.injEq, Nat.reduceAdd, Nat.reduceMul, Nat.reduceLT, Nat.reduceLeDiff, Nat.reduceBEq, Nat.zero_add, Nat.add_zero, Nat.mul_one, Nat.le_refl, Int.toNat_natCast, Int.natCast_nonneg, and_self, Bool.and_self, Bool.or_false, Bool.or_true, Bool.not_true, Bool.false_eq_true, reduceCtorEq, decide_true, decide_false, beq_self_eq_true, eq_self, ↓reduceIte, seat_T, seat_O, ob_getD, Int.ofNat_lt, keepSt, keepTmps, keepObjs, kept, keepAV, keepLV_imm, keepLV_ap, keepObj, promote, promoteT, firstRegion, k34, T_34, T_22, T_9, T_5, T_4, T_3, T_61, T_59, crow_get, hx, Cel.row, hlt, hfl, e1, q1, q2, q3, q4, q5, rob_len, hr, e6, e7]
      exact ⟨ord_of (by kernel_rfl), ord_of (by kernel_rfl), i + 1, by omega, by omega, rfl⟩
  · have e : i = c.writes.length := by omega
    have e2 : l ++ wr c i = l ++ c.bytes := by rw [e, wr_all]
    simp only [L34_4, Seat.W_seq, Seat.W_region_false, Seat.W_exit, Seat.W_ret, Seat.cond_eq, Seat.condK_false, Seat.rq_nil, Seat.rq_cons, Seat.rqK_some, Seat.seq_normal, Seat.seq_exit, Seat.blk_exit, loopEnd_exit, s_step, guardOf, s_guard_true, s_assign, s_move, s_bin, s_pure, s_setT, binK, binAV, intBin, boolAV, intAV, out_ret, OutK, handed, renAV, renLV, renObj, backName, backUpd, resultsAV, resultAV, tupleOf, evalOp, List.set_cons_succ, List.set_cons_zero, List.getElem?_cons_succ, List.getElem?_cons_zero, List.cons_append, List.nil_append, List.length_cons, List.length_nil, List.map_cons, List.map_nil, Option.getD_some, Nat.reduceSub, Nat.zero_add, Nat.add_zero, Nat.le_refl, Nat.lt_irrefl, decide_false, eq_self, ↓reduceIte, seat_T, Int.ofNat_lt, firstRegion, k34, hlt, e2]


/-- Commits one behind another. -/
def bComs0 (cs : List Com) : List UInt8 := (cs.map Com.bytes).flatten
def bComs (cs : List Com) : List UInt8 := bInt cs.length ++ bComs0 cs
structure Coms (cs : List Com) : Prop where
  len : cs.length ≤ 1048576
  ok : ∀ c ∈ cs, c.Ok
  room : (bComs0 cs).length ≤ 68719476736
theorem bComs0_snoc {l : List Com} {i : Nat} {x : Com} (h : l[i]? = some x) : bComs0 (l.take (i + 1)) = bComs0 (l.take i) ++ x.bytes := by
  rw [take_snoc h]; simp [bComs0]
theorem bComs0_take (l : List Com) (i : Nat) : (bComs0 (l.take i)).length ≤ (bComs0 l).length := by
  have : (bComs0 (l.take i)).length + (bComs0 (l.drop i)).length = (bComs0 l).length := by
    unfold bComs0
    rw [← List.length_append, ← List.flatten_append, ← List.map_append, List.take_append_drop]
  omega
def coms (cs : List Com) : List (List IV) := cs.map Com.row
theorem coms_len (cs : List Com) : (coms cs).length = cs.length := List.length_map _
theorem coms_get (cs : List Com) (i : Nat) : (coms cs)[i]? = (cs[i]?).map Com.row := List.getElem?_map

theorem fn17 (cs : List Com) (h : Coms cs) : (seat o).fn 17 [.leaf (.imm (.sl (coms cs)))] = some (.leaf (.imm (.sl (rowsOfBytes (bComs cs))))) := by
  have hlen := h.len
  have hroom := h.room
  have hnl := bInt_len (i64_nat (n := cs.length) (by omega))
  have c1 : ∀ (d : Nat) (ob : Nat → Option AObj), ob d = none → _ := fun d ob hd => put31_nil d ob (cs.length : Int) (i64_nat (by omega)) hd
  refine Seat.fn_of (f := fun17) (noS o 17 _ rfl) rfl rfl rfl ?_; simp only [fun17, Proofs.Try.f17, Seat.W_seq, Seat.W_region_false, Seat.rq_nil, Seat.rq_cons, Seat.rqK_some, Seat.seq_normal, s_step, guardOf, s_guard_true, s_assign, s_move, s_len, s_pure, s_setT, intAV, lenK, lenAV, mapEval, evalOp, ofValue, List.set_cons_succ, List.set_cons_zero, List.getElem?_cons_succ, List.getElem?_cons_zero, List.cons_append, List.nil_append, List.length_cons, List.length_nil, List.reduceReplicate, Nat.reduceSub, Nat.zero_add, seat_T]
  simp only [Seat.W_seq, Seat.W_block, Seat.W_loop, Seat.W_region_false, Seat.rq_nil, Seat.rq_cons, Seat.rqK_some, Seat.seq_normal, s_step, guardOf, s_guard_true, s_assign, s_move, s_len, call_31, s_pure, s_setT, intAV, lenK, lenAV, callOS, callOD, upds, mapEval, evalOp, ofValue, idsOf, AV.ids, LV.ids, LV.ids.idsAll, List.set_cons_succ, List.set_cons_zero, List.getElem?_cons_succ, List.getElem?_cons_zero, List.nil_append, List.append_nil, List.length_cons, List.length_nil, List.getD_cons_succ, List.getD_cons_zero, List.all_cons, List.all_nil, List.contains_cons, List.contains_nil, Option.map_some, Option.getD_some, Nat.reduceAdd, Nat.reduceLT, Nat.reduceLeDiff, Nat.reduceBEq, Nat.zero_add, Bool.and_self, Bool.or_false, Bool.or_true, Bool.false_eq_true, decide_true, decide_false, beq_self_eq_true, eq_self, ↓reduceIte, seat_T, ob_getD, keepSt, keepTmps, keepObjs, kept, keepAV, keepLV_imm, keepLV_ap, keepObj, promote, promoteT, firstRegion, k17, T_30, coms_len, c1]
  refine Seat.loop_by (fun i : Nat => L17_3 (.leaf (.ap 8 (rowsOfBytes (bInt cs.length ++ bComs0 (cs.take i))))) (.leaf (.imm (.sl (coms cs)))) (intAV .i64 (cs.length : Int)) (intAV .i64 i) (some (.tail 5 1 (bInt cs.length ++ bComs0 (cs.take i)).length))) (fun i => i ≤ cs.length) (fun i => cs.length - i) 0 ?_ (Nat.zero_le _) ?_
  · simp only [L17_3, List.take_zero, bComs0, List.map_nil, List.flatten_nil, List.append_nil]
    rfl
  intro i hi
  have hb := bComs0_take cs i
  by_cases hlt : i < cs.length
  · obtain ⟨x, hx⟩ := get_lt hlt
    have e1 : IntKind.wrap .i64 ((i : Int) + 1) = ((i + 1 : Nat) : Int) := wrap_i64 (by omega) (by omega)
    have c2 : ∀ (d : Nat) (ob : Nat → Option AObj), ob 8 = some (.tail 5 1 (bInt cs.length ++ bComs0 (cs.take i)).length) → _ := fun d ob ho => fn34_ap 8 d ob (bInt cs.length ++ bComs0 (cs.take i)) x (h.ok x (List.mem_of_getElem? hx)) (by simp only [List.length_append]; omega) ho
    have e2 : bInt cs.length ++ bComs0 (cs.take i) ++ x.bytes = bInt cs.length ++ bComs0 (cs.take (i + 1)) := by rw [bComs0_snoc hx]; simp only [List.append_assoc]
    rw [e2] at c2
    simp only [Com.av] at c2
    simp only [L17_3, Seat.W_seq, Seat.W_block, Seat.W_region_false, Seat.W_skip, Seat.cond_eq, Seat.condK_true, Seat.rq_nil, Seat.rq_cons, Seat.rqK_some, Seat.seq_normal, Seat.blk_normal, loopEnd_normal, s_step, guardOf, s_guard_true, s_alloc, s_assign, s_move, s_bin, s_indexAddr, s_load, s_store, call_34, s_pure, s_setT, s_setN, allocS, allocK, storeS, storeK, loadK, loadC, binK, binAV, intBin, boolAV, intAV, elemK, indexAddrK, indexRow, callOS, callOD, upds, rowsOf_sl, mkAV, TK.agg, setRange, mapEval, evalOp, ofValue, AV.leaves, solid_imm, idsOf, AV.ids, LV.ids, LV.ids.idsAll, List.set_cons_succ, List.set_cons_zero, List.getElem?_cons_succ, List.getElem?_cons_zero, List.cons_append, List.nil_append, List.append_nil, List.length_cons, List.length_nil, List.getD_cons_succ, List.getD_cons_zero, List.all_cons, List.all_nil, List.map_cons, List.map_nil, List.drop_succ_cons, List.drop_zero, List.take_succ_cons, List.take_zero, List.drop_nil, List.take_nil, List.contains_cons, List.contains_nil, Option.map_some, Option.getD_some, Nat.reduceAdd, Nat.reduceLT, Nat.reduceLeDiff, Nat.reduceBEq, Nat.zero_add, Nat.le_refl, Int.toNat_natCast, Int.natCast_nonneg, and_self, Bool.and_self, Bool.or_false, Bool.or_true, Bool.false_eq_true, decide_true, decide_false, beq_self_eq_true, eq_self, ↓reduceIte, seat_T, ob_getD, Int.ofNat_lt, keepSt, keepTmps, keepObjs, kept, keepAV, keepLV_imm, keepLV_ap, keepObj, promote, promoteT, firstRegion, k17, T_36, T_30, coms_get, hx, Com.row, hlt, e1, c2]
    exact ⟨i + 1, by omega, by omega, rfl⟩
  · have e : i = cs.length := by omega
    have e2 : bInt cs.length ++ bComs0 (cs.take i) = bComs cs := by rw [e, List.take_length]; rfl
    simp only [L17_3, Seat.W_seq, Seat.W_region_false, Seat.W_exit, Seat.W_ret, Seat.cond_eq, Seat.condK_false, Seat.rq_nil, Seat.rq_cons, Seat.rqK_some, Seat.seq_normal, Seat.seq_exit, Seat.blk_exit, Seat.ret_ret, Seat.RetK, loopEnd_exit, s_step, guardOf, s_guard_true, s_assign, s_move, s_bin, s_pure, s_setT, binK, binAV, intBin, boolAV, intAV, lendArgs, lendArg, lend_ap, resultsAV, resultAV, tupleOf, evalOp, List.set_cons_succ, List.set_cons_zero, List.getElem?_cons_succ, List.getElem?_cons_zero, Option.map_some, Option.getD_some, Option.some.injEq, decide_false, eq_self, ↓reduceIte, exists_eq_left', seat_T, Int.ofNat_lt, firstRegion, k17, hlt, e2]

theorem fn18 (cs : List Com) (h : Coms cs) : (seat o).fn 18 [.leaf (.imm (.sl (coms cs)))] = some (.leaf (.imm (.sl (rowsOfBytes (bComs cs))))) := by
  have hlen := h.len
  have hroom := h.room
  have hnl := bInt_len (i64_nat (n := cs.length) (by omega))
  have c1 : ∀ (d : Nat) (ob : Nat → Option AObj), ob d = none → _ := fun d ob hd => ref13_nil d ob (cs.length : Int) (i64_nat (by omega)) hd
  refine Seat.fn_of (f := fun18) (noS o 18 _ rfl) rfl rfl rfl ?_; simp only [fun18, Proofs.Try.f18, Seat.W_seq, Seat.W_region_false, Seat.rq_nil, Seat.rq_cons, Seat.rqK_some, Seat.seq_normal, s_step, guardOf, s_guard_true, s_assign, s_move, s_len, s_pure, s_setT, intAV, lenK, lenAV, mapEval, evalOp, ofValue, List.set_cons_succ, List.set_cons_zero, List.getElem?_cons_succ, List.getElem?_cons_zero, List.cons_append, List.nil_append, List.length_cons, List.length_nil, List.reduceReplicate, Nat.reduceSub, Nat.zero_add, seat_T]
  simp only [Seat.W_seq, Seat.W_block, Seat.W_loop, Seat.W_region_false, Seat.rq_nil, Seat.rq_cons, Seat.rqK_some, Seat.seq_normal, s_step, guardOf, s_guard_true, s_assign, call_13, s_pure, s_setT, callOS, callOD, upds, mapEval, evalOp, ofValue, idsOf, AV.ids, LV.ids, LV.ids.idsAll, List.set_cons_succ, List.set_cons_zero, List.getElem?_cons_succ, List.getElem?_cons_zero, List.nil_append, List.append_nil, List.length_cons, List.length_nil, List.getD_cons_succ, List.getD_cons_zero, List.all_cons, List.all_nil, List.contains_cons, List.contains_nil, Option.map_some, Option.map_none, Option.getD_some, Nat.reduceAdd, Nat.reduceLT, Nat.reduceLeDiff, Nat.reduceBEq, Nat.zero_add, Bool.and_self, Bool.or_false, Bool.or_true, Bool.false_eq_true, decide_true, decide_false, beq_self_eq_true, eq_self, ↓reduceIte, seat_T, ob_getD, keepSt, keepTmps, keepObjs, kept, keepAV, keepLV_imm, keepLV_ap, keepObj, promote, promoteT, firstRegion, k18, T_30, coms_len, c1]
  refine Seat.loop_by (fun i : Nat => L18_3 (.leaf (.imm (.sl (coms cs)))) (.leaf (.ap 7 (rowsOfBytes (bInt cs.length ++ bComs0 (cs.take i))))) (intAV .i64 i) (some (.tail 5 1 (bInt cs.length ++ bComs0 (cs.take i)).length)) none) (fun i => i ≤ cs.length) (fun i => cs.length - i) 0 ?_ (Nat.zero_le _) ?_
  · simp only [L18_3, List.take_zero, bComs0, List.map_nil, List.flatten_nil, List.append_nil]
    rfl
  intro i hi
  have hb := bComs0_take cs i
  by_cases hlt : i < cs.length
  · obtain ⟨x, hx⟩ := get_lt hlt
    have e1 : IntKind.wrap .i64 ((i : Int) + 1) = ((i + 1 : Nat) : Int) := wrap_i64 (by omega) (by omega)
    have hxo := h.ok x (List.mem_of_getElem? hx)
    have hxr := hxo.room
    have h16 := fn16 x hxo
    have hr : (bInt cs.length ++ bComs0 (cs.take i)).length + x.bytes.length ≤ room := room_one' (by rw [List.length_append]; omega)
    have e2 : rowsOfBytes (bInt cs.length ++ bComs0 (cs.take i)) ++ rowsOfBytes x.bytes = rowsOfBytes (bInt cs.length ++ bComs0 (cs.take (i + 1))) := by rw [← rob_append, bComs0_snoc hx]; simp only [List.append_assoc]
    have e3 : (bInt cs.length ++ bComs0 (cs.take i)).length + x.bytes.length = (bInt cs.length ++ bComs0 (cs.take (i + 1))).length := by rw [bComs0_snoc hx]; simp only [List.length_append]; omega
    simp only [Com.av] at h16
    simp only [L18_3, Seat.W_seq, Seat.W_block, Seat.W_region_false, Seat.W_skip, Seat.cond_eq, Seat.condK_true, Seat.env_grow, Seat.rq_nil, Seat.rq_cons, Seat.rqK_some, Seat.seq_normal, s_step, guardOf, s_guard_true, s_move, s_bin, s_indexAddr, s_load, s_len, call_16, s_append, s_pure, s_setT, loadK, binK, binAV, intBin, boolAV, intAV, elemK, indexAddrK, indexRow, lenK, lenAV, callS, callP, appK, appR, appT, stripArgs, AV.stripA, strip_imm, stripAll, IV.norm, rowsOf_sl, mkAV, TK.agg, mapEval, evalOp, List.set_cons_succ, List.set_cons_zero, List.getElem?_cons_succ, List.getElem?_cons_zero, List.length_cons, List.length_nil, List.map_cons, List.map_nil, List.take_succ_cons, List.take_nil, List.contains_nil, Option.map_some, Option.getD_some, Nat.reduceAdd, Nat.reduceLT, Nat.zero_add, Nat.le_refl, Int.toNat_natCast, Int.natCast_nonneg, and_self, decide_true, eq_self, ↓reduceIte, seat_T, Int.ofNat_lt, firstRegion, k18, T_36, T_30, T_22, T_5, coms_len, coms_get, hx, Com.row, hlt, h16, rob_all]
    rw [appE_ap (by rw [rob_len]; rfl) (by rw [rob_len, rob_len, Nat.mul_one]; exact hr), rob_len, rob_len, e2, e3]
    simp only [Seat.W_region_false, Seat.rq_nil, Seat.rq_cons, Seat.rqK_some, Seat.seq_normal, Seat.blk_normal, loopEnd_normal, s_step, guardOf, s_guard_true, s_assign, s_move, s_bin, s_pure, s_setT, binK, binAV, intBin, intAV, evalOp, ofValue, List.set_cons_succ, List.set_cons_zero, List.getElem?_cons_succ, List.getElem?_cons_zero, List.getD_cons_succ, List.getD_cons_zero, List.contains_cons, List.contains_nil, Option.map_some, Option.map_none, Nat.reduceAdd, Nat.reduceLeDiff, Nat.reduceBEq, Nat.zero_add, Bool.or_false, Bool.or_true, Bool.false_eq_true, decide_false, beq_self_eq_true, eq_self, ↓reduceIte, seat_T, ob_getD, keepSt, keepTmps, keepObjs, kept, keepAV, keepLV_imm, keepLV_ap, keepObj, promote, promoteT, e1]
    exact ⟨i + 1, by omega, by omega, rfl⟩
  · have e : i = cs.length := by omega
    have e2 : bInt cs.length ++ bComs0 (cs.take i) = bComs cs := by rw [e, List.take_length]; rfl
    simp only [L18_3, Seat.W_seq, Seat.W_region_false, Seat.W_exit, Seat.W_ret, Seat.cond_eq, Seat.condK_false, Seat.rq_nil, Seat.rq_cons, Seat.rqK_some, Seat.seq_normal, Seat.seq_exit, Seat.blk_exit, Seat.ret_ret, Seat.RetK, loopEnd_exit, s_step, guardOf, s_guard_true, s_assign, s_move, s_bin, s_len, s_pure, s_setT, binK, binAV, intBin, boolAV, intAV, lenK, lenAV, lendArgs, lendArg, lend_ap, resultsAV, resultAV, tupleOf, mapEval, evalOp, List.set_cons_succ, List.set_cons_zero, List.getElem?_cons_succ, List.getElem?_cons_zero, Option.map_some, Option.getD_some, Option.some.injEq, decide_false, eq_self, ↓reduceIte, exists_eq_left', seat_T, Int.ofNat_lt, firstRegion, k18, T_30, coms_len, hlt, e2]

/-- The measure of commits. -/
def szIn (n : Int) : List Cel → Int
  | [] => n
  | w :: ws => if n < 5000 then szIn (IntKind.wrap .i64 (n + (w.text.size : Int))) ws else n
def szOut (n : Int) : List Com → Int
  | [] => n
  | c :: cs => if n < 5000 then szOut (szIn (IntKind.wrap .i64 (n + IntKind.wrap .i64 (IntKind.wrap .i64 (IntKind.wrap .i64 ((c.parents.length : Int) + (c.picks.length : Int)) + (c.note.size : Int)) + (c.writes.length : Int)))) c.writes) cs else n
theorem drop_get {α : Type} {l : List α} {i : Nat} {x : α} (h : l[i]? = some x) : l.drop i = x :: l.drop (i + 1) := by
  obtain ⟨hi, rfl⟩ := List.getElem?_eq_some_iff.1 h
  exact List.drop_eq_getElem_cons hi
theorem fn14 (cs : List Com) (hl : cs.length ≤ 1048576) (hw : ∀ c ∈ cs, c.writes.length ≤ 1048576) : (seat o).fn 14 [.leaf (.imm (.sl (coms cs)))] = some (intAV .i64 (szOut cs.length cs)) := by
  refine Seat.fn_of (f := fun14) (noS o 14 _ rfl) rfl rfl rfl ?_; simp only [fun14, Proofs.Try.f14, Seat.W_seq, Seat.W_region_false, Seat.rq_nil, Seat.rq_cons, Seat.rqK_some, Seat.seq_normal, s_step, guardOf, s_guard_true, s_assign, s_move, s_len, s_pure, s_setT, intAV, lenK, lenAV, mapEval, evalOp, ofValue, List.set_cons_succ, List.set_cons_zero, List.getElem?_cons_succ, List.getElem?_cons_zero, List.cons_append, List.nil_append, List.length_cons, List.length_nil, List.reduceReplicate, Nat.reduceSub, Nat.zero_add, seat_T]
  simp only [Seat.W_seq, Seat.W_block, Seat.W_loop, Seat.W_region_false, Seat.rq_nil, Seat.rq_cons, Seat.rqK_some, Seat.seq_normal, s_step, guardOf, s_guard_true, s_assign, s_pure, s_setT, evalOp, ofValue, List.set_cons_succ, List.set_cons_zero, List.getElem?_cons_succ, List.getElem?_cons_zero, List.contains_cons, List.contains_nil, Option.getD_some, Nat.reduceAdd, Nat.reduceLeDiff, Nat.reduceBEq, Nat.zero_add, Bool.or_false, Bool.or_true, Bool.false_eq_true, decide_false, beq_self_eq_true, eq_self, ↓reduceIte, seat_T, keepSt, keepTmps, keepObjs, kept, keepAV, keepLV_imm, promote, promoteT, firstRegion, k14, T_30, coms_len]
  refine Seat.loop_by (fun s : Int × Nat => L14_3 (.leaf (.imm (.sl (coms cs)))) (intAV .i64 s.1) (intAV .i64 s.2)) (fun s => s.2 ≤ cs.length ∧ szOut s.1 (cs.drop s.2) = szOut cs.length cs) (fun s => cs.length - s.2) ((cs.length : Int), 0) rfl ⟨Nat.zero_le _, rfl⟩ ?_
  rintro ⟨n, i⟩ ⟨hi, hn⟩
  simp only at hi hn
  by_cases hlt : i < cs.length
  · obtain ⟨x, hx⟩ := get_lt hlt
    have hxw := hw x (List.mem_of_getElem? hx)
    rw [drop_get hx, szOut] at hn
    by_cases h5 : n < 5000
    · rw [if_pos h5] at hn
      have e1 : IntKind.wrap .i64 ((i : Int) + 1) = ((i + 1 : Nat) : Int) := wrap_i64 (by omega) (by omega)
      obtain ⟨m, hm⟩ : ∃ m, m = IntKind.wrap .i64 (n + IntKind.wrap .i64 (IntKind.wrap .i64 (IntKind.wrap .i64 ((x.parents.length : Int) + (x.picks.length : Int)) + (x.note.size : Int)) + (x.writes.length : Int))) := ⟨_, rfl⟩
      rw [← hm] at hn
      simp only [L14_3, Seat.W_seq, Seat.W_block, Seat.W_loop, Seat.W_region_false, Seat.W_region_true, Seat.W_skip, Seat.cond_eq, Seat.condK_true, Seat.rq_nil, Seat.rq_cons, Seat.rqK_some, Seat.rg_nil, Seat.rg_cons, Seat.rgK_some, Seat.endQ, Seat.seq_normal, s_step, guardOf, s_guard_true, s_assign, s_move, s_pick, s_bin, s_fieldAddr, s_indexAddr, s_load, s_len, s_pure, s_setT, loadK, pickK, pickAV, binK, binAV, intBin, boolAV, intAV, fieldAddrK, elemK, indexAddrK, indexRow, lenK, lenAV, rowsOf_sl, mkAV, TK.agg, mapEval, evalOp, ofValue, footA, pureCall, quietOp, readsT, writesT, guardLoc, tmpLoc, touch, looksOp, idsOf, AV.ids, LV.ids, Op.operands, Call.operands, List.set_cons_succ, List.set_cons_zero, List.getElem?_cons_succ, List.getElem?_cons_zero, List.cons_append, List.nil_append, List.append_nil, List.length_cons, List.length_nil, List.map_cons, List.map_nil, List.drop_succ_cons, List.drop_zero, List.take_succ_cons, List.take_zero, List.take_nil, List.flatMap_cons, List.flatMap_nil, List.contains_cons, List.contains_nil, Option.map_some, Option.getD_some, Option.toList_some, Option.some.injEq, Nat.reduceAdd, Nat.reduceMul, Nat.reduceLT, Nat.reduceLeDiff, Nat.reduceBEq, Nat.zero_add, Nat.le_refl, Int.toNat_natCast, Int.natCast_nonneg, Bool.or_false, Bool.or_true, Bool.false_eq_true, reduceCtorEq, decide_true, decide_false, beq_self_eq_true, eq_self, ↓reduceIte, seat_T, Int.ofNat_lt, keepSt, keepTmps, keepObjs, kept, keepAV, keepLV_imm, promote, promoteT, firstRegion, k14, T_36, T_34, T_33, T_30, T_9, coms_len, coms_get, hx, Com.row, hlt, h5, ints_len, clen, ← hm]
      refine ⟨ord_of (by kernel_rfl), ?_⟩
      refine Seat.loop_by (fun s : Int × Nat => L14_7 (.leaf (.imm (.sl (coms cs)))) (intAV .i64 s.1) (intAV .i64 i) (intAV .i64 s.2)) (fun s => s.2 ≤ x.writes.length ∧ szIn s.1 (x.writes.drop s.2) = szIn m x.writes) (fun s => x.writes.length - s.2) (m, 0) rfl ⟨Nat.zero_le _, rfl⟩ ?_
      rintro ⟨p, k⟩ ⟨hk, hp⟩
      simp only at hk hp
      by_cases hlk : k < x.writes.length
      · obtain ⟨y, hy⟩ := get_lt hlk
        rw [drop_get hy, szIn] at hp
        by_cases h6 : p < 5000
        · rw [if_pos h6] at hp
          have e2 : IntKind.wrap .i64 ((k : Int) + 1) = ((k + 1 : Nat) : Int) := wrap_i64 (by omega) (by omega)
          simp only [L14_7, Seat.W_seq, Seat.W_block, Seat.W_region_false, Seat.W_skip, Seat.cond_eq, Seat.condK_true, Seat.rq_nil, Seat.rq_cons, Seat.rqK_some, Seat.seq_normal, Seat.blk_normal, loopEnd_normal, s_step, guardOf, s_guard_true, s_assign, s_move, s_pick, s_bin, s_fieldAddr, s_indexAddr, s_load, s_len, s_pure, s_setT, loadK, pickK, pickAV, binK, binAV, intBin, boolAV, intAV, fieldAddrK, elemK, indexAddrK, indexRow, lenK, lenAV, rowsOf_sl, mkAV, TK.agg, mapEval, evalOp, ofValue, List.set_cons_succ, List.set_cons_zero, List.getElem?_cons_succ, List.getElem?_cons_zero, List.length_cons, List.length_nil, List.map_cons, List.map_nil, List.drop_succ_cons, List.drop_zero, List.take_succ_cons, List.take_zero, List.take_nil, List.contains_cons, List.contains_nil, Option.map_some, Option.getD_some, Nat.reduceAdd, Nat.reduceLT, Nat.reduceLeDiff, Nat.reduceBEq, Nat.zero_add, Nat.le_refl, Int.toNat_natCast, Int.natCast_nonneg, Bool.or_false, Bool.or_true, Bool.false_eq_true, decide_true, decide_false, beq_self_eq_true, eq_self, ↓reduceIte, seat_T, Int.ofNat_lt, keepSt, keepTmps, keepObjs, kept, keepAV, keepLV_imm, promote, promoteT, firstRegion, k14, T_36, T_34, T_30, T_61, T_59, T_9, coms_get, crow_get, hx, hy, Com.row, Cel.row, hlk, h6, e2, clen]
          exact ⟨(_, k + 1), ⟨by omega, hp⟩, by simp only; omega, rfl⟩
        · rw [if_neg h6] at hp
          simp only [L14_7, Seat.W_seq, Seat.W_region_false, Seat.W_exit, Seat.cond_eq, Seat.condK_false, Seat.rq_nil, Seat.rq_cons, Seat.rqK_some, Seat.seq_normal, Seat.seq_exit, Seat.blk_normal, Seat.blk_exit, loopEnd_normal, loopEnd_exit, s_step, guardOf, s_guard_true, s_assign, s_move, s_pick, s_bin, s_fieldAddr, s_indexAddr, s_load, s_len, s_pure, s_setT, loadK, pickK, pickAV, binK, binAV, intBin, boolAV, intAV, fieldAddrK, elemK, indexAddrK, indexRow, lenK, lenAV, rowsOf_sl, mkAV, TK.agg, mapEval, evalOp, ofValue, List.set_cons_succ, List.set_cons_zero, List.getElem?_cons_succ, List.getElem?_cons_zero, List.length_cons, List.length_nil, List.map_cons, List.map_nil, List.drop_succ_cons, List.drop_zero, List.take_succ_cons, List.take_nil, List.contains_cons, List.contains_nil, Option.map_some, Option.getD_some, Nat.reduceAdd, Nat.reduceLT, Nat.reduceLeDiff, Nat.reduceBEq, Nat.zero_add, Nat.le_refl, Int.toNat_natCast, Int.natCast_nonneg, Bool.or_false, Bool.or_true, Bool.false_eq_true, decide_true, decide_false, beq_self_eq_true, eq_self, ↓reduceIte, seat_T, Int.ofNat_lt, keepSt, keepTmps, keepObjs, kept, keepAV, keepLV_imm, promote, promoteT, firstRegion, k14, T_36, T_34, T_30, coms_get, hx, Com.row, hlk, h6, clen, e1]
          rw [← hp] at hn
          exact ⟨(p, i + 1), ⟨by omega, hn⟩, by simp only; omega, rfl⟩
      · have e : k = x.writes.length := by omega
        rw [e, List.drop_length, szIn] at hp
        simp only [L14_7, Seat.W_seq, Seat.W_region_false, Seat.W_exit, Seat.cond_eq, Seat.condK_false, Seat.rq_nil, Seat.rq_cons, Seat.rqK_some, Seat.seq_normal, Seat.seq_exit, Seat.blk_normal, Seat.blk_exit, loopEnd_normal, loopEnd_exit, s_step, guardOf, s_guard_true, s_guard_false, s_assign, s_move, s_pick, s_bin, s_fieldAddr, s_indexAddr, s_load, s_len, s_pure, s_setT, loadK, pickK, pickAV, binK, binAV, cmpAV, intBin, boolAV, intAV, fieldAddrK, elemK, indexAddrK, indexRow, lenK, lenAV, rowsOf_sl, mkAV, TK.agg, mapEval, evalOp, ofValue, List.set_cons_succ, List.set_cons_zero, List.getElem?_cons_succ, List.getElem?_cons_zero, List.length_cons, List.length_nil, List.map_cons, List.map_nil, List.drop_succ_cons, List.drop_zero, List.take_succ_cons, List.take_nil, List.contains_cons, List.contains_nil, Option.map_some, Option.getD_some, Nat.reduceAdd, Nat.reduceLT, Nat.reduceLeDiff, Nat.reduceBEq, Nat.zero_add, Nat.le_refl, Int.toNat_natCast, Int.natCast_nonneg, Bool.or_false, Bool.or_true, Bool.false_eq_true, decide_false, beq_self_eq_true, eq_self, ↓reduceIte, seat_T, bq_ft, Int.ofNat_lt, keepSt, keepTmps, keepObjs, kept, keepAV, keepLV_imm, promote, promoteT, firstRegion, k14, T_36, T_34, T_30, T_3, coms_get, hx, Com.row, hlk, clen, e1]
        rw [← hp] at hn
        exact ⟨(p, i + 1), ⟨by omega, hn⟩, by simp only; omega, rfl⟩
    · rw [if_neg h5] at hn
      simp only [L14_3, Seat.W_seq, Seat.W_region_false, Seat.W_exit, Seat.W_ret, Seat.cond_eq, Seat.condK_false, Seat.rq_nil, Seat.rq_cons, Seat.rqK_some, Seat.seq_normal, Seat.seq_exit, Seat.blk_exit, Seat.ret_ret, Seat.RetK, loopEnd_exit, s_step, guardOf, s_guard_true, s_assign, s_move, s_pick, s_bin, s_len, s_pure, s_setT, pickK, pickAV, binK, binAV, intBin, boolAV, intAV, lenK, lenAV, IV.norm, lendArgs, lendArg, lend_imm, resultsAV, resultAV, tupleOf, mapEval, evalOp, ofValue, List.set_cons_succ, List.set_cons_zero, List.getElem?_cons_succ, List.getElem?_cons_zero, Option.map_some, Option.getD_some, Option.some.injEq, decide_true, decide_false, beq_self_eq_true, eq_self, ↓reduceIte, exists_eq_left', seat_T, Int.ofNat_lt, firstRegion, k14, T_30, coms_len, hlt, h5, ← hn]
  · have e : i = cs.length := by omega
    rw [e, List.drop_length, szOut] at hn
    simp only [L14_3, Seat.W_seq, Seat.W_region_false, Seat.W_exit, Seat.W_ret, Seat.cond_eq, Seat.condK_false, Seat.rq_nil, Seat.rq_cons, Seat.rqK_some, Seat.seq_normal, Seat.seq_exit, Seat.blk_exit, Seat.ret_ret, Seat.RetK, loopEnd_exit, s_step, guardOf, s_guard_true, s_guard_false, s_assign, s_move, s_pick, s_bin, s_len, s_pure, s_setT, pickK, pickAV, binK, binAV, cmpAV, intBin, boolAV, intAV, lenK, lenAV, IV.norm, lendArgs, lendArg, lend_imm, resultsAV, resultAV, tupleOf, mapEval, evalOp, ofValue, List.set_cons_succ, List.set_cons_zero, List.getElem?_cons_succ, List.getElem?_cons_zero, Option.map_some, Option.getD_some, Option.some.injEq, Bool.false_eq_true, decide_false, eq_self, ↓reduceIte, exists_eq_left', seat_T, bq_ft, Int.ofNat_lt, firstRegion, k14, T_30, T_3, coms_len, hlt, ← hn]

theorem fn4 (cs : List Com) (h : Coms cs) : (seat o).fn 4 [.leaf (.imm (.sl (coms cs)))] = some (boolAV true) := by
  have hlen := h.len
  have h8 := fn8
  have h14 := fn14 cs h.len fun c hc => (h.ok c hc).lw
  simp only [boolAV, intAV] at h8 h14
  by_cases hbig : (2000 : Int) < szOut cs.length cs
  · refine Seat.fn_of (f := fun4) (noS o 4 _ rfl) rfl rfl rfl ?_; simp only [fun4, Proofs.Try.f4, Seat.W_seq, Seat.W_region_false, Seat.rq_nil, Seat.rq_cons, Seat.rqK_some, Seat.seq_normal, s_step, guardOf, s_guard_true, s_assign, s_move, call_14, s_pure, s_setT, boolAV, callS, callP, stripArgs, AV.stripA, strip_imm, IV.norm, mapEval, evalOp, ofValue, List.set_cons_succ, List.set_cons_zero, List.getElem?_cons_succ, List.getElem?_cons_zero, List.cons_append, List.nil_append, List.length_cons, List.length_nil, List.reduceReplicate, Option.map_some, Nat.reduceSub, Nat.zero_add, seat_T]
    simp only [Seat.W_seq, Seat.W_region_false, Seat.W_ret, Seat.cond_eq, Seat.condK_true, Seat.rq_nil, Seat.rq_cons, Seat.rqK_some, Seat.seq_normal, Seat.seq_ret, Seat.ret_ret, Seat.RetK, s_step, guardOf, s_guard_true, s_assign, s_bin, call_8, s_pure, s_setT, binK, binAV, intBin, boolAV, callS, callP, stripArgs, IV.norm, lendArgs, lendArg, lend_imm, resultsAV, resultAV, tupleOf, mapEval, evalOp, ofValue, List.set_cons_succ, List.set_cons_zero, List.getElem?_cons_succ, List.getElem?_cons_zero, Option.map_some, Option.some.injEq, decide_true, eq_self, gt_iff_lt, ↓reduceIte, exists_eq_left', seat_T, h14, hbig, h8]
  · have h17 := fn17 cs h
    have h18 := fn18 cs h
    have h11 := fn11 (bComs cs) (bComs cs)
    rw [decide_eq_true rfl] at h11
    simp only [boolAV] at h11
    refine Seat.fn_of (f := fun4) (noS o 4 _ rfl) rfl rfl rfl ?_; simp only [fun4, Proofs.Try.f4, Seat.W_seq, Seat.W_region_false, Seat.rq_nil, Seat.rq_cons, Seat.rqK_some, Seat.seq_normal, s_step, guardOf, s_guard_true, s_assign, s_move, call_14, s_pure, s_setT, boolAV, callS, callP, stripArgs, AV.stripA, strip_imm, IV.norm, mapEval, evalOp, ofValue, List.set_cons_succ, List.set_cons_zero, List.getElem?_cons_succ, List.getElem?_cons_zero, List.cons_append, List.nil_append, List.length_cons, List.length_nil, List.reduceReplicate, Option.map_some, Nat.reduceSub, Nat.zero_add, seat_T]
    simp only [Seat.W_seq, Seat.W_block, Seat.W_loop, Seat.W_region_false, Seat.W_skip, Seat.cond_eq, Seat.condK_false, Seat.rq_nil, Seat.rq_cons, Seat.rqK_some, Seat.seq_normal, s_step, guardOf, s_guard_true, s_assign, s_bin, s_pure, s_setT, binK, binAV, intBin, boolAV, evalOp, ofValue, List.set_cons_succ, List.set_cons_zero, List.getElem?_cons_succ, List.getElem?_cons_zero, List.contains_cons, List.contains_nil, Option.getD_some, Nat.reduceAdd, Nat.reduceLeDiff, Nat.reduceBEq, Nat.zero_add, Bool.or_false, Bool.or_true, Bool.false_eq_true, decide_false, beq_self_eq_true, eq_self, gt_iff_lt, ↓reduceIte, seat_T, keepSt, keepTmps, keepObjs, kept, keepAV, keepLV_imm, promote, promoteT, firstRegion, k4, h14, hbig]
    refine Seat.loop_by (fun i : Nat => L4_4 (.leaf (.imm (.sl (coms cs)))) (intAV .i64 i)) (fun i => i ≤ cs.length) (fun i => cs.length - i) 0 rfl (Nat.zero_le _) ?_
    intro i hi
    by_cases hlt : i < cs.length
    · obtain ⟨x, hx⟩ := get_lt hlt
      have hxo := h.ok x (List.mem_of_getElem? hx)
      have e1 : IntKind.wrap .i64 ((i : Int) + 1) = ((i + 1 : Nat) : Int) := wrap_i64 (by omega) (by omega)
      have h15 := fn15 x hxo
      have h16 := fn16 x hxo
      have h11x := fn11 x.bytes x.bytes
      rw [decide_eq_true rfl] at h11x
      simp only [boolAV, Com.av] at h11x h15 h16
      simp only [L4_4, Seat.W_seq, Seat.W_block, Seat.W_region_false, Seat.W_region_true, Seat.W_skip, Seat.cond_eq, Seat.condK_true, Seat.condK_false, Seat.rq_nil, Seat.rq_cons, Seat.rqK_some, Seat.rg_nil, Seat.rg_cons, Seat.rgK_some, Seat.endQ, Seat.seq_normal, Seat.blk_normal, loopEnd_normal, s_step, guardOf, s_guard_true, s_assign, s_move, s_bin, s_un, s_indexAddr, s_load, s_len, call_11, call_15, call_16, s_pure, s_setT, loadK, binK, binAV, intBin, boolAV, intAV, unAV, elemK, indexAddrK, indexRow, lenK, lenAV, callS, callP, stripArgs, AV.stripA, strip_imm, stripAll, IV.norm, rowsOf_sl, mkAV, TK.agg, mapEval, evalOp, ofValue, footA, pureCall, quietOp, readsT, writesT, guardLoc, tmpLoc, touch, looksOp, idsOf, AV.ids, LV.ids, Op.operands, Call.operands, List.set_cons_succ, List.set_cons_zero, List.getElem?_cons_succ, List.getElem?_cons_zero, List.cons_append, List.nil_append, List.append_nil, List.length_cons, List.length_nil, List.map_cons, List.map_nil, List.take_succ_cons, List.take_nil, List.flatMap_cons, List.flatMap_nil, List.contains_cons, List.contains_nil, Option.map_some, Option.bind_some, Option.getD_some, Option.toList_some, Option.some.injEq, Nat.reduceAdd, Nat.reduceMul, Nat.reduceLeDiff, Nat.reduceBEq, Nat.zero_add, Nat.le_refl, Int.toNat_natCast, Int.natCast_nonneg, Bool.or_false, Bool.or_true, Bool.not_true, Bool.not_false, Bool.false_eq_true, reduceCtorEq, decide_true, decide_false, beq_self_eq_true, eq_self, ↓reduceIte, seat_T, seat_O, Int.ofNat_lt, keepSt, keepTmps, keepObjs, kept, keepAV, keepLV_imm, promote, promoteT, firstRegion, k4, T_36, T_30, coms_len, coms_get, hx, Com.row, hlt, e1, h15, h16, h11x]
      exact ⟨ord_of (by kernel_rfl), i + 1, by omega, by omega, rfl⟩
    · simp only [L4_4, Seat.W_seq, Seat.W_region_false, Seat.W_exit, Seat.W_ret, Seat.cond_eq, Seat.condK_false, Seat.rq_nil, Seat.rq_cons, Seat.rqK_some, Seat.seq_normal, Seat.seq_exit, Seat.blk_exit, Seat.ret_ret, Seat.RetK, loopEnd_exit, s_step, guardOf, s_guard_true, s_assign, s_move, s_pick, s_bin, s_len, call_8, call_11, call_17, call_18, s_pure, s_setT, pickK, pickAV, binK, binAV, intBin, boolAV, intAV, lenK, lenAV, callS, callP, stripArgs, AV.stripA, strip_imm, IV.norm, lendArgs, lendArg, lend_imm, resultsAV, resultAV, tupleOf, mapEval, evalOp, ofValue, List.set_cons_succ, List.set_cons_zero, List.getElem?_cons_succ, List.getElem?_cons_zero, Option.map_some, Option.getD_some, Option.some.injEq, decide_false, beq_self_eq_true, eq_self, ↓reduceIte, exists_eq_left', seat_T, Int.ofNat_lt, firstRegion, k4, T_30, coms_len, hlt, h17, h18, h11, h8]
end Go.Ai
