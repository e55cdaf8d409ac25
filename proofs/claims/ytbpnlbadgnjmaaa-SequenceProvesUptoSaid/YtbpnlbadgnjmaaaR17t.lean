/- What Verify answers. No condition. -/
import Derived.Test.YtbpnlbadgnjmaaaR17r
import Derived.Test.YtbpnlbadgnjmaaaR17s
import Derived.Test.YtbpnlbadgnjmaaaR17l
namespace Go.Ai
set_option linter.unusedVariables false
set_option linter.unusedSimpArgs false
set_option maxRecDepth 100000
set_option maxHeartbeats 4000000
variable (o : Orac)

def RowOk (n : Nat) (r : List Int) : Prop := r.length = n + 1 ∧ ∀ v ∈ r, 0 ≤ v ∧ v ≤ 1099511627776
/-- An accepted certificate. -/
structure Vfy (d a : List Int) (c : Mat) (x : Aln) : Prop where
  cost : costOf d a c x.ps = (x.cost, true)
  len : x.pot.length = d.length + 1
  rows : ∀ r ∈ x.pot, RowOk a.length r
  v0 : at2 x.pot 0 0 = 0
  vm : at2 x.pot d.length a.length = x.cost
  pots : Pots d a c (at2 x.pot)
theorem all_step {α : Type} {P : α → Prop} {l : List α} {i : Nat} {x : α} (h : ∀ r ∈ l.take i, P r) (hx : l[i]? = some x) (hp : P x) : ∀ r ∈ l.take (i + 1), P r := by
  intro r hr
  rw [List.take_add_one, hx, Option.toList_some, List.mem_append, List.mem_singleton] at hr
  rcases hr with hr | rfl
  · exact h r hr
  · exact hp
theorem all_done {α : Type} {P : α → Prop} {l : List α} {i : Nat} (h : ∀ r ∈ l.take i, P r) (hi : l.length ≤ i) : ∀ r ∈ l, P r := by rwa [List.take_of_length_le hi] at h
theorem all_nil {α : Type} {P : α → Prop} {l : List α} : ∀ r ∈ l.take 0, P r := fun r hr => by cases hr
theorem bfalse {b : Bool} {P : Prop} (hb : b = true ↔ P) (h : ¬ P) : b = false := by
  cases b
  · rfl
  · exact (h (hb.1 rfl)).elim
/-- What must hold at a cell. -/
def Cnd (d a : List Int) (c : Mat) (V : Nat → Nat → Int) (i j : Nat) : Prop :=
  (i < d.length → V (i + 1) j ≤ V i j + at1 d i) ∧ (j < a.length → V i (j + 1) ≤ V i j + at1 a j) ∧ (i < d.length → j < a.length → 0 ≤ at2 c i j → V (i + 1) (j + 1) ≤ V i j + at2 c i j)
theorem cnd_of {d a : List Int} {c : Mat} {V : Nat → Nat → Int} (h : Pots d a c V) {i j : Nat} (hi : i ≤ d.length) (hj : j ≤ a.length) : Cnd d a c V i j :=
  ⟨fun q => h.down i j q hj, fun q => h.right i j hi q, fun q q' => h.both i j q q'⟩
theorem pots_of {d a : List Int} {c : Mat} {V : Nat → Nat → Int} (h : ∀ i j, i < d.length + 1 → j < a.length + 1 → Cnd d a c V i j) : Pots d a c V :=
  ⟨fun i j hi hj => (h i j (by omega) (by omega)).1 hi, fun i j hi hj => (h i j (by omega) (by omega)).2.1 hj, fun i j hi hj => (h i j (by omega) (by omega)).2.2 hi hj⟩

theorem fn19 (d a : List Int) (c : Mat) (x : Aln) (hd : d.length ≤ 1099511627776) (ha : a.length ≤ 1099511627776) (hc : c.length ≤ 1099511627776) (hr : Bdd c) (hps : x.ps.length ≤ 1000) (hpl : x.pot.length ≤ 1099511627776) (hpr : Bdd x.pot) (b : Bool) (hb : b = true ↔ Vfy d a c x) :
    (seat o).fn 19 [.leaf (.imm (.sl (ints d))), .leaf (.imm (.sl (ints a))), .leaf (.imm (.sl (mat c))), x.av] = some (boolAV b) := by
  rcases hco : costOf d a c x.ps with ⟨s, ok⟩
  have h17 := fn17 o d a c x.ps hd ha hc hr hps _ hco
  obtain ⟨m, hm⟩ : ∃ m, m = d.length := ⟨_, rfl⟩
  obtain ⟨n, hn⟩ : ∃ n, n = a.length := ⟨_, rfl⟩
  have em : IntKind.wrap .i64 ((m : Int) + 1) = ((m + 1 : Nat) : Int) := wrap_i64 (by omega) (by omega)
  have en : IntKind.wrap .i64 ((n : Int) + 1) = ((n + 1 : Nat) : Int) := wrap_i64 (by omega) (by omega)
  cases ok with
  | false =>
    obtain rfl := bfalse hb fun q => by have := q.cost; rw [hco] at this; injection this with _ h2; cases h2
    refine Seat.fn_of (f := fun19) (noS o 19 _ rfl) rfl rfl rfl ?_; simp only [fun19, Proofs.Try.f19, Seat.W_seq, Seat.W_region_false, Seat.rq_cons, s_step, guardOf, s_guard_true, s_box, allocK, boxS, boolAV, evalOp, AV.leaves, List.set_cons_succ, List.set_cons_zero, List.getElem?_cons_succ, List.getElem?_cons_zero, List.cons_append, List.nil_append, List.length_cons, List.length_nil, List.getD_cons_succ, List.getD_cons_zero, List.reduceReplicate, Nat.reduceAdd, Nat.reduceSub, Nat.reduceLT, Nat.zero_add, ↓reduceIte, seat_T]
    simp only [Aln.av, Seat.W_seq, Seat.W_region_false, Seat.W_ret, Seat.cond_eq, Seat.condK_true, Seat.rq_nil, Seat.rq_cons, Seat.rqK_some, Seat.seq_normal, Seat.seq_ret, Seat.ret_ret, Seat.RetK, s_step, guardOf, s_guard_true, s_guard_false, s_assign, s_move, s_pick, s_bin, s_un, s_extract, s_fieldAddr, s_load, s_len, call_17, s_pure, s_setT, loadK, loadC, pickK, pickAV, binK, binAV, cmpAV, boolAV, intAV, unAV, extractK, fieldAddrK, lenK, lenAV, callS, callP, stripArgs, AV.stripA, strip_imm, IV.norm, lendArgs, lendArg, lend_imm, resultsAV, resultAV, tupleOf, mkAV, TK.agg, mapEval, evalOp, ofValue, solid_imm, List.set_cons_succ, List.set_cons_zero, List.getElem?_cons_succ, List.getElem?_cons_zero, List.length_cons, List.length_nil, List.getD_cons_succ, List.getD_cons_zero, List.all_cons, List.all_nil, List.drop_zero, List.take_succ_cons, List.take_zero, Option.map_some, Option.bind_some, Option.some.injEq, Nat.reduceAdd, Nat.reduceLT, Nat.reduceLeDiff, Nat.zero_add, Nat.add_zero, and_self, Bool.and_self, Bool.not_false, Bool.false_eq_true, eq_self, ↓reduceIte, exists_eq_left', seat_T, bq_tf, T_22, T_23, T_26, T_28, T_3, ints_len, h17]
  | true =>
    by_cases hs : s = x.cost
    · subst hs
      have hp : Prp d a c := by
        unfold costOf at hco
        by_cases hp : Prp d a c
        · exact hp
        · rw [if_neg hp] at hco; exact absurd (congrArg Prod.snd hco) (by simp)
      have hld := hp.ld
      have hla := hp.la
      by_cases hlen : x.pot.length = m + 1
      · have hlenI : (x.pot.length : Int) = ((m + 1 : Nat) : Int) := by omega
        refine Seat.fn_of (f := fun19) (noS o 19 _ rfl) rfl rfl rfl ?_; simp only [fun19, Proofs.Try.f19, Seat.W_seq, Seat.W_region_false, Seat.rq_cons, s_step, guardOf, s_guard_true, s_box, allocK, boxS, boolAV, evalOp, AV.leaves, List.set_cons_succ, List.set_cons_zero, List.getElem?_cons_succ, List.getElem?_cons_zero, List.cons_append, List.nil_append, List.length_cons, List.length_nil, List.getD_cons_succ, List.getD_cons_zero, List.reduceReplicate, Nat.reduceAdd, Nat.reduceSub, Nat.reduceLT, Nat.zero_add, ↓reduceIte, seat_T]
        simp only [Aln.av, Seat.W_seq, Seat.W_block, Seat.W_loop, Seat.W_region_false, Seat.W_skip, Seat.cond_eq, Seat.condK_false, Seat.rq_nil, Seat.rq_cons, Seat.rqK_some, Seat.seq_normal, s_step, guardOf, s_guard_true, s_assign, s_move, s_pick, s_bin, s_un, s_extract, s_fieldAddr, s_load, s_len, call_17, s_pure, s_setT, loadK, loadC, pickK, pickAV, binK, binAV, intBin, boolAV, intAV, unAV, extractK, fieldAddrK, lenK, lenAV, callS, callP, stripArgs, AV.stripA, strip_imm, IV.norm, mkAV, TK.agg, mapEval, evalOp, ofValue, solid_imm, List.set_cons_succ, List.set_cons_zero, List.getElem?_cons_succ, List.getElem?_cons_zero, List.length_cons, List.length_nil, List.getD_cons_succ, List.getD_cons_zero, List.all_cons, List.all_nil, List.map_cons, List.map_nil, List.drop_succ_cons, List.drop_zero, List.take_succ_cons, List.take_zero, List.take_nil, List.contains_cons, List.contains_nil, Option.map_some, Option.bind_some, Option.getD_some, Nat.reduceAdd, Nat.reduceLT, Nat.reduceLeDiff, Nat.reduceBEq, Nat.zero_add, Nat.add_zero, Nat.le_refl, and_self, Bool.and_self, Bool.or_false, Bool.or_true, Bool.not_true, Bool.false_eq_true, decide_true, decide_false, beq_self_eq_true, eq_self, ↓reduceIte, seat_T, int_bne, keepSt, keepTmps, keepObjs, kept, keepAV, keepLV_imm, keepLV_ptr, keepObj, promote, promoteT, firstRegion, k19, T_22, T_23, T_26, T_28, T_3, ints_len, mat_len, h17, ← hm, ← hn, em, hlen]
        refine Seat.loop_by (fun i : Nat => L19_6 (.leaf (.imm (.sl (ints d)))) (.leaf (.imm (.sl (ints a)))) (.leaf (.imm (.sl (mat c)))) (.leaf (.ptr 7 0 0)) (intAV .i64 (m : Int)) (intAV .i64 (n : Int)) (.leaf (.imm (.sl (mat x.pot)))) (intAV .i64 ((m + 1 : Nat) : Int)) (intAV .i64 (i : Int)) x.box) (fun i => i ≤ m + 1 ∧ ∀ r ∈ x.pot.take i, RowOk n r) (fun i => m + 1 - i) 0 rfl ⟨Nat.zero_le _, all_nil⟩ ?_
        rintro i ⟨hi, hs⟩
        by_cases hlt : i < m + 1
        · obtain ⟨r, hx⟩ := get_lt (l := x.pot) (i := i) (by omega)
          have hrl := hpr r (List.mem_of_getElem? hx)
          have e1 : IntKind.wrap .i64 ((i : Int) + 1) = ((i + 1 : Nat) : Int) := wrap_i64 (by omega) (by omega)
          by_cases hrn : r.length = n + 1
          · simp only [L19_6, Aln.box, Seat.W_seq, Seat.W_block, Seat.W_loop, Seat.W_region_false, Seat.W_skip, Seat.cond_eq, Seat.condK_true, Seat.condK_false, Seat.rq_nil, Seat.rq_cons, Seat.rqK_some, Seat.seq_normal, s_step, guardOf, s_guard_true, s_assign, s_move, s_bin, s_indexAddr, s_load, s_len, s_pure, s_setT, loadK, binK, binAV, intBin, boolAV, intAV, elemK, indexAddrK, indexRow, lenK, lenAV, rowsOf_sl, mkAV, TK.agg, mapEval, evalOp, ofValue, List.set_cons_succ, List.set_cons_zero, List.getElem?_cons_succ, List.getElem?_cons_zero, List.length_cons, List.length_nil, List.map_cons, List.map_nil, List.take_succ_cons, List.take_nil, List.contains_cons, List.contains_nil, Option.map_some, Option.getD_some, Nat.reduceAdd, Nat.reduceLeDiff, Nat.reduceBEq, Nat.zero_add, Nat.le_refl, Int.toNat_natCast, Int.natCast_nonneg, Bool.or_false, Bool.or_true, Bool.not_true, Bool.false_eq_true, decide_true, decide_false, beq_self_eq_true, eq_self, ↓reduceIte, seat_T, int_bne, Int.ofNat_lt, keepSt, keepTmps, keepObjs, kept, keepAV, keepLV_imm, keepLV_ptr, keepObj, promote, promoteT, firstRegion, k19, T_22, T_23, ints_len, mat_get, hx, hlt, hrn, en]
            refine Seat.loop_by (fun j : Nat => L19_11 (.leaf (.imm (.sl (ints d)))) (.leaf (.imm (.sl (ints a)))) (.leaf (.imm (.sl (mat c)))) (.leaf (.ptr 7 0 0)) (intAV .i64 (m : Int)) (intAV .i64 (n : Int)) (.leaf (.imm (.sl (mat x.pot)))) (intAV .i64 ((m + 1 : Nat) : Int)) (intAV .i64 (i : Int)) (.leaf (.imm (.sl (ints r)))) (intAV .i64 ((n + 1 : Nat) : Int)) (intAV .i64 (j : Int)) x.box) (fun j => j ≤ n + 1 ∧ ∀ v ∈ r.take j, 0 ≤ v ∧ v ≤ 1099511627776) (fun j => n + 1 - j) 0 rfl ⟨Nat.zero_le _, all_nil⟩ ?_
            rintro j ⟨hj, hsj⟩
            by_cases hjlt : j < n + 1
            · obtain ⟨v, hv⟩ := get_lt (l := r) (i := j) (by omega)
              have e2 : IntKind.wrap .i64 ((j : Int) + 1) = ((j + 1 : Nat) : Int) := wrap_i64 (by omega) (by omega)
              have hbad : ¬ (0 ≤ v ∧ v ≤ 1099511627776) → b = false := fun h => bfalse hb fun q => h ((q.rows r (List.mem_of_getElem? hx)).2 v (List.mem_of_getElem? hv))
              by_cases h1 : v < 0
              · obtain rfl := hbad (by omega)
                simp only [L19_11, Aln.box, Seat.W_seq, Seat.W_block, Seat.W_region_false, Seat.W_ret, Seat.W_skip, Seat.cond_eq, Seat.condK_true, Seat.rq_nil, Seat.rq_cons, Seat.rqK_some, Seat.seq_normal, Seat.seq_ret, Seat.blk_ret, Seat.ret_ret, Seat.RetK, loopEnd_ret, s_step, guardOf, s_guard_true, s_guard_false, s_assign, s_move, s_pick, s_bin, s_indexAddr, s_load, s_pure, s_setT, loadK, pickK, pickAV, binK, binAV, cmpAV, intBin, boolAV, intAV, elemK, indexAddrK, indexRow, IV.norm, lendArgs, lendArg, lend_imm, rowsOf_sl, resultsAV, resultAV, tupleOf, mkAV, TK.agg, evalOp, ofValue, List.set_cons_succ, List.set_cons_zero, List.getElem?_cons_succ, List.getElem?_cons_zero, List.length_cons, List.length_nil, List.map_cons, List.map_nil, List.take_succ_cons, List.take_nil, Option.map_some, Option.getD_some, Option.some.injEq, Nat.zero_add, Nat.le_refl, Int.toNat_natCast, Int.natCast_nonneg, Bool.false_eq_true, decide_true, eq_self, ↓reduceIte, exists_eq_left', seat_T, bq_tf, Int.ofNat_lt, firstRegion, k19, T_22, T_3, ints_get, hv, hjlt, h1]
              · by_cases h2 : 1099511627776 < v
                · obtain rfl := hbad (by omega)
                  simp only [L19_11, Aln.box, Seat.W_seq, Seat.W_block, Seat.W_region_false, Seat.W_ret, Seat.W_skip, Seat.cond_eq, Seat.condK_true, Seat.rq_nil, Seat.rq_cons, Seat.rqK_some, Seat.seq_normal, Seat.seq_ret, Seat.blk_ret, Seat.ret_ret, Seat.RetK, loopEnd_ret, s_step, guardOf, s_guard_true, s_assign, s_move, s_pick, s_bin, s_indexAddr, s_load, s_pure, s_setT, loadK, pickK, pickAV, binK, binAV, intBin, boolAV, intAV, elemK, indexAddrK, indexRow, IV.norm, lendArgs, lendArg, lend_imm, rowsOf_sl, resultsAV, resultAV, tupleOf, mkAV, TK.agg, evalOp, ofValue, List.set_cons_succ, List.set_cons_zero, List.getElem?_cons_succ, List.getElem?_cons_zero, List.length_cons, List.length_nil, List.map_cons, List.map_nil, List.take_succ_cons, List.take_nil, Option.map_some, Option.getD_some, Option.some.injEq, Nat.zero_add, Nat.le_refl, Int.toNat_natCast, Int.natCast_nonneg, Bool.false_eq_true, decide_true, decide_false, beq_self_eq_true, eq_self, gt_iff_lt, ↓reduceIte, exists_eq_left', seat_T, Int.ofNat_lt, firstRegion, k19, T_22, T_3, ints_get, hv, hjlt, h1, h2]
                · simp only [L19_11, Aln.box, Seat.W_seq, Seat.W_block, Seat.W_region_false, Seat.W_skip, Seat.cond_eq, Seat.condK_true, Seat.condK_false, Seat.rq_nil, Seat.rq_cons, Seat.rqK_some, Seat.seq_normal, Seat.blk_normal, loopEnd_normal, s_step, guardOf, s_guard_true, s_assign, s_move, s_pick, s_bin, s_indexAddr, s_load, s_pure, s_setT, loadK, pickK, pickAV, binK, binAV, intBin, boolAV, intAV, elemK, indexAddrK, indexRow, rowsOf_sl, mkAV, TK.agg, evalOp, ofValue, List.set_cons_succ, List.set_cons_zero, List.getElem?_cons_succ, List.getElem?_cons_zero, List.length_cons, List.length_nil, List.map_cons, List.map_nil, List.take_succ_cons, List.take_nil, List.contains_cons, List.contains_nil, Option.map_some, Option.getD_some, Nat.reduceAdd, Nat.reduceLeDiff, Nat.reduceBEq, Nat.zero_add, Nat.le_refl, Int.toNat_natCast, Int.natCast_nonneg, Bool.or_false, Bool.or_true, Bool.false_eq_true, decide_true, decide_false, beq_self_eq_true, eq_self, gt_iff_lt, ↓reduceIte, seat_T, Int.ofNat_lt, keepSt, keepTmps, keepObjs, kept, keepAV, keepLV_imm, keepLV_ptr, keepObj, promote, promoteT, firstRegion, k19, T_22, T_3, ints_get, hv, hjlt, h1, h2, e2]
                  exact ⟨j + 1, ⟨by omega, all_step hsj hv ⟨by omega, by omega⟩⟩, by omega, rfl⟩
            · have hrow := all_done hsj (by omega)
              simp only [L19_11, Aln.box, Seat.W_seq, Seat.W_region_false, Seat.W_exit, Seat.cond_eq, Seat.condK_false, Seat.rq_nil, Seat.rq_cons, Seat.rqK_some, Seat.seq_normal, Seat.seq_exit, Seat.blk_normal, Seat.blk_exit, loopEnd_normal, loopEnd_exit, s_step, guardOf, s_guard_true, s_move, s_bin, s_pure, s_setT, binK, binAV, intBin, boolAV, intAV, evalOp, ofValue, List.set_cons_succ, List.set_cons_zero, List.getElem?_cons_succ, List.getElem?_cons_zero, List.map_cons, List.map_nil, List.contains_cons, List.contains_nil, Option.map_some, Option.getD_some, Nat.reduceAdd, Nat.reduceLeDiff, Nat.reduceBEq, Nat.zero_add, Bool.or_false, Bool.or_true, Bool.false_eq_true, decide_false, beq_self_eq_true, eq_self, ↓reduceIte, seat_T, Int.ofNat_lt, keepSt, keepTmps, keepObjs, kept, keepAV, keepLV_imm, keepLV_ptr, keepObj, promote, promoteT, firstRegion, k19, hjlt, e1]
              exact ⟨i + 1, ⟨by omega, all_step hs hx ⟨hrn, hrow⟩⟩, by omega, rfl⟩
          · obtain rfl := bfalse hb fun q => hrn (by have := (q.rows r (List.mem_of_getElem? hx)).1; omega)
            simp only [L19_6, Aln.box, Seat.W_seq, Seat.W_block, Seat.W_region_false, Seat.W_ret, Seat.W_skip, Seat.cond_eq, Seat.condK_true, Seat.rq_nil, Seat.rq_cons, Seat.rqK_some, Seat.seq_normal, Seat.seq_ret, Seat.blk_ret, Seat.ret_ret, Seat.RetK, loopEnd_ret, s_step, guardOf, s_guard_true, s_assign, s_move, s_bin, s_indexAddr, s_load, s_len, s_pure, s_setT, loadK, binK, binAV, intBin, boolAV, intAV, elemK, indexAddrK, indexRow, lenK, lenAV, IV.norm, lendArgs, lendArg, lend_imm, rowsOf_sl, resultsAV, resultAV, tupleOf, mkAV, TK.agg, mapEval, evalOp, ofValue, List.set_cons_succ, List.set_cons_zero, List.getElem?_cons_succ, List.getElem?_cons_zero, List.length_cons, List.length_nil, List.map_cons, List.map_nil, List.take_succ_cons, List.take_nil, Option.map_some, Option.getD_some, Option.some.injEq, Nat.zero_add, Nat.le_refl, Int.toNat_natCast, Int.natCast_nonneg, Bool.not_false, Bool.false_eq_true, decide_true, decide_false, eq_self, ↓reduceIte, exists_eq_left', seat_T, int_bne, Int.ofNat_lt, Int.natCast_inj, firstRegion, k19, T_22, T_23, ints_len, mat_get, hx, hlt, hrn, en, Int.natCast_inj]
        · have hrows := all_done hs (by omega)
          have cell : ∀ i j, i < m + 1 → j < n + 1 → ∃ r, x.pot[i]? = some r ∧ r.length = n + 1 ∧ r[j]? = some (at2 x.pot i j) ∧ 0 ≤ at2 x.pot i j ∧ at2 x.pot i j ≤ 1099511627776 := fun i j hi hj => by
            obtain ⟨r, hx⟩ := get_lt (l := x.pot) (i := i) (by omega)
            obtain ⟨hrl, hrv⟩ := hrows r (List.mem_of_getElem? hx)
            obtain ⟨v, hv⟩ := get_lt (l := r) (i := j) (by omega)
            rw [at2_of hx hv]
            exact ⟨r, hx, hrl, hv, hrv v (List.mem_of_getElem? hv)⟩
          obtain ⟨r0, hr0, hr0l, hv0, _, _⟩ := cell 0 0 (by omega) (by omega)
          obtain ⟨rm, hrm, hrml, hvm, _, _⟩ := cell m n (by omega) (by omega)
          have z1 : 0 < m + 1 := by omega
          have z2 : 0 < n + 1 := by omega
          have z3 : m < m + 1 := by omega
          have z4 : n < n + 1 := by omega
          by_cases h0 : at2 x.pot 0 0 = 0
          · rw [h0] at hv0
            by_cases hmc : at2 x.pot m n = x.cost
            · rw [hmc] at hvm
              simp only [L19_6, Aln.box, Seat.W_seq, Seat.W_block, Seat.W_loop, Seat.W_region_false, Seat.W_region_true, Seat.W_exit, Seat.W_skip, Seat.cond_eq, Seat.condK_false, Seat.rq_nil, Seat.rq_cons, Seat.rqK_some, Seat.rg_nil, Seat.rg_cons, Seat.rgK_some, Seat.endQ, Seat.seq_normal, Seat.seq_exit, Seat.blk_exit, loopEnd_exit, s_step, guardOf, s_guard_true, s_move, s_pick, s_bin, s_fieldAddr, s_indexAddr, s_load, s_len, s_pure, s_setT, loadK, loadC, pickK, pickAV, binK, binAV, intBin, boolAV, intAV, fieldAddrK, elemK, indexAddrK, indexRow, lenK, lenAV, rowsOf_sl, mkAV, TK.agg, mapEval, evalOp, ofValue, footA, pureCall, quietOp, readsT, writesT, guardLoc, tmpLoc, touch, looksOp, idsOf, AV.ids, LV.ids, Op.operands, List.set_cons_succ, List.set_cons_zero, List.getElem?_cons_succ, List.getElem?_cons_zero, List.cons_append, List.nil_append, List.append_nil, List.length_cons, List.length_nil, List.getD_cons_succ, List.getD_cons_zero, List.map_cons, List.map_nil, List.drop_succ_cons, List.drop_zero, List.take_succ_cons, List.take_zero, List.take_nil, List.flatMap_cons, List.flatMap_nil, List.contains_cons, List.contains_nil, Option.map_some, Option.getD_some, Option.toList_some, Option.some.injEq, Nat.reduceAdd, Nat.reduceMul, Nat.reduceLT, Nat.reduceLeDiff, Nat.reduceBEq, Nat.zero_add, Nat.le_refl, Int.toNat_natCast, Int.natCast_nonneg, Int.reduceLE, Int.toNat_zero, and_self, Bool.or_false, Bool.or_true, Bool.false_eq_true, reduceCtorEq, decide_false, beq_self_eq_true, eq_self, ↓reduceIte, seat_T, Int.ofNat_lt, keepSt, keepTmps, keepObjs, kept, keepAV, keepLV_imm, keepLV_ptr, keepObj, promote, promoteT, firstRegion, k19, T_22, T_23, T_28, T_3, ints_get, mat_len, mat_get, hlt, hlen, hr0, hv0, hrm, hvm, bne_self_eq_false]
              first
                | refine ⟨ord_of (by kernel_rfl), ?_⟩
                | skip
              refine Seat.loop_by (fun i : Nat => L19_20 (.leaf (.imm (.sl (ints d)))) (.leaf (.imm (.sl (ints a)))) (.leaf (.imm (.sl (mat c)))) (.leaf (.ptr 7 0 0)) (intAV .i64 (m : Int)) (intAV .i64 (n : Int)) (intAV .i64 ((m + 1 : Nat) : Int)) (intAV .i64 (i : Int)) x.box) (fun i => i ≤ m + 1 ∧ ∀ i' j', i' < i → j' < n + 1 → Cnd d a c (at2 x.pot) i' j') (fun i => m + 1 - i) 0 rfl ⟨Nat.zero_le _, fun i' j' h => by omega⟩ ?_
              rintro i ⟨hi, hs⟩
              by_cases hlt : i < m + 1
              · obtain ⟨ri, hri, hril, _⟩ := cell i 0 hlt z2
                have e1 : IntKind.wrap .i64 ((i : Int) + 1) = ((i + 1 : Nat) : Int) := wrap_i64 (by omega) (by omega)
                simp only [L19_20, Aln.box, Seat.W_seq, Seat.W_block, Seat.W_loop, Seat.W_region_false, Seat.W_skip, Seat.cond_eq, Seat.condK_true, Seat.rq_nil, Seat.rq_cons, Seat.rqK_some, Seat.seq_normal, s_step, guardOf, s_guard_true, s_assign, s_move, s_bin, s_fieldAddr, s_indexAddr, s_load, s_len, s_pure, s_setT, loadK, loadC, binK, binAV, intBin, boolAV, intAV, fieldAddrK, elemK, indexAddrK, indexRow, lenK, lenAV, rowsOf_sl, mkAV, TK.agg, mapEval, evalOp, ofValue, List.set_cons_succ, List.set_cons_zero, List.getElem?_cons_succ, List.getElem?_cons_zero, List.length_cons, List.length_nil, List.getD_cons_succ, List.getD_cons_zero, List.map_cons, List.map_nil, List.drop_succ_cons, List.drop_zero, List.take_succ_cons, List.take_nil, List.contains_cons, List.contains_nil, Option.map_some, Option.getD_some, Nat.reduceAdd, Nat.reduceLT, Nat.reduceLeDiff, Nat.reduceBEq, Nat.zero_add, Nat.le_refl, Int.toNat_natCast, Int.natCast_nonneg, and_self, Bool.or_false, Bool.or_true, Bool.false_eq_true, decide_true, decide_false, beq_self_eq_true, eq_self, ↓reduceIte, seat_T, Int.ofNat_lt, keepSt, keepTmps, keepObjs, kept, keepAV, keepLV_imm, keepLV_ptr, keepObj, promote, promoteT, firstRegion, k19, T_22, T_23, T_28, ints_len, mat_get, hlt, hri, hril]
                refine Seat.loop_by (fun j : Nat => V19 d a c x m n i j) (fun j => j ≤ n + 1 ∧ ∀ j', j' < j → Cnd d a c (at2 x.pot) i j') (fun j => n + 1 - j) 0 rfl ⟨Nat.zero_le _, fun j' h => by omega⟩ ?_
                rintro j ⟨hj, hsj⟩
                by_cases hjlt : j < n + 1
                · obtain ⟨ri', hri', _, hv, hvb⟩ := cell i j hlt hjlt
                  obtain rfl : ri = ri' := by rw [hri] at hri'; injection hri'
                  have e2 : IntKind.wrap .i64 ((j : Int) + 1) = ((j + 1 : Nat) : Int) := wrap_i64 (by omega) (by omega)
                  have hdb := hp.d_bd i
                  have hab := hp.a_bd j
                  have hcb := hp.c_bd i j
                  have hbad : ¬ Cnd d a c (at2 x.pot) i j → b = false := fun h => bfalse hb fun q => h (cnd_of q.pots (by omega) (by omega))
                  have eb1 : IntKind.wrap .i64 (at2 x.pot i j + at1 d i) = at2 x.pot i j + at1 d i := wrap_i64 (by omega) (by omega)
                  have eb2 : IntKind.wrap .i64 (at2 x.pot i j + at1 a j) = at2 x.pot i j + at1 a j := wrap_i64 (by omega) (by omega)
                  have eb3 : IntKind.wrap .i64 (at2 x.pot i j + at2 c i j) = at2 x.pot i j + at2 c i j := wrap_i64 (by omega) (by omega)
                  have next : Cnd d a c (at2 x.pot) i j → ∃ y, (y ≤ n + 1 ∧ ∀ j', j' < y → Cnd d a c (at2 x.pot) i j') ∧ n + 1 - y < n + 1 - j ∧ V19 d a c x m n i (j + 1) = V19 d a c x m n i y := fun h =>
                    ⟨j + 1, ⟨by omega, fun j' hj' => by
                      by_cases q : j' = j
                      · subst q; exact h
                      · exact hsj j' (by omega)⟩, by omega, rfl⟩
                  by_cases him : i < m
                  · obtain ⟨rn, hrn, hrnl, hu1, _⟩ := cell (i + 1) j (by omega) hjlt
                    have hdi := get_at1 (l := d) (i := i) (by omega)
                    by_cases h1 : at2 x.pot i j + at1 d i < at2 x.pot (i + 1) j
                    · exact v19_a o hjlt e2 e1 hri hv him hrn hu1 hdi eb1 h1 fun st' h8 => by
                        obtain rfl := hbad fun q => by have := q.1 (by omega); omega
                        simp only [Seat.seq_ret, Seat.blk_ret, Seat.ret_ret, Seat.RetK, loopEnd_ret, IV.norm, lendArgs, lendArg, lend_imm, resultsAV, resultAV, tupleOf, Option.map_some, Option.some.injEq, eq_self, exists_eq_left', h8]
                    · by_cases hjn : j < n
                      · obtain ⟨ri', hri', _, hu2, _⟩ := cell i (j + 1) hlt (by omega)
                        obtain rfl : ri = ri' := by rw [hri] at hri'; injection hri'
                        have haj := get_at1 (l := a) (i := j) (by omega)
                        by_cases h2 : at2 x.pot i j + at1 a j < at2 x.pot i (j + 1)
                        · exact v19_b o hjlt e2 e1 hri hv him hrn hu1 hdi eb1 h1 hjn hu2 haj eb2 h2 fun st' h8 => by
                            obtain rfl := hbad fun q => by have := q.2.1 (by omega); omega
                            simp only [Seat.seq_ret, Seat.blk_ret, Seat.ret_ret, Seat.RetK, loopEnd_ret, IV.norm, lendArgs, lendArg, lend_imm, resultsAV, resultAV, tupleOf, Option.map_some, Option.some.injEq, eq_self, exists_eq_left', h8]
                        · obtain ⟨crow, hc, hcl, hcv⟩ := hp.cell (i := i) (j := j) (by omega) (by omega)
                          by_cases hc0 : 0 ≤ at2 c i j
                          · obtain ⟨rn', hrn', _, hu3, _⟩ := cell (i + 1) (j + 1) (by omega) (by omega)
                            obtain rfl : rn = rn' := by rw [hrn] at hrn'; injection hrn'
                            by_cases h3 : at2 x.pot i j + at2 c i j < at2 x.pot (i + 1) (j + 1)
                            · exact v19_d o hjlt e2 e1 hri hv him hrn hu1 hdi eb1 h1 hjn hu2 haj eb2 h2 hc hcv hc0 hu3 eb3 h3 fun st' h8 => by
                                obtain rfl := hbad fun q => by have := q.2.2 (by omega) (by omega) hc0; omega
                                simp only [Seat.seq_ret, Seat.blk_ret, Seat.ret_ret, Seat.RetK, loopEnd_ret, IV.norm, lendArgs, lendArg, lend_imm, resultsAV, resultAV, tupleOf, Option.map_some, Option.some.injEq, eq_self, exists_eq_left', h8]
                            · exact v19_e o hjlt e2 e1 hri hv him hrn hu1 hdi eb1 h1 hjn hu2 haj eb2 h2 hc hcv hc0 hu3 eb3 h3 (next ⟨fun _ => by omega, fun _ => by omega, fun _ _ _ => by omega⟩)
                          · exact v19_c o hjlt e2 e1 hri hv him hrn hu1 hdi eb1 h1 hjn hu2 haj eb2 h2 hc hcv hc0 (next ⟨fun _ => by omega, fun _ => by omega, fun _ _ q => (hc0 q).elim⟩)
                      · exact v19_f o hjlt e2 e1 hri hv him hrn hu1 hdi eb1 h1 hjn (next ⟨fun _ => by omega, fun q => by omega, fun _ q => by omega⟩)
                  · by_cases hjn : j < n
                    · obtain ⟨ri', hri', _, hu2, _⟩ := cell i (j + 1) hlt (by omega)
                      obtain rfl : ri = ri' := by rw [hri] at hri'; injection hri'
                      have haj := get_at1 (l := a) (i := j) (by omega)
                      by_cases h2 : at2 x.pot i j + at1 a j < at2 x.pot i (j + 1)
                      · exact v19_g o hjlt e2 e1 hri hv him hjn hu2 haj eb2 h2 fun st' h8 => by
                          obtain rfl := hbad fun q => by have := q.2.1 (by omega); omega
                          simp only [Seat.seq_ret, Seat.blk_ret, Seat.ret_ret, Seat.RetK, loopEnd_ret, IV.norm, lendArgs, lendArg, lend_imm, resultsAV, resultAV, tupleOf, Option.map_some, Option.some.injEq, eq_self, exists_eq_left', h8]
                      · exact v19_h o hjlt e2 e1 hri hv him hjn hu2 haj eb2 h2 (next ⟨fun q => by omega, fun _ => by omega, fun q => by omega⟩)
                    · exact v19_i o hjlt e2 e1 hri hv him hjn (next ⟨fun q => by omega, fun q => by omega, fun q => by omega⟩)
                · simp only [V19, L19_23, Aln.box, Seat.W_seq, Seat.W_region_false, Seat.W_exit, Seat.cond_eq, Seat.condK_false, Seat.rq_nil, Seat.rq_cons, Seat.rqK_some, Seat.seq_normal, Seat.seq_exit, Seat.blk_normal, Seat.blk_exit, loopEnd_normal, loopEnd_exit, s_step, guardOf, s_guard_true, s_move, s_bin, s_pure, s_setT, binK, binAV, intBin, boolAV, intAV, evalOp, ofValue, List.set_cons_succ, List.set_cons_zero, List.getElem?_cons_succ, List.getElem?_cons_zero, List.map_cons, List.map_nil, List.contains_cons, List.contains_nil, Option.map_some, Option.getD_some, Nat.reduceAdd, Nat.reduceLeDiff, Nat.reduceBEq, Nat.zero_add, Bool.or_false, Bool.or_true, Bool.false_eq_true, decide_false, beq_self_eq_true, eq_self, ↓reduceIte, seat_T, Int.ofNat_lt, keepSt, keepTmps, keepObjs, kept, keepAV, keepLV_imm, keepLV_ptr, keepObj, promote, promoteT, firstRegion, k19, hjlt, e1]
                  refine ⟨i + 1, ⟨by omega, fun i' j' hi' hj' => ?_⟩, by omega, rfl⟩
                  by_cases q : i' = i
                  · subst q; exact hsj j' (by omega)
                  · exact hs i' j' (by omega) hj'
              · obtain rfl : b = true := hb.2 ⟨hco, by omega, fun r hr => by rw [← hn]; exact hrows r hr, h0, by rw [← hm, ← hn]; exact hmc, pots_of fun i' j' h1 h2 => hs i' j' (by omega) (by omega)⟩
                simp only [L19_20, Aln.box, Seat.W_seq, Seat.W_region_false, Seat.W_exit, Seat.W_ret, Seat.cond_eq, Seat.condK_false, Seat.rq_nil, Seat.rq_cons, Seat.rqK_some, Seat.seq_normal, Seat.seq_exit, Seat.blk_exit, Seat.ret_ret, Seat.RetK, loopEnd_exit, s_step, guardOf, s_guard_true, s_assign, s_bin, s_pure, s_setT, binK, binAV, intBin, boolAV, intAV, IV.norm, lendArgs, lendArg, lend_imm, resultsAV, resultAV, tupleOf, evalOp, ofValue, List.set_cons_succ, List.set_cons_zero, List.getElem?_cons_succ, List.getElem?_cons_zero, Option.map_some, Option.getD_some, Option.some.injEq, decide_false, eq_self, ↓reduceIte, exists_eq_left', seat_T, Int.ofNat_lt, firstRegion, k19, hlt]
            · obtain rfl := bfalse hb fun q => hmc (by rw [hm, hn]; exact q.vm)
              simp only [L19_6, Aln.box, Seat.W_seq, Seat.W_region_false, Seat.W_region_true, Seat.W_exit, Seat.W_ret, Seat.cond_eq, Seat.condK_true, Seat.condK_false, Seat.rq_nil, Seat.rq_cons, Seat.rqK_some, Seat.rg_nil, Seat.rg_cons, Seat.rgK_some, Seat.endQ, Seat.seq_normal, Seat.seq_exit, Seat.seq_ret, Seat.blk_exit, Seat.ret_ret, Seat.RetK, loopEnd_exit, s_step, guardOf, s_guard_true, s_assign, s_move, s_pick, s_bin, s_fieldAddr, s_indexAddr, s_load, s_pure, s_setT, loadK, loadC, pickK, pickAV, binK, binAV, intBin, boolAV, intAV, fieldAddrK, elemK, indexAddrK, indexRow, IV.norm, lendArgs, lendArg, lend_imm, rowsOf_sl, resultsAV, resultAV, tupleOf, mkAV, TK.agg, evalOp, ofValue, footA, pureCall, quietOp, readsT, writesT, guardLoc, tmpLoc, touch, looksOp, idsOf, AV.ids, LV.ids, Op.operands, List.set_cons_succ, List.set_cons_zero, List.getElem?_cons_succ, List.getElem?_cons_zero, List.cons_append, List.nil_append, List.append_nil, List.length_cons, List.length_nil, List.getD_cons_succ, List.getD_cons_zero, List.map_cons, List.map_nil, List.drop_succ_cons, List.drop_zero, List.take_succ_cons, List.take_zero, List.take_nil, List.flatMap_cons, List.flatMap_nil, Option.map_some, Option.getD_some, Option.toList_some, Option.some.injEq, Nat.reduceAdd, Nat.reduceMul, Nat.reduceLT, Nat.reduceLeDiff, Nat.zero_add, Nat.le_refl, Int.toNat_natCast, Int.natCast_nonneg, Int.reduceLE, Int.toNat_zero, and_self, and_true, Bool.or_false, Bool.not_false, Bool.false_eq_true, reduceCtorEq, decide_false, beq_self_eq_true, eq_self, ↓reduceIte, exists_eq_left', seat_T, int_bne, Int.ofNat_lt, firstRegion, k19, T_22, T_23, T_28, T_3, ints_get, mat_get, hlt, hr0, hv0, hrm, hvm, bne_self_eq_false, hmc]
              first | done | exact ord_of (by kernel_rfl)
          · obtain rfl := bfalse hb fun q => h0 q.v0
            simp only [L19_6, Aln.box, Seat.W_seq, Seat.W_region_false, Seat.W_region_true, Seat.W_exit, Seat.W_ret, Seat.cond_eq, Seat.condK_true, Seat.condK_false, Seat.rq_nil, Seat.rq_cons, Seat.rqK_some, Seat.rg_nil, Seat.rg_cons, Seat.rgK_some, Seat.endQ, Seat.seq_normal, Seat.seq_exit, Seat.seq_ret, Seat.blk_exit, Seat.ret_ret, Seat.RetK, loopEnd_exit, s_step, guardOf, s_guard_true, s_guard_false, s_assign, s_move, s_pick, s_bin, s_fieldAddr, s_indexAddr, s_load, s_pure, s_setT, loadK, loadC, pickK, pickAV, binK, binAV, cmpAV, intBin, boolAV, intAV, fieldAddrK, elemK, indexAddrK, indexRow, IV.norm, lendArgs, lendArg, lend_imm, rowsOf_sl, resultsAV, resultAV, tupleOf, mkAV, TK.agg, evalOp, ofValue, footA, pureCall, quietOp, readsT, writesT, guardLoc, tmpLoc, touch, looksOp, idsOf, AV.ids, LV.ids, Op.operands, List.set_cons_succ, List.set_cons_zero, List.getElem?_cons_succ, List.getElem?_cons_zero, List.cons_append, List.nil_append, List.append_nil, List.length_cons, List.length_nil, List.getD_cons_succ, List.getD_cons_zero, List.map_cons, List.map_nil, List.drop_succ_cons, List.drop_zero, List.take_succ_cons, List.take_nil, List.flatMap_cons, List.flatMap_nil, Option.map_some, Option.getD_some, Option.toList_some, Option.some.injEq, Nat.reduceAdd, Nat.reduceMul, Nat.reduceLT, Nat.zero_add, Nat.le_refl, Int.reduceLE, Int.toNat_zero, and_self, and_true, Bool.or_false, Bool.not_false, Bool.false_eq_true, reduceCtorEq, decide_false, eq_self, ↓reduceIte, exists_eq_left', seat_T, bq_tf, int_bne, Int.ofNat_lt, firstRegion, k19, T_22, T_23, T_28, T_3, ints_get, mat_get, hlt, hr0, hv0, h0]
            first | done | exact ord_of (by kernel_rfl)
      · obtain rfl := bfalse hb fun q => hlen (by rw [hm]; exact q.len)
        have hlenI : ¬ (x.pot.length : Int) = ((m + 1 : Nat) : Int) := by omega
        refine Seat.fn_of (f := fun19) (noS o 19 _ rfl) rfl rfl rfl ?_; simp only [fun19, Proofs.Try.f19, Seat.W_seq, Seat.W_region_false, Seat.rq_cons, s_step, guardOf, s_guard_true, s_box, allocK, boxS, boolAV, evalOp, AV.leaves, List.set_cons_succ, List.set_cons_zero, List.getElem?_cons_succ, List.getElem?_cons_zero, List.cons_append, List.nil_append, List.length_cons, List.length_nil, List.getD_cons_succ, List.getD_cons_zero, List.reduceReplicate, Nat.reduceAdd, Nat.reduceSub, Nat.reduceLT, Nat.zero_add, ↓reduceIte, seat_T]
        simp only [Aln.av, Seat.W_seq, Seat.W_region_false, Seat.W_ret, Seat.cond_eq, Seat.condK_true, Seat.rq_nil, Seat.rq_cons, Seat.rqK_some, Seat.seq_normal, Seat.seq_ret, Seat.ret_ret, Seat.RetK, s_step, guardOf, s_guard_true, s_assign, s_move, s_pick, s_bin, s_un, s_extract, s_fieldAddr, s_load, s_len, call_17, s_pure, s_setT, loadK, loadC, pickK, pickAV, binK, binAV, intBin, boolAV, intAV, unAV, extractK, fieldAddrK, lenK, lenAV, callS, callP, stripArgs, AV.stripA, strip_imm, IV.norm, lendArgs, lendArg, lend_imm, resultsAV, resultAV, tupleOf, mkAV, TK.agg, mapEval, evalOp, ofValue, solid_imm, List.set_cons_succ, List.set_cons_zero, List.getElem?_cons_succ, List.getElem?_cons_zero, List.length_cons, List.length_nil, List.getD_cons_succ, List.getD_cons_zero, List.all_cons, List.all_nil, List.drop_succ_cons, List.drop_zero, List.take_succ_cons, List.take_zero, List.take_nil, Option.map_some, Option.bind_some, Option.some.injEq, Nat.reduceAdd, Nat.reduceLT, Nat.reduceLeDiff, Nat.zero_add, Nat.add_zero, Nat.le_refl, and_self, Bool.and_self, Bool.not_true, Bool.not_false, Bool.false_eq_true, decide_true, decide_false, beq_self_eq_true, eq_self, ↓reduceIte, exists_eq_left', seat_T, int_bne, T_22, T_23, T_26, T_28, T_3, ints_len, mat_len, h17, ← hm, ← hn, em, hlenI]
    · obtain rfl := bfalse hb fun q => hs (by have := q.cost; rw [hco] at this; injection this)
      refine Seat.fn_of (f := fun19) (noS o 19 _ rfl) rfl rfl rfl ?_; simp only [fun19, Proofs.Try.f19, Seat.W_seq, Seat.W_region_false, Seat.rq_cons, s_step, guardOf, s_guard_true, s_box, allocK, boxS, boolAV, evalOp, AV.leaves, List.set_cons_succ, List.set_cons_zero, List.getElem?_cons_succ, List.getElem?_cons_zero, List.cons_append, List.nil_append, List.length_cons, List.length_nil, List.getD_cons_succ, List.getD_cons_zero, List.reduceReplicate, Nat.reduceAdd, Nat.reduceSub, Nat.reduceLT, Nat.zero_add, ↓reduceIte, seat_T]
      simp only [Aln.av, Seat.W_seq, Seat.W_region_false, Seat.W_ret, Seat.cond_eq, Seat.condK_true, Seat.rq_nil, Seat.rq_cons, Seat.rqK_some, Seat.seq_normal, Seat.seq_ret, Seat.ret_ret, Seat.RetK, s_step, guardOf, s_guard_true, s_guard_false, s_assign, s_move, s_pick, s_bin, s_un, s_extract, s_fieldAddr, s_load, s_len, call_17, s_pure, s_setT, loadK, loadC, pickK, pickAV, binK, binAV, cmpAV, intBin, boolAV, intAV, unAV, extractK, fieldAddrK, lenK, lenAV, callS, callP, stripArgs, AV.stripA, strip_imm, IV.norm, lendArgs, lendArg, lend_imm, resultsAV, resultAV, tupleOf, mkAV, TK.agg, mapEval, evalOp, ofValue, solid_imm, List.set_cons_succ, List.set_cons_zero, List.getElem?_cons_succ, List.getElem?_cons_zero, List.length_cons, List.length_nil, List.getD_cons_succ, List.getD_cons_zero, List.all_cons, List.all_nil, List.drop_succ_cons, List.drop_zero, List.take_succ_cons, List.take_zero, Option.map_some, Option.bind_some, Option.some.injEq, Nat.reduceAdd, Nat.reduceLT, Nat.reduceLeDiff, Nat.zero_add, Nat.add_zero, and_self, Bool.and_self, Bool.not_true, Bool.not_false, Bool.false_eq_true, decide_false, beq_self_eq_true, eq_self, ↓reduceIte, exists_eq_left', seat_T, bq_tf, int_bne, T_22, T_23, T_26, T_28, T_3, ints_len, h17, hs]
end Go.Ai

