/- What reading of numbers answers. No condition. -/
import Derived.Test.YtcbijnemdbbkdaaR39b
namespace Go.Ai
set_option linter.unusedVariables false
set_option linter.unusedSimpArgs false
set_option maxRecDepth 100000
set_option maxHeartbeats 4000000

def nxt (u c i : Nat) : Nat := u ||| (c % 128 * 2 ^ (7 * i))
def numA (bs : List UInt8) : Nat → Nat → Nat → Nat → Bool × Nat × Nat
  | 0, a, _, u => (false, u, a)
  | k + 1, a, i, u => match bs[a]? with
    | none => (false, u, a)
    | some c => if i = 10 then (false, u, a) else if (i = 9 ∧ 1 < c.toNat) ∨ (0 < i ∧ c.toNat = 0) then (false, u, a + 1) else if c.toNat < 128 then (true, nxt u c.toNat i, a + 1) else numA bs k (a + 1) (i + 1) (nxt u c.toNat i)
def unz (u : Nat) : Int := if u % 2 = 0 then (u / 2 : Nat) else -((u / 2 : Nat) : Int) - 1

theorem nxt_lt {u c i : Nat} (hu : u < 18446744073709551616) (hi : i ≤ 9) (hc : ¬ (i = 9 ∧ 1 < c)) : nxt u c i < 18446744073709551616 := by
  have h1 : c % 128 * 2 ^ (7 * i) < 2 ^ 64 := by
    by_cases h9 : i = 9
    · subst h9
      have : c ≤ 1 := by omega
      have h2 : c % 128 ≤ 1 := by omega
      calc c % 128 * 2 ^ (7 * 9) ≤ 1 * 2 ^ (7 * 9) := Nat.mul_le_mul_right _ h2
        _ < 2 ^ 64 := by decide
    · have h2 : c % 128 ≤ 127 := by omega
      calc c % 128 * 2 ^ (7 * i) ≤ 127 * 2 ^ (7 * 8) := Nat.mul_le_mul h2 (Nat.pow_le_pow_right (by decide) (by omega))
        _ < 2 ^ 64 := by decide
  exact Nat.or_lt_two_pow (n := 64) hu h1

theorem and127_all : ∀ x : Fin 256, x.val &&& 127 = x.val % 128 := by decide
theorem and127 (c : UInt8) : bitsOp .and .u8 (c.toNat : Int) 127 = some ((c.toNat % 128 : Nat) : Int) := by
  have e : bitsOp .and .u8 (c.toNat : Int) 127 = some (IntKind.wrap .u8 (((BitVec.ofInt 8 (c.toNat : Int)) &&& (BitVec.ofInt 8 127)).toNat : Int)) := rfl
  have hc : c.toNat < 256 := c.toNat_lt
  have h1 := and127_all ⟨c.toNat, hc⟩
  simp only at h1
  rw [e, ofInt_nat, show (127 : Int) = ((127 : Nat) : Int) from rfl, ofInt_nat, BitVec.toNat_and, BitVec.toNat_ofNat, BitVec.toNat_ofNat, show c.toNat % 2 ^ 8 = c.toNat by omega, show 127 % 2 ^ 8 = 127 by rfl, h1, wrap_u8]
  congr 1
  omega
theorem conv_u64 {n : Nat} (h : n < 18446744073709551616) : IntKind.wrap .u64 (n : Int) = (n : Int) := by rw [wrap_u64]; omega
theorem shl_i {x i : Nat} (hx : x < 128) (hi : i ≤ 9) (h9 : i = 9 → x ≤ 1) : shiftBin .shl .u64 (x : Int) (7 * (i : Int)) = some (intAV .u64 ((x * 2 ^ (7 * i) : Nat) : Int)) := by
  have hlt : x * 2 ^ (7 * i) < 2 ^ 64 := by
    by_cases h : i = 9
    · subst h
      calc x * 2 ^ (7 * 9) ≤ 1 * 2 ^ (7 * 9) := Nat.mul_le_mul_right _ (h9 rfl)
        _ < 2 ^ 64 := by decide
    · calc x * 2 ^ (7 * i) ≤ 127 * 2 ^ (7 * 8) := Nat.mul_le_mul (by omega) (Nat.pow_le_pow_right (by decide) (by omega))
        _ < 2 ^ 64 := by decide
  have hm : min (7 * (i : Int)).toNat (IntKind.bits .u64) = 7 * i := by
    have : (7 * (i : Int)).toNat = 7 * i := by omega
    rw [this]; simp only [IntKind.bits]; omega
  simp only [shiftBin]
  rw [if_neg (by omega), hm]
  have e : ((x : Int) * 2 ^ (7 * i)) = ((x * 2 ^ (7 * i) : Nat) : Int) := by
    rw [Int.natCast_mul, Int.natCast_pow]; rfl
  rw [e, conv_u64 (by omega)]
theorem or64 {u y : Nat} (hu : u < 18446744073709551616) (hy : y < 18446744073709551616) : bitsOp .or .u64 (u : Int) (y : Int) = some ((u ||| y : Nat) : Int) := by
  have e : bitsOp .or .u64 (u : Int) (y : Int) = some (IntKind.wrap .u64 (((BitVec.ofInt 64 (u : Int)) ||| (BitVec.ofInt 64 (y : Int))).toNat : Int)) := rfl
  have := Nat.or_lt_two_pow (x := u) (y := y) (n := 64) hu hy
  rw [e, ofInt_nat, ofInt_nat, BitVec.toNat_or, BitVec.toNat_ofNat, BitVec.toNat_ofNat, Nat.mod_eq_of_lt hu, Nat.mod_eq_of_lt hy, conv_u64 this]
theorem and1_all (u : Nat) : u &&& 1 = u % 2 := Nat.and_one_is_mod u
theorem and1 {u : Nat} (hu : u < 18446744073709551616) : bitsOp .and .u64 (u : Int) 1 = some ((u % 2 : Nat) : Int) := by
  have e : bitsOp .and .u64 (u : Int) 1 = some (IntKind.wrap .u64 (((BitVec.ofInt 64 (u : Int)) &&& (BitVec.ofInt 64 1)).toNat : Int)) := rfl
  rw [e, ofInt_nat, show (1 : Int) = ((1 : Nat) : Int) from rfl, ofInt_nat, BitVec.toNat_and, BitVec.toNat_ofNat, BitVec.toNat_ofNat, Nat.mod_eq_of_lt hu, show 1 % 2 ^ 64 = 1 from rfl, and1_all, conv_u64 (by omega)]
theorem fdiv2 (u : Nat) : (u : Int).fdiv 2 = ((u / 2 : Nat) : Int) := fdiv_nat u 2
theorem unzig {u : Nat} (hu : u < 18446744073709551616) : bitsOp .xor .i64 ((u / 2 : Nat) : Int) (IntKind.wrap .i64 (0 - ((u % 2 : Nat) : Int))) = some (unz u) := by
  have e : ∀ y : Int, bitsOp .xor .i64 ((u / 2 : Nat) : Int) y = some (IntKind.wrap .i64 (((BitVec.ofInt 64 ((u / 2 : Nat) : Int)) ^^^ (BitVec.ofInt 64 y)).toNat : Int)) := fun _ => rfl
  have hh : u / 2 < 2 ^ 64 := by omega
  rw [e, ofInt_nat]
  by_cases h : u % 2 = 0
  · have w0 : IntKind.wrap .i64 (0 - ((0 : Nat) : Int)) = ((0 : Nat) : Int) := wrap_i64 (by decide) (by decide)
    rw [h, w0, ofInt_nat, BitVec.toNat_xor, BitVec.toNat_ofNat, BitVec.toNat_ofNat, Nat.mod_eq_of_lt hh]
    unfold unz
    rw [if_pos h]
    simp only [Nat.zero_mod, Nat.xor_zero]
    rw [wrap_i64 (by omega) (by omega)]
  · have h1 : u % 2 = 1 := by omega
    have ha : BitVec.ofInt 64 (-1) = BitVec.allOnes 64 := by decide
    have w1 : IntKind.wrap .i64 (0 - ((1 : Nat) : Int)) = -1 := wrap_i64 (by decide) (by decide)
    rw [h1, w1, ha, BitVec.xor_allOnes, BitVec.toNat_not, BitVec.toNat_ofNat, Nat.mod_eq_of_lt hh]
    unfold unz
    rw [if_neg h]
    have e2 : IntKind.wrap .i64 ((2 ^ 64 - 1 - u / 2 : Nat) : Int) = if 9223372036854775808 ≤ ((2 ^ 64 - 1 - u / 2 : Nat) : Int) % 18446744073709551616 then ((2 ^ 64 - 1 - u / 2 : Nat) : Int) % 18446744073709551616 - 18446744073709551616 else ((2 ^ 64 - 1 - u / 2 : Nat) : Int) % 18446744073709551616 := by
      unfold IntKind.wrap
      simp [IntKind.bits, IntKind.signed]
    rw [e2]
    congr 1
    split <;> omega

/-- A reader of bytes. -/
def rdr (bs : List UInt8) (a : Int) (bad : Bool) : AObj := .cells 55 0 [.imm (.sl (rowsOfBytes bs)), .imm (.int .i64 a), .imm (.bool bad)]

theorem fn40 (id d : Nat) (ob : Nat → Option AObj) (bs : List UInt8) (a : Nat) (bad : Bool) (hl : bs.length ≤ 1099511627776) (ha : a ≤ bs.length) (ho : ob id = some (rdr bs a bad)) :
    (seat o).fnO 40 d [.leaf (.ptr id 0 0)] ob = some (intAV .i64 (((bs.length - a : Nat) : Int)), [(id, rdr bs a bad)]) := by
  have e : IntKind.wrap .i64 ((bs.length : Int) - (a : Int)) = ((bs.length - a : Nat) : Int) := by rw [wrap_i64 (by omega) (by omega)]; omega
  refine Seat.fnO_of (f := fun40) (ids := [id]) rfl rfl rfl rfl (by simp [idsAV, once, AV.ids, LV.ids, ho]) ?_
  simp only [fun40, Proofs.Try.f40, Seat.W_seq, Seat.W_region_false, Seat.W_region_true, Seat.rq_nil, Seat.rq_cons, Seat.rqK_some, Seat.rg_cons, Seat.rgK_some, Seat.seq_normal, s_step, guardOf, s_guard_true, s_assign, s_move, s_fieldAddr, s_nilCheck, s_pure, s_setT, intAV, fieldAddrK, nilK, renAV, renLV, indexIn, evalOp, ofValue, footA, pureCall, quietOp, readsT, writesT, guardLoc, tmpLoc, touch, looksOp, Op.operands, List.set_cons_succ, List.set_cons_zero, List.getElem?_cons_succ, List.getElem?_cons_zero, List.cons_append, List.nil_append, List.append_nil, List.length_cons, List.length_nil, List.map_cons, List.map_nil, List.flatMap_cons, List.flatMap_nil, List.reduceReplicate, Option.map_some, Option.map_none, Option.toList_some, Option.some.injEq, Nat.reduceAdd, Nat.reduceSub, Nat.reduceMul, Nat.zero_add, Bool.or_false, Bool.false_eq_true, reduceCtorEq, eq_self, ↓reduceIte, seat_T]
  simp only [Seat.W_ret, Seat.rg_nil, Seat.rg_cons, Seat.rgK_some, Seat.endQ, Seat.seq_normal, s_step, guardOf, s_guard_true, s_assign, s_move, s_bin, s_fieldAddr, s_load, s_len, s_nilCheck, s_pure, s_setT, loadK, loadC, binK, binAV, intBin, intAV, fieldAddrK, lenK, lenAV, nilK, out_ret, OutK, handed, renAV, renLV, renObj, backUpd, resultsAV, resultAV, tupleOf, mkAV, TK.agg, mapEval, evalOp, footA, pureCall, quietOp, readsT, writesT, guardLoc, tmpLoc, touch, looksOp, idsOf, AV.ids, LV.ids, Op.operands, Call.operands, List.set_cons_succ, List.set_cons_zero, List.getElem?_cons_succ, List.getElem?_cons_zero, List.cons_append, List.nil_append, List.append_nil, List.length_cons, List.length_nil, List.getD_cons_succ, List.getD_cons_zero, List.map_cons, List.map_nil, List.drop_succ_cons, List.drop_zero, List.take_succ_cons, List.take_zero, List.flatMap_cons, List.flatMap_nil, Option.map_some, Option.getD_some, Option.toList_some, Option.some.injEq, Nat.reduceAdd, Nat.reduceMul, Nat.reduceLT, Nat.reduceLeDiff, Nat.zero_add, Nat.add_zero, and_self, and_true, Bool.or_false, Bool.false_eq_true, reduceCtorEq, eq_self, ↓reduceIte, seat_T, T_55, T_22, T_3, ho, rdr, rob_len, e]
  exact ord_of (by kernel_rfl)
theorem fn46 (id d : Nat) (ob : Nat → Option AObj) (bs : List UInt8) (a : Int) (bad : Bool) (ho : ob id = some (rdr bs a bad)) :
    (seat o).fnO 46 d [.leaf (.ptr id 0 0)] ob = some (intAV .i64 0, [(id, rdr bs a true)]) := by
  refine Seat.fnO_of (f := fun46) (ids := [id]) rfl rfl rfl rfl (by simp [idsAV, once, AV.ids, LV.ids, ho]) ?_
  simp only [fun46, Proofs.Try.f46, Seat.W_seq, Seat.W_region_false, Seat.rq_nil, Seat.rq_cons, Seat.rqK_some, Seat.seq_normal, s_step, guardOf, s_guard_true, s_assign, s_move, s_fieldAddr, s_nilCheck, s_pure, s_setT, intAV, fieldAddrK, nilK, renAV, renLV, indexIn, evalOp, ofValue, List.set_cons_succ, List.set_cons_zero, List.getElem?_cons_succ, List.getElem?_cons_zero, List.cons_append, List.nil_append, List.length_cons, List.length_nil, List.map_cons, List.map_nil, List.reduceReplicate, Option.map_some, Option.map_none, Nat.reduceSub, Nat.zero_add, eq_self, ↓reduceIte, seat_T]
  simp only [Seat.W_seq, Seat.W_region_false, Seat.W_ret, Seat.rq_nil, Seat.rq_cons, Seat.rqK_some, Seat.seq_normal, s_step, guardOf, s_guard_true, s_assign, s_store, s_pure, s_setT, s_setN, storeS, storeK, out_ret, OutK, handed, renAV, renLV, renObj, backUpd, resultsAV, resultAV, tupleOf, setRange, evalOp, ofValue, AV.leaves, solid_imm, List.set_cons_succ, List.set_cons_zero, List.getElem?_cons_succ, List.getElem?_cons_zero, List.cons_append, List.nil_append, List.append_nil, List.length_cons, List.length_nil, List.getD_cons_succ, List.getD_cons_zero, List.all_cons, List.all_nil, List.map_cons, List.map_nil, List.drop_succ_cons, List.take_succ_cons, List.take_zero, List.drop_nil, Option.map_some, Option.getD_some, Nat.reduceAdd, Nat.reduceLT, Nat.zero_add, Nat.add_zero, Nat.le_refl, and_self, Bool.and_self, eq_self, ↓reduceIte, seat_T, T_55, T_4, ho, rdr]
theorem fn30_bad (id d : Nat) (ob : Nat → Option AObj) (bs : List UInt8) (a : Int) (ho : ob id = some (rdr bs a true)) :
    (seat o).fnO 30 d [.leaf (.ptr id 0 0)] ob = some (intAV .i64 0, [(id, rdr bs a true)]) := by
  refine Seat.fnO_of (f := fun30) (ids := [id]) rfl rfl rfl rfl (by simp [idsAV, once, AV.ids, LV.ids, ho]) ?_
  simp only [fun30, Proofs.Try.f30, Seat.W_seq, Seat.W_region_false, Seat.rq_nil, Seat.rq_cons, Seat.rqK_some, Seat.seq_normal, s_step, guardOf, s_guard_true, s_assign, s_move, s_fieldAddr, s_nilCheck, s_pure, s_setT, intAV, fieldAddrK, nilK, renAV, renLV, indexIn, evalOp, ofValue, List.set_cons_succ, List.set_cons_zero, List.getElem?_cons_succ, List.getElem?_cons_zero, List.cons_append, List.nil_append, List.length_cons, List.length_nil, List.map_cons, List.map_nil, List.reduceReplicate, Option.map_some, Option.map_none, Nat.reduceSub, Nat.zero_add, eq_self, ↓reduceIte, seat_T]
  simp only [Seat.W_seq, Seat.W_region_false, Seat.W_ret, Seat.cond_eq, Seat.condK_true, Seat.rq_nil, Seat.rq_cons, Seat.rqK_some, Seat.seq_normal, Seat.seq_ret, s_step, guardOf, s_guard_true, s_assign, s_load, s_pure, s_setT, loadK, loadC, out_ret, OutK, handed, renAV, renLV, renObj, backUpd, resultsAV, resultAV, tupleOf, mkAV, TK.agg, evalOp, ofValue, List.set_cons_succ, List.set_cons_zero, List.getElem?_cons_succ, List.getElem?_cons_zero, List.length_cons, List.length_nil, List.getD_cons_succ, List.getD_cons_zero, List.map_cons, List.map_nil, List.drop_succ_cons, List.drop_zero, List.take_succ_cons, List.take_nil, Option.map_some, Option.getD_some, Nat.reduceAdd, Nat.reduceLT, Nat.zero_add, Nat.add_zero, Nat.le_refl, and_self, Bool.false_eq_true, eq_self, ↓reduceIte, seat_T, T_55, T_4, ho, rdr]

theorem numA_at (bs : List UInt8) : ∀ (k a i u : Nat), a ≤ bs.length → (numA bs k a i u).2.2 ≤ bs.length := by
  intro k
  induction k with
  | zero => intro a i u h; exact h
  | succ k ih =>
    intro a i u h
    simp only [numA]
    split
    · exact h
    · rename_i c hc
      have : a < bs.length := (List.getElem?_eq_some_iff.1 hc).1
      split
      · exact h
      · split
        · exact this
        · split
          · exact this
          · exact ih _ _ _ this
theorem numA_lt (bs : List UInt8) : ∀ (k a i u : Nat), u < 18446744073709551616 → i ≤ 10 → (numA bs k a i u).2.1 < 18446744073709551616 := by
  intro k
  induction k with
  | zero => intro a i u h _; exact h
  | succ k ih =>
    intro a i u h hi
    simp only [numA]
    split
    · exact h
    · rename_i c hc
      split
      · exact h
      · rename_i h10
        split
        · exact h
        · rename_i hn
          have h2 : nxt u c.toNat i < 18446744073709551616 := nxt_lt h (by omega) (fun q => hn (.inl q))
          split
          · exact h2
          · exact ih _ _ _ h2 (by omega)

theorem fn30 (id d : Nat) (ob : Nat → Option AObj) (bs : List UInt8) (a : Nat) (hl : bs.length ≤ 1099511627776) (ha : a ≤ bs.length) (ho : ob id = some (rdr bs a false)) :
    (seat o).fnO 30 d [.leaf (.ptr id 0 0)] ob = some (intAV .i64 (if (numA bs 11 a 0 0).1 = true then unz (numA bs 11 a 0 0).2.1 else 0), [(id, rdr bs ((numA bs 11 a 0 0).2.2 : Int) (!(numA bs 11 a 0 0).1))]) := by
  obtain ⟨R, hR⟩ : ∃ R, numA bs 11 a 0 0 = R := ⟨_, rfl⟩
  rw [hR]
  refine Seat.fnO_of (f := fun30) (ids := [id]) rfl rfl rfl rfl (by simp [idsAV, once, AV.ids, LV.ids, ho]) ?_
  simp only [fun30, Proofs.Try.f30, Seat.W_seq, Seat.W_region_false, Seat.rq_nil, Seat.rq_cons, Seat.rqK_some, Seat.seq_normal, s_step, guardOf, s_guard_true, s_assign, s_move, s_fieldAddr, s_nilCheck, s_pure, s_setT, intAV, fieldAddrK, nilK, renAV, renLV, indexIn, evalOp, ofValue, List.set_cons_succ, List.set_cons_zero, List.getElem?_cons_succ, List.getElem?_cons_zero, List.cons_append, List.nil_append, List.length_cons, List.length_nil, List.map_cons, List.map_nil, List.reduceReplicate, Option.map_some, Option.map_none, Nat.reduceSub, Nat.zero_add, eq_self, ↓reduceIte, seat_T]
  simp only [Seat.W_seq, Seat.W_block, Seat.W_loop, Seat.W_region_false, Seat.W_skip, Seat.cond_eq, Seat.condK_false, Seat.rq_nil, Seat.rq_cons, Seat.rqK_some, Seat.seq_normal, s_step, guardOf, s_guard_true, s_assign, s_load, s_pure, s_setT, loadK, loadC, renLV, renObj, mkAV, TK.agg, evalOp, ofValue, List.set_cons_succ, List.set_cons_zero, List.getElem?_cons_succ, List.getElem?_cons_zero, List.length_cons, List.length_nil, List.getD_cons_succ, List.getD_cons_zero, List.map_cons, List.map_nil, List.drop_succ_cons, List.drop_zero, List.take_succ_cons, List.take_nil, List.contains_cons, List.contains_nil, Option.map_some, Option.getD_some, Nat.reduceAdd, Nat.reduceLT, Nat.reduceLeDiff, Nat.reduceBEq, Nat.zero_add, Nat.le_refl, and_self, Bool.or_false, Bool.or_true, Bool.false_eq_true, decide_true, decide_false, beq_self_eq_true, eq_self, ↓reduceIte, seat_T, keepSt, keepTmps, keepObjs, kept, keepAV, keepLV_imm, keepLV_ptr, keepObj, promote, promoteT, firstRegion, k30, T_55, T_4, ho, rdr]
  refine Seat.loop_by (fun x : Nat × Nat × Nat => L30_6 (.leaf (.ptr 72 0 0)) (.leaf (.imm (.int .u64 x.2.2))) (intAV .i64 x.2.1) [some (rdr bs x.1 false)]) (fun x => x.1 ≤ bs.length ∧ x.2.1 ≤ 10 ∧ x.2.2 < 18446744073709551616 ∧ numA bs (11 - x.2.1) x.1 x.2.1 x.2.2 = R) (fun x => 11 - x.2.1) (a, 0, 0) rfl ⟨ha, Nat.zero_le _, by simp only; omega, hR⟩ ?_
  rintro ⟨p, i, u⟩ ⟨hp, hi, hu, hr⟩
  simp only at hp hi hu hr
  obtain ⟨k, hk⟩ : ∃ k, 11 - i = k + 1 := ⟨10 - i, by omega⟩
  rw [hk] at hr
  simp only [numA] at hr
  have c40 : ∀ (d : Nat) (ob : Nat → Option AObj), ob 72 = some (rdr bs p false) → (seat o).fnO 40 d [.leaf (.ptr 72 0 0)] ob = some (intAV .i64 (((bs.length - p : Nat) : Int)), [(72, rdr bs p false)]) := fun d ob ho => fn40 72 d ob bs p false hl hp ho
  have c46 : ∀ (d : Nat) (ob : Nat → Option AObj) (q : Int), ob 72 = some (rdr bs q false) → (seat o).fnO 46 d [.leaf (.ptr 72 0 0)] ob = some (intAV .i64 0, [(72, rdr bs q true)]) := fun d ob q ho => fn46 72 d ob bs q false ho
  have c46p := fun d ob => c46 d ob (p : Int)
  have c46q := fun d ob => c46 d ob ((p + 1 : Nat) : Int)
  simp only [rdr, intAV] at c40 c46p c46q
  cases hc : bs[p]? with
  | none =>
    have hge : bs.length ≤ p := List.getElem?_eq_none_iff.1 hc
    have e0 : ((bs.length - p : Nat) : Int) = 0 := by omega
    rw [hc] at hr
    simp only at hr
    rw [← hr]
    simp only [L30_6, rdr, Seat.W_seq, Seat.W_block, Seat.W_region_false, Seat.W_ret, Seat.cond_eq, Seat.condK_true, Seat.rq_nil, Seat.rq_cons, Seat.rqK_some, Seat.seq_normal, Seat.seq_ret, Seat.blk_ret, loopEnd_ret, s_step, guardOf, s_guard_true, s_guard_false, s_assign, s_move, s_pick, s_bin, call_40, call_46, s_pure, s_setT, pickK, pickAV, binK, binAV, cmpAV, intBin, boolAV, intAV, callOS, callOD, upds, out_ret, OutK, handed, renAV, renLV, renObj, backUpd, resultsAV, resultAV, tupleOf, mapEval, evalOp, ofValue, idsOf, AV.ids, LV.ids, LV.ids.idsAll, List.set_cons_succ, List.set_cons_zero, List.getElem?_cons_succ, List.getElem?_cons_zero, List.cons_append, List.nil_append, List.append_nil, List.length_cons, List.length_nil, List.getD_cons_succ, List.getD_cons_zero, List.all_cons, List.all_nil, List.map_cons, List.map_nil, List.contains_cons, List.contains_nil, Option.getD_some, Nat.reduceAdd, Nat.reduceLT, Nat.reduceBEq, Nat.zero_add, Nat.add_zero, Bool.and_self, Bool.or_false, Bool.not_false, Bool.false_eq_true, decide_true, beq_self_eq_true, eq_self, ↓reduceIte, seat_T, ob_getD, bq_tf, firstRegion, k30, T_3, c40, c46p, e0]
  | some c =>
    have hlt : p < bs.length := (List.getElem?_eq_some_iff.1 hc).1
    have e0 : ¬ ((bs.length - p : Nat) : Int) = 0 := by omega
    rw [hc] at hr
    simp only at hr
    by_cases h10 : i = 10
    · have h10' : (i : Int) = 10 := by omega
      have d10 := decide_eq_true h10'
      rw [if_pos h10] at hr
      rw [← hr]
      simp only [L30_6, rdr, Seat.W_seq, Seat.W_block, Seat.W_region_false, Seat.W_ret, Seat.cond_eq, Seat.condK_true, Seat.rq_nil, Seat.rq_cons, Seat.rqK_some, Seat.seq_normal, Seat.seq_ret, Seat.blk_ret, loopEnd_ret, s_step, guardOf, s_guard_true, s_assign, s_move, s_pick, s_bin, call_40, call_46, s_pure, s_setT, pickK, pickAV, binK, binAV, intBin, boolAV, intAV, callOS, callOD, upds, out_ret, OutK, handed, renAV, renLV, renObj, backUpd, resultsAV, resultAV, tupleOf, mapEval, evalOp, ofValue, idsOf, AV.ids, LV.ids, LV.ids.idsAll, List.set_cons_succ, List.set_cons_zero, List.getElem?_cons_succ, List.getElem?_cons_zero, List.cons_append, List.nil_append, List.append_nil, List.length_cons, List.length_nil, List.getD_cons_succ, List.getD_cons_zero, List.all_cons, List.all_nil, List.map_cons, List.map_nil, List.contains_cons, List.contains_nil, Option.getD_some, Nat.reduceAdd, Nat.reduceLT, Nat.reduceBEq, Nat.zero_add, Nat.add_zero, Bool.and_self, Bool.or_false, Bool.not_false, Bool.false_eq_true, decide_true, decide_false, beq_self_eq_true, eq_self, ↓reduceIte, seat_T, ob_getD, int_beq, firstRegion, k30, c40, c46p, e0, d10]
    · have h10' : ¬ (i : Int) = 10 := by omega
      rw [if_neg h10] at hr
      have e1 : IntKind.wrap .i64 ((p : Int) + 1) = ((p + 1 : Nat) : Int) := wrap_i64 (by omega) (by omega)
      have e2 : IntKind.wrap .i64 ((i : Int) + 1) = ((i + 1 : Nat) : Int) := wrap_i64 (by omega) (by omega)
      by_cases hbad : (i = 9 ∧ 1 < c.toNat) ∨ (0 < i ∧ c.toNat = 0)
      · rw [if_pos hbad] at hr
        rw [← hr]
        by_cases h9 : i = 9
        · have h9' := decide_eq_true (show (i : Int) = 9 by omega)
          by_cases h1 : 1 < c.toNat
          · have h1' : (1 : Int) < (c.toNat : Int) := by omega
            simp only [L30_6, rdr, Seat.W_seq, Seat.W_block, Seat.W_region_false, Seat.W_region_true, Seat.W_ret, Seat.W_skip, Seat.cond_eq, Seat.condK_true, Seat.condK_false, Seat.rq_nil, Seat.rq_cons, Seat.rqK_some, Seat.rg_nil, Seat.rg_cons, Seat.rgK_some, Seat.endQ, Seat.seq_normal, Seat.seq_ret, Seat.blk_ret, loopEnd_ret, s_step, guardOf, s_guard_true, s_guard_false, s_assign, s_move, s_pick, s_bin, s_fieldAddr, s_indexAddr, s_load, s_store, s_nilCheck, call_40, call_46, s_pure, s_setT, s_setN, storeS, storeK, loadK, loadC, pickK, pickAV, binK, binAV, cmpAV, intBin, boolAV, intAV, fieldAddrK, elemK, indexAddrK, indexRow, nilK, callOS, callOD, upds, out_ret, OutK, handed, renAV, renLV, renObj, backUpd, rowsOf_sl, resultsAV, resultAV, tupleOf, mkAV, TK.agg, setRange, mapEval, evalOp, ofValue, AV.leaves, solid_imm, footA, pureCall, quietOp, readsT, writesT, guardLoc, tmpLoc, touch, looksOp, idsOf, AV.ids, LV.ids, LV.ids.idsAll, Op.operands, List.set_cons_succ, List.set_cons_zero, List.getElem?_cons_succ, List.getElem?_cons_zero, List.cons_append, List.nil_append, List.append_nil, List.length_cons, List.length_nil, List.getD_cons_succ, List.getD_cons_zero, List.all_cons, List.all_nil, List.map_cons, List.map_nil, List.drop_succ_cons, List.drop_zero, List.take_succ_cons, List.take_zero, List.take_nil, List.flatMap_cons, List.flatMap_nil, List.contains_cons, List.contains_nil, Option.map_some, Option.getD_some, Option.toList_some, Option.some.injEq, Nat.reduceAdd, Nat.reduceMul, Nat.reduceLT, Nat.reduceLeDiff, Nat.reduceBEq, Nat.zero_add, Nat.add_zero, Nat.le_refl, Int.toNat_natCast, Int.natCast_nonneg, and_self, and_true, Bool.and_self, Bool.or_false, Bool.not_false, Bool.false_eq_true, reduceCtorEq, decide_true, decide_false, beq_self_eq_true, eq_self, gt_iff_lt, ↓reduceIte, seat_T, ob_getD, bq_tf, int_beq, firstRegion, k30, T_55, T_22, T_5, T_3, c40, c46q, e0, h10', rob_get, hc, e1, h9', h1']
            exact ord_of (by kernel_rfl)
          · have h1' : ¬ (1 : Int) < (c.toNat : Int) := by omega
            have hz : (c.toNat : Int) = 0 := by omega
            have hi0 : (0 : Int) < (i : Int) := by omega
            have hz' := decide_eq_true hz
            simp only [L30_6, rdr, Seat.W_seq, Seat.W_block, Seat.W_region_false, Seat.W_region_true, Seat.W_ret, Seat.W_skip, Seat.cond_eq, Seat.condK_true, Seat.condK_false, Seat.rq_nil, Seat.rq_cons, Seat.rqK_some, Seat.rg_nil, Seat.rg_cons, Seat.rgK_some, Seat.endQ, Seat.seq_normal, Seat.seq_ret, Seat.blk_ret, loopEnd_ret, s_step, guardOf, s_guard_true, s_assign, s_move, s_pick, s_bin, s_fieldAddr, s_indexAddr, s_load, s_store, s_nilCheck, call_40, call_46, s_pure, s_setT, s_setN, storeS, storeK, loadK, loadC, pickK, pickAV, binK, binAV, intBin, boolAV, intAV, fieldAddrK, elemK, indexAddrK, indexRow, nilK, callOS, callOD, upds, out_ret, OutK, handed, renAV, renLV, renObj, backUpd, rowsOf_sl, resultsAV, resultAV, tupleOf, mkAV, TK.agg, setRange, mapEval, evalOp, ofValue, AV.leaves, solid_imm, footA, pureCall, quietOp, readsT, writesT, guardLoc, tmpLoc, touch, looksOp, idsOf, AV.ids, LV.ids, LV.ids.idsAll, Op.operands, List.set_cons_succ, List.set_cons_zero, List.getElem?_cons_succ, List.getElem?_cons_zero, List.cons_append, List.nil_append, List.append_nil, List.length_cons, List.length_nil, List.getD_cons_succ, List.getD_cons_zero, List.all_cons, List.all_nil, List.map_cons, List.map_nil, List.drop_succ_cons, List.drop_zero, List.take_succ_cons, List.take_zero, List.take_nil, List.flatMap_cons, List.flatMap_nil, List.contains_cons, List.contains_nil, Option.map_some, Option.getD_some, Option.toList_some, Option.some.injEq, Nat.reduceAdd, Nat.reduceMul, Nat.reduceLT, Nat.reduceLeDiff, Nat.reduceBEq, Nat.zero_add, Nat.add_zero, Nat.le_refl, Int.toNat_natCast, Int.natCast_nonneg, and_self, and_true, Bool.and_self, Bool.or_false, Bool.not_false, Bool.false_eq_true, reduceCtorEq, decide_true, decide_false, beq_self_eq_true, eq_self, gt_iff_lt, ↓reduceIte, seat_T, ob_getD, int_beq, firstRegion, k30, T_55, T_22, T_5, T_3, c40, c46q, e0, h10', rob_get, hc, e1, h9', h1', hz', hi0]
            exact ord_of (by kernel_rfl)
        · have h9' : ¬ (i : Int) = 9 := by omega
          have hz' := decide_eq_true (show (c.toNat : Int) = 0 by omega)
          have hi0 : (0 : Int) < (i : Int) := by omega
          simp only [L30_6, rdr, Seat.W_seq, Seat.W_block, Seat.W_region_false, Seat.W_region_true, Seat.W_ret, Seat.W_skip, Seat.cond_eq, Seat.condK_true, Seat.condK_false, Seat.rq_nil, Seat.rq_cons, Seat.rqK_some, Seat.rg_nil, Seat.rg_cons, Seat.rgK_some, Seat.endQ, Seat.seq_normal, Seat.seq_ret, Seat.blk_ret, loopEnd_ret, s_step, guardOf, s_guard_true, s_guard_false, s_assign, s_move, s_pick, s_bin, s_fieldAddr, s_indexAddr, s_load, s_store, s_nilCheck, call_40, call_46, s_pure, s_setT, s_setN, storeS, storeK, loadK, loadC, pickK, pickAV, binK, binAV, cmpAV, intBin, boolAV, intAV, fieldAddrK, elemK, indexAddrK, indexRow, nilK, callOS, callOD, upds, out_ret, OutK, handed, renAV, renLV, renObj, backUpd, rowsOf_sl, resultsAV, resultAV, tupleOf, mkAV, TK.agg, setRange, mapEval, evalOp, ofValue, AV.leaves, solid_imm, footA, pureCall, quietOp, readsT, writesT, guardLoc, tmpLoc, touch, looksOp, idsOf, AV.ids, LV.ids, LV.ids.idsAll, Op.operands, List.set_cons_succ, List.set_cons_zero, List.getElem?_cons_succ, List.getElem?_cons_zero, List.cons_append, List.nil_append, List.append_nil, List.length_cons, List.length_nil, List.getD_cons_succ, List.getD_cons_zero, List.all_cons, List.all_nil, List.map_cons, List.map_nil, List.drop_succ_cons, List.drop_zero, List.take_succ_cons, List.take_zero, List.take_nil, List.flatMap_cons, List.flatMap_nil, List.contains_cons, List.contains_nil, Option.map_some, Option.getD_some, Option.toList_some, Option.some.injEq, Nat.reduceAdd, Nat.reduceMul, Nat.reduceLT, Nat.reduceLeDiff, Nat.reduceBEq, Nat.zero_add, Nat.add_zero, Nat.le_refl, Int.toNat_natCast, Int.natCast_nonneg, and_self, and_true, Bool.and_self, Bool.or_false, Bool.not_false, Bool.false_eq_true, reduceCtorEq, decide_true, decide_false, beq_self_eq_true, eq_self, gt_iff_lt, ↓reduceIte, seat_T, ob_getD, bq_ft, int_beq, firstRegion, k30, T_55, T_22, T_5, T_3, c40, c46q, e0, h10', rob_get, hc, e1, h9', hz', hi0]
          exact ord_of (by kernel_rfl)
      · rw [if_neg hbad] at hr
        have hv : nxt u c.toNat i < 18446744073709551616 := nxt_lt hu (by omega) (fun q => hbad (.inl q))
        have a1 := and127 c
        have e3 : IntKind.wrap .u64 ((c.toNat % 128 : Nat) : Int) = ((c.toNat % 128 : Nat) : Int) := conv_u64 (by omega)
        have e4 : IntKind.wrap .i64 (7 * (i : Int)) = 7 * (i : Int) := wrap_i64 (by omega) (by omega)
        have s1 := shl_i (x := c.toNat % 128) (i := i) (by omega) (by omega) (fun h => by have : ¬ 1 < c.toNat := fun q => hbad (.inl ⟨h, q⟩); omega)
        have o1 : bitsOp .or .u64 (u : Int) ((c.toNat % 128 * 2 ^ (7 * i) : Nat) : Int) = some ((nxt u c.toNat i : Nat) : Int) := or64 hu (Nat.lt_of_le_of_lt Nat.right_le_or hv)
        have u1 : IntKind.wrap .i64 ((nxt u c.toNat i / 2 : Nat) : Int) = ((nxt u c.toNat i / 2 : Nat) : Int) := wrap_i64 (by omega) (by omega)
        have u2 := and1 hv
        have u3 : IntKind.wrap .i64 ((nxt u c.toNat i % 2 : Nat) : Int) = ((nxt u c.toNat i % 2 : Nat) : Int) := wrap_i64 (by omega) (by omega)
        have u4 := unzig hv
        by_cases h9 : i = 9
        · have h9' := decide_eq_true (show (i : Int) = 9 by omega)
          have h1' : ¬ (1 : Int) < (c.toNat : Int) := by omega
          have hz' : ¬ (c.toNat : Int) = 0 := by omega
          have hi0 : (0 : Int) < (i : Int) := by omega
          by_cases hl0 : c.toNat < 128
          · have hlo : (c.toNat : Int) < 128 := by omega
            rw [if_pos (show c.toNat < 128 by omega)] at hr
            rw [← hr]
            simp only [L30_6, rdr, Seat.W_seq, Seat.W_block, Seat.W_region_false, Seat.W_region_true, Seat.W_exit, Seat.W_ret, Seat.W_skip, Seat.cond_eq, Seat.condK_true, Seat.condK_false, Seat.rq_nil, Seat.rq_cons, Seat.rqK_some, Seat.rg_nil, Seat.rg_cons, Seat.rgK_some, Seat.endQ, Seat.seq_normal, Seat.seq_exit, Seat.blk_exit, loopEnd_exit, s_step, guardOf, s_guard_true, s_assign, s_move, s_pick, s_bin, s_un, s_fieldAddr, s_indexAddr, s_load, s_store, s_nilCheck, call_40, s_convert, convK, s_pure, s_setT, s_setN, storeS, storeK, loadK, loadC, pickK, pickAV, binK, binAV, intBin, boolAV, intAV, unAV, fieldAddrK, elemK, indexAddrK, indexRow, nilK, callOS, callOD, upds, out_ret, OutK, handed, renAV, renLV, renObj, backUpd, rowsOf_sl, resultsAV, resultAV, tupleOf, mkAV, TK.agg, setRange, mapEval, evalOp, ofValue, AV.leaves, solid_imm, footA, pureCall, quietOp, readsT, writesT, guardLoc, tmpLoc, touch, looksOp, idsOf, AV.ids, LV.ids, LV.ids.idsAll, Op.operands, List.set_cons_succ, List.set_cons_zero, List.getElem?_cons_succ, List.getElem?_cons_zero, List.cons_append, List.nil_append, List.append_nil, List.length_cons, List.length_nil, List.getD_cons_succ, List.getD_cons_zero, List.all_cons, List.all_nil, List.map_cons, List.map_nil, List.drop_succ_cons, List.drop_zero, List.take_succ_cons, List.take_zero, List.take_nil, List.flatMap_cons, List.flatMap_nil, List.contains_cons, List.contains_nil, Option.map_some, Option.bind_some, Option.getD_some, Option.toList_some, Option.some.injEq, Nat.reduceAdd, Nat.reduceMul, Nat.reduceLT, Nat.reduceLeDiff, Nat.reduceBEq, Nat.zero_add, Nat.add_zero, Nat.le_refl, Int.toNat_natCast, Int.natCast_nonneg, and_self, and_true, Bool.and_self, Bool.or_false, Bool.not_true, Bool.false_eq_true, reduceCtorEq, decide_true, decide_false, beq_self_eq_true, eq_self, gt_iff_lt, ↓reduceIte, seat_T, ob_getD, int_beq, firstRegion, k30, T_55, T_56, T_22, T_5, T_3, c40, e0, h10', rob_get, hc, e1, e3, e4, a1, s1, o1, hlo, h9', h1', hz', hi0, shr1, fdiv2, u1, u2, u3, u4]
            exact ord_of (by kernel_rfl)
          · have hlo : ¬ (c.toNat : Int) < 128 := by omega
            rw [if_neg (show ¬ c.toNat < 128 by omega)] at hr
            simp only [L30_6, rdr, Seat.W_seq, Seat.W_block, Seat.W_region_false, Seat.W_region_true, Seat.W_skip, Seat.cond_eq, Seat.condK_false, Seat.rq_nil, Seat.rq_cons, Seat.rqK_some, Seat.rg_nil, Seat.rg_cons, Seat.rgK_some, Seat.endQ, Seat.seq_normal, Seat.blk_normal, loopEnd_normal, s_step, guardOf, s_guard_true, s_assign, s_move, s_pick, s_bin, s_fieldAddr, s_indexAddr, s_load, s_store, s_nilCheck, call_40, s_convert, convK, s_pure, s_setT, s_setN, storeS, storeK, loadK, loadC, pickK, pickAV, binK, binAV, intBin, boolAV, intAV, fieldAddrK, elemK, indexAddrK, indexRow, nilK, callOS, callOD, upds, rowsOf_sl, mkAV, TK.agg, setRange, mapEval, evalOp, ofValue, AV.leaves, solid_imm, footA, pureCall, quietOp, readsT, writesT, guardLoc, tmpLoc, touch, looksOp, idsOf, AV.ids, LV.ids, LV.ids.idsAll, Op.operands, List.set_cons_succ, List.set_cons_zero, List.getElem?_cons_succ, List.getElem?_cons_zero, List.cons_append, List.nil_append, List.append_nil, List.length_cons, List.length_nil, List.getD_cons_succ, List.getD_cons_zero, List.all_cons, List.all_nil, List.map_cons, List.map_nil, List.drop_succ_cons, List.drop_zero, List.take_succ_cons, List.take_zero, List.take_nil, List.flatMap_cons, List.flatMap_nil, List.contains_cons, List.contains_nil, Option.map_some, Option.getD_some, Option.toList_some, Option.some.injEq, Nat.reduceAdd, Nat.reduceMul, Nat.reduceLT, Nat.reduceLeDiff, Nat.reduceBEq, Nat.zero_add, Nat.add_zero, Nat.le_refl, Int.toNat_natCast, Int.natCast_nonneg, and_self, Bool.and_self, Bool.or_false, Bool.or_true, Bool.false_eq_true, reduceCtorEq, decide_true, decide_false, beq_self_eq_true, eq_self, gt_iff_lt, ↓reduceIte, seat_T, ob_getD, int_beq, keepSt, keepTmps, keepObjs, kept, keepAV, keepLV_imm, keepLV_ptr, keepObj, promote, promoteT, firstRegion, k30, T_55, T_56, T_22, T_5, T_3, c40, e0, h10', rob_get, hc, e1, e2, e3, e4, a1, s1, o1, hlo, h9', h1', hz', hi0]
            exact ⟨ord_of (by kernel_rfl), (p + 1, i + 1, nxt u c.toNat i), ⟨by simp only; omega, by simp only; omega, hv, by simp only; rw [← hr, show 11 - (i + 1) = k by omega]⟩, by simp only; omega, rfl⟩
        · have h9' : ¬ (i : Int) = 9 := by omega
          by_cases hi1 : i = 0
          · have hi0 : ¬ (0 : Int) < (i : Int) := by omega
            by_cases hl0 : c.toNat < 128
            · have hlo : (c.toNat : Int) < 128 := by omega
              rw [if_pos (show c.toNat < 128 by omega)] at hr
              rw [← hr]
              simp only [L30_6, rdr, Seat.W_seq, Seat.W_block, Seat.W_region_false, Seat.W_region_true, Seat.W_exit, Seat.W_ret, Seat.W_skip, Seat.cond_eq, Seat.condK_true, Seat.condK_false, Seat.rq_nil, Seat.rq_cons, Seat.rqK_some, Seat.rg_nil, Seat.rg_cons, Seat.rgK_some, Seat.endQ, Seat.seq_normal, Seat.seq_exit, Seat.blk_exit, loopEnd_exit, s_step, guardOf, s_guard_true, s_guard_false, s_assign, s_move, s_pick, s_bin, s_un, s_fieldAddr, s_indexAddr, s_load, s_store, s_nilCheck, call_40, s_convert, convK, s_pure, s_setT, s_setN, storeS, storeK, loadK, loadC, pickK, pickAV, binK, binAV, cmpAV, intBin, boolAV, intAV, unAV, fieldAddrK, elemK, indexAddrK, indexRow, nilK, callOS, callOD, upds, out_ret, OutK, handed, renAV, renLV, renObj, backUpd, rowsOf_sl, resultsAV, resultAV, tupleOf, mkAV, TK.agg, setRange, mapEval, evalOp, ofValue, AV.leaves, solid_imm, footA, pureCall, quietOp, readsT, writesT, guardLoc, tmpLoc, touch, looksOp, idsOf, AV.ids, LV.ids, LV.ids.idsAll, Op.operands, List.set_cons_succ, List.set_cons_zero, List.getElem?_cons_succ, List.getElem?_cons_zero, List.cons_append, List.nil_append, List.append_nil, List.length_cons, List.length_nil, List.getD_cons_succ, List.getD_cons_zero, List.all_cons, List.all_nil, List.map_cons, List.map_nil, List.drop_succ_cons, List.drop_zero, List.take_succ_cons, List.take_zero, List.take_nil, List.flatMap_cons, List.flatMap_nil, List.contains_cons, List.contains_nil, Option.map_some, Option.bind_some, Option.getD_some, Option.toList_some, Option.some.injEq, Nat.reduceAdd, Nat.reduceMul, Nat.reduceLT, Nat.reduceLeDiff, Nat.reduceBEq, Nat.zero_add, Nat.add_zero, Nat.le_refl, Int.toNat_natCast, Int.natCast_nonneg, and_self, and_true, Bool.and_self, Bool.or_false, Bool.not_true, Bool.false_eq_true, reduceCtorEq, decide_true, decide_false, beq_self_eq_true, eq_self, gt_iff_lt, ↓reduceIte, seat_T, ob_getD, bq_ft, int_beq, firstRegion, k30, T_55, T_56, T_22, T_5, T_3, c40, e0, h10', rob_get, hc, e1, e3, e4, a1, s1, o1, hlo, h9', hi0, shr1, fdiv2, u1, u2, u3, u4]
              exact ord_of (by kernel_rfl)
            · have hlo : ¬ (c.toNat : Int) < 128 := by omega
              rw [if_neg (show ¬ c.toNat < 128 by omega)] at hr
              simp only [L30_6, rdr, Seat.W_seq, Seat.W_block, Seat.W_region_false, Seat.W_region_true, Seat.W_skip, Seat.cond_eq, Seat.condK_false, Seat.rq_nil, Seat.rq_cons, Seat.rqK_some, Seat.rg_nil, Seat.rg_cons, Seat.rgK_some, Seat.endQ, Seat.seq_normal, Seat.blk_normal, loopEnd_normal, s_step, guardOf, s_guard_true, s_guard_false, s_assign, s_move, s_pick, s_bin, s_fieldAddr, s_indexAddr, s_load, s_store, s_nilCheck, call_40, s_convert, convK, s_pure, s_setT, s_setN, storeS, storeK, loadK, loadC, pickK, pickAV, binK, binAV, cmpAV, intBin, boolAV, intAV, fieldAddrK, elemK, indexAddrK, indexRow, nilK, callOS, callOD, upds, rowsOf_sl, mkAV, TK.agg, setRange, mapEval, evalOp, ofValue, AV.leaves, solid_imm, footA, pureCall, quietOp, readsT, writesT, guardLoc, tmpLoc, touch, looksOp, idsOf, AV.ids, LV.ids, LV.ids.idsAll, Op.operands, List.set_cons_succ, List.set_cons_zero, List.getElem?_cons_succ, List.getElem?_cons_zero, List.cons_append, List.nil_append, List.append_nil, List.length_cons, List.length_nil, List.getD_cons_succ, List.getD_cons_zero, List.all_cons, List.all_nil, List.map_cons, List.map_nil, List.drop_succ_cons, List.drop_zero, List.take_succ_cons, List.take_zero, List.take_nil, List.flatMap_cons, List.flatMap_nil, List.contains_cons, List.contains_nil, Option.map_some, Option.getD_some, Option.toList_some, Option.some.injEq, Nat.reduceAdd, Nat.reduceMul, Nat.reduceLT, Nat.reduceLeDiff, Nat.reduceBEq, Nat.zero_add, Nat.add_zero, Nat.le_refl, Int.toNat_natCast, Int.natCast_nonneg, and_self, Bool.and_self, Bool.or_false, Bool.or_true, Bool.false_eq_true, reduceCtorEq, decide_true, decide_false, beq_self_eq_true, eq_self, gt_iff_lt, ↓reduceIte, seat_T, ob_getD, bq_ft, int_beq, keepSt, keepTmps, keepObjs, kept, keepAV, keepLV_imm, keepLV_ptr, keepObj, promote, promoteT, firstRegion, k30, T_55, T_56, T_22, T_5, T_3, c40, e0, h10', rob_get, hc, e1, e2, e3, e4, a1, s1, o1, hlo, h9', hi0]
              exact ⟨ord_of (by kernel_rfl), (p + 1, i + 1, nxt u c.toNat i), ⟨by simp only; omega, by simp only; omega, hv, by simp only; rw [← hr, show 11 - (i + 1) = k by omega]⟩, by simp only; omega, rfl⟩
          · have hi0 : (0 : Int) < (i : Int) := by omega
            have hz' : ¬ (c.toNat : Int) = 0 := by omega
            by_cases hl0 : c.toNat < 128
            · have hlo : (c.toNat : Int) < 128 := by omega
              rw [if_pos (show c.toNat < 128 by omega)] at hr
              rw [← hr]
              simp only [L30_6, rdr, Seat.W_seq, Seat.W_block, Seat.W_region_false, Seat.W_region_true, Seat.W_exit, Seat.W_ret, Seat.W_skip, Seat.cond_eq, Seat.condK_true, Seat.condK_false, Seat.rq_nil, Seat.rq_cons, Seat.rqK_some, Seat.rg_nil, Seat.rg_cons, Seat.rgK_some, Seat.endQ, Seat.seq_normal, Seat.seq_exit, Seat.blk_exit, loopEnd_exit, s_step, guardOf, s_guard_true, s_guard_false, s_assign, s_move, s_pick, s_bin, s_un, s_fieldAddr, s_indexAddr, s_load, s_store, s_nilCheck, call_40, s_convert, convK, s_pure, s_setT, s_setN, storeS, storeK, loadK, loadC, pickK, pickAV, binK, binAV, cmpAV, intBin, boolAV, intAV, unAV, fieldAddrK, elemK, indexAddrK, indexRow, nilK, callOS, callOD, upds, out_ret, OutK, handed, renAV, renLV, renObj, backUpd, rowsOf_sl, resultsAV, resultAV, tupleOf, mkAV, TK.agg, setRange, mapEval, evalOp, ofValue, AV.leaves, solid_imm, footA, pureCall, quietOp, readsT, writesT, guardLoc, tmpLoc, touch, looksOp, idsOf, AV.ids, LV.ids, LV.ids.idsAll, Op.operands, List.set_cons_succ, List.set_cons_zero, List.getElem?_cons_succ, List.getElem?_cons_zero, List.cons_append, List.nil_append, List.append_nil, List.length_cons, List.length_nil, List.getD_cons_succ, List.getD_cons_zero, List.all_cons, List.all_nil, List.map_cons, List.map_nil, List.drop_succ_cons, List.drop_zero, List.take_succ_cons, List.take_zero, List.take_nil, List.flatMap_cons, List.flatMap_nil, List.contains_cons, List.contains_nil, Option.map_some, Option.bind_some, Option.getD_some, Option.toList_some, Option.some.injEq, Nat.reduceAdd, Nat.reduceMul, Nat.reduceLT, Nat.reduceLeDiff, Nat.reduceBEq, Nat.zero_add, Nat.add_zero, Nat.le_refl, Int.toNat_natCast, Int.natCast_nonneg, and_self, and_true, Bool.and_self, Bool.or_false, Bool.not_true, Bool.false_eq_true, reduceCtorEq, decide_true, decide_false, beq_self_eq_true, eq_self, gt_iff_lt, ↓reduceIte, seat_T, ob_getD, bq_ft, int_beq, firstRegion, k30, T_55, T_56, T_22, T_5, T_3, c40, e0, h10', rob_get, hc, e1, e3, e4, a1, s1, o1, hlo, h9', hz', hi0, shr1, fdiv2, u1, u2, u3, u4]
              exact ord_of (by kernel_rfl)
            · have hlo : ¬ (c.toNat : Int) < 128 := by omega
              rw [if_neg (show ¬ c.toNat < 128 by omega)] at hr
              simp only [L30_6, rdr, Seat.W_seq, Seat.W_block, Seat.W_region_false, Seat.W_region_true, Seat.W_skip, Seat.cond_eq, Seat.condK_false, Seat.rq_nil, Seat.rq_cons, Seat.rqK_some, Seat.rg_nil, Seat.rg_cons, Seat.rgK_some, Seat.endQ, Seat.seq_normal, Seat.blk_normal, loopEnd_normal, s_step, guardOf, s_guard_true, s_guard_false, s_assign, s_move, s_pick, s_bin, s_fieldAddr, s_indexAddr, s_load, s_store, s_nilCheck, call_40, s_convert, convK, s_pure, s_setT, s_setN, storeS, storeK, loadK, loadC, pickK, pickAV, binK, binAV, cmpAV, intBin, boolAV, intAV, fieldAddrK, elemK, indexAddrK, indexRow, nilK, callOS, callOD, upds, rowsOf_sl, mkAV, TK.agg, setRange, mapEval, evalOp, ofValue, AV.leaves, solid_imm, footA, pureCall, quietOp, readsT, writesT, guardLoc, tmpLoc, touch, looksOp, idsOf, AV.ids, LV.ids, LV.ids.idsAll, Op.operands, List.set_cons_succ, List.set_cons_zero, List.getElem?_cons_succ, List.getElem?_cons_zero, List.cons_append, List.nil_append, List.append_nil, List.length_cons, List.length_nil, List.getD_cons_succ, List.getD_cons_zero, List.all_cons, List.all_nil, List.map_cons, List.map_nil, List.drop_succ_cons, List.drop_zero, List.take_succ_cons, List.take_zero, List.take_nil, List.flatMap_cons, List.flatMap_nil, List.contains_cons, List.contains_nil, Option.map_some, Option.getD_some, Option.toList_some, Option.some.injEq, Nat.reduceAdd, Nat.reduceMul, Nat.reduceLT, Nat.reduceLeDiff, Nat.reduceBEq, Nat.zero_add, Nat.add_zero, Nat.le_refl, Int.toNat_natCast, Int.natCast_nonneg, and_self, Bool.and_self, Bool.or_false, Bool.or_true, Bool.false_eq_true, reduceCtorEq, decide_true, decide_false, beq_self_eq_true, eq_self, gt_iff_lt, ↓reduceIte, seat_T, ob_getD, bq_ft, int_beq, keepSt, keepTmps, keepObjs, kept, keepAV, keepLV_imm, keepLV_ptr, keepObj, promote, promoteT, firstRegion, k30, T_55, T_56, T_22, T_5, T_3, c40, e0, h10', rob_get, hc, e1, e2, e3, e4, a1, s1, o1, hlo, h9', hz', hi0]
              exact ⟨ord_of (by kernel_rfl), (p + 1, i + 1, nxt u c.toNat i), ⟨by simp only; omega, by simp only; omega, hv, by simp only; rw [← hr, show 11 - (i + 1) = k by omega]⟩, by simp only; omega, rfl⟩
end Go.Ai
