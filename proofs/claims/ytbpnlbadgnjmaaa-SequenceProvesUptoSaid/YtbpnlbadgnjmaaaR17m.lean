/- How Align fills its table, row by row. No condition. -/
import Derived.Test.YtbpnlbadgnjmaaaR17l
import Derived.Test.YtbpnlbadgnjmaaaR17h
import Derived.Test.YtbpnlbadgnjmaaaAiSim6
import Derived.Test.YtbpnlbadgnjmaaaR17i
import Derived.Test.YtbpnlbadgnjmaaaR17j
import Derived.Test.YtbpnlbadgnjmaaaR17k
namespace Go.Ai
set_option linter.unusedVariables false
set_option linter.unusedSimpArgs false
set_option maxRecDepth 100000
set_option maxHeartbeats 4000000
variable (o : Orac)

def T11 (d a : List Int) (c : Mat) (m n i j : Nat) (P R : List LV) : St := L11_10 (.leaf (.imm (.sl (ints d)))) (.leaf (.imm (.sl (ints a)))) (.leaf (.imm (.sl (mat c)))) (.leaf (.ptr 6 0 0)) (intAV .i64 (m : Int)) (intAV .i64 (n : Int)) (.leaf (.ms 29 0 1 0 (m + 1))) (intAV .i64 (i : Int)) (intAV .i64 ((m + 1 : Nat) : Int)) (intAV .i64 (i : Int)) (intAV .i64 ((n + 1 : Nat) : Int)) (intAV .i64 (j : Int)) zal (some (.cells 22 0 (P ++ .ms 39 0 1 0 (n + 1) :: R))) (some (.cells 3 0 (nc (potRow d a c i j) ++ List.replicate (n + 1 - j) (.imm (.int .i64 0))))) none
def O11 (d a : List Int) (c : Mat) (m n i : Nat) : St := L11_6 (.leaf (.imm (.sl (ints d)))) (.leaf (.imm (.sl (ints a)))) (.leaf (.imm (.sl (mat c)))) (.leaf (.ptr 6 0 0)) (intAV .i64 (m : Int)) (intAV .i64 (n : Int)) (.leaf (.ms 29 0 1 0 (m + 1))) (intAV .i64 ((m + 1 : Nat) : Int)) (intAV .i64 (i : Int)) zal (some (.cells 22 0 (sls (potTab d a c i (n + 1)) ++ List.replicate (m + 1 - i) (.imm .nil)))) none
theorem T11_pre (d a : List Int) (c : Mat) (m n i j : Nat) (P R : List LV) (h : j < n + 1) : T11 d a c m n i j P R = S11 d a c m n i j P R (nc (potRow d a c i j)) (List.replicate (n - j) (.imm (.int .i64 0))) 0 := by
  have e : n + 1 - j = (n - j) + 1 := by omega
  simp only [T11, S11, e, List.replicate_succ]
theorem T11_post (d a : List Int) (c : Mat) (m n i j : Nat) (P R : List LV) {v : Int} (hv : v = pot d a c i j) : S11 d a c m n i (j + 1) P R (nc (potRow d a c i j)) (List.replicate (n - j) (.imm (.int .i64 0))) v = T11 d a c m n i (j + 1) P R := by
  have e : n + 1 - (j + 1) = n - j := by omega
  subst hv
  simp only [T11, S11, e, potRow_succ, nc_snoc, List.append_assoc, List.cons_append, List.nil_append]

/-- A cell of the table. -/
theorem cell11 {d a : List Int} {c : Mat} (hp : Prp d a c) {m n i j : Nat} (hm : m = d.length) (hn : n = a.length) (hi : i < m + 1) (hj : j < n + 1) {R : List LV} (kR : ∀ {ob K}, List.map (keepLV ob K) R = R) {Pp : St → Prop} {Qq : Ex → St → Prop} (hPost : Pp (T11 d a c m n i (j + 1) (sls (potTab d a c i (n + 1))) R)) :
    (seat o).W [229] k11 (lp Proofs.Try.f11 1) (T11 d a c m n i j (sls (potTab d a c i (n + 1))) R) (LoopEnd (k11 10) Pp Qq) := by
  have hld := hp.ld
  have hla := hp.la
  rw [T11_pre _ _ _ _ _ _ _ _ _ hj]
  have e1 : IntKind.wrap .i64 ((j : Int) + 1) = ((j + 1 : Nat) : Int) := wrap_i64 (by omega) (by omega)
  have hPl : (sls (potTab d a c i (n + 1))).length = i := by rw [sls_len, potTab_len]
  have hQl : (nc (potRow d a c i j)).length = j := by rw [nc_len, potRow_len]
  cases i with
  | zero =>
    have i0 : ¬ (0 : Int) < ((0 : Nat) : Int) := by omega
    cases j with
    | zero => exact b11_a o (sls_keep _) kR (nc_keep _) (rep_keep _ _) hPl hQl hi hj e1 i0 (by omega) (by rw [T11_post _ _ _ _ _ _ _ _ _ (by rw [pot])]; exact hPost)
    | succ j =>
      have hab := hp.a_bd j
      have hb := pot_bd hp 0 j
      exact b11_b o (sls_keep _) kR (nc_keep _) (rep_keep _ _) hPl hQl hi hj e1 i0 (by omega) (by rw [wrap_i64 (by omega) (by omega)]; omega) (by omega) (w := pot d a c 0 j) (aj := at1 a j)
        (fun y S => nc_get (potRow_get _ _ _ (by omega)) _) (fun y S => by rw [List.length_append, hQl, List.length_cons]; omega) (get_at1 (by omega)) (wrap_i64 (by omega) (by omega)) (by omega)
        (by rw [T11_post _ _ _ _ _ _ _ _ _ (by rw [pot.eq_3])]; exact hPost)
  | succ i =>
    have hdb := hp.d_bd i
    have hub := pot_bd hp i j
    have i1 : (0 : Int) < ((i + 1 : Nat) : Int) := by omega
    have ei : IntKind.wrap .i64 (((i + 1 : Nat) : Int) - 1) = ((i + 1 - 1 : Nat) : Int) := by rw [wrap_i64 (by omega) (by omega)]; omega
    have hprev : (potTab d a c (i + 1) (n + 1))[i + 1 - 1]? = some (potRow d a c i (n + 1)) := potTab_get _ _ _ (by omega)
    have hu : (potRow d a c i (n + 1))[j]? = some (pot d a c i j) := potRow_get _ _ _ hj
    have hd : d[i + 1 - 1]? = some (at1 d i) := get_at1 (by omega)
    have eb1 : IntKind.wrap .i64 (pot d a c i j + at1 d i) = pot d a c i j + at1 d i := wrap_i64 (by omega) (by omega)
    have p1 : ∀ y S, List.take 1 (List.drop (i + 1 - 1) (sls (potTab d a c (i + 1) (n + 1)) ++ y :: S)) = [.imm (.sl (ints (potRow d a c i (n + 1))))] := fun y S => sls_get hprev _
    have p2 : ∀ (y : LV) (S : List LV), i + 1 - 1 + 1 ≤ (sls (potTab d a c (i + 1) (n + 1)) ++ y :: S).length := fun y S => by rw [List.length_append, hPl, List.length_cons]; omega
    cases j with
    | zero =>
      exact b11_c o (sls_keep _) kR (nc_keep _) (rep_keep _ _) hPl hQl hi hj e1 i1 ei (by omega) p1 p2 hu hd eb1 (by omega) (by omega) (by rw [T11_post _ _ _ _ _ _ _ _ _ (by rw [pot.eq_2])]; exact hPost)
    | succ j =>
      have hab := hp.a_bd j
      have hcb := hp.c_bd i j
      have hwb := pot_bd hp (i + 1) j
      have hzb := pot_bd hp i j
      have j1 : (0 : Int) < ((j + 1 : Nat) : Int) := by omega
      have ej : IntKind.wrap .i64 (((j + 1 : Nat) : Int) - 1) = ((j + 1 - 1 : Nat) : Int) := by rw [wrap_i64 (by omega) (by omega)]; omega
      have q1 : ∀ y S, List.take 1 (List.drop (j + 1 - 1) (nc (potRow d a c (i + 1) (j + 1)) ++ y :: S)) = [.imm (.int .i64 (pot d a c (i + 1) j))] := fun y S => nc_get (potRow_get _ _ _ (by omega)) _
      have q2 : ∀ (y : LV) (S : List LV), j + 1 - 1 + 1 ≤ (nc (potRow d a c (i + 1) (j + 1)) ++ y :: S).length := fun y S => by rw [List.length_append, hQl, List.length_cons]; omega
      have ha : a[j + 1 - 1]? = some (at1 a j) := get_at1 (by omega)
      have eb2 : IntKind.wrap .i64 (pot d a c (i + 1) j + at1 a j) = pot d a c (i + 1) j + at1 a j := wrap_i64 (by omega) (by omega)
      obtain ⟨crow, hc, hcl, hcv⟩ := hp.cell (i := i) (j := j) (by omega) (by omega)
      have hz : (potRow d a c i (n + 1))[j + 1 - 1]? = some (pot d a c i j) := potRow_get _ _ _ (by omega)
      have eb3 : IntKind.wrap .i64 (pot d a c i j + at2 c i j) = pot d a c i j + at2 c i j := wrap_i64 (by omega) (by omega)
      by_cases hch : pot d a c (i + 1) j + at1 a j < pot d a c i (j + 1) + at1 d i
      · by_cases hc0 : 0 ≤ at2 c i j
        · have hv : (if pot d a c i j + at2 c i j < pot d a c (i + 1) j + at1 a j then pot d a c i j + at2 c i j else pot d a c (i + 1) j + at1 a j) = pot d a c (i + 1) (j + 1) := by
            rw [pot.eq_4, if_pos hc0]; split <;> omega
          exact b11_d1 o (sls_keep _) kR (nc_keep _) (rep_keep _ _) hPl hQl hi hj e1 i1 ei (by omega) p1 p2 hu hd eb1 (by omega) j1 ej (by omega) q1 q2 ha eb2 (by omega) hc hcv hch hc0 hz eb3 hv (by have := pot_bd hp (i + 1) (j + 1); omega) (by rw [T11_post _ _ _ _ _ _ _ _ _ rfl]; exact hPost)
        · exact b11_d0 o (sls_keep _) kR (nc_keep _) (rep_keep _ _) hPl hQl hi hj e1 i1 ei (by omega) p1 p2 hu hd eb1 (by omega) j1 ej (by omega) q1 q2 ha eb2 (by omega) hc hcv hch hc0 (by rw [T11_post _ _ _ _ _ _ _ _ _ (by rw [pot.eq_4, if_neg hc0]; omega)]; exact hPost)
      · by_cases hc0 : 0 ≤ at2 c i j
        · have hv : (if pot d a c i j + at2 c i j < pot d a c i (j + 1) + at1 d i then pot d a c i j + at2 c i j else pot d a c i (j + 1) + at1 d i) = pot d a c (i + 1) (j + 1) := by
            rw [pot.eq_4, if_pos hc0]; split <;> omega
          exact b11_e1 o (sls_keep _) kR (nc_keep _) (rep_keep _ _) hPl hQl hi hj e1 i1 ei (by omega) p1 p2 hu hd eb1 (by omega) j1 ej (by omega) q1 q2 ha eb2 (by omega) hc hcv hch hc0 hz eb3 hv (by have := pot_bd hp (i + 1) (j + 1); omega) (by rw [T11_post _ _ _ _ _ _ _ _ _ rfl]; exact hPost)
        · exact b11_e0 o (sls_keep _) kR (nc_keep _) (rep_keep _ _) hPl hQl hi hj e1 i1 ei (by omega) p1 p2 hu hd eb1 (by omega) j1 ej (by omega) q1 q2 ha eb2 (by omega) hc hcv hch hc0 (by rw [T11_post _ _ _ _ _ _ _ _ _ (by rw [pot.eq_4, if_neg hc0]; omega)]; exact hPost)

/-- A row of the table. -/
theorem row11 {d a : List Int} {c : Mat} (hp : Prp d a c) {m n i : Nat} (hm : m = d.length) (hn : n = a.length) (hi : i < m + 1) {Pp : St → Prop} {Qq : Ex → St → Prop} (hPost : Pp (O11 d a c m n (i + 1))) :
    (seat o).W [229] k11 (lp Proofs.Try.f11 0) (O11 d a c m n i) (LoopEnd (k11 6) Pp Qq) := by
  have hld := hp.ld
  have hla := hp.la
  have en : IntKind.wrap .i64 ((n : Int) + 1) = ((n + 1 : Nat) : Int) := wrap_i64 (by omega) (by omega)
  have hrn : (n + 1) * 8 ≤ room := room_of (by omega) (by decide)
  have hPl : (sls (potTab d a c i (n + 1))).length = i := by rw [sls_len, potTab_len]
  have ei1 : IntKind.wrap .i64 ((i : Int) + 1) = ((i + 1 : Nat) : Int) := wrap_i64 (by omega) (by omega)
  have erm : m + 1 - i = (m - i) + 1 := by omega
  have m1 := mid_take hPl
  have m2 := mid_drop hPl
  have m3 := mid_drop1 hPl
  have m4 := mid_len hPl
  have hle : i ≤ m := by omega
  simp only [lp, loopsOf, Proofs.Try.f11, O11, L11_6, zal, Seat.W_seq, Seat.W_block, Seat.W_loop, Seat.W_region_false, Seat.W_skip, Seat.cond_eq, Seat.condK_true, Seat.rq_nil, Seat.rq_cons, Seat.rqK_some, Seat.seq_normal, s_step, guardOf, s_guard_true, s_assign, s_move, s_bin, s_indexAddr, s_load, s_store, s_len, s_pure, s_setT, s_setN, storeS, storeK, loadK, loadC, binK, binAV, intBin, boolAV, intAV, indexAddrK, lenK, lenAV, mkAV, TK.agg, setRange, mapEval, evalOp, ofValue, AV.leaves, solid_ms, List.set_cons_succ, List.set_cons_zero, List.getElem?_cons_succ, List.getElem?_cons_zero, List.cons_append, List.nil_append, List.append_nil, List.length_cons, List.length_nil, List.getD_cons_succ, List.getD_cons_zero, List.all_cons, List.all_nil, List.map_cons, List.map_nil, List.take_succ_cons, List.take_zero, List.flatten_cons, List.contains_cons, List.contains_nil, Option.map_some, Option.map_none, Option.getD_some, Nat.reduceAdd, Nat.reduceLT, Nat.reduceLeDiff, Nat.reduceBEq, Nat.zero_add, Nat.mul_one, Int.toNat_natCast, Int.natCast_nonneg, Int.reduceNeg, and_self, Bool.and_self, Bool.or_false, Bool.or_true, Bool.false_eq_true, decide_true, decide_false, beq_self_eq_true, eq_self, ↓reduceIte, seat_T, Int.ofNat_lt, s_makeSlice, mksS, mksT, mksC, keepSt, keepTmps, keepObjs, kept, keepAV, keepLV_imm, keepLV_ptr, keepLV_ms, keepObj, promote, promoteT, firstRegion, k11, T_22, T_23, T_3, hi, en, hrn, erm, List.map_append, List.map_cons, List.replicate_succ, sls_keep, rep_keep, nc_flat, nc_keep, m1, m2, m3, m4]
  refine Seat.loop_by (fun j : Nat => T11 d a c m n i j (sls (potTab d a c i (n + 1))) (List.replicate (m - i) (.imm .nil))) (fun j => j ≤ n + 1) (fun j => n + 1 - j) 0 rfl (Nat.zero_le _) ?_
  intro j hj
  by_cases hjlt : j < n + 1
  · exact cell11 o hp hm hn hi hjlt (rep_keep _ _) ⟨j + 1, by omega, by omega, rfl⟩
  · have ej : j = n + 1 := by omega
    subst ej
    have hjle : ¬ n + 1 ≤ n := by omega
    have hrows := rows_nc0 (potRow d a c i (n + 1)) (potRow_len d a c i (n + 1))
    have hl39 : n + 1 ≤ (nc (potRow d a c i (n + 1)) ++ List.replicate (n + 1 - (n + 1)) (LV.imm (IV.int .i64 0))).length := by rw [List.length_append, nc_len, potRow_len]; omega
    have es : sls (potTab d a c i (n + 1)) ++ LV.imm (.sl (ints (potRow d a c i (n + 1)))) :: List.replicate (m - i) (LV.imm .nil) = sls (potTab d a c (i + 1) (n + 1)) ++ List.replicate (m + 1 - (i + 1)) (LV.imm .nil) := by
      rw [potTab_succ, sls_snoc, List.append_assoc, show m + 1 - (i + 1) = m - i by omega]; rfl
    simp only [O11, L11_6, zal, ← es] at hPost
    simp only [T11, L11_10, zal, Seat.W_seq, Seat.W_region_false, Seat.W_exit, Seat.cond_eq, Seat.condK_false, Seat.rq_nil, Seat.rq_cons, Seat.rqK_some, Seat.seq_normal, Seat.seq_exit, Seat.blk_normal, Seat.blk_exit, loopEnd_normal, loopEnd_exit, s_step, guardOf, s_guard_true, s_move, s_bin, s_pure, s_setT, binK, binAV, intBin, boolAV, intAV, rowsOf_ms, evalOp, ofValue, List.set_cons_succ, List.set_cons_zero, List.getElem?_cons_succ, List.getElem?_cons_zero, List.getD_cons_succ, List.getD_cons_zero, List.map_cons, List.map_nil, List.contains_cons, List.contains_nil, Option.map_some, Option.map_none, Option.getD_some, Nat.reduceAdd, Nat.reduceLT, Nat.reduceLeDiff, Nat.reduceBEq, Nat.zero_add, Nat.mul_one, Int.reduceNeg, and_self, Bool.or_false, Bool.or_true, Bool.false_eq_true, decide_false, beq_self_eq_true, eq_self, ↓reduceIte, seat_T, ob_getD, Int.ofNat_lt, keepSt, keepTmps, keepObjs, kept, keepAV, keepLV_imm, keepLV_ptr, keepLV_ms, keepObj, promote, promoteT, firstRegion, k11, hjlt, ei1, List.map_append, List.map_cons, sls_keep, rep_keep, hrows, hl39]
    exact hPost
end Go.Ai
/- How the reference's Align fills its table, row by row. No condition. -/
namespace Go.Ai
set_option linter.unusedVariables false
set_option linter.unusedSimpArgs false
set_option maxRecDepth 100000
set_option maxHeartbeats 4000000
variable (o : Orac)

def T12 (d a : List Int) (c : Mat) (m n i j : Nat) (P R : List LV) : St := L12_10 (.leaf (.imm (.sl (ints d)))) (.leaf (.imm (.sl (ints a)))) (.leaf (.imm (.sl (mat c)))) (.leaf (.ptr 6 0 0)) (intAV .i64 (m : Int)) (intAV .i64 (n : Int)) (.leaf (.ms 31 0 1 0 (m + 1))) (intAV .i64 (i : Int)) (intAV .i64 (j : Int)) zal (some (.cells 22 0 (P ++ .ms 41 0 1 0 (n + 1) :: R))) (some (.cells 3 0 (nc (potRow d a c i j) ++ List.replicate (n + 1 - j) (.imm (.int .i64 0))))) none
def O12 (d a : List Int) (c : Mat) (m n i : Nat) : St := L12_6 (.leaf (.imm (.sl (ints d)))) (.leaf (.imm (.sl (ints a)))) (.leaf (.imm (.sl (mat c)))) (.leaf (.ptr 6 0 0)) (intAV .i64 (m : Int)) (intAV .i64 (n : Int)) (.leaf (.ms 31 0 1 0 (m + 1))) (intAV .i64 (i : Int)) zal (some (.cells 22 0 (sls (potTab d a c i (n + 1)) ++ List.replicate (m + 1 - i) (.imm .nil)))) none
theorem T12_pre (d a : List Int) (c : Mat) (m n i j : Nat) (P R : List LV) (h : j < n + 1) : T12 d a c m n i j P R = S12 d a c m n i j P R (nc (potRow d a c i j)) (List.replicate (n - j) (.imm (.int .i64 0))) 0 := by
  have e : n + 1 - j = (n - j) + 1 := by omega
  simp only [T12, S12, e, List.replicate_succ]
theorem T12_post (d a : List Int) (c : Mat) (m n i j : Nat) (P R : List LV) {v : Int} (hv : v = pot d a c i j) : S12 d a c m n i (j + 1) P R (nc (potRow d a c i j)) (List.replicate (n - j) (.imm (.int .i64 0))) v = T12 d a c m n i (j + 1) P R := by
  have e : n + 1 - (j + 1) = n - j := by omega
  subst hv
  simp only [T12, S12, e, potRow_succ, nc_snoc, List.append_assoc, List.cons_append, List.nil_append]

/-- A cell of the table. -/
theorem cell12 {d a : List Int} {c : Mat} (hp : Prp d a c) {m n i j : Nat} (hm : m = d.length) (hn : n = a.length) (hi : i < m + 1) (hj : j < n + 1) {R : List LV} (kR : ∀ {ob K}, List.map (keepLV ob K) R = R) {Pp : St → Prop} {Qq : Ex → St → Prop} (hPost : Pp (T12 d a c m n i (j + 1) (sls (potTab d a c i (n + 1))) R)) :
    (seat o).W [] k12 (lp Proofs.Try.f12 1) (T12 d a c m n i j (sls (potTab d a c i (n + 1))) R) (LoopEnd (k12 10) Pp Qq) := by
  have hld := hp.ld
  have hla := hp.la
  rw [T12_pre _ _ _ _ _ _ _ _ _ hj]
  have e1 : IntKind.wrap .i64 ((j : Int) + 1) = ((j + 1 : Nat) : Int) := wrap_i64 (by omega) (by omega)
  have hPl : (sls (potTab d a c i (n + 1))).length = i := by rw [sls_len, potTab_len]
  have hQl : (nc (potRow d a c i j)).length = j := by rw [nc_len, potRow_len]
  cases i with
  | zero =>
    have i0 : ¬ (0 : Int) < ((0 : Nat) : Int) := by omega
    cases j with
    | zero => exact b12_a o (sls_keep _) kR (nc_keep _) (rep_keep _ _) hPl hQl hi hj (by omega) e1 i0 (by omega) (by rw [T12_post _ _ _ _ _ _ _ _ _ (by rw [pot])]; exact hPost)
    | succ j =>
      have hab := hp.a_bd j
      have hb := pot_bd hp 0 j
      exact b12_b o (sls_keep _) kR (nc_keep _) (rep_keep _ _) hPl hQl hi hj (by omega) e1 i0 (by omega) (by rw [wrap_i64 (by omega) (by omega)]; omega) (by omega) (w := pot d a c 0 j) (aj := at1 a j)
        (fun y S => nc_get (potRow_get _ _ _ (by omega)) _) (fun y S => by rw [List.length_append, hQl, List.length_cons]; omega) (get_at1 (by omega)) (wrap_i64 (by omega) (by omega)) (by omega)
        (by rw [T12_post _ _ _ _ _ _ _ _ _ (by rw [pot.eq_3])]; exact hPost)
  | succ i =>
    have hdb := hp.d_bd i
    have hub := pot_bd hp i j
    have i1 : (0 : Int) < ((i + 1 : Nat) : Int) := by omega
    have ei : IntKind.wrap .i64 (((i + 1 : Nat) : Int) - 1) = ((i + 1 - 1 : Nat) : Int) := by rw [wrap_i64 (by omega) (by omega)]; omega
    have hprev : (potTab d a c (i + 1) (n + 1))[i + 1 - 1]? = some (potRow d a c i (n + 1)) := potTab_get _ _ _ (by omega)
    have hu : (potRow d a c i (n + 1))[j]? = some (pot d a c i j) := potRow_get _ _ _ hj
    have hd : d[i + 1 - 1]? = some (at1 d i) := get_at1 (by omega)
    have eb1 : IntKind.wrap .i64 (pot d a c i j + at1 d i) = pot d a c i j + at1 d i := wrap_i64 (by omega) (by omega)
    have p1 : ∀ y S, List.take 1 (List.drop (i + 1 - 1) (sls (potTab d a c (i + 1) (n + 1)) ++ y :: S)) = [.imm (.sl (ints (potRow d a c i (n + 1))))] := fun y S => sls_get hprev _
    have p2 : ∀ (y : LV) (S : List LV), i + 1 - 1 + 1 ≤ (sls (potTab d a c (i + 1) (n + 1)) ++ y :: S).length := fun y S => by rw [List.length_append, hPl, List.length_cons]; omega
    cases j with
    | zero =>
      exact b12_c o (sls_keep _) kR (nc_keep _) (rep_keep _ _) hPl hQl hi hj (by omega) e1 i1 ei (by omega) p1 p2 hu hd eb1 (by omega) (by omega) (by rw [T12_post _ _ _ _ _ _ _ _ _ (by rw [pot.eq_2])]; exact hPost)
    | succ j =>
      have hab := hp.a_bd j
      have hcb := hp.c_bd i j
      have hwb := pot_bd hp (i + 1) j
      have hzb := pot_bd hp i j
      have j1 : (0 : Int) < ((j + 1 : Nat) : Int) := by omega
      have ej : IntKind.wrap .i64 (((j + 1 : Nat) : Int) - 1) = ((j + 1 - 1 : Nat) : Int) := by rw [wrap_i64 (by omega) (by omega)]; omega
      have q1 : ∀ y S, List.take 1 (List.drop (j + 1 - 1) (nc (potRow d a c (i + 1) (j + 1)) ++ y :: S)) = [.imm (.int .i64 (pot d a c (i + 1) j))] := fun y S => nc_get (potRow_get _ _ _ (by omega)) _
      have q2 : ∀ (y : LV) (S : List LV), j + 1 - 1 + 1 ≤ (nc (potRow d a c (i + 1) (j + 1)) ++ y :: S).length := fun y S => by rw [List.length_append, hQl, List.length_cons]; omega
      have ha : a[j + 1 - 1]? = some (at1 a j) := get_at1 (by omega)
      have eb2 : IntKind.wrap .i64 (pot d a c (i + 1) j + at1 a j) = pot d a c (i + 1) j + at1 a j := wrap_i64 (by omega) (by omega)
      obtain ⟨crow, hc, hcl, hcv⟩ := hp.cell (i := i) (j := j) (by omega) (by omega)
      have hz : (potRow d a c i (n + 1))[j + 1 - 1]? = some (pot d a c i j) := potRow_get _ _ _ (by omega)
      have eb3 : IntKind.wrap .i64 (pot d a c i j + at2 c i j) = pot d a c i j + at2 c i j := wrap_i64 (by omega) (by omega)
      by_cases hch : pot d a c (i + 1) j + at1 a j < pot d a c i (j + 1) + at1 d i
      · by_cases hc0 : 0 ≤ at2 c i j
        · have hv : (if pot d a c i j + at2 c i j < pot d a c (i + 1) j + at1 a j then pot d a c i j + at2 c i j else pot d a c (i + 1) j + at1 a j) = pot d a c (i + 1) (j + 1) := by
            rw [pot.eq_4, if_pos hc0]; split <;> omega
          exact b12_d1 o (sls_keep _) kR (nc_keep _) (rep_keep _ _) hPl hQl hi hj (by omega) e1 i1 ei (by omega) p1 p2 hu hd eb1 (by omega) j1 ej (by omega) q1 q2 ha eb2 (by omega) hc hcv hch hc0 hz eb3 hv (by have := pot_bd hp (i + 1) (j + 1); omega) (by rw [T12_post _ _ _ _ _ _ _ _ _ rfl]; exact hPost)
        · exact b12_d0 o (sls_keep _) kR (nc_keep _) (rep_keep _ _) hPl hQl hi hj (by omega) e1 i1 ei (by omega) p1 p2 hu hd eb1 (by omega) j1 ej (by omega) q1 q2 ha eb2 (by omega) hc hcv hch hc0 (by rw [T12_post _ _ _ _ _ _ _ _ _ (by rw [pot.eq_4, if_neg hc0]; omega)]; exact hPost)
      · by_cases hc0 : 0 ≤ at2 c i j
        · have hv : (if pot d a c i j + at2 c i j < pot d a c i (j + 1) + at1 d i then pot d a c i j + at2 c i j else pot d a c i (j + 1) + at1 d i) = pot d a c (i + 1) (j + 1) := by
            rw [pot.eq_4, if_pos hc0]; split <;> omega
          exact b12_e1 o (sls_keep _) kR (nc_keep _) (rep_keep _ _) hPl hQl hi hj (by omega) e1 i1 ei (by omega) p1 p2 hu hd eb1 (by omega) j1 ej (by omega) q1 q2 ha eb2 (by omega) hc hcv hch hc0 hz eb3 hv (by have := pot_bd hp (i + 1) (j + 1); omega) (by rw [T12_post _ _ _ _ _ _ _ _ _ rfl]; exact hPost)
        · exact b12_e0 o (sls_keep _) kR (nc_keep _) (rep_keep _ _) hPl hQl hi hj (by omega) e1 i1 ei (by omega) p1 p2 hu hd eb1 (by omega) j1 ej (by omega) q1 q2 ha eb2 (by omega) hc hcv hch hc0 (by rw [T12_post _ _ _ _ _ _ _ _ _ (by rw [pot.eq_4, if_neg hc0]; omega)]; exact hPost)

/-- A row of the table. -/
theorem row12 {d a : List Int} {c : Mat} (hp : Prp d a c) {m n i : Nat} (hm : m = d.length) (hn : n = a.length) (hi : i < m + 1) {Pp : St → Prop} {Qq : Ex → St → Prop} (hPost : Pp (O12 d a c m n (i + 1))) :
    (seat o).W [] k12 (lp Proofs.Try.f12 0) (O12 d a c m n i) (LoopEnd (k12 6) Pp Qq) := by
  have hld := hp.ld
  have hla := hp.la
  have en : IntKind.wrap .i64 ((n : Int) + 1) = ((n + 1 : Nat) : Int) := wrap_i64 (by omega) (by omega)
  have hrn : (n + 1) * 8 ≤ room := room_of (by omega) (by decide)
  have hPl : (sls (potTab d a c i (n + 1))).length = i := by rw [sls_len, potTab_len]
  have ei1 : IntKind.wrap .i64 ((i : Int) + 1) = ((i + 1 : Nat) : Int) := wrap_i64 (by omega) (by omega)
  have erm : m + 1 - i = (m - i) + 1 := by omega
  have m1 := mid_take hPl
  have m2 := mid_drop hPl
  have m3 := mid_drop1 hPl
  have m4 := mid_len hPl
  have hle : i ≤ m := by omega
  simp only [lp, loopsOf, Proofs.Try.f12, O12, L12_6, zal, Seat.W_seq, Seat.W_block, Seat.W_loop, Seat.W_region_false, Seat.W_skip, Seat.cond_eq, Seat.condK_true, Seat.rq_nil, Seat.rq_cons, Seat.rqK_some, Seat.seq_normal, s_step, guardOf, s_guard_true, s_assign, s_move, s_bin, s_indexAddr, s_store, s_pure, s_setT, s_setN, storeS, storeK, binK, binAV, intBin, boolAV, intAV, indexAddrK, setRange, evalOp, ofValue, AV.leaves, solid_ms, List.set_cons_succ, List.set_cons_zero, List.getElem?_cons_succ, List.getElem?_cons_zero, List.cons_append, List.nil_append, List.append_nil, List.length_cons, List.length_nil, List.getD_cons_succ, List.getD_cons_zero, List.all_cons, List.all_nil, List.map_cons, List.map_nil, List.flatten_cons, List.contains_cons, List.contains_nil, Option.map_some, Option.map_none, Option.getD_some, Nat.reduceAdd, Nat.reduceLT, Nat.reduceLeDiff, Nat.reduceBEq, Nat.zero_add, Nat.mul_one, Int.toNat_natCast, Int.natCast_nonneg, Int.reduceNeg, and_self, Bool.and_self, Bool.or_false, Bool.or_true, Bool.false_eq_true, decide_true, decide_false, beq_self_eq_true, eq_self, ↓reduceIte, seat_T, Int.ofNat_lt, Int.ofNat_le, s_makeSlice, mksS, mksT, mksC, keepSt, keepTmps, keepObjs, kept, keepAV, keepLV_imm, keepLV_ptr, keepLV_ms, keepObj, promote, promoteT, firstRegion, k12, T_22, T_23, T_3, hi, hle, en, hrn, erm, List.map_append, List.map_cons, List.replicate_succ, sls_keep, rep_keep, nc_flat, nc_keep, m1, m3, m4]
  refine Seat.loop_by (fun j : Nat => T12 d a c m n i j (sls (potTab d a c i (n + 1))) (List.replicate (m - i) (.imm .nil))) (fun j => j ≤ n + 1) (fun j => n + 1 - j) 0 rfl (Nat.zero_le _) ?_
  intro j hj
  by_cases hjlt : j < n + 1
  · exact cell12 o hp hm hn hi hjlt (rep_keep _ _) ⟨j + 1, by omega, by omega, rfl⟩
  · have ej : j = n + 1 := by omega
    subst ej
    have hjle : ¬ n + 1 ≤ n := by omega
    have hrows := rows_nc0 (potRow d a c i (n + 1)) (potRow_len d a c i (n + 1))
    have hl39 : n + 1 ≤ (nc (potRow d a c i (n + 1)) ++ List.replicate (n + 1 - (n + 1)) (LV.imm (IV.int .i64 0))).length := by rw [List.length_append, nc_len, potRow_len]; omega
    have es : sls (potTab d a c i (n + 1)) ++ LV.imm (.sl (ints (potRow d a c i (n + 1)))) :: List.replicate (m - i) (LV.imm .nil) = sls (potTab d a c (i + 1) (n + 1)) ++ List.replicate (m + 1 - (i + 1)) (LV.imm .nil) := by
      rw [potTab_succ, sls_snoc, List.append_assoc, show m + 1 - (i + 1) = m - i by omega]; rfl
    simp only [O12, L12_6, zal, ← es] at hPost
    simp only [T12, L12_10, zal, Seat.W_seq, Seat.W_region_false, Seat.W_exit, Seat.cond_eq, Seat.condK_false, Seat.rq_nil, Seat.rq_cons, Seat.rqK_some, Seat.seq_normal, Seat.seq_exit, Seat.blk_normal, Seat.blk_exit, loopEnd_normal, loopEnd_exit, s_step, guardOf, s_guard_true, s_assign, s_move, s_bin, s_pure, s_setT, binK, binAV, intBin, boolAV, intAV, rowsOf_ms, evalOp, ofValue, List.set_cons_succ, List.set_cons_zero, List.getElem?_cons_succ, List.getElem?_cons_zero, List.getD_cons_succ, List.getD_cons_zero, List.map_cons, List.map_nil, List.contains_cons, List.contains_nil, Option.map_some, Option.map_none, Option.getD_some, Nat.reduceAdd, Nat.reduceLT, Nat.reduceLeDiff, Nat.reduceBEq, Nat.zero_add, Nat.mul_one, Int.reduceNeg, and_self, Bool.or_false, Bool.or_true, Bool.false_eq_true, decide_false, beq_self_eq_true, eq_self, ↓reduceIte, seat_T, ob_getD, Int.ofNat_le, keepSt, keepTmps, keepObjs, kept, keepAV, keepLV_imm, keepLV_ptr, keepLV_ms, keepObj, promote, promoteT, firstRegion, k12, hjle, ei1, List.map_append, List.map_cons, sls_keep, rep_keep, hrows, hl39]
    exact hPost
end Go.Ai
/- What Align answers to proper arguments. No condition. -/
namespace Go.Ai
set_option linter.unusedVariables false
set_option linter.unusedSimpArgs false
set_option maxRecDepth 100000
set_option maxHeartbeats 4000000
variable (o : Orac)

/-- A step back. -/
theorem step11 {d a : List Int} {c : Mat} (hp : Prp d a c) {m n i j : Nat} (hm : m = d.length) (hn : n = a.length) (hi : i ≤ m) (hj : j ≤ n) (hij : ¬ (i = 0 ∧ j = 0)) {co : Int} {bs : List (Int × Int)} {k : Nat} (hk : bs.length = k) (hkb : k + i ≤ 400) {Pp : St → Prop} {Qq : Ex → St → Prop}
    (hPost : ∀ i' j' bs', i' ≤ i → j' ≤ j → i' + j' < i + j → bs'.length + i' ≤ 400 → bs' ++ bk d a c i' j' = bs ++ bk d a c i j → Pp (B11 d c m n i' j' co (sls (potTab d a c (m + 1) (n + 1))) bs' bs'.length)) :
    (seat o).W [229] k11 (lp Proofs.Try.f11 2) (B11 d c m n i j co (sls (potTab d a c (m + 1) (n + 1))) bs k) (LoopEnd (k11 24) Pp Qq) := by
  have hld := hp.ld
  have hla := hp.la
  subst hk
  have hr : (bs.length + 1) * 16 ≤ room := room_of (by omega) (by decide)
  have hCl : (sls (potTab d a c (m + 1) (n + 1))).length = m + 1 := by rw [sls_len, potTab_len]
  have tab : ∀ x, x < m + 1 → List.take 1 (List.drop x (sls (potTab d a c (m + 1) (n + 1)))) = [.imm (.sl (ints (potRow d a c x (n + 1))))] := fun x hx => by
    have := sls_get (potTab_get d a c (n := n + 1) hx) []
    rwa [List.append_nil] at this
  cases i with
  | zero =>
    cases j with
    | zero => exact (hij ⟨rfl, rfl⟩).elim
    | succ j =>
      have ej : IntKind.wrap .i64 (((j + 1 : Nat) : Int) - 1) = ((j + 1 - 1 : Nat) : Int) := by rw [wrap_i64 (by omega) (by omega)]; omega
      exact k11_D1 o (sls_keep _) rfl hr (by omega) (by omega) ej (hPost 0 j bs (by omega) (by omega) (by omega) (by omega) (by rw [bk.eq_3]))
  | succ i =>
    have i1 : (0 : Int) < ((i + 1 : Nat) : Int) := by omega
    have ei : IntKind.wrap .i64 (((i + 1 : Nat) : Int) - 1) = ((i + 1 - 1 : Nat) : Int) := by rw [wrap_i64 (by omega) (by omega)]; omega
    have p1 := tab (i + 1) (by omega)
    have p2 := tab (i + 1 - 1) (by omega)
    have p3 : i + 1 + 1 ≤ (sls (potTab d a c (m + 1) (n + 1))).length := by omega
    have p4 : i + 1 - 1 + 1 ≤ (sls (potTab d a c (m + 1) (n + 1))).length := by omega
    have hpij : (potRow d a c (i + 1) (n + 1))[j]? = some (pot d a c (i + 1) j) := potRow_get _ _ _ (by omega)
    have hu : (potRow d a c (i + 1 - 1) (n + 1))[j]? = some (pot d a c i j) := potRow_get _ _ _ (by omega)
    have hd : d[i + 1 - 1]? = some (at1 d i) := get_at1 (by omega)
    have hdb := hp.d_bd i
    have hub := pot_bd hp i j
    have eb1 : IntKind.wrap .i64 (pot d a c i j + at1 d i) = pot d a c i j + at1 d i := wrap_i64 (by omega) (by omega)
    cases j with
    | zero =>
      exact k11_B1 o (sls_keep _) rfl hr i1 ei (by omega) (by omega) p1 p2 p3 p4 hpij (by omega) hu hd eb1 (by rw [pot.eq_2]; exact beq_self_eq_true _) (hPost i 0 bs (by omega) (by omega) (by omega) (by omega) (by rw [bk.eq_2]))
    | succ j =>
      have hcb := hp.c_bd i j
      have hzb := pot_bd hp i j
      have j1 : (0 : Int) < ((j + 1 : Nat) : Int) := by omega
      have ej : IntKind.wrap .i64 (((j + 1 : Nat) : Int) - 1) = ((j + 1 - 1 : Nat) : Int) := by rw [wrap_i64 (by omega) (by omega)]; omega
      obtain ⟨crow, hc, hcl, hcv⟩ := hp.cell (i := i) (j := j) (by omega) (by omega)
      have hz : (potRow d a c (i + 1 - 1) (n + 1))[j + 1 - 1]? = some (pot d a c i j) := potRow_get _ _ _ (by omega)
      have eb3 : IntKind.wrap .i64 (pot d a c i j + at2 c i j) = pot d a c i j + at2 c i j := wrap_i64 (by omega) (by omega)
      by_cases hc0 : 0 ≤ at2 c i j
      · by_cases he : pot d a c (i + 1) (j + 1) = pot d a c i j + at2 c i j
        · exact k11_A o (sls_keep _) rfl hr i1 ei (by omega) (by omega) p1 p2 p3 p4 hpij j1 ej hc hcv hc0 hz eb3 (by rw [he]; exact beq_self_eq_true _)
            (by have := hPost i j (bs ++ [((i : Int), (j : Int))]) (by omega) (by omega) (by omega) (by rw [List.length_append, List.length_singleton]; omega) (by rw [bk.eq_4, if_pos ⟨hc0, he⟩, List.append_assoc]; rfl); rw [List.length_append, List.length_singleton] at this; exact this)
        · have he' : (pot d a c (i + 1) (j + 1) == pot d a c i j + at2 c i j) = false := beq_eq_false_iff_ne.2 he
          have hn1 : ¬ (0 ≤ at2 c i j ∧ pot d a c (i + 1) (j + 1) = pot d a c i j + at2 c i j) := fun q => he q.2
          by_cases hf : pot d a c (i + 1) (j + 1) = pot d a c i (j + 1) + at1 d i
          · exact k11_B3 o (sls_keep _) rfl hr i1 ei (by omega) (by omega) p1 p2 p3 p4 hpij j1 ej hc hcv hc0 hz eb3 he' hu hd eb1 (by rw [hf]; exact beq_self_eq_true _) (hPost i (j + 1) bs (by omega) (by omega) (by omega) (by omega) (by rw [bk.eq_4 d a c i j, if_neg hn1, if_pos hf]))
          · exact k11_D3 o (sls_keep _) rfl hr i1 ei (by omega) (by omega) p1 p2 p3 p4 hpij j1 ej hc hcv hc0 hz eb3 he' hu hd eb1 (beq_eq_false_iff_ne.2 hf) (hPost (i + 1) j bs (by omega) (by omega) (by omega) (by omega) (by rw [bk.eq_4 d a c i j, if_neg hn1, if_neg hf]))
      · have hn1 : ¬ (0 ≤ at2 c i j ∧ pot d a c (i + 1) (j + 1) = pot d a c i j + at2 c i j) := fun q => hc0 q.1
        by_cases hf : pot d a c (i + 1) (j + 1) = pot d a c i (j + 1) + at1 d i
        · exact k11_B2 o (sls_keep _) rfl hr i1 ei (by omega) (by omega) p1 p2 p3 p4 hpij j1 ej hc hcv hc0 hu hd eb1 (by rw [hf]; exact beq_self_eq_true _) (hPost i (j + 1) bs (by omega) (by omega) (by omega) (by omega) (by rw [bk.eq_4 d a c i j, if_neg hn1, if_pos hf]))
        · exact k11_D2 o (sls_keep _) rfl hr i1 ei (by omega) (by omega) p1 p2 p3 p4 hpij j1 ej hc hcv hc0 hu hd eb1 (beq_eq_false_iff_ne.2 hf) (hPost (i + 1) j bs (by omega) (by omega) (by omega) (by omega) (by rw [bk.eq_4 d a c i j, if_neg hn1, if_neg hf]))

theorem fn11_ok (d a : List Int) (c : Mat) (hp : Prp d a c) :
    (seat o).fn 11 [.leaf (.imm (.sl (ints d))), .leaf (.imm (.sl (ints a))), .leaf (.imm (.sl (mat c)))] = some (.tup [(Aln.mk (bk d a c d.length a.length).reverse (pot d a c d.length a.length) (potTab d a c (d.length + 1) (a.length + 1))).av, .leaf (.imm (.int .i64 0))]) := by
  have hld := hp.ld
  have hla := hp.la
  have hlc := hp.lc
  have h21 := fn21 o d a c (by omega) (by omega) (by omega) (fun r hr => by have := (hp.rows r hr).1; omega)
  rw [decide_eq_true hp] at h21
  simp only [boolAV] at h21
  obtain ⟨m, hm⟩ : ∃ m, m = d.length := ⟨_, rfl⟩
  obtain ⟨n, hn⟩ : ∃ n, n = a.length := ⟨_, rfl⟩
  rw [← hm, ← hn]
  have em : IntKind.wrap .i64 ((m : Int) + 1) = ((m + 1 : Nat) : Int) := wrap_i64 (by omega) (by omega)
  have hrm : (m + 1) * 24 ≤ room := room_of (by omega) (by decide)
  refine Seat.fn_of (f := fun11) (noS o 11 _ rfl) rfl rfl rfl ?_; simp only [fun11, Proofs.Try.f11, Seat.W_seq, Seat.W_region_false, Seat.rq_cons, s_step, guardOf, s_guard_true, s_alloc, allocS, allocK, List.set_cons_succ, List.set_cons_zero, List.cons_append, List.nil_append, List.length_cons, List.length_nil, List.getD_cons_succ, List.getD_cons_zero, List.reduceReplicate, Nat.reduceAdd, Nat.reduceSub, Nat.reduceLT, Nat.zero_add, Int.reduceNeg, ↓reduceIte, seat_T]
  simp only [Seat.W_seq, Seat.W_block, Seat.W_loop, Seat.W_region_false, Seat.W_skip, Seat.cond_eq, Seat.condK_false, Seat.rq_nil, Seat.rq_cons, Seat.rqK_some, Seat.seq_normal, s_step, guardOf, s_guard_true, s_assign, s_move, s_bin, s_un, s_len, call_21, s_pure, s_setT, binK, binAV, intBin, boolAV, intAV, unAV, lenK, lenAV, callS, callP, stripArgs, AV.stripA, strip_imm, IV.norm, mapEval, evalOp, ofValue, List.set_cons_succ, List.set_cons_zero, List.getElem?_cons_succ, List.getElem?_cons_zero, List.length_cons, List.length_nil, List.getD_cons_succ, List.getD_cons_zero, List.map_cons, List.map_nil, List.contains_cons, List.contains_nil, Option.map_some, Option.map_none, Option.bind_some, Option.getD_some, Nat.reduceAdd, Nat.reduceLT, Nat.reduceLeDiff, Nat.reduceBEq, Nat.zero_add, Int.toNat_natCast, Int.natCast_nonneg, Int.reduceNeg, and_self, Bool.or_false, Bool.or_true, Bool.not_true, Bool.false_eq_true, decide_false, beq_self_eq_true, eq_self, ↓reduceIte, seat_T, s_makeSlice, mksS, mksT, mksC, keepSt, keepTmps, keepObjs, kept, keepAV, keepLV_imm, keepLV_ptr, keepLV_ms, keepObj, promote, promoteT, firstRegion, k11, T_22, T_23, T_28, ints_len, h21, ← hm, ← hn, em, hrm, sls_flat, sls_keep, rep_keep, List.map_append]
  refine Seat.loop_by (fun i : Nat => O11 d a c m n i) (fun i => i ≤ m + 1) (fun i => m + 1 - i) 0 rfl (Nat.zero_le _) ?_
  intro i hi
  by_cases hlt : i < m + 1
  · exact row11 o hp hm hn hlt ⟨i + 1, by omega, by omega, rfl⟩
  · have ei : i = m + 1 := by omega
    subst ei
    have hle : ¬ m + 1 ≤ m := by omega
    have hCl : (sls (potTab d a c (m + 1) (n + 1))).length = m + 1 := by rw [sls_len, potTab_len]
    have tab : List.take 1 (List.drop m (sls (potTab d a c (m + 1) (n + 1)))) = [.imm (.sl (ints (potRow d a c m (n + 1))))] := by
      have := sls_get (potTab_get d a c (n := n + 1) (Nat.lt_succ_self m)) []
      rwa [List.append_nil] at this
    have hmn : (potRow d a c m (n + 1))[n]? = some (pot d a c m n) := potRow_get _ _ _ (by omega)
    have hm1 : m + 1 ≤ (sls (potTab d a c (m + 1) (n + 1))).length := by omega
    have e0 : m + 1 - (m + 1) = 0 := by omega
    have hml : m < m + 1 := by omega
    simp only [O11, L11_6, zal, Seat.W_seq, Seat.W_block, Seat.W_loop, Seat.W_region_false, Seat.W_exit, Seat.cond_eq, Seat.condK_false, Seat.rq_nil, Seat.rq_cons, Seat.rqK_some, Seat.seq_normal, Seat.seq_exit, Seat.blk_exit, loopEnd_exit, s_step, guardOf, s_guard_true, s_alloc, s_assign, s_move, s_bin, s_indexAddr, s_build, s_load, s_store, s_pure, s_setT, s_setN, allocS, allocK, storeS, storeK, loadK, loadC, binK, binAV, intBin, boolAV, intAV, elemK, indexAddrK, indexRow, evalParts, aggK, buildK, rowsOf_sl, mkAV, TK.agg, fillAV, fieldAt, setRange, evalOp, AV.leaves, solid_imm, solid_ms, List.set_cons_succ, List.set_cons_zero, List.getElem?_cons_succ, List.getElem?_cons_zero, List.cons_append, List.nil_append, List.append_nil, List.length_cons, List.length_nil, List.getD_cons_succ, List.getD_cons_zero, List.all_cons, List.all_nil, List.map_cons, List.map_nil, List.drop_succ_cons, List.drop_zero, List.take_succ_cons, List.take_zero, List.drop_nil, List.take_nil, List.contains_cons, List.contains_nil, Option.map_some, Option.map_none, Option.getD_some, Nat.reduceAdd, Nat.reduceLT, Nat.reduceLeDiff, Nat.reduceBEq, Nat.zero_add, Nat.mul_one, Nat.le_refl, Nat.not_lt_zero, Int.toNat_natCast, Int.natCast_nonneg, Int.reduceNeg, and_self, true_and, false_and, and_false, Bool.and_self, Bool.or_false, Bool.or_true, Bool.false_eq_true, decide_false, beq_self_eq_true, eq_self, ↓reduceIte, seat_T, ob_getD, Int.ofNat_lt, keepSt, keepTmps, keepObjs, kept, keepAV, keepLV_imm, keepLV_ptr, keepLV_ms, keepObj, promote, promoteT, seedLV, seedObj, firstRegion, k11, T_22, T_23, T_28, T_3, ints_get, hlt, e0, hml, List.replicate_zero, sls_keep, tab, hmn, hm1]
    refine Seat.loop_by (fun x : Nat × Nat × List (Int × Int) => B11 d c m n x.1 x.2.1 (pot d a c m n) (sls (potTab d a c (m + 1) (n + 1))) x.2.2 x.2.2.length) (fun x => x.1 ≤ m ∧ x.2.1 ≤ n ∧ x.2.2.length + x.1 ≤ 400 ∧ x.2.2 ++ bk d a c x.1 x.2.1 = bk d a c m n) (fun x => x.1 + x.2.1) (m, n, []) rfl ⟨Nat.le_refl _, Nat.le_refl _, by simp only [List.length_nil]; omega, rfl⟩ ?_
    rintro ⟨i, j, bs⟩ ⟨hi, hj, hk, hb⟩
    simp only at hi hj hk hb
    by_cases hij : i = 0 ∧ j = 0
    · obtain ⟨rfl, rfl⟩ := hij
      rw [bk.eq_1, List.append_nil] at hb
      subst hb
      have c22 : ∀ (dd : Nat) (ob : Nat → Option AObj), ob 229 = some (.cells 45 (bk d a c m n).length (prc (bk d a c m n))) → _ := fun dd ob ho => fn22 o 229 dd ob (bk d a c m n) (bk d a c m n).length (bk d a c m n).length rfl (by omega) ho
      have hrr : rowsAt (prc (bk d a c m n).reverse) 2 0 (bk d a c m n).length = some (prs (bk d a c m n).reverse) := rows_prc0 _ (List.length_reverse)
      have hrs := rows_sls0 (potTab d a c (m + 1) (n + 1)) (potTab_len d a c (m + 1) (n + 1))
      have hrl : (bk d a c m n).length * 2 ≤ (prc (bk d a c m n).reverse).length := by rw [prc_len, List.length_reverse]; omega
      simp only [B11, L11_24, zal, Seat.W_seq, Seat.W_region_false, Seat.W_exit, Seat.W_ret, Seat.cond_eq, Seat.condK_false, Seat.rq_nil, Seat.rq_cons, Seat.rqK_some, Seat.seq_normal, Seat.seq_exit, Seat.blk_exit, Seat.ret_ret, Seat.RetK, loopEnd_exit, s_step, guardOf, s_guard_true, s_assign, s_move, s_pick, s_bin, s_fieldAddr, s_load, s_store, call_22, s_pure, s_setT, s_setN, storeS, storeK, loadK, loadC, pickK, pickAV, binK, binAV, intBin, boolAV, intAV, fieldAddrK, callOS, callOD, upds, IV.norm, lendArgs, lendArg, lend_imm, lend_ms, lendAll, rowsOf_ms, resultsAV, resultAV, tupleOf, mkAV, TK.agg, setRange, mapEval, evalOp, ofValue, AV.leaves, solid_imm, solid_ms, idsOf, AV.ids, LV.ids, LV.ids.idsAll, List.set_cons_succ, List.set_cons_zero, List.getElem?_cons_succ, List.getElem?_cons_zero, List.cons_append, List.nil_append, List.append_nil, List.length_cons, List.length_nil, List.getD_cons_succ, List.getD_cons_zero, List.all_cons, List.all_nil, List.map_cons, List.map_nil, List.drop_succ_cons, List.drop_zero, List.take_succ_cons, List.take_zero, List.drop_nil, List.take_nil, List.contains_cons, List.contains_nil, Option.map_some, Option.getD_some, Option.some.injEq, Nat.reduceAdd, Nat.reduceLT, Nat.reduceLeDiff, Nat.reduceBEq, Nat.zero_add, Nat.add_zero, Nat.mul_one, Nat.le_refl, Nat.not_lt_zero, Int.reduceLT, Int.cast_ofNat_Int, and_self, false_and, and_false, Bool.and_self, Bool.or_false, Bool.false_eq_true, decide_true, decide_false, beq_self_eq_true, eq_self, gt_iff_lt, ↓reduceIte, exists_eq_left', seat_T, ob_getD, firstRegion, k11, T_26, T_28, c22, hrr, hrs, hrl, hm1, Aln.av]
    · exact step11 o hp hm hn hi hj hij rfl hk fun i' j' bs' h1 h2 h3 h4 h5 => ⟨(i', j', bs'), ⟨by simp only; omega, by simp only; omega, h4, by simp only; rw [h5]; exact hb⟩, h3, rfl⟩
end Go.Ai
/- What the reference's Align answers to proper arguments. No condition. -/
namespace Go.Ai
set_option linter.unusedVariables false
set_option linter.unusedSimpArgs false
set_option maxRecDepth 100000
set_option maxHeartbeats 4000000
variable (o : Orac)

/-- A step back. -/
theorem step12 {d a : List Int} {c : Mat} (hp : Prp d a c) {m n i j : Nat} (hm : m = d.length) (hn : n = a.length) (hi : i ≤ m) (hj : j ≤ n) (hij : ¬ (i = 0 ∧ j = 0)) {co : Int} {bs : List (Int × Int)} {k : Nat} (hk : bs.length = k) (hkb : k + i ≤ 400) {Pp : St → Prop} {Qq : Ex → St → Prop}
    (hPost : ∀ i' j' bs', i' ≤ i → j' ≤ j → i' + j' < i + j → bs'.length + i' ≤ 400 → bs' ++ bk d a c i' j' = bs ++ bk d a c i j → Pp (B12 d c m n i' j' co (sls (potTab d a c (m + 1) (n + 1))) bs' bs'.length)) :
    (seat o).W [] k12 (lp Proofs.Try.f12 2) (B12 d c m n i j co (sls (potTab d a c (m + 1) (n + 1))) bs k) (LoopEnd (k12 22) Pp Qq) := by
  have hld := hp.ld
  have hla := hp.la
  subst hk
  have hr : (bs.length + 1) * 16 ≤ room := room_of (by omega) (by decide)
  have hCl : (sls (potTab d a c (m + 1) (n + 1))).length = m + 1 := by rw [sls_len, potTab_len]
  have tab : ∀ x, x < m + 1 → List.take 1 (List.drop x (sls (potTab d a c (m + 1) (n + 1)))) = [.imm (.sl (ints (potRow d a c x (n + 1))))] := fun x hx => by
    have := sls_get (potTab_get d a c (n := n + 1) hx) []
    rwa [List.append_nil] at this
  cases i with
  | zero =>
    cases j with
    | zero => exact (hij ⟨rfl, rfl⟩).elim
    | succ j =>
      have ej : IntKind.wrap .i64 (((j + 1 : Nat) : Int) - 1) = ((j + 1 - 1 : Nat) : Int) := by rw [wrap_i64 (by omega) (by omega)]; omega
      exact k12_D1 o (sls_keep _) rfl hr (by omega) (by omega) ej (hPost 0 j bs (by omega) (by omega) (by omega) (by omega) (by rw [bk.eq_3]))
  | succ i =>
    have i1 : (0 : Int) < ((i + 1 : Nat) : Int) := by omega
    have ei : IntKind.wrap .i64 (((i + 1 : Nat) : Int) - 1) = ((i + 1 - 1 : Nat) : Int) := by rw [wrap_i64 (by omega) (by omega)]; omega
    have p1 := tab (i + 1) (by omega)
    have p2 := tab (i + 1 - 1) (by omega)
    have p3 : i + 1 + 1 ≤ (sls (potTab d a c (m + 1) (n + 1))).length := by omega
    have p4 : i + 1 - 1 + 1 ≤ (sls (potTab d a c (m + 1) (n + 1))).length := by omega
    have hpij : (potRow d a c (i + 1) (n + 1))[j]? = some (pot d a c (i + 1) j) := potRow_get _ _ _ (by omega)
    have hu : (potRow d a c (i + 1 - 1) (n + 1))[j]? = some (pot d a c i j) := potRow_get _ _ _ (by omega)
    have hd : d[i + 1 - 1]? = some (at1 d i) := get_at1 (by omega)
    have hdb := hp.d_bd i
    have hub := pot_bd hp i j
    have eb1 : IntKind.wrap .i64 (pot d a c i j + at1 d i) = pot d a c i j + at1 d i := wrap_i64 (by omega) (by omega)
    cases j with
    | zero =>
      exact k12_B1 o (sls_keep _) rfl hr i1 ei (by omega) (by omega) p1 p2 p3 p4 hpij (by omega) hu hd eb1 (by rw [pot.eq_2]; exact beq_self_eq_true _) (hPost i 0 bs (by omega) (by omega) (by omega) (by omega) (by rw [bk.eq_2]))
    | succ j =>
      have hcb := hp.c_bd i j
      have hzb := pot_bd hp i j
      have j1 : (0 : Int) < ((j + 1 : Nat) : Int) := by omega
      have ej : IntKind.wrap .i64 (((j + 1 : Nat) : Int) - 1) = ((j + 1 - 1 : Nat) : Int) := by rw [wrap_i64 (by omega) (by omega)]; omega
      obtain ⟨crow, hc, hcl, hcv⟩ := hp.cell (i := i) (j := j) (by omega) (by omega)
      have hz : (potRow d a c (i + 1 - 1) (n + 1))[j + 1 - 1]? = some (pot d a c i j) := potRow_get _ _ _ (by omega)
      have eb3 : IntKind.wrap .i64 (pot d a c i j + at2 c i j) = pot d a c i j + at2 c i j := wrap_i64 (by omega) (by omega)
      by_cases hc0 : 0 ≤ at2 c i j
      · by_cases he : pot d a c (i + 1) (j + 1) = pot d a c i j + at2 c i j
        · exact k12_A o (sls_keep _) rfl hr i1 ei (by omega) (by omega) p1 p2 p3 p4 hpij j1 ej hc hcv hc0 hz eb3 (by rw [he]; exact beq_self_eq_true _)
            (by have := hPost i j (bs ++ [((i : Int), (j : Int))]) (by omega) (by omega) (by omega) (by rw [List.length_append, List.length_singleton]; omega) (by rw [bk.eq_4, if_pos ⟨hc0, he⟩, List.append_assoc]; rfl); rw [List.length_append, List.length_singleton] at this; exact this)
        · have he' : (pot d a c (i + 1) (j + 1) == pot d a c i j + at2 c i j) = false := beq_eq_false_iff_ne.2 he
          have hn1 : ¬ (0 ≤ at2 c i j ∧ pot d a c (i + 1) (j + 1) = pot d a c i j + at2 c i j) := fun q => he q.2
          by_cases hf : pot d a c (i + 1) (j + 1) = pot d a c i (j + 1) + at1 d i
          · exact k12_B3 o (sls_keep _) rfl hr i1 ei (by omega) (by omega) p1 p2 p3 p4 hpij j1 ej hc hcv hc0 hz eb3 he' hu hd eb1 (by rw [hf]; exact beq_self_eq_true _) (hPost i (j + 1) bs (by omega) (by omega) (by omega) (by omega) (by rw [bk.eq_4 d a c i j, if_neg hn1, if_pos hf]))
          · exact k12_D3 o (sls_keep _) rfl hr i1 ei (by omega) (by omega) p1 p2 p3 p4 hpij j1 ej hc hcv hc0 hz eb3 he' hu hd eb1 (beq_eq_false_iff_ne.2 hf) (hPost (i + 1) j bs (by omega) (by omega) (by omega) (by omega) (by rw [bk.eq_4 d a c i j, if_neg hn1, if_neg hf]))
      · have hn1 : ¬ (0 ≤ at2 c i j ∧ pot d a c (i + 1) (j + 1) = pot d a c i j + at2 c i j) := fun q => hc0 q.1
        by_cases hf : pot d a c (i + 1) (j + 1) = pot d a c i (j + 1) + at1 d i
        · exact k12_B2 o (sls_keep _) rfl hr i1 ei (by omega) (by omega) p1 p2 p3 p4 hpij j1 ej hc hcv hc0 hu hd eb1 (by rw [hf]; exact beq_self_eq_true _) (hPost i (j + 1) bs (by omega) (by omega) (by omega) (by omega) (by rw [bk.eq_4 d a c i j, if_neg hn1, if_pos hf]))
        · exact k12_D2 o (sls_keep _) rfl hr i1 ei (by omega) (by omega) p1 p2 p3 p4 hpij j1 ej hc hcv hc0 hu hd eb1 (beq_eq_false_iff_ne.2 hf) (hPost (i + 1) j bs (by omega) (by omega) (by omega) (by omega) (by rw [bk.eq_4 d a c i j, if_neg hn1, if_neg hf]))

theorem fn12_ok (d a : List Int) (c : Mat) (hp : Prp d a c) :
    (seat o).fn 12 [.leaf (.imm (.sl (ints d))), .leaf (.imm (.sl (ints a))), .leaf (.imm (.sl (mat c)))] = some (.tup [(Aln.mk (bk d a c d.length a.length).reverse (pot d a c d.length a.length) (potTab d a c (d.length + 1) (a.length + 1))).av, .leaf (.imm (.int .i64 0))]) := by
  have hld := hp.ld
  have hla := hp.la
  have hlc := hp.lc
  have h23 := fn23 o d a c (by omega) (by omega) (by omega) (fun r hr => by have := (hp.rows r hr).1; omega)
  rw [decide_eq_true hp] at h23
  simp only [boolAV] at h23
  obtain ⟨m, hm⟩ : ∃ m, m = d.length := ⟨_, rfl⟩
  obtain ⟨n, hn⟩ : ∃ n, n = a.length := ⟨_, rfl⟩
  rw [← hm, ← hn]
  have em : IntKind.wrap .i64 ((m : Int) + 1) = ((m + 1 : Nat) : Int) := wrap_i64 (by omega) (by omega)
  have hrm : (m + 1) * 24 ≤ room := room_of (by omega) (by decide)
  refine Seat.fn_of (f := fun12) (noS o 12 _ rfl) rfl rfl rfl ?_; simp only [fun12, Proofs.Try.f12, Seat.W_seq, Seat.W_region_false, Seat.rq_cons, s_step, guardOf, s_guard_true, s_alloc, allocS, allocK, List.set_cons_succ, List.set_cons_zero, List.cons_append, List.nil_append, List.length_cons, List.length_nil, List.getD_cons_succ, List.getD_cons_zero, List.reduceReplicate, Nat.reduceAdd, Nat.reduceSub, Nat.reduceLT, Nat.zero_add, Int.reduceNeg, ↓reduceIte, seat_T]
  simp only [Seat.W_seq, Seat.W_block, Seat.W_loop, Seat.W_region_false, Seat.W_skip, Seat.cond_eq, Seat.condK_false, Seat.rq_nil, Seat.rq_cons, Seat.rqK_some, Seat.seq_normal, s_step, guardOf, s_guard_true, s_assign, s_move, s_bin, s_un, s_len, call_23, s_pure, s_setT, binK, binAV, intBin, boolAV, intAV, unAV, lenK, lenAV, callS, callP, stripArgs, AV.stripA, strip_imm, IV.norm, mapEval, evalOp, ofValue, List.set_cons_succ, List.set_cons_zero, List.getElem?_cons_succ, List.getElem?_cons_zero, List.length_cons, List.length_nil, List.getD_cons_succ, List.getD_cons_zero, List.map_cons, List.map_nil, List.contains_cons, List.contains_nil, Option.map_some, Option.map_none, Option.bind_some, Option.getD_some, Nat.reduceAdd, Nat.reduceLT, Nat.reduceLeDiff, Nat.reduceBEq, Nat.zero_add, Int.toNat_natCast, Int.natCast_nonneg, Int.reduceNeg, and_self, Bool.or_false, Bool.or_true, Bool.not_true, Bool.false_eq_true, decide_false, beq_self_eq_true, eq_self, ↓reduceIte, seat_T, s_makeSlice, mksS, mksT, mksC, keepSt, keepTmps, keepObjs, kept, keepAV, keepLV_imm, keepLV_ptr, keepLV_ms, keepObj, promote, promoteT, firstRegion, k12, T_22, T_23, T_28, ints_len, h23, ← hm, ← hn, em, hrm, sls_flat, sls_keep, rep_keep, List.map_append]
  refine Seat.loop_by (fun i : Nat => O12 d a c m n i) (fun i => i ≤ m + 1) (fun i => m + 1 - i) 0 rfl (Nat.zero_le _) ?_
  intro i hi
  by_cases hlt : i < m + 1
  · exact row12 o hp hm hn hlt ⟨i + 1, by omega, by omega, rfl⟩
  · have ei : i = m + 1 := by omega
    subst ei
    have hle : ¬ m + 1 ≤ m := by omega
    have hCl : (sls (potTab d a c (m + 1) (n + 1))).length = m + 1 := by rw [sls_len, potTab_len]
    have tab : List.take 1 (List.drop m (sls (potTab d a c (m + 1) (n + 1)))) = [.imm (.sl (ints (potRow d a c m (n + 1))))] := by
      have := sls_get (potTab_get d a c (n := n + 1) (Nat.lt_succ_self m)) []
      rwa [List.append_nil] at this
    have hmn : (potRow d a c m (n + 1))[n]? = some (pot d a c m n) := potRow_get _ _ _ (by omega)
    have hm1 : m + 1 ≤ (sls (potTab d a c (m + 1) (n + 1))).length := by omega
    have e0 : m + 1 - (m + 1) = 0 := by omega
    have hml : m < m + 1 := by omega
    simp only [O12, L12_6, zal, Seat.W_seq, Seat.W_block, Seat.W_loop, Seat.W_region_false, Seat.W_exit, Seat.cond_eq, Seat.condK_false, Seat.rq_nil, Seat.rq_cons, Seat.rqK_some, Seat.seq_normal, Seat.seq_exit, Seat.blk_exit, loopEnd_exit, s_step, guardOf, s_guard_true, s_assign, s_move, s_bin, s_pure, s_setT, binK, binAV, intBin, boolAV, intAV, evalOp, ofValue, List.set_cons_succ, List.set_cons_zero, List.getElem?_cons_succ, List.getElem?_cons_zero, List.append_nil, List.length_cons, List.length_nil, List.getD_cons_succ, List.getD_cons_zero, List.map_cons, List.map_nil, List.contains_cons, List.contains_nil, Option.map_some, Option.map_none, Option.getD_some, Nat.reduceAdd, Nat.reduceLT, Nat.reduceLeDiff, Nat.reduceBEq, Nat.zero_add, Nat.not_lt_zero, Int.reduceNeg, false_and, and_false, Bool.or_false, Bool.or_true, Bool.false_eq_true, decide_false, beq_self_eq_true, eq_self, ↓reduceIte, seat_T, ob_getD, Int.ofNat_le, keepSt, keepTmps, keepObjs, kept, keepAV, keepLV_imm, keepLV_ptr, keepLV_ms, keepObj, promote, promoteT, seedLV, seedObj, firstRegion, k12, hle, e0, List.replicate_zero, sls_keep]
    refine Seat.loop_by (fun x : Nat × Nat × List (Int × Int) => B12 d c m n x.1 x.2.1 0 (sls (potTab d a c (m + 1) (n + 1))) x.2.2 x.2.2.length) (fun x => x.1 ≤ m ∧ x.2.1 ≤ n ∧ x.2.2.length + x.1 ≤ 400 ∧ x.2.2 ++ bk d a c x.1 x.2.1 = bk d a c m n) (fun x => x.1 + x.2.1) (m, n, []) rfl ⟨Nat.le_refl _, Nat.le_refl _, by simp only [List.length_nil]; omega, rfl⟩ ?_
    rintro ⟨i, j, bs⟩ ⟨hi, hj, hk, hb⟩
    simp only at hi hj hk hb
    by_cases hij : i = 0 ∧ j = 0
    · obtain ⟨rfl, rfl⟩ := hij
      rw [bk.eq_1, List.append_nil] at hb
      subst hb
      obtain ⟨B, hB⟩ : ∃ B, B = bk d a c m n := ⟨_, rfl⟩
      rw [← hB] at hk ⊢
      have e5 : IntKind.wrap .i64 ((B.length : Int) - 1) = (B.length : Int) - 1 := wrap_i64 (by omega) (by omega)
      simp only [B12, L12_22, zal, Seat.W_seq, Seat.W_block, Seat.W_loop, Seat.W_region_false, Seat.W_exit, Seat.cond_eq, Seat.condK_false, Seat.rq_nil, Seat.rq_cons, Seat.rqK_some, Seat.seq_normal, Seat.seq_exit, Seat.blk_exit, loopEnd_exit, s_step, guardOf, s_guard_true, s_alloc, s_assign, s_move, s_pick, s_bin, s_indexAddr, s_build, s_load, s_store, s_len, s_pure, s_setT, s_setN, allocS, allocK, storeS, storeK, loadK, loadC, pickK, pickAV, binK, binAV, intBin, boolAV, intAV, elemK, indexAddrK, indexRow, evalParts, aggK, buildK, lenK, lenAV, rowsOf_sl, mkAV, TK.agg, fillAV, fieldAt, setRange, mapEval, evalOp, ofValue, AV.leaves, solid_imm, solid_ms, List.set_cons_succ, List.set_cons_zero, List.getElem?_cons_succ, List.getElem?_cons_zero, List.cons_append, List.nil_append, List.append_nil, List.length_cons, List.length_nil, List.getD_cons_succ, List.getD_cons_zero, List.all_cons, List.all_nil, List.map_cons, List.map_nil, List.drop_succ_cons, List.drop_zero, List.take_succ_cons, List.take_zero, List.drop_nil, List.take_nil, List.contains_cons, List.contains_nil, Option.map_some, Option.map_none, Option.getD_some, Nat.reduceAdd, Nat.reduceLT, Nat.reduceLeDiff, Nat.reduceBEq, Nat.zero_add, Nat.add_zero, Nat.mul_one, Nat.le_refl, Nat.not_lt_zero, Int.toNat_natCast, Int.natCast_nonneg, Int.reduceLT, Int.cast_ofNat_Int, and_self, true_and, false_and, and_false, Bool.and_self, Bool.or_false, Bool.or_true, Bool.false_eq_true, decide_false, beq_self_eq_true, eq_self, gt_iff_lt, ↓reduceIte, seat_T, ob_getD, Int.ofNat_lt, keepSt, keepTmps, keepObjs, kept, keepAV, keepLV_imm, keepLV_ptr, keepLV_ap, keepLV_ms, keepObj, promote, promoteT, seedLV, seedObj, firstRegion, k12, T_22, T_23, T_26, T_28, T_3, ints_get, prs_len, sls_keep, hml, hm1, tab, hmn, e5, Aln.av]
      refine Seat.loop_by (fun x : Nat => L12_31 (.leaf (.ptr 6 0 0)) (.leaf (.ap 216 (prs B))) (.leaf (.ptr 17 0 0)) (intAV .i64 ((x : Int) - 1)) zal (some (.cells 28 0 [.ap 269 (prs (B.drop x).reverse), .imm (.int .i64 (pot d a c m n)), .ms 31 0 1 0 (m + 1)])) (some (.cells 22 0 (sls (potTab d a c (m + 1) (n + 1))))) none (some (.tail 45 2 B.length)) (some (.tail 45 2 (B.length - x)))) (fun x => x ≤ B.length) (fun x => x) B.length (by rw [List.drop_length, Nat.sub_self]; rfl) (Nat.le_refl _) ?_
      intro x hx
      cases x with
      | zero =>
        have h0 : ¬ (0 : Int) ≤ ((0 : Nat) : Int) - 1 := by omega
        have hrs := rows_sls0 (potTab d a c (m + 1) (n + 1)) (potTab_len d a c (m + 1) (n + 1))
        simp only [L12_31, zal, Seat.W_seq, Seat.W_region_false, Seat.W_exit, Seat.W_ret, Seat.cond_eq, Seat.condK_false, Seat.rq_nil, Seat.rq_cons, Seat.rqK_some, Seat.seq_normal, Seat.seq_exit, Seat.blk_exit, Seat.ret_ret, Seat.RetK, loopEnd_exit, s_step, guardOf, s_guard_true, s_assign, s_move, s_bin, s_load, s_store, s_pure, s_setT, s_setN, storeS, storeK, loadK, loadC, binK, binAV, intBin, boolAV, intAV, IV.norm, lendArgs, lendArg, lend_imm, lend_ap, lend_ms, lendAll, rowsOf_ms, resultsAV, resultAV, tupleOf, mkAV, TK.agg, setRange, evalOp, ofValue, AV.leaves, solid_imm, solid_ms, solid_ap, List.set_cons_succ, List.set_cons_zero, List.getElem?_cons_succ, List.getElem?_cons_zero, List.nil_append, List.append_nil, List.length_cons, List.length_nil, List.getD_cons_succ, List.getD_cons_zero, List.all_cons, List.all_nil, List.map_cons, List.map_nil, List.drop_succ_cons, List.drop_zero, List.take_succ_cons, List.take_zero, List.drop_nil, List.take_nil, Option.map_some, Option.getD_some, Option.some.injEq, Nat.reduceAdd, Nat.reduceLT, Nat.zero_add, Nat.mul_one, Nat.le_refl, Nat.not_lt_zero, Int.reduceLE, Int.reduceNeg, Int.reduceSub, Int.cast_ofNat_Int, and_self, false_and, and_false, Bool.and_self, decide_false, eq_self, ge_iff_le, ↓reduceIte, exists_eq_left', seat_T, ob_getD, firstRegion, k12, T_28, hm1, hrs, List.drop_zero]
      | succ x =>
        have h0 : (0 : Int) ≤ ((x + 1 : Nat) : Int) - 1 := by omega
        have e6 : ((x + 1 : Nat) : Int) - 1 = (x : Int) := by omega
        have e7 : IntKind.wrap .i64 ((x : Int) - 1) = (x : Int) - 1 := wrap_i64 (by omega) (by omega)
        obtain ⟨⟨p, q⟩, hpq⟩ := get_lt (l := B) (i := x) (by omega)
        have hr2 : (B.length - (x + 1) + 1) * 16 ≤ room := room_of (by omega) (by decide)
        have hdl : (B.drop (x + 1)).reverse.length = B.length - (x + 1) := by rw [List.length_reverse, List.length_drop]
        have es : prs (B.drop (x + 1)).reverse ++ [[.int .i64 p, .int .i64 q]] = prs (B.drop x).reverse := by
          rw [drop_get hpq, List.reverse_cons, ← prs_snoc]
        have el : B.length - (x + 1) + 1 = B.length - x := by omega
        have hxl : x < B.length := by omega
        have h1 : (0 : Int) ≤ (x : Int) := by omega
        simp only [L12_31, zal, Seat.W_seq, Seat.W_block, Seat.W_region_false, Seat.W_region_true, Seat.W_skip, Seat.cond_eq, Seat.condK_true, Seat.env_grow, Seat.rq_nil, Seat.rq_cons, Seat.rqK_some, Seat.rg_nil, Seat.rg_cons, Seat.rgK_some, Seat.endQ, Seat.seq_normal, Seat.blk_normal, loopEnd_normal, s_step, guardOf, s_guard_true, s_assign, s_move, s_bin, s_fieldAddr, s_indexAddr, s_buildSlice, s_load, s_store, s_append, s_pure, s_setT, s_setN, storeS, storeK, loadK, loadC, binK, binAV, intBin, boolAV, intAV, fieldAddrK, elemK, indexAddrK, indexRow, evalParts, clipK, rowsK, buildSliceK, appK, appR, appT, appE_c, appS, app2, appTail, strip_imm, stripAll, IV.norm, rowsOf_ap, rowsOf_clip, rowsAt, mkAV, TK.agg, fillAV, setRange, mapEval, evalOp, ofValue, AV.leaves, solid_imm, solid_ap, footA, pureCall, quietOp, readsT, writesT, guardLoc, tmpLoc, touch, looksOp, idsOf, AV.ids, LV.ids, Op.operands, Call.operands, List.set_cons_succ, List.set_cons_zero, List.getElem?_cons_succ, List.getElem?_cons_zero, List.cons_append, List.nil_append, List.append_nil, List.length_cons, List.length_nil, List.getD_cons_succ, List.getD_cons_zero, List.all_cons, List.all_nil, List.map_cons, List.map_nil, List.drop_succ_cons, List.drop_zero, List.take_succ_cons, List.take_zero, List.drop_nil, List.take_nil, List.flatten_cons, List.flatten_nil, List.flatMap_cons, List.flatMap_nil, List.reduceReplicate, List.contains_cons, List.contains_nil, Option.map_some, Option.map_none, Option.getD_some, Option.toList_some, Option.toList_none, Option.some.injEq, Nat.reduceAdd, Nat.reduceMul, Nat.reduceLT, Nat.reduceLeDiff, Nat.reduceBEq, Nat.zero_add, Nat.add_zero, Nat.zero_mul, Nat.one_mul, Nat.le_refl, Int.toNat_natCast, and_self, Bool.and_self, Bool.or_false, Bool.or_true, Bool.false_eq_true, reduceCtorEq, decide_true, decide_false, beq_self_eq_true, eq_self, ge_iff_le, ↓reduceIte, seat_T, ob_getD, keepSt, keepTmps, keepObjs, kept, keepAV, keepLV_imm, keepLV_ptr, keepLV_ap, keepLV_ms, keepObj, promote, promoteT, firstRegion, k12, T_26, T_45, T_28, prs_len, prs_get, sls_keep, h1, e6, e7, hpq, hr2, hdl, es]
        exact ⟨ord_of (by kernel_rfl), x, by omega, by omega, by simp only [el]⟩
    · exact step12 o hp hm hn hi hj hij rfl hk fun i' j' bs' h1 h2 h3 h4 h5 => ⟨(i', j', bs'), ⟨by simp only; omega, by simp only; omega, h4, by simp only; rw [h5]; exact hb⟩, h3, rfl⟩
theorem fn12_no (d a : List Int) (c : Mat) (hd : d.length ≤ 1099511627776) (ha : a.length ≤ 1099511627776) (hc : c.length ≤ 1099511627776) (hr : Bdd c) (hp : ¬ Prp d a c) :
    (seat o).fn 12 [.leaf (.imm (.sl (ints d))), .leaf (.imm (.sl (ints a))), .leaf (.imm (.sl (mat c)))] = some (.tup [(Aln.mk [] 0 []).av, .leaf (.imm (.int .i64 5))]) := by
  have h23 := fn23 o d a c hd ha hc hr
  rw [decide_eq_false hp] at h23
  simp only [boolAV] at h23
  refine Seat.fn_of (f := fun12) (noS o 12 _ rfl) rfl rfl rfl ?_; simp only [fun12, Proofs.Try.f12, Seat.W_seq, Seat.W_region_false, Seat.rq_cons, s_step, guardOf, s_guard_true, s_alloc, allocS, allocK, List.set_cons_succ, List.set_cons_zero, List.cons_append, List.nil_append, List.length_cons, List.length_nil, List.getD_cons_succ, List.getD_cons_zero, List.reduceReplicate, Nat.reduceAdd, Nat.reduceSub, Nat.reduceLT, Nat.zero_add, Int.reduceNeg, ↓reduceIte, seat_T]
  simp only [Seat.W_seq, Seat.W_region_false, Seat.W_ret, Seat.cond_eq, Seat.condK_true, Seat.rq_nil, Seat.rq_cons, Seat.rqK_some, Seat.seq_normal, Seat.seq_ret, Seat.ret_ret, Seat.RetK, s_step, guardOf, s_guard_true, s_assign, s_move, s_un, s_build, s_store, call_23, s_pure, s_setT, s_setN, storeS, storeK, boolAV, unAV, evalParts, aggK, buildK, callS, callP, stripArgs, AV.stripA, strip_imm, IV.norm, lendArgs, lendArg, lend_imm, lendAll, resultsAV, resultAV, tupleOf, mkAV, TK.agg, fillAV, setRange, mapEval, evalOp, ofValue, AV.leaves, solid_imm, List.set_cons_succ, List.set_cons_zero, List.getElem?_cons_succ, List.getElem?_cons_zero, List.nil_append, List.append_nil, List.length_cons, List.length_nil, List.getD_cons_succ, List.getD_cons_zero, List.all_cons, List.all_nil, List.map_cons, List.map_nil, List.drop_succ_cons, List.drop_zero, List.take_succ_cons, List.take_zero, List.drop_nil, List.take_nil, Option.map_some, Option.bind_some, Option.some.injEq, Nat.reduceAdd, Nat.reduceLT, Nat.zero_add, Nat.le_refl, Int.reduceNeg, and_self, Bool.and_self, Bool.not_false, eq_self, ↓reduceIte, exists_eq_left', seat_T, ob_getD, T_28, h23, Aln.av, prs_nil, mat_nil]
end Go.Ai
