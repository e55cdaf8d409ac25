/- What writing of lists and texts answers. No condition. -/
import Derived.Test.YtcbijnemdbbkdaaR39b
namespace Go.Ai
set_option linter.unusedVariables false
set_option linter.unusedSimpArgs false
set_option maxRecDepth 100000
set_option maxHeartbeats 4000000

def I64 (n : Int) : Prop := -9223372036854775808 ≤ n ∧ n ≤ 9223372036854775807
def bInt (n : Int) : List UInt8 := uenc (zz n)
def ints (l : List Int) : List (List IV) := l.map fun x => [.int .i64 x]
def bInts0 (l : List Int) : List UInt8 := (l.map bInt).flatten
def bInts (l : List Int) : List UInt8 := bInt l.length ++ bInts0 l
def bText (s : ByteArray) : List UInt8 := bInt s.size ++ s.data.toList
theorem ints_len (l : List Int) : (ints l).length = l.length := by simp [ints]
theorem ints_get (l : List Int) (i : Nat) : (ints l)[i]? = (l[i]?).map fun x => [.int .i64 x] := by simp [ints]
theorem bInt_len {n : Int} (h : I64 n) : (bInt n).length ≤ 10 := uenc_len' (zz_lt h.1 h.2)
theorem get_lt {α : Type} {l : List α} {i : Nat} (h : i < l.length) : ∃ x, l[i]? = some x := ⟨_, List.getElem?_eq_getElem h⟩
theorem take_snoc {α : Type} {l : List α} {i : Nat} {x : α} (h : l[i]? = some x) : l.take (i + 1) = l.take i ++ [x] := by
  rw [List.take_add_one, h]; rfl
theorem bInts0_snoc {l : List Int} {i : Nat} {x : Int} (h : l[i]? = some x) : bInts0 (l.take (i + 1)) = bInts0 (l.take i) ++ bInt x := by
  rw [take_snoc h]; simp [bInts0]
theorem bInts0_len {l : List Int} (h : ∀ x ∈ l, I64 x) : (bInts0 l).length ≤ 10 * l.length := by
  induction l with
  | nil => simp [bInts0]
  | cons x l ih =>
    have h1 := bInt_len (h x List.mem_cons_self)
    have h2 := ih fun y hy => h y (List.mem_cons_of_mem _ hy)
    simp only [bInts0, List.map_cons, List.flatten_cons, List.length_append, List.length_cons] at h2 ⊢
    omega
theorem i64_nat {n : Nat} (h : n ≤ 1099511627776) : I64 (n : Int) := ⟨by omega, by omega⟩

theorem put31 (id d : Nat) (ob : Nat → Option AObj) (l : List UInt8) (n : Int) (h : I64 n) (hl : l.length ≤ 549755813888) (ho : ob id = some (.tail 5 1 l.length)) :
    (seat o).fnO 31 d [.leaf (.ap id (rowsOfBytes l)), .leaf (.imm (.int .i64 n))] ob = some (.leaf (.ap id (rowsOfBytes (l ++ bInt n))), [(id, .tail 5 1 (l ++ bInt n).length)]) := by
  rw [List.length_append]
  exact fn31_ap id d ob l n h.1 h.2 hl ho
theorem put31_nil (d : Nat) (ob : Nat → Option AObj) (n : Int) (h : I64 n) (hd : ob d = none) :
    (seat o).fnO 31 d [.leaf (.imm .nil), .leaf (.imm (.int .i64 n))] ob = some (.leaf (.ap d (rowsOfBytes (bInt n))), [(d, .tail 5 1 (bInt n).length)]) := fn31_nil d ob n h.1 h.2 hd

theorem fn47 (id d : Nat) (ob : Nat → Option AObj) (l : List UInt8) (ns : List Int) (hns : ∀ x ∈ ns, I64 x) (hn : ns.length ≤ 1048576) (hl : l.length ≤ 274877906944) (ho : ob id = some (.tail 5 1 l.length)) :
    (seat o).fnO 47 d [.leaf (.ap id (rowsOfBytes l)), .leaf (.imm (.sl (ints ns)))] ob = some (.leaf (.ap id (rowsOfBytes (l ++ bInts ns))), [(id, .tail 5 1 (l ++ bInts ns).length)]) := by
  have hnl := bInt_len (i64_nat (n := ns.length) (by omega))
  have c1 : ∀ (d : Nat) (ob : Nat → Option AObj), ob 22 = some (.tail 5 1 l.length) → _ := fun d ob ho => put31 22 d ob l (ns.length : Int) (i64_nat (by omega)) (by omega) ho
  refine Seat.fnO_of (f := fun47) (ids := [id]) rfl rfl rfl rfl (by simp [idsAV, once, AV.ids, LV.ids, ho]) ?_
  simp only [fun47, Proofs.Try.f47, Seat.W_seq, Seat.W_region_false, Seat.rq_nil, Seat.rq_cons, Seat.rqK_some, Seat.seq_normal, s_step, guardOf, s_guard_true, s_assign, s_move, s_len, s_pure, s_setT, intAV, lenK, lenAV, renAV, renLV, indexIn, mapEval, evalOp, ofValue, List.set_cons_succ, List.set_cons_zero, List.getElem?_cons_succ, List.getElem?_cons_zero, List.cons_append, List.nil_append, List.length_cons, List.length_nil, List.map_cons, List.map_nil, List.reduceReplicate, Option.map_some, Option.map_none, Nat.reduceAdd, Nat.reduceSub, Nat.zero_add, eq_self, ↓reduceIte, seat_T]
  simp only [Seat.W_seq, Seat.W_block, Seat.W_loop, Seat.W_region_false, Seat.rq_nil, Seat.rq_cons, Seat.rqK_some, Seat.seq_normal, s_step, guardOf, s_guard_true, s_assign, s_move, s_len, call_31, s_pure, s_setT, intAV, lenK, lenAV, callOS, callOD, upds, renObj, mapEval, evalOp, ofValue, idsOf, AV.ids, LV.ids, LV.ids.idsAll, List.set_cons_succ, List.set_cons_zero, List.getElem?_cons_succ, List.getElem?_cons_zero, List.cons_append, List.nil_append, List.append_nil, List.length_cons, List.length_nil, List.getD_cons_succ, List.getD_cons_zero, List.all_cons, List.all_nil, List.contains_cons, List.contains_nil, Option.map_some, Option.map_none, Option.getD_some, Nat.reduceAdd, Nat.reduceLT, Nat.reduceLeDiff, Nat.reduceBEq, Nat.zero_add, Nat.le_refl, Bool.and_self, Bool.or_false, Bool.or_true, Bool.false_eq_true, decide_true, decide_false, beq_self_eq_true, eq_self, ↓reduceIte, seat_T, ob_getD, keepSt, keepTmps, keepObjs, kept, keepAV, keepLV_imm, keepLV_ap, keepObj, promote, promoteT, firstRegion, k47, T_33, ho, ints_len, c1]
  refine Seat.loop_by (fun i : Nat => L47_3 (.leaf (.ap 22 (rowsOfBytes (l ++ (bInt ns.length ++ bInts0 (ns.take i)))))) (.leaf (.imm (.sl (ints ns)))) (intAV .i64 (ns.length : Int)) (intAV .i64 i) none [some (.tail 5 1 (l ++ (bInt ns.length ++ bInts0 (ns.take i))).length)]) (fun i => i ≤ ns.length) (fun i => ns.length - i) 0 ?_ (Nat.zero_le _) ?_
  · simp only [L47_3, List.take_zero, bInts0, List.map_nil, List.flatten_nil, List.append_nil, List.cons_append, List.nil_append]
    rfl
  intro i hi
  have hb := bInts0_len (l := ns.take i) (fun x hx => hns x (List.mem_of_mem_take hx))
  have hti : (ns.take i).length ≤ ns.length := by rw [List.length_take]; omega
  by_cases hlt : i < ns.length
  · obtain ⟨x, hx⟩ := get_lt hlt
    have e1 : IntKind.wrap .i64 ((i : Int) + 1) = ((i + 1 : Nat) : Int) := wrap_i64 (by omega) (by omega)
    have c2 : ∀ (d : Nat) (ob : Nat → Option AObj), ob 22 = some (.tail 5 1 (l ++ (bInt ns.length ++ bInts0 (ns.take i))).length) → _ := fun d ob ho => put31 22 d ob (l ++ (bInt ns.length ++ bInts0 (ns.take i))) x (hns x (List.mem_of_getElem? hx)) (by simp only [List.length_append]; omega) ho
    have e2 : l ++ (bInt ns.length ++ bInts0 (ns.take i)) ++ bInt x = l ++ (bInt ns.length ++ bInts0 (ns.take (i + 1))) := by rw [bInts0_snoc hx]; simp only [List.append_assoc]
    rw [e2] at c2
    simp only [L47_3, Seat.W_seq, Seat.W_block, Seat.W_region_false, Seat.W_skip, Seat.cond_eq, Seat.condK_true, Seat.rq_nil, Seat.rq_cons, Seat.rqK_some, Seat.seq_normal, Seat.blk_normal, loopEnd_normal, s_step, guardOf, s_guard_true, s_assign, s_move, s_bin, s_indexAddr, s_load, call_31, s_pure, s_setT, loadK, binK, binAV, intBin, boolAV, intAV, elemK, indexAddrK, indexRow, callOS, callOD, upds, rowsOf_sl, mkAV, TK.agg, mapEval, evalOp, ofValue, idsOf, AV.ids, LV.ids, LV.ids.idsAll, List.set_cons_succ, List.set_cons_zero, List.getElem?_cons_succ, List.getElem?_cons_zero, List.cons_append, List.nil_append, List.append_nil, List.length_cons, List.length_nil, List.getD_cons_succ, List.getD_cons_zero, List.all_cons, List.all_nil, List.map_cons, List.map_nil, List.take_succ_cons, List.take_nil, List.contains_cons, List.contains_nil, Option.map_some, Option.map_none, Option.getD_some, Nat.reduceAdd, Nat.reduceLT, Nat.reduceLeDiff, Nat.reduceBEq, Nat.zero_add, Nat.le_refl, Int.toNat_natCast, Int.natCast_nonneg, Bool.and_self, Bool.or_false, Bool.or_true, Bool.false_eq_true, decide_true, decide_false, beq_self_eq_true, eq_self, ↓reduceIte, seat_T, ob_getD, Int.ofNat_lt, keepSt, keepTmps, keepObjs, kept, keepAV, keepLV_imm, keepLV_ap, keepObj, promote, promoteT, firstRegion, k47, T_33, T_3, ints_get, hx, hlt, e1, c2]
    exact ⟨i + 1, by omega, by omega, rfl⟩
  · have e : i = ns.length := by omega
    have e2 : l ++ (bInt ns.length ++ bInts0 (ns.take i)) = l ++ bInts ns := by rw [e, List.take_length]; rfl
    simp only [L47_3, Seat.W_seq, Seat.W_region_false, Seat.W_exit, Seat.W_ret, Seat.cond_eq, Seat.condK_false, Seat.rq_nil, Seat.rq_cons, Seat.rqK_some, Seat.seq_normal, Seat.seq_exit, Seat.blk_exit, loopEnd_exit, s_step, guardOf, s_guard_true, s_assign, s_move, s_bin, s_pure, s_setT, binK, binAV, intBin, boolAV, intAV, out_ret, OutK, handed, renAV, renLV, renObj, backName, backUpd, resultsAV, resultAV, tupleOf, evalOp, List.set_cons_succ, List.set_cons_zero, List.getElem?_cons_succ, List.getElem?_cons_zero, List.cons_append, List.nil_append, List.length_cons, List.length_nil, List.map_cons, List.map_nil, Option.getD_some, Nat.reduceSub, Nat.zero_add, Nat.add_zero, Nat.le_refl, Nat.lt_irrefl, decide_false, eq_self, ↓reduceIte, seat_T, Int.ofNat_lt, firstRegion, k47, hlt, e2]

theorem fn37 (id d : Nat) (ob : Nat → Option AObj) (l : List UInt8) (s : ByteArray) (hs : s.size ≤ 1048576) (hl : l.length ≤ 274877906944) (ho : ob id = some (.tail 5 1 l.length)) :
    (seat o).fnO 37 d [.leaf (.ap id (rowsOfBytes l)), .leaf (.imm (.str s))] ob = some (.leaf (.ap id (rowsOfBytes (l ++ bText s))), [(id, .tail 5 1 (l ++ bText s).length)]) := by
  have hnl := bInt_len (i64_nat (n := s.size) (by omega))
  have c1 : ∀ (d : Nat) (ob : Nat → Option AObj), ob 11 = some (.tail 5 1 l.length) → _ := fun d ob ho => put31 11 d ob l (s.size : Int) (i64_nat (by omega)) (by omega) ho
  have hsz : s.data.toList.length = s.size := by simp
  have hr : (l ++ bInt s.size).length + s.data.toList.length ≤ room := room_one' (by rw [List.length_append, hsz]; omega)
  have e2 : rowsOfBytes (l ++ bInt s.size) ++ rowsOfBytes s.data.toList = rowsOfBytes (l ++ bText s) := by rw [← rob_append, List.append_assoc]; rfl
  have e3 : (l ++ bInt s.size).length + s.data.toList.length = (l ++ bText s).length := by rw [← List.length_append, List.append_assoc]; rfl
  refine Seat.fnO_of (f := fun37) (ids := [id]) rfl rfl rfl rfl (by simp [idsAV, once, AV.ids, LV.ids, ho]) ?_
  simp only [fun37, Proofs.Try.f37, Seat.W_seq, Seat.W_region_false, Seat.rq_nil, Seat.rq_cons, Seat.rqK_some, Seat.seq_normal, s_step, guardOf, s_guard_true, s_assign, s_move, s_len, s_pure, s_setT, intAV, lenK, lenAV, renAV, renLV, indexIn, mapEval, evalOp, ofValue, List.set_cons_succ, List.set_cons_zero, List.getElem?_cons_succ, List.getElem?_cons_zero, List.cons_append, List.nil_append, List.length_cons, List.length_nil, List.map_cons, List.map_nil, List.reduceReplicate, Option.map_some, Option.map_none, Nat.reduceAdd, Nat.reduceSub, Nat.zero_add, eq_self, ↓reduceIte, seat_T]
  simp only [Seat.env_grow, Seat.rq_cons, Seat.rqK_some, s_step, guardOf, s_guard_true, s_move, call_31, s_append, s_pure, s_setT, callOS, callOD, upds, renObj, appK, appR, appT, mapEval, evalOp, idsOf, AV.ids, LV.ids, LV.ids.idsAll, List.set_cons_succ, List.set_cons_zero, List.getElem?_cons_succ, List.getElem?_cons_zero, List.cons_append, List.nil_append, List.append_nil, List.length_cons, List.length_nil, List.getD_cons_succ, List.getD_cons_zero, List.all_cons, List.all_nil, List.contains_cons, List.contains_nil, Option.map_some, Nat.reduceAdd, Nat.reduceLT, Nat.reduceBEq, Nat.zero_add, and_self, Bool.and_self, Bool.or_false, decide_true, beq_self_eq_true, eq_self, ↓reduceIte, seat_T, ob_getD, T_22, T_9, T_5, ho, c1, rob_all]
  rw [appE_ap (by rw [rob_len]; rfl) (by rw [rob_len, rob_len, Nat.mul_one]; exact hr), rob_len, rob_len, e2, e3]
  simp only [Seat.W_ret, Seat.rq_nil, Seat.rq_cons, Seat.rqK_some, Seat.seq_normal, s_step, guardOf, s_guard_true, s_assign, s_pure, s_setT, out_ret, OutK, handed, renAV, renLV, renObj, backName, backUpd, resultsAV, resultAV, tupleOf, evalOp, List.set_cons_succ, List.set_cons_zero, List.getElem?_cons_succ, List.getElem?_cons_zero, List.length_cons, List.length_nil, List.map_cons, List.map_nil, Option.getD_some, Nat.reduceSub, Nat.zero_add, Nat.add_zero, Nat.le_refl, Nat.lt_irrefl, eq_self, ↓reduceIte, seat_T]

/-- A cell and a commit. -/
structure Cel where
  id : Int
  fld : Int
  n : Int
  flag : Bool
  text : ByteArray
  ref : Int
structure Com where
  stamp : Int
  parents : List Int
  picks : List Int
  note : ByteArray
  writes : List Cel
def Cel.row (c : Cel) : List IV := [.int .i64 c.id, .int .i64 c.fld, .int .i64 c.n, .bool c.flag, .str c.text, .int .i64 c.ref]
def Com.row (c : Com) : List IV := [.int .i64 c.stamp, .sl (ints c.parents), .sl (ints c.picks), .str c.note, .sl (c.writes.map Cel.row)]
def Com.av (c : Com) : AV := .agg [.imm (.int .i64 c.stamp), .imm (.sl (ints c.parents)), .imm (.sl (ints c.picks)), .imm (.str c.note), .imm (.sl (c.writes.map Cel.row))]
def Cel.bytes (c : Cel) : List UInt8 := bInt c.id ++ (bInt c.fld ++ (bInt c.n ++ ([if c.flag then 1 else 0] ++ (bText c.text ++ bInt c.ref))))
def Com.head (c : Com) : List UInt8 := bInt c.stamp ++ (bInts c.parents ++ (bInts c.picks ++ (bText c.note ++ bInt c.writes.length)))
def Com.bytes (c : Com) : List UInt8 := c.head ++ (c.writes.map Cel.bytes).flatten
structure Cel.Ok (c : Cel) : Prop where
  id : I64 c.id
  fld : I64 c.fld
  n : I64 c.n
  ref : I64 c.ref
  text : c.text.size ≤ 1048576
structure Com.Ok (c : Com) : Prop where
  stamp : I64 c.stamp
  parents : ∀ x ∈ c.parents, I64 x
  picks : ∀ x ∈ c.picks, I64 x
  lp : c.parents.length ≤ 1048576
  lk : c.picks.length ≤ 1048576
  note : c.note.size ≤ 1048576
  lw : c.writes.length ≤ 1048576
  writes : ∀ x ∈ c.writes, x.Ok
  room : c.bytes.length ≤ 137438953472

theorem Com.head_len (c : Com) : c.head.length ≤ c.bytes.length := by unfold Com.bytes; rw [List.length_append]; omega
def wr (c : Com) (i : Nat) : List UInt8 := c.head ++ ((c.writes.take i).map Cel.bytes).flatten
theorem wr_snoc {c : Com} {i : Nat} {x : Cel} (h : c.writes[i]? = some x) : wr c i ++ x.bytes = wr c (i + 1) := by
  unfold wr; rw [take_snoc h]; simp
theorem wr_len (c : Com) (i : Nat) : (wr c i).length ≤ c.bytes.length := by
  unfold wr Com.bytes
  rw [List.length_append, List.length_append]
  have : ((c.writes.take i).map Cel.bytes).flatten.length + ((c.writes.drop i).map Cel.bytes).flatten.length = (c.writes.map Cel.bytes).flatten.length := by
    rw [← List.length_append, ← List.flatten_append, ← List.map_append, List.take_append_drop]
  omega
theorem wr_all (c : Com) : wr c c.writes.length = c.bytes := by unfold wr Com.bytes; rw [List.take_length]
theorem wr_zero (c : Com) : wr c 0 = c.head := by unfold wr; simp

def cbox (c : Com) : Option AObj := some (.cells 36 0 [.imm (.int .i64 c.stamp), .imm (.sl (ints c.parents)), .imm (.sl (ints c.picks)), .imm (.str c.note), .imm (.sl (c.writes.map Cel.row))])
theorem crow_get (c : Com) (i : Nat) : (c.writes.map Cel.row)[i]? = (c.writes[i]?).map Cel.row := List.getElem?_map
theorem clen (c : Com) : (c.writes.map Cel.row).length = c.writes.length := List.length_map _

theorem fn34_nil (d : Nat) (ob : Nat → Option AObj) (c : Com) (hc : c.Ok) (hd : ob d = none) :
    (seat o).fnO 34 d [.leaf (.imm .nil), c.av] ob = some (.leaf (.ap d (rowsOfBytes c.bytes)), [(d, .tail 5 1 c.bytes.length)]) := by
  have hw := hc.room
  have hh := c.head_len
  have b1 := bInt_len hc.stamp
  have p1 : ∀ (d : Nat) (ob : Nat → Option AObj), ob d = none → _ := fun d ob hd => put31_nil d ob c.stamp hc.stamp hd
  have hl : c.head.length = (bInt c.stamp).length + ((bInts c.parents).length + ((bInts c.picks).length + ((bText c.note).length + (bInt c.writes.length).length))) := by simp [Com.head]
  have p2 : ∀ (d : Nat) (ob : Nat → Option AObj), ob 11 = some (.tail 5 1 (bInt c.stamp).length) → _ := fun d ob ho => fn47 11 d ob (bInt c.stamp) c.parents hc.parents hc.lp (by omega) ho
  have p3 : ∀ (d : Nat) (ob : Nat → Option AObj), ob 11 = some (.tail 5 1 (bInt c.stamp ++ bInts c.parents).length) → _ := fun d ob ho => fn47 11 d ob (bInt c.stamp ++ bInts c.parents) c.picks hc.picks hc.lk (by rw [List.length_append]; omega) ho
  have p4 : ∀ (d : Nat) (ob : Nat → Option AObj), ob 11 = some (.tail 5 1 (bInt c.stamp ++ bInts c.parents ++ bInts c.picks).length) → _ := fun d ob ho => fn37 11 d ob (bInt c.stamp ++ bInts c.parents ++ bInts c.picks) c.note hc.note (by rw [List.length_append, List.length_append]; omega) ho
  have p5 : ∀ (d : Nat) (ob : Nat → Option AObj), ob 11 = some (.tail 5 1 (bInt c.stamp ++ bInts c.parents ++ bInts c.picks ++ bText c.note).length) → _ := fun d ob ho => put31 11 d ob (bInt c.stamp ++ bInts c.parents ++ bInts c.picks ++ bText c.note) (c.writes.length : Int) (i64_nat (by have := hc.lw; omega)) (by rw [List.length_append, List.length_append, List.length_append]; omega) ho
  have e0 : bInt c.stamp ++ bInts c.parents ++ bInts c.picks ++ bText c.note ++ bInt c.writes.length = wr c 0 := by rw [wr_zero]; simp only [Com.head, List.append_assoc]
  rw [e0] at p5
  refine Seat.fnO_of (f := fun34) (ids := []) rfl rfl rfl rfl rfl ?_
  simp only [fun34, Proofs.Try.f34, Seat.W_seq, Seat.W_region_false, Seat.rq_cons, s_step, guardOf, s_guard_true, s_box, allocK, boxS, renAV, renLV, indexIn, evalOp, AV.leaves, List.set_cons_succ, List.set_cons_zero, List.getElem?_cons_succ, List.getElem?_cons_zero, List.cons_append, List.nil_append, List.append_nil, List.length_cons, List.length_nil, List.getD_cons_succ, List.getD_cons_zero, List.map_cons, List.map_nil, List.reduceReplicate, Option.map_none, Nat.reduceAdd, Nat.reduceSub, Nat.reduceLT, Nat.zero_add, ↓reduceIte, seat_T]
  simp only [Com.av, Seat.W_seq, Seat.W_block, Seat.W_loop, Seat.W_region_false, Seat.W_region_true, Seat.rq_nil, Seat.rq_cons, Seat.rqK_some, Seat.rg_nil, Seat.rg_cons, Seat.rgK_some, Seat.endQ, Seat.seq_normal, s_step, guardOf, s_guard_true, s_assign, s_move, s_fieldAddr, s_load, s_len, call_31, call_37, call_47, s_pure, s_setT, loadK, loadC, intAV, fieldAddrK, lenK, lenAV, callOS, callOD, upds, renAV, renLV, mkAV, TK.agg, mapEval, evalOp, ofValue, solid_imm, footA, pureCall, quietOp, readsT, writesT, guardLoc, tmpLoc, touch, looksOp, idsOf, AV.ids, LV.ids, LV.ids.idsAll, Op.operands, Call.operands, List.set_cons_succ, List.set_cons_zero, List.getElem?_cons_succ, List.getElem?_cons_zero, List.cons_append, List.nil_append, List.append_nil, List.length_cons, List.length_nil, List.getD_cons_succ, List.getD_cons_zero, List.all_cons, List.all_nil, List.map_cons, List.map_nil, List.drop_succ_cons, List.drop_zero, List.take_succ_cons, List.take_zero, List.take_nil, List.flatMap_cons, List.flatMap_nil, List.contains_cons, List.contains_nil, Option.map_some, Option.map_none, Option.getD_some, Option.toList_some, Option.some.injEq, Nat.reduceAdd, Nat.reduceMul, Nat.reduceLT, Nat.reduceLeDiff, Nat.reduceBEq, Nat.zero_add, Nat.add_zero, Nat.le_refl, and_self, Bool.and_self, Bool.or_false, Bool.or_true, Bool.not_true, Bool.false_eq_true, reduceCtorEq, decide_true, decide_false, beq_self_eq_true, eq_self, ↓reduceIte, seat_T, seat_O, ob_getD, keepSt, keepTmps, keepObjs, kept, keepAV, keepLV_imm, keepLV_ap, keepObj, promote, promoteT, firstRegion, k34, T_36, T_34, T_33, T_9, T_3, hd, p1, p2, p3, p4, p5, clen]
  refine ⟨ord_of (by kernel_rfl), ord_of (by kernel_rfl), ?_⟩
  refine Seat.loop_by (fun i : Nat => L34_4 (.leaf (.ap 11 (rowsOfBytes (wr c i)))) (.leaf (.imm (.sl (c.writes.map Cel.row)))) (intAV .i64 (c.writes.length : Int)) (intAV .i64 i) (some (.tail 5 1 (wr c i).length)) none none none none none []) (fun i => i ≤ c.writes.length) (fun i => c.writes.length - i) 0 rfl (Nat.zero_le _) ?_
  intro i hi
  have hwl := wr_len c i
  by_cases hlt : i < c.writes.length
  · obtain ⟨x, hx⟩ := get_lt hlt
    have hxo := hc.writes x (List.mem_of_getElem? hx)
    have hlw := hc.lw
    have e1 : IntKind.wrap .i64 ((i : Int) + 1) = ((i + 1 : Nat) : Int) := wrap_i64 (by omega) (by omega)
    have hn := wr_len c (i + 1)
    have hsn := wr_snoc hx
    have hb : x.bytes.length = (bInt x.id).length + ((bInt x.fld).length + ((bInt x.n).length + (1 + ((bText x.text).length + (bInt x.ref).length)))) := by simp [Cel.bytes]; omega
    have hbl : (wr c i).length + x.bytes.length = (wr c (i + 1)).length := by rw [← hsn, List.length_append]
    have q1 : ∀ (d : Nat) (ob : Nat → Option AObj), ob 11 = some (.tail 5 1 (wr c i).length) → _ := fun d ob ho => put31 11 d ob (wr c i) x.id hxo.id (by omega) ho
    have q2 : ∀ (d : Nat) (ob : Nat → Option AObj), ob 11 = some (.tail 5 1 (wr c i ++ bInt x.id).length) → _ := fun d ob ho => put31 11 d ob (wr c i ++ bInt x.id) x.fld hxo.fld (by simp only [List.length_append]; omega) ho
    have q3 : ∀ (d : Nat) (ob : Nat → Option AObj), ob 11 = some (.tail 5 1 (wr c i ++ bInt x.id ++ bInt x.fld).length) → _ := fun d ob ho => put31 11 d ob (wr c i ++ bInt x.id ++ bInt x.fld) x.n hxo.n (by simp only [List.length_append]; omega) ho
    obtain ⟨z, hz⟩ : ∃ z, z = wr c i ++ bInt x.id ++ bInt x.fld ++ bInt x.n := ⟨_, rfl⟩
    have hzl : z.length ≤ (wr c (i + 1)).length := by rw [hz]; simp only [List.length_append]; omega
    rw [← hz] at q3
    obtain ⟨f, hf⟩ : ∃ f : UInt8, f = if x.flag then 1 else 0 := ⟨_, rfl⟩
    have q4 : ∀ (d : Nat) (ob : Nat → Option AObj), ob 11 = some (.tail 5 1 (z ++ [f]).length) → _ := fun d ob ho => fn37 11 d ob (z ++ [f]) x.text hxo.text (by simp only [List.length_append, List.length_cons, List.length_nil]; omega) ho
    have hq5 : (z ++ [f] ++ bText x.text).length ≤ (wr c (i + 1)).length := by rw [hz]; simp only [List.length_append, List.length_cons, List.length_nil]; omega
    have q5 : ∀ (d : Nat) (ob : Nat → Option AObj), ob 11 = some (.tail 5 1 (z ++ [f] ++ bText x.text).length) → _ := fun d ob ho => put31 11 d ob (z ++ [f] ++ bText x.text) x.ref hxo.ref (by omega) ho
    have e5 : z ++ [f] ++ bText x.text ++ bInt x.ref = wr c (i + 1) := by rw [← hsn, hz, hf]; simp only [Cel.bytes, List.append_assoc]
    rw [e5] at q5
    have hr : (z ++ [f]).length ≤ room := room_one' (by simp only [List.length_append, List.length_cons, List.length_nil]; omega)
    have e6 : rowsOfBytes z ++ [[.int .u8 (f.toNat : Int)]] = rowsOfBytes (z ++ [f]) := by rw [← rob_one, ← rob_append]
    have e7 : z.length + 1 = (z ++ [f]).length := by simp
    cases hfl : x.flag with
    | true =>
      rw [hfl] at hf
      have hf1 : (f.toNat : Int) = 1 := by rw [hf]; rfl
      rw [hf1] at e6
      simp only [L34_4, Seat.W_seq, Seat.W_block, Seat.W_region_false, Seat.W_region_true, Seat.W_skip, Seat.cond_eq, Seat.condK_true, Seat.env_grow, Seat.rq_nil, Seat.rq_cons, Seat.rqK_some, Seat.rg_nil, Seat.rg_cons, Seat.rgK_some, Seat.endQ, Seat.seq_normal, Seat.blk_normal, loopEnd_normal, s_step, guardOf, s_guard_true, s_alloc, s_assign, s_move, s_bin, s_fieldAddr, s_indexAddr, s_buildSlice, s_load, s_store, call_31, call_37, s_append, s_pure, s_setT, s_setN, allocS, allocK, storeS, storeK, loadK, loadC, binK, binAV, intBin, boolAV, intAV, fieldAddrK, elemK, indexAddrK, indexRow, evalParts, clipK, rowsK, buildSliceK, callOS, callOD, upds, appK, appR, appT, appE_c, appS, app2, appTail, strip_imm, stripAll, IV.norm, rowsOf_sl, rowsOf_clip, rowsAt, mkAV, TK.agg, fillAV, setRange, mapEval, evalOp, ofValue, AV.leaves, solid_imm, footA, pureCall, quietOp, readsT, writesT, guardLoc, tmpLoc, touch, looksOp, idsOf, AV.ids, LV.ids, LV.ids.idsAll, Op.operands, Call.operands, List.set_cons_succ, List.set_cons_zero, List.getElem?_cons_succ, List.getElem?_cons_zero, List.cons_append, List.nil_append, List.append_nil, List.length_cons, List.length_nil, List.getD_cons_succ, List.getD_cons_zero, List.all_cons, List.all_nil, List.map_cons, List.map_nil, List.drop_succ_cons, List.drop_zero, List.take_succ_cons, List.take_zero, List.drop_nil, List.take_nil, List.flatten_cons, List.flatten_nil, List.flatMap_cons, List.flatMap_nil, List.reduceReplicate, List.contains_cons, List.contains_nil, Option.map_some, Option.map_none, Option.getD_some, Option.toList_some, Option.some.injEq, Nat.reduceAdd, Nat.reduceMul, Nat.reduceLT, Nat.reduceLeDiff, Nat.reduceBEq, Nat.zero_add, Nat.add_zero, Nat.mul_one, Nat.le_refl, Int.toNat_natCast, Int.natCast_nonneg, and_self, Bool.and_self, Bool.or_false, Bool.or_true, Bool.not_true, Bool.false_eq_true, reduceCtorEq, decide_true, decide_false, beq_self_eq_true, eq_self, ↓reduceIte, seat_T, seat_O, ob_getD, Int.ofNat_lt, keepSt, keepTmps, keepObjs, kept, keepAV, keepLV_imm, keepLV_ap, keepObj, promote, promoteT, firstRegion, k34, T_34, T_22, T_9, T_5, T_4, T_3, T_61, T_59, crow_get, hx, Cel.row, hlt, hfl, e1, q1, q2, q3, q4, q5, rob_len, hr, e6, e7]
      exact ⟨ord_of (by kernel_rfl), ord_of (by kernel_rfl), i + 1, by omega, by omega, rfl⟩
    | false =>
      rw [hfl] at hf
      have hf1 : (f.toNat : Int) = 0 := by rw [hf]; rfl
      rw [hf1] at e6
      simp only [L34_4, Seat.W_seq, Seat.W_block, Seat.W_region_false, Seat.W_region_true, Seat.W_skip, Seat.cond_eq, Seat.condK_true, Seat.condK_false, Seat.env_grow, Seat.rq_nil, Seat.rq_cons, Seat.rqK_some, Seat.rg_nil, Seat.rg_cons, Seat.rgK_some, Seat.endQ, Seat.seq_normal, Seat.blk_normal, loopEnd_normal, s_step, guardOf, s_guard_true, s_alloc, s_assign, s_move, s_bin, s_fieldAddr, s_indexAddr, s_buildSlice, s_load, s_store, call_31, call_37, s_append, s_pure, s_setT, s_setN, allocS, allocK, storeS, storeK, loadK, loadC, binK, binAV, intBin, boolAV, intAV, fieldAddrK, elemK, indexAddrK, indexRow, evalParts, clipK, rowsK, buildSliceK, callOS, callOD, upds, appK, appR, appT, appE_c, appS, app2, appTail, strip_imm, stripAll, IV.norm, rowsOf_sl, rowsOf_clip, rowsAt, mkAV, TK.agg, fillAV, setRange, mapEval, evalOp, ofValue, AV.leaves, solid_imm, footA, pureCall, quietOp, readsT, writesT, guardLoc, tmpLoc, touch, looksOp, idsOf, AV.ids, LV.ids, LV.ids.idsAll, Op.operands, Call.operands, List.set_cons_succ, List.set_cons_zero, List.getElem?_cons_succ, List.getElem?_cons_zero, List.cons_append, List.nil_append, List.append_nil, List.length_cons, List.length_nil, List.getD_cons_succ, List.getD_cons_zero, List.all_cons, List.all_nil, List.map_cons, List.map_nil, List.drop_succ_cons, List.drop_zero, List.take_succ_cons, List.take_zero, List.drop_nil, List.take_nil, List.flatten_cons, List.flatten_nil, List.flatMap_cons, List.flatMap_nil, List.reduceReplicate, List.contains_cons, List.contains_nil, Option.map_some, Option.map_none, Option.getD_some, Option.toList_some, Option.some.injEq, Nat.reduceAdd, Nat.reduceMul, Nat.reduceLT, Nat.reduceLeDiff, Nat.reduceBEq, Nat.zero_add, Nat.add_zero, Nat.mul_one, Nat.le_refl, Int.toNat_natCast, Int.natCast_nonneg, and_self, Bool.and_self, Bool.or_false, Bool.or_true, Bool.not_true, Bool.false_eq_true, reduceCtorEq, decide_true, decide_false, beq_self_eq_true, eq_self, ↓reduceIte, seat_T, seat_O, ob_getD, Int.ofNat_lt, keepSt, keepTmps, keepObjs, kept, keepAV, keepLV_imm, keepLV_ap, keepObj, promote, promoteT, firstRegion, k34, T_34, T_22, T_9, T_5, T_4, T_3, T_61, T_59, crow_get, hx, Cel.row, hlt, hfl, e1, q1, q2, q3, q4, q5, rob_len, hr, e6, e7]
      exact ⟨ord_of (by kernel_rfl), ord_of (by kernel_rfl), i + 1, by omega, by omega, rfl⟩
  · have e : i = c.writes.length := by omega
    have e2 : wr c i = c.bytes := by rw [e, wr_all]
    simp only [L34_4, Seat.W_seq, Seat.W_region_false, Seat.W_exit, Seat.W_ret, Seat.cond_eq, Seat.condK_false, Seat.rq_nil, Seat.rq_cons, Seat.rqK_some, Seat.seq_normal, Seat.seq_exit, Seat.blk_exit, loopEnd_exit, s_step, guardOf, s_guard_true, s_assign, s_move, s_bin, s_pure, s_setT, binK, binAV, intBin, boolAV, intAV, out_ret, OutK, handed, renAV, renLV, renObj, backName, backUpd, resultsAV, resultAV, tupleOf, evalOp, List.set_cons_succ, List.set_cons_zero, List.getElem?_cons_succ, List.getElem?_cons_zero, List.nil_append, List.append_nil, List.length_nil, List.getD_cons_succ, List.getD_cons_zero, List.map_cons, List.map_nil, Option.getD_some, Nat.reduceLT, Nat.reduceLeDiff, decide_false, eq_self, ↓reduceIte, seat_T, Int.ofNat_lt, firstRegion, k34, hlt, e2]

theorem fn15 (c : Com) (hc : c.Ok) : (seat o).fn 15 [c.av] = some (.leaf (.imm (.sl (rowsOfBytes c.bytes)))) := by
  have c34 : ∀ (d : Nat) (ob : Nat → Option AObj), ob d = none → _ := fun d ob hd => fn34_nil d ob c hc hd
  simp only [Com.av] at c34
  refine Seat.fn_of (f := fun15) (noS o 15 _ rfl) rfl rfl rfl ?_; simp only [fun15, Proofs.Try.f15, Seat.W_seq, Seat.W_region_false, Seat.rq_cons, s_step, guardOf, s_guard_true, s_box, allocK, boxS, evalOp, AV.leaves, List.set_cons_succ, List.set_cons_zero, List.getElem?_cons_zero, List.cons_append, List.nil_append, List.length_cons, List.length_nil, List.getD_cons_succ, List.getD_cons_zero, List.reduceReplicate, Nat.reduceAdd, Nat.reduceSub, Nat.reduceLT, Nat.zero_add, ↓reduceIte, seat_T]
  simp only [Com.av, Seat.W_seq, Seat.W_region_false, Seat.W_ret, Seat.rq_nil, Seat.rq_cons, Seat.rqK_some, Seat.seq_normal, Seat.ret_ret, Seat.RetK, s_step, guardOf, s_guard_true, s_assign, s_load, call_34, s_pure, s_setT, loadK, loadC, callOS, callOD, upds, lendArgs, lendArg, lend_ap, resultsAV, resultAV, tupleOf, mkAV, TK.agg, mapEval, evalOp, ofValue, solid_imm, idsOf, AV.ids, LV.ids, LV.ids.idsAll, List.set_cons_succ, List.set_cons_zero, List.getElem?_cons_succ, List.getElem?_cons_zero, List.nil_append, List.append_nil, List.length_cons, List.length_nil, List.getD_cons_succ, List.getD_cons_zero, List.all_cons, List.all_nil, List.drop_zero, List.take_succ_cons, List.take_nil, List.contains_cons, List.contains_nil, Option.map_some, Option.some.injEq, Nat.reduceAdd, Nat.reduceLT, Nat.zero_add, Nat.le_refl, and_self, Bool.and_self, Bool.or_false, decide_true, beq_self_eq_true, eq_self, ↓reduceIte, exists_eq_left', seat_T, ob_getD, T_36, c34]
def zcom : Com := ⟨0, [], [], ⟨#[]⟩, []⟩
theorem zcom_bytes : zcom.bytes = [0, 0, 0, 0, 0] := by
  have e : uenc 0 = [0] := uenc_lo (by decide)
  have ez : zz 0 = 0 := rfl
  have es : ((ByteArray.mk #[]).size : Int) = 0 := rfl
  simp only [zcom, Com.bytes, Com.head, bInts, bInts0, bText, bInt, List.length_nil, List.map_nil, List.flatten_nil, List.append_nil, Int.cast_ofNat_Int, es, ez, e]
  rfl
theorem zcom_ok : zcom.Ok where
  stamp := ⟨by decide, by decide⟩
  parents := fun x hx => nomatch hx
  picks := fun x hx => nomatch hx
  lp := by decide
  lk := by decide
  note := by decide
  lw := by decide
  writes := fun x hx => nomatch hx
  room := by rw [zcom_bytes]; decide
end Go.Ai
