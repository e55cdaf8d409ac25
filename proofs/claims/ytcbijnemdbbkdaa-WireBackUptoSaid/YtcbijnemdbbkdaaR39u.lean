/- What was written is read back; the law WireBack, as what the abstract run answers. Where sizes are at most 1048576. -/
import Derived.Test.YtcbijnemdbbkdaaR39s
namespace Go.Ai
set_option linter.unusedVariables false
set_option linter.unusedSimpArgs false
set_option maxRecDepth 100000
set_option maxHeartbeats 4000000

theorem or_add {acc x m : Nat} (h : acc < 2 ^ m) : acc ||| x * 2 ^ m = x * 2 ^ m + acc := by
  rw [Nat.or_comm, Nat.mul_comm x, ← Nat.two_pow_add_eq_or_of_lt h]
theorem drop_cons {α : Type} {l : List α} {a : Nat} {x : α} {r : List α} (h : l.drop a = x :: r) : l[a]? = some x ∧ l.drop (a + 1) = r ∧ a < l.length := by
  have h1 : (l.drop a)[0]? = some x := by rw [h]; rfl
  rw [List.getElem?_drop, Nat.add_zero] at h1
  refine ⟨h1, ?_, (List.getElem?_eq_some_iff.1 h1).1⟩
  have := congrArg (List.drop 1) h
  rw [List.drop_drop] at this
  simpa using this
theorem dec (bs post : List UInt8) : ∀ (k a i u acc : Nat), i + k = 11 → bs.drop a = uenc u ++ post → (0 < i → 0 < u) → u * 2 ^ (7 * i) + acc < 18446744073709551616 → acc < 2 ^ (7 * i) → numA bs k a i acc = (true, u * 2 ^ (7 * i) + acc, a + (uenc u).length) := by
  intro k
  induction k with
  | zero =>
    intro a i u acc hi _ hu hlt _
    have hi : i = 11 := by omega
    subst hi
    have hu := hu (by omega)
    have e : (2 : Nat) ^ (7 * 11) = 151115727451828646838272 := by decide
    rw [e] at hlt
    omega
  | succ k ih =>
    intro a i u acc hi hd hu hlt hacc
    have h10 : i ≠ 10 := by
      intro h
      subst h
      have hu := hu (by omega)
      have e : (2 : Nat) ^ (7 * 10) = 1180591620717411303424 := by decide
      rw [e] at hlt
      omega
    have h9 : i = 9 → u ≤ 1 := by
      intro h
      subst h
      have e : (2 : Nat) ^ (7 * 9) = 9223372036854775808 := by decide
      rw [e] at hlt
      omega
    by_cases h : u < 128
    · rw [uenc_lo h] at hd ⊢
      obtain ⟨hc, _, _⟩ := drop_cons (by simpa using hd : bs.drop a = UInt8.ofNat u :: post)
      have hn : (UInt8.ofNat u).toNat = u := by rw [UInt8.toNat_ofNat']; omega
      unfold numA
      rw [hc]
      simp only [hn]
      have e0 : ¬ ((i = 9 ∧ 1 < u) ∨ (0 < i ∧ u = 0)) := by
        rintro (⟨h1, h2⟩ | ⟨h1, h2⟩)
        · have := h9 h1; omega
        · have := hu h1; omega
      rw [if_neg h10, if_neg e0, if_pos h]
      unfold nxt
      rw [Nat.mod_eq_of_lt h, or_add hacc]
      rfl
    · rw [uenc_hi h] at hd ⊢
      obtain ⟨hc, hd', _⟩ := drop_cons (by simpa using hd : bs.drop a = UInt8.ofNat (u % 128 + 128) :: (uenc (u / 128) ++ post))
      have hn : (UInt8.ofNat (u % 128 + 128)).toNat = u % 128 + 128 := by rw [UInt8.toNat_ofNat']; omega
      unfold numA
      rw [hc]
      simp only [hn]
      have e0 : ¬ ((i = 9 ∧ 1 < u % 128 + 128) ∨ (0 < i ∧ u % 128 + 128 = 0)) := by
        rintro (⟨h1, h2⟩ | ⟨h1, h2⟩)
        · have := h9 h1; omega
        · omega
      rw [if_neg h10, if_neg e0, if_neg (by omega)]
      unfold nxt
      have em : (u % 128 + 128) % 128 = u % 128 := by omega
      rw [em, or_add hacc]
      have eP : (2 : Nat) ^ (7 * (i + 1)) = 128 * 2 ^ (7 * i) := by rw [Nat.mul_add, Nat.pow_add, Nat.mul_comm]
      obtain ⟨P, hP⟩ : ∃ P, P = (2 : Nat) ^ (7 * i) := ⟨_, rfl⟩
      rw [← hP] at eP hlt hacc ⊢
      have eu : u / 128 * (128 * P) + (u % 128 * P + acc) = u * P + acc := by
        have h1 : u / 128 * (128 * P) = (128 * (u / 128)) * P := by rw [Nat.mul_comm 128 (u / 128), Nat.mul_assoc]
        rw [h1, ← Nat.add_assoc, ← Nat.add_mul, Nat.div_add_mod]
      have hm : u % 128 * P + acc < 128 * P := by
        have : u % 128 * P ≤ 127 * P := Nat.mul_le_mul_right _ (by omega)
        omega
      rw [ih (a + 1) (i + 1) (u / 128) (u % 128 * P + acc) (by omega) hd' (fun _ => by omega) (by rw [eP, eu]; exact hlt) (by rw [eP]; exact hm), eP, eu, List.length_cons]
      simp only [Prod.mk.injEq, true_and]
      omega
theorem unz_zz {n : Int} (h : I64 n) : unz (zz n) = n := by
  unfold unz zz
  by_cases h0 : 0 ≤ n
  · rw [if_pos h0, if_pos (by omega)]; omega
  · rw [if_neg h0, if_neg (by omega)]; omega
theorem numA_enc {bs post : List UInt8} {a : Nat} {n : Int} (h : I64 n) (hd : bs.drop a = bInt n ++ post) : numA bs 11 a 0 0 = (true, zz n, a + (bInt n).length) := by
  have := dec bs post 11 a 0 (zz n) 0 rfl hd (fun h => by omega) (by have := zz_lt h.1 h.2; simpa using this) (by decide)
  simpa [bInt] using this
theorem bInt_pos (n : Int) : 1 ≤ (bInt n).length := by
  have := bInt_ne n
  cases h : bInt n with
  | nil => exact (this h).elim
  | cons x l => simp

/-- What a reader gets where something stands, and where it goes. -/
def Gets {α : Type} (get : List UInt8 → Rs → α × Rs) (enc : α → List UInt8) (Q : α → Prop) : Prop :=
  ∀ (bs post : List UInt8) (a : Nat) (x : α), Q x → bs.drop a = enc x ++ post → get bs ((a : Int), false) = (x, ((a + (enc x).length : Nat) : Int), false)
theorem rN_gets : Gets rN bInt I64 := by
  intro bs post a n h hd
  unfold rN
  simp only [Bool.false_eq_true, if_false, Int.toNat_natCast, numA_enc h hd, if_true, unz_zz h, Bool.not_true]
theorem len_le {bs l post : List UInt8} {a : Nat} (h : bs.drop a = l ++ post) : l.length + post.length ≤ bs.length - a := by
  have := congrArg List.length h
  rw [List.length_drop, List.length_append] at this
  omega
theorem cnt_enc {bs post : List UInt8} {a k : Nat} (hk : k ≤ post.length) (hb : bs.length ≤ 1099511627776) (hd : bs.drop a = bInt (k : Int) ++ post) : cntOk bs a = true ∧ cntN bs a = k ∧ cntP bs a = a + (bInt (k : Int)).length := by
  have hl := len_le hd
  have hi : I64 (k : Int) := i64_nat (by omega)
  have e := numA_enc hi hd
  have := bInt_pos (k : Int)
  refine ⟨?_, ?_, ?_⟩
  · unfold cntOk
    rw [e]
    simp only [unz_zz hi, Bool.true_and, decide_eq_true_eq]
    omega
  · unfold cntN; rw [e]; simp only [unz_zz hi]; omega
  · unfold cntP; rw [e]
theorem rC_enc {bs post : List UInt8} {a k : Nat} (hk : k ≤ post.length) (hb : bs.length ≤ 1099511627776) (hd : bs.drop a = bInt (k : Int) ++ post) : rC bs ((a : Int), false) = (k, ((a + (bInt (k : Int)).length : Nat) : Int), false) := by
  obtain ⟨h1, h2, h3⟩ := cnt_enc hk hb hd
  unfold rC
  simp only [Bool.false_eq_true, if_false, Int.toNat_natCast, h1, h2, h3, if_true, Bool.not_true]
theorem drop_next {bs l post : List UInt8} {a : Nat} (h : bs.drop a = l ++ post) : bs.drop (a + l.length) = post := by
  rw [← List.drop_drop, h, List.drop_left]
theorem rT_enc {bs post : List UInt8} {a : Nat} {s : ByteArray} (hb : bs.length ≤ 1099511627776) (hd : bs.drop a = bText s ++ post) : rT bs ((a : Int), false) = (s, ((a + (bText s).length : Nat) : Int), false) := by
  have hsz : s.data.toList.length = s.size := by simp
  unfold bText at hd
  rw [List.append_assoc] at hd
  obtain ⟨h1, h2, h3⟩ := cnt_enc (k := s.size) (by rw [List.length_append, hsz]; omega) hb hd
  have hn := drop_next hd
  unfold rT
  simp only [Bool.false_eq_true, if_false, Int.toNat_natCast, h1, h2, h3, if_true]
  have hs : sub bs (a + (bInt (s.size : Int)).length) (a + (bInt (s.size : Int)).length + s.size) = s := by
    unfold sub
    have : (bs.take (a + (bInt (s.size : Int)).length + s.size)).drop (a + (bInt (s.size : Int)).length) = s.data.toList := by
      rw [List.drop_take, hn, show a + (bInt (s.size : Int)).length + s.size - (a + (bInt (s.size : Int)).length) = s.data.toList.length by rw [hsz]; omega, List.take_left]
    rw [this]
  rw [hs]
  have : a + (bInt (s.size : Int)).length + s.size = a + (bText s).length := by unfold bText; rw [List.length_append, hsz]; omega
  rw [this]
theorem rF_enc {bs post : List UInt8} {a : Nat} {f : Bool} (hd : bs.drop a = (if f then (1 : UInt8) else 0) :: post) : rF bs ((a : Int), false) = (f, ((a + 1 : Nat) : Int), false) := by
  obtain ⟨hc, _, _⟩ := drop_cons hd
  unfold rF
  simp only [Bool.false_eq_true, if_false, Int.toNat_natCast, hc]
  cases f <;> rfl
theorem rL_enc {α : Type} {get : List UInt8 → Rs → α × Rs} {enc : α → List UInt8} {Q : α → Prop} (hg : ∀ (bs post : List UInt8) (a : Nat) (x : α), Q x → bs.length ≤ 1099511627776 → bs.drop a = enc x ++ post → get bs ((a : Int), false) = (x, ((a + (enc x).length : Nat) : Int), false)) {bs : List UInt8} (hb : bs.length ≤ 1099511627776) : ∀ (l : List α) (post : List UInt8) (a : Nat), (∀ x ∈ l, Q x) → bs.drop a = (l.map enc).flatten ++ post → rL (get bs) l.length ((a : Int), false) = (l, ((a + ((l.map enc).flatten).length : Nat) : Int), false) := by
  intro l
  induction l with
  | nil => intro post a _ _; rfl
  | cons x l ih =>
    intro post a hq hd
    rw [List.map_cons, List.flatten_cons, List.append_assoc] at hd
    have h1 := hg bs _ a x (hq x List.mem_cons_self) hb hd
    have h2 := ih post (a + (enc x).length) (fun y hy => hq y (List.mem_cons_of_mem _ hy)) (drop_next hd)
    rw [List.length_cons, rL]
    simp only [Bool.false_eq_true, if_false, h1, h2, List.map_cons, List.flatten_cons, List.length_append, Nat.add_assoc]
theorem rCell_enc (bs post : List UInt8) (a : Nat) (x : Cel) (h : x.Ok) (hb : bs.length ≤ 1099511627776) (hd : bs.drop a = x.bytes ++ post) : rCell bs ((a : Int), false) = (x, ((a + x.bytes.length : Nat) : Int), false) := by
  unfold Cel.bytes at hd
  simp only [List.append_assoc] at hd
  have h1 := rN_gets bs _ a x.id h.id hd
  have d1 := drop_next hd
  have h2 := rN_gets bs _ _ x.fld h.fld d1
  have d2 := drop_next d1
  have h3 := rN_gets bs _ _ x.n h.n d2
  have d3 := drop_next d2
  have h4 := rF_enc (f := x.flag) d3
  have d4 : bs.drop (a + (bInt x.id).length + (bInt x.fld).length + (bInt x.n).length + 1) = bText x.text ++ (bInt x.ref ++ post) := (drop_cons d3).2.1
  have h5 := rT_enc hb d4
  have d5 := drop_next d4
  have h6 := rN_gets bs _ _ x.ref h.ref d5
  unfold rCell
  simp only [h1, h2, h3, h4, h5, h6]
  have e : a + (bInt x.id).length + (bInt x.fld).length + (bInt x.n).length + 1 + (bText x.text).length + (bInt x.ref).length = a + x.bytes.length := by
    simp only [Cel.bytes, List.length_append, List.length_cons, List.length_nil]
    omega
  rw [e]
theorem bInts_read {bs post : List UInt8} {a : Nat} {l : List Int} (hq : ∀ x ∈ l, I64 x) (hb : bs.length ≤ 1099511627776) (hd : bs.drop a = bInts l ++ post) : rL (rN bs) (rC bs ((a : Int), false)).1 (rC bs ((a : Int), false)).2 = (l, ((a + (bInts l).length : Nat) : Int), false) := by
  unfold bInts at hd
  rw [List.append_assoc] at hd
  have hk : ∀ l : List Int, l.length ≤ (bInts0 l).length := by
    intro l
    induction l with
    | nil => exact Nat.zero_le _
    | cons x l ih =>
      have := bInt_pos x
      simp only [bInts0, List.map_cons, List.flatten_cons, List.length_append, List.length_cons] at ih ⊢
      omega
  have hk := hk l
  have h1 := rC_enc (k := l.length) (by rw [List.length_append]; omega) hb hd
  have d1 := drop_next hd
  have h2 := rL_enc (get := rN) (enc := bInt) (Q := I64) (fun bs post a x hx _ hd => rN_gets bs post a x hx hd) hb l post _ hq d1
  rw [h1]
  simp only [h2, bInts, bInts0, List.length_append, Nat.add_assoc]
theorem cel_pos (c : Cel) : 1 ≤ c.bytes.length := by
  have := bInt_pos c.id
  simp only [Cel.bytes, List.length_append]
  omega
theorem com_pos (c : Com) : 1 ≤ c.bytes.length := by
  have := bInt_pos c.stamp
  simp only [Com.bytes, Com.head, List.length_append]
  omega
theorem flat_pos {α : Type} (f : α → List UInt8) (h : ∀ x, 1 ≤ (f x).length) : ∀ l : List α, l.length ≤ ((l.map f).flatten).length := by
  intro l
  induction l with
  | nil => exact Nat.zero_le _
  | cons x l ih =>
    have := h x
    simp only [List.map_cons, List.flatten_cons, List.length_append, List.length_cons]
    omega
theorem rCom_enc (bs post : List UInt8) (a : Nat) (c : Com) (h : c.Ok) (hb : bs.length ≤ 1099511627776) (hd : bs.drop a = c.bytes ++ post) : rCom bs ((a : Int), false) = (c, ((a + c.bytes.length : Nat) : Int), false) := by
  unfold Com.bytes Com.head at hd
  simp only [List.append_assoc] at hd
  have h1 := rN_gets bs _ a c.stamp h.stamp hd
  have d1 := drop_next hd
  have h2 := bInts_read h.parents hb d1
  have d2 := drop_next d1
  have h3 := bInts_read h.picks hb d2
  have d3 := drop_next d2
  have h4 := rT_enc hb d3
  have d4 := drop_next d3
  have hp := flat_pos Cel.bytes cel_pos c.writes
  have h5 := rC_enc (k := c.writes.length) (by rw [List.length_append]; omega) hb d4
  have d5 := drop_next d4
  have h6 := rL_enc (get := rCell) (enc := Cel.bytes) (Q := Cel.Ok) rCell_enc hb c.writes post _ h.writes d5
  unfold rCom
  simp only [h1, h2, h3, h4, h5, h6]
  have e : a + (bInt c.stamp).length + (bInts c.parents).length + (bInts c.picks).length + (bText c.note).length + (bInt (c.writes.length : Int)).length + ((c.writes.map Cel.bytes).flatten).length = a + c.bytes.length := by
    simp only [Com.bytes, Com.head, List.length_append]
    omega
  rw [e]
theorem rComs_enc (cs : List Com) (h : Coms cs) : rComs (bComs cs) = (cs, ((bComs cs).length : Int), false) := by
  have hroom := h.room
  have hlen := h.len
  have hnl := bInt_len (i64_nat (n := cs.length) (by omega))
  have hb : (bComs cs).length ≤ 1099511627776 := by unfold bComs; rw [List.length_append]; omega
  have d0 : (bComs cs).drop 0 = bInt (cs.length : Int) ++ (bComs0 cs ++ []) := by rw [List.append_nil]; rfl
  have hp := flat_pos Com.bytes com_pos cs
  have h1 := rC_enc (k := cs.length) (by rw [List.append_nil]; exact hp) hb d0
  have d1 := drop_next d0
  have h2 := rL_enc (get := rCom) (enc := Com.bytes) (Q := Com.Ok) rCom_enc hb cs [] _ h.ok d1
  have s0 : start (bComs cs) 0 = (((0 : Nat) : Int), false) := start_nat (n := 0) (Nat.zero_le _)
  unfold rComs
  rw [s0, h1]
  simp only [h2]
  have e : 0 + (bInt (cs.length : Int)).length + ((cs.map Com.bytes).flatten).length = (bComs cs).length := by
    unfold bComs bComs0
    rw [List.length_append]
    omega
  rw [e]
theorem gCs_enc (cs : List Com) (h : Coms cs) : gCs (bComs cs) = (cs, 0) := by
  unfold gCs
  rw [rComs_enc cs h]
  simp

theorem fn21_ap (id d : Nat) (ob : Nat → Option AObj) (l : List UInt8) (s : ByteArray) (hs : s.size ≤ 1048576) (hl : l.length ≤ 274877906944) (ho : ob id = some (.tail 5 1 l.length)) (hd : ob d = none) :
    (seat o).fnO 21 d [.leaf (.ap id (rowsOfBytes l)), .leaf (.imm (.str s))] ob = some (.leaf (.ap d (rowsOfBytes (l ++ bText s))), [(id, .tail 5 1 l.length), (d, .tail 5 1 (l ++ bText s).length)]) := by
  have h33 := fn33 l (by omega)
  refine Seat.fnO_of (f := fun21) (ids := [id]) rfl rfl rfl rfl (by simp [idsAV, once, AV.ids, LV.ids, ho]) ?_
  simp only [fun21, Proofs.Try.f21, Seat.W_seq, Seat.W_region_false, Seat.rq_nil, Seat.rq_cons, Seat.rqK_some, Seat.seq_normal, s_step, guardOf, s_guard_true, s_assign, s_move, call_33, s_pure, s_setT, callS, callP, renAV, renLV, indexIn, stripArgs, AV.stripA, strip_ap, mapEval, evalOp, ofValue, List.set_cons_succ, List.set_cons_zero, List.getElem?_cons_succ, List.getElem?_cons_zero, List.cons_append, List.nil_append, List.length_cons, List.length_nil, List.map_cons, List.map_nil, List.reduceReplicate, Option.map_some, Option.map_none, Nat.reduceAdd, Nat.reduceSub, Nat.zero_add, eq_self, ↓reduceIte, seat_T]
  simp only [Seat.W_ret, Seat.rq_nil, Seat.rq_cons, Seat.rqK_some, Seat.seq_normal, s_step, guardOf, s_guard_true, s_assign, s_move, call_32, call_37, s_pure, s_setT, callOS, callOD, upds, out_ret, OutK, handed, renAV, renLV, renObj, backName, backUpd, resultsAV, resultAV, tupleOf, mapEval, evalOp, idsOf, AV.ids, LV.ids, LV.ids.idsAll, List.set_cons_succ, List.set_cons_zero, List.getElem?_cons_succ, List.getElem?_cons_zero, List.cons_append, List.nil_append, List.append_nil, List.length_cons, List.length_nil, List.getD_cons_succ, List.getD_cons_zero, List.all_cons, List.all_nil, List.map_cons, List.map_nil, List.contains_cons, List.contains_nil, Option.map_some, Option.getD_some, Nat.reduceAdd, Nat.reduceLT, Nat.reduceLeDiff, Nat.zero_add, Nat.add_zero, Bool.and_self, Bool.or_false, decide_true, beq_self_eq_true, eq_self, ↓reduceIte, seat_T, ob_getD, h33, fn32, fn37_clip _ _ l s hs hl, ho, hd]

theorem com_small {c : Com} (h : c.Ok) : Small c := ⟨Nat.le_trans h.lp (by decide), Nat.le_trans h.lk (by decide), Nat.le_trans h.lw (by decide)⟩
theorem gi_enc {bs post : List UInt8} {a : Nat} {n : Int} (h : I64 n) (hd : bs.drop a = bInt n ++ post) : gi bs (a : Int) = (n, ((a + (bInt n).length : Nat) : Int), 0) := by
  have h1 := bInt_pos n
  have h2 := len_le hd
  unfold gi
  rw [if_neg (by omega), Int.toNat_natCast, numA_enc h hd]
  simp only [if_true, unz_zz h]
theorem gt_enc {bs post : List UInt8} {a : Nat} {s : ByteArray} (hb : bs.length ≤ 1099511627776) (hd : bs.drop a = bText s ++ post) : gt bs (a : Int) = (s, ((a + (bText s).length : Nat) : Int), 0) := by
  have h1 := bInt_pos (s.size : Int)
  have h2 := len_le hd
  have h3 : 1 ≤ (bText s).length := by unfold bText; rw [List.length_append]; omega
  have hr := rT_enc hb hd
  have hsz : s.data.toList.length = s.size := by simp
  have hd' := hd
  unfold bText at hd'
  rw [List.append_assoc] at hd'
  obtain ⟨c1, c2, c3⟩ := cnt_enc (k := s.size) (by rw [List.length_append, hsz]; omega) hb hd'
  unfold rT at hr
  simp only [Bool.false_eq_true, if_false, Int.toNat_natCast, c1, if_true, Prod.mk.injEq, and_true] at hr
  unfold gt
  rw [if_neg (by omega), Int.toNat_natCast, c1]
  simp only [if_true, hr.1, hr.2]
theorem fn7 (cs : List Com) (n : Int) (s : ByteArray) (be af : List UInt8) (h : Coms cs) (hcb : (bComs0 cs).length ≤ 11534336) (hn : I64 n) (hs : s.size ≤ 1048576) (hbe : be.length ≤ 1048576) (haf : af.length ≤ 1048576) :
    (seat o).fn 7 [.leaf (.imm (.sl (coms cs))), .leaf (.imm (.int .i64 n)), .leaf (.imm (.str s)), .leaf (.imm (.sl (rowsOfBytes be))), .leaf (.imm (.sl (rowsOfBytes af)))] = some (boolAV true) := by
  have hlen := h.len
  have h8 := fn8
  have h14 := fn14 cs h.len fun c hc => (h.ok c hc).lw
  simp only [boolAV, intAV] at h8 h14
  by_cases hbig : (2000 : Int) < szOut cs.length cs
  · refine Seat.fn_of (f := fun7) (noS o 7 _ rfl) rfl rfl rfl ?_; simp only [fun7, Proofs.Try.f7, Seat.W_seq, Seat.W_region_false, Seat.rq_nil, Seat.rq_cons, Seat.rqK_some, Seat.seq_normal, s_step, guardOf, s_guard_true, s_assign, s_move, call_14, s_pure, s_setT, boolAV, callS, callP, stripArgs, AV.stripA, strip_imm, IV.norm, mapEval, evalOp, ofValue, List.set_cons_succ, List.set_cons_zero, List.getElem?_cons_succ, List.getElem?_cons_zero, List.cons_append, List.nil_append, List.length_cons, List.length_nil, List.reduceReplicate, Option.map_some, Nat.reduceAdd, Nat.reduceSub, Nat.zero_add, seat_T]
    simp only [Seat.W_seq, Seat.W_region_false, Seat.W_ret, Seat.cond_eq, Seat.condK_true, Seat.rq_nil, Seat.rq_cons, Seat.rqK_some, Seat.seq_normal, Seat.seq_ret, Seat.ret_ret, Seat.RetK, s_step, guardOf, s_guard_true, s_guard_false, s_assign, s_move, s_pick, s_bin, s_len, call_8, s_pure, s_setT, pickK, pickAV, binK, binAV, cmpAV, intBin, boolAV, lenK, lenAV, callS, callP, stripArgs, IV.norm, lendArgs, lendArg, lend_imm, resultsAV, resultAV, tupleOf, mapEval, evalOp, ofValue, List.set_cons_succ, List.set_cons_zero, List.getElem?_cons_succ, List.getElem?_cons_zero, Option.map_some, Option.some.injEq, decide_true, eq_self, gt_iff_lt, ↓reduceIte, exists_eq_left', seat_T, bq_tf, T_22, T_9, T_3, h14, hbig, h8]
  · have e1 : IntKind.wrap .i64 ((s.size : Int) + (be.length : Int)) = ((s.size + be.length : Nat) : Int) := by rw [wrap_i64 (by omega) (by omega)]; omega
    have e2 : IntKind.wrap .i64 (((s.size + be.length : Nat) : Int) + (af.length : Int)) = ((s.size + be.length + af.length : Nat) : Int) := by rw [wrap_i64 (by omega) (by omega)]; omega
    by_cases hsum : (2000 : Int) < ((s.size + be.length + af.length : Nat) : Int)
    · refine Seat.fn_of (f := fun7) (noS o 7 _ rfl) rfl rfl rfl ?_; simp only [fun7, Proofs.Try.f7, Seat.W_seq, Seat.W_region_false, Seat.rq_nil, Seat.rq_cons, Seat.rqK_some, Seat.seq_normal, s_step, guardOf, s_guard_true, s_assign, s_move, call_14, s_pure, s_setT, boolAV, callS, callP, stripArgs, AV.stripA, strip_imm, IV.norm, mapEval, evalOp, ofValue, List.set_cons_succ, List.set_cons_zero, List.getElem?_cons_succ, List.getElem?_cons_zero, List.cons_append, List.nil_append, List.length_cons, List.length_nil, List.reduceReplicate, Option.map_some, Nat.reduceAdd, Nat.reduceSub, Nat.zero_add, seat_T]
      simp only [Seat.W_seq, Seat.W_region_false, Seat.W_ret, Seat.cond_eq, Seat.condK_true, Seat.rq_nil, Seat.rq_cons, Seat.rqK_some, Seat.seq_normal, Seat.seq_ret, Seat.ret_ret, Seat.RetK, s_step, guardOf, s_guard_true, s_assign, s_move, s_pick, s_bin, s_len, call_8, s_pure, s_setT, pickK, pickAV, binK, binAV, intBin, boolAV, intAV, lenK, lenAV, callS, callP, stripArgs, IV.norm, lendArgs, lendArg, lend_imm, resultsAV, resultAV, tupleOf, mapEval, evalOp, ofValue, List.set_cons_succ, List.set_cons_zero, List.getElem?_cons_succ, List.getElem?_cons_zero, Option.map_some, Option.some.injEq, Bool.false_eq_true, decide_true, decide_false, beq_self_eq_true, eq_self, gt_iff_lt, ↓reduceIte, exists_eq_left', seat_T, T_22, T_9, h14, hbig, rob_len, e1, e2, hsum, h8]
    · have hnl := bInt_len (i64_nat (n := cs.length) (by omega))
      have hcl : (bComs cs).length ≤ 16777216 := by unfold bComs; rw [List.length_append]; omega
      have h17 := fn17 cs h
      have h23 := fn23 (bComs cs) hcl
      rw [gCs_enc cs h] at h23
      have h27 := fn27 cs (by omega) fun c hc => com_small (h.ok c hc)
      have hn10 := bInt_len hn
      have ht := bText_len hs
      have hsz : s.data.toList.length = s.size := by simp
      obtain ⟨B, hB⟩ : ∃ B, B = be ++ bInt n ++ bText s ++ af := ⟨_, rfl⟩
      have hBl : B.length = be.length + (bInt n).length + (bText s).length + af.length := by rw [hB]; simp only [List.length_append]
      have d1 : B.drop be.length = bInt n ++ (bText s ++ af) := by rw [hB]; simp only [List.append_assoc]; exact List.drop_left
      have d2 := drop_next d1
      have h9 := fn9 B (be.length : Int) (by omega)
      rw [gi_enc hn d1] at h9
      have h19 := fn19 B ((be.length + (bInt n).length : Nat) : Int) (by omega)
      rw [gt_enc (by omega) d2] at h19
      have c12 : ∀ (d : Nat) (ob : Nat → Option AObj), ob d = none → _ := fun d ob hd => fn12 d ob be n hn.1 hn.2 (by omega) hd
      have c21 : ∀ (d : Nat) (ob : Nat → Option AObj), ob 43 = some (.tail 5 1 (be ++ bInt n).length) → ob d = none → _ := fun d ob ho hd => fn21_ap 43 d ob (be ++ bInt n) s hs (by rw [List.length_append]; omega) ho hd
      rw [List.length_append] at c21
      unfold bInt at c21
      have hr : (be ++ uenc (zz n) ++ bText s).length + af.length ≤ room := room_one' (by simp only [List.length_append]; unfold bInt at hn10; omega)
      have e3 : rowsOfBytes (be ++ uenc (zz n) ++ bText s) ++ rowsOfBytes af = rowsOfBytes B := by rw [← rob_append, hB]; rfl
      have e4 : (be ++ uenc (zz n) ++ bText s).length + af.length = B.length := by rw [hB]; simp only [List.length_append, bInt]
      have e5 : IntKind.wrap .i64 ((B.length : Int) - (af.length : Int)) = ((be.length + (bInt n).length + (bText s).length : Nat) : Int) := by rw [wrap_i64 (by omega) (by omega)]; omega
      simp only [tup3, tupS, intAV, boolAV] at h9 h19 h23 h27
      refine Seat.fn_of (f := fun7) (noS o 7 _ rfl) rfl rfl rfl ?_; simp only [fun7, Proofs.Try.f7, Seat.W_seq, Seat.W_region_false, Seat.rq_nil, Seat.rq_cons, Seat.rqK_some, Seat.seq_normal, s_step, guardOf, s_guard_true, s_assign, s_move, call_14, s_pure, s_setT, boolAV, callS, callP, stripArgs, AV.stripA, strip_imm, IV.norm, mapEval, evalOp, ofValue, List.set_cons_succ, List.set_cons_zero, List.getElem?_cons_succ, List.getElem?_cons_zero, List.cons_append, List.nil_append, List.length_cons, List.length_nil, List.reduceReplicate, Option.map_some, Nat.reduceAdd, Nat.reduceSub, Nat.zero_add, seat_T]
      simp only [Seat.W_seq, Seat.W_region_false, Seat.W_skip, Seat.cond_eq, Seat.condK_false, Seat.env_grow, Seat.rq_nil, Seat.rq_cons, Seat.rqK_some, Seat.seq_normal, s_step, guardOf, s_guard_true, s_assign, s_move, s_pick, s_bin, s_extract, s_len, call_12, call_17, call_21, call_23, s_append, s_pure, s_setT, pickK, pickAV, binK, binAV, intBin, boolAV, intAV, extractK, lenK, lenAV, callS, callP, callOS, callOD, upds, appK, appR, appT, stripArgs, AV.stripA, strip_imm, IV.norm, rowsOf_sl, mapEval, evalOp, ofValue, idsOf, AV.ids, LV.ids, LV.ids.idsAll, List.set_cons_succ, List.set_cons_zero, List.getElem?_cons_succ, List.getElem?_cons_zero, List.cons_append, List.nil_append, List.append_nil, List.length_cons, List.length_nil, List.getD_cons_succ, List.getD_cons_zero, List.all_cons, List.all_nil, List.contains_cons, List.contains_nil, Option.map_some, Nat.reduceAdd, Nat.reduceLT, Nat.reduceBEq, Nat.zero_add, and_self, Bool.and_self, Bool.or_false, Bool.or_true, Bool.false_eq_true, decide_true, decide_false, beq_self_eq_true, eq_self, gt_iff_lt, ↓reduceIte, seat_T, ob_getD, T_22, T_9, T_5, h14, hbig, rob_len, e1, e2, hsum, h17, h23, c12, c21, rob_all]
      rw [appE_ap (by rw [rob_len]; rfl) (by rw [rob_len, rob_len, Nat.mul_one]; exact hr), rob_len, rob_len, e3, e4]
      simp only [Seat.W_seq, Seat.W_region_false, Seat.W_ret, Seat.rq_nil, Seat.rq_cons, Seat.rqK_some, Seat.seq_normal, Seat.ret_ret, Seat.RetK, s_step, guardOf, s_guard_true, s_assign, s_move, s_pick, s_bin, s_extract, s_len, call_8, call_9, call_19, call_27, s_pure, s_setT, pickK, pickAV, binK, binAV, intBin, boolAV, intAV, strBin, extractK, lenK, lenAV, callS, callP, stripArgs, AV.stripA, strip_imm, strip_ap, IV.norm, lendArgs, lendArg, lend_imm, resultsAV, resultAV, tupleOf, mapEval, evalOp, ofValue, List.set_cons_succ, List.set_cons_zero, List.getElem?_cons_succ, List.getElem?_cons_zero, Option.map_some, Option.some.injEq, beq_self_eq_true, eq_self, ↓reduceIte, exists_eq_left', seat_T, T_22, rob_len, h9, h19, h27, e5, h8]
theorem five_args {l0 : List AV} {t u v w x : Nat} (hl : l0.length = 5) (h : ∀ (j : Nat) q a, [t, u, v, w, x][j]? = some q → l0[j]? = some a → ArgOk q a) : ∃ a b c d e, l0 = [a, b, c, d, e] ∧ ArgOk t a ∧ ArgOk u b ∧ ArgOk v c ∧ ArgOk w d ∧ ArgOk x e := by
  match l0, hl with
  | [a, b, c, d, e], _ => exact ⟨a, b, c, d, e, rfl, h 0 t a rfl rfl, h 1 u b rfl rfl, h 2 v c rfl rfl, h 3 w d rfl rfl, h 4 x e rfl rfl⟩
theorem law7 (l0 : List AV) (hl : l0.length = 5) (h : ∀ (j : Nat) t a, [30, 3, 9, 22, 22][j]? = some t → l0[j]? = some a → ArgOk t a) : (seat o).fn 7 l0 = some (boolAV true) := by
  obtain ⟨a, b, c, d, e, rfl, ha, hb, hc, hd, he⟩ := five_args hl h
  obtain ⟨cs, rfl, h1, h2⟩ := coms_arg ha
  obtain ⟨n, rfl, hn⟩ := int_arg hb
  obtain ⟨s, rfl, hs⟩ := str_arg hc
  obtain ⟨be, rfl, hbe⟩ := bytes_arg hd
  obtain ⟨af, rfl, haf⟩ := bytes_arg he
  exact fn7 cs n s be af h1 h2 hn hs hbe haf
end Go.Ai
