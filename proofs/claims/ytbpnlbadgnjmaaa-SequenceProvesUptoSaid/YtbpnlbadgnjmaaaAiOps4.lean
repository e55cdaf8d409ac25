/- Ai, part 6: comparisons, bytes turned into a string. No condition. -/
import Derived.Test.YtbpnlbadgnjmaaaAiOps3
namespace Go.Ai
set_option linter.unusedSimpArgs false
set_option linter.unusedVariables false

section
variable {P : Program} {T : Nat → Option Ty} {S : Sp} {w0 : World} {h0 : H} {st : St} {a : Act} {w : World} {β : Beta} {h : H} {o : Oper}

theorem strip_R {ob : Obs} {l : LV} {v : IV} {x : Value} (k : LVR β ob h l x) (he : l.strip = some v) : IVR h v x := by
  unfold LV.strip at he
  split at he
  · injection he with he; subst he
    cases k with | imm v x k => exact k.norm
  · injection he with he; subst he
    cases k with | ap id rows x ty sz n k => exact k
  · injection he with he; subst he
    cases k with | clip rows A k => exact k
  · cases he

theorem stripAll_R {ob : Obs} : ∀ {ls : List LV} {vs : List IV} {xs : List Value}, PW (LVR β ob h) ls xs → stripAll ls = some vs → PW (IVR h) vs xs := by
  intro ls
  induction ls with
  | nil =>
    intro vs xs k he
    simp only [stripAll] at he
    injection he with he
    subst he
    have : xs = [] := List.eq_nil_of_length_eq_zero (by have := k.1; simp at this; omega)
    subst this
    exact PW.nil
  | cons l ls ih =>
    intro vs xs k he
    cases xs with
    | nil => have := k.1; simp at this
    | cons x xs =>
      simp only [stripAll] at he
      split at he
      · rename_i v vs' h1 h2
        injection he with he
        subst he
        exact PW.cons (strip_R k.head h1) (ih k.tail h2)
      · cases he

theorem stripAll_length : ∀ {ls : List LV} {vs : List IV}, stripAll ls = some vs → vs.length = ls.length := by
  intro ls
  induction ls with
  | nil => intro vs he; simp only [stripAll] at he; injection he with he; subst he; rfl
  | cons l ls ih =>
    intro vs he
    simp only [stripAll] at he
    split at he
    · rename_i v vs' h1 h2
      injection he with he
      subst he
      simp [ih h2]
    · cases he

theorem rowsAt_spec {cs : List LV} {sz : Nat} : ∀ (len off : Nat) (rows : List (List IV)), rowsAt cs sz off len = some rows →
    rows.length = len ∧ ∀ i, i < len → ∃ r, rows[i]? = some r ∧ stripAll ((cs.drop ((off + i) * sz)).take sz) = some r := by
  intro len
  induction len with
  | zero =>
    intro off rows he
    simp only [rowsAt] at he
    injection he with he
    subst he
    exact ⟨rfl, fun i hi => by omega⟩
  | succ len ih =>
    intro off rows he
    simp only [rowsAt] at he
    split at he
    · rename_i r rs h1 h2
      injection he with he
      subst he
      obtain ⟨e1, e2⟩ := ih _ _ h2
      refine ⟨by simp [e1], fun i hi => ?_⟩
      cases i with
      | zero => exact ⟨r, rfl, by simpa using h1⟩
      | succ i =>
        obtain ⟨q, hq, hs⟩ := e2 i (by omega)
        refine ⟨q, by simpa using hq, ?_⟩
        have : off + (i + 1) = off + 1 + i := by omega
        rw [this]
        exact hs
    · cases he

/-- The cells of a run of an array's cells. -/
theorem rows_cells {ob : Obs} {cs : List LV} {xs : List Value} (hp : PW (LVR β ob h) cs xs) {sz off len : Nat} {rows : List (List IV)} (he : rowsAt cs sz off len = some rows) (hl : (off + len) * sz ≤ cs.length) :
    rows.length = len ∧ (∀ (i : Nat) (r : List IV), rows[i]? = some r → r.length = sz) ∧
    ∀ (i : Nat) (r : List IV) (j : Nat) (x : IV), rows[i]? = some r → r[j]? = some x → ∃ u, xs[off * sz + (i * sz + j)]? = some u ∧ IVR h x u := by
  obtain ⟨e1, e2⟩ := rowsAt_spec len off rows he
  have key : ∀ (i : Nat) (r : List IV), rows[i]? = some r → i < len ∧ stripAll ((cs.drop ((off + i) * sz)).take sz) = some r := fun i r hi => by
    have hil : i < len := by rw [← e1]; exact (List.getElem?_eq_some_iff.1 hi).1
    obtain ⟨q, hq, hs⟩ := e2 i hil
    rw [hi] at hq
    injection hq with hq
    subst hq
    exact ⟨hil, hs⟩
  have big : ∀ i, i < len → (off + i) * sz + sz ≤ cs.length := fun i hi => by
    have : (off + i + 1) * sz ≤ (off + len) * sz := Nat.mul_le_mul_right _ (by omega)
    rw [Nat.add_mul (off + i) 1] at this
    omega
  refine ⟨e1, fun i r hi => ?_, fun i r j x hi hj => ?_⟩
  · obtain ⟨hil, hs⟩ := key i r hi
    have := big i hil
    rw [stripAll_length hs, List.length_take, List.length_drop]
    omega
  · obtain ⟨hil, hs⟩ := key i r hi
    have hpw := stripAll_R ((hp.drop ((off + i) * sz)).take sz) hs
    obtain ⟨u, hu, hr⟩ := hpw.get hj
    refine ⟨u, ?_, hr⟩
    rw [List.getElem?_take] at hu
    split at hu
    · rw [List.getElem?_drop] at hu
      rw [← hu]
      congr 1
      rw [Nat.add_mul]
      omega
    · cases hu

/-- The rows that the abstract run reads of a slice, arrays of its own too. -/
theorem RelAt.rows1 (k : RelAt S w0 h0 st a w β h) {l : LV} {x : Value} (kl : LVR β st.ob h l x) {ob' : Obs} (hob : ∀ i o, ob' i = some o → st.ob i = some o) {rows : List (List IV)} (he : rowsOf ob' l = some rows) :
    ∃ A n c, x = .slice A n c ∧ n ≤ c ∧ c ≤ maxLen ∧ rows.length = n ∧ ∀ sz, (∀ (i : Nat) (r : List IV), rows[i]? = some r → r.length = sz) → RowsR w h A n rows sz := by
  by_cases hms : ∃ id ver sz off len, l = .ms id ver sz off len
  · obtain ⟨id, ver, sz, off, len, rfl⟩ := hms
    simp only [rowsOf] at he
    split at he
    · rename_i ct ver' cs ho
      split at he
      · rename_i hc
        obtain ⟨rfl, _, hl⟩ := hc
        have ho := hob _ _ ho
        cases kl with
        | ms id ver sz off len A c ty v cs' hc hm hob2 hle hat =>
          rw [ho] at hob2
          injection hob2 with e
          injection e with e1 e2 e3
          subst e1; subst e2; subst e3
          obtain ⟨q1, _⟩ := rowsAt_spec len off rows he
          refine ⟨A, len, c, rfl, hc, hm, q1, fun sz' hr' => ⟨q1, hr', fun hpos => ?_⟩⟩
          rcases hat (.inl hpos) with ⟨b, rfl, hq⟩ | ⟨_, hz, _⟩
          · obtain ⟨kk, hb, _⟩ := hq rfl
            obtain ⟨vs, hw, hvm, hlen, hp, _⟩ := k.cells ho hb
            obtain ⟨_, r2, r3⟩ := rows_cells hp he hl
            refine ⟨b, off * sz, rfl, fun i r j x hi hj => ?_⟩
            have es : sz' = sz := by rw [← hr' i r hi, r2 i r hi]
            subst es
            obtain ⟨u, hu, hr⟩ := r3 i r j x hi hj
            refine ⟨u, ?_, hr⟩
            rw [heap_cell hw]
            rw [List.getElem?_take] at hu
            split at hu
            · simpa using hu
            · cases hu
          · omega
      · cases he
    · cases he
  · have : rowsOf (fun _ => none) l = some rows := by
      cases l with
      | imm v => cases v <;> exact he
      | ms id ver sz off len => exact absurd ⟨_, _, _, _, _, rfl⟩ hms
      | _ => exact he
    obtain ⟨A, n, c, h1, h2, h3, h4, _, h5⟩ := kl.rows0 k.ext this
    exact ⟨A, n, c, h1, h2, h3, h4, h5⟩

theorem bytesOfRows_spec : ∀ {rows : List (List IV)} {bs : List UInt8}, bytesOfRows rows = some bs → ∃ ns : List Int, rows = ns.map (fun n => [.int .u8 n]) ∧ bs = ns.map fun n => UInt8.ofNat n.toNat := by
  intro rows
  induction rows with
  | nil => intro bs he; simp only [bytesOfRows] at he; injection he with he; subst he; exact ⟨[], rfl, rfl⟩
  | cons r rows ih =>
    intro bs he
    unfold bytesOfRows at he
    split at he
    · simp_all
    · rename_i n rest heq
      injection heq with e1 e2
      subst e1; subst e2
      cases hr : bytesOfRows rows with
      | none => rw [hr] at he; cases he
      | some cs =>
        rw [hr] at he
        injection he with he
        subst he
        obtain ⟨ns, q1, q2⟩ := ih hr
        exact ⟨n :: ns, by simp [q1], by simp [q2]⟩
    · cases he

theorem q_conv_str (hT : TOk P T) (k : RelAt S w0 h0 st a w β h) {x : Operand} {s d : Nat} (hop : o.op = .convert s d x) {z : ByteArray} {ts td : Ty} (hx : evalOp st.tmps x = some (.leaf (.imm (.str z)))) (hs : T s = some ts) (hd : T d = some td) (hks : ts.k = .str) (hk : td.k = .str) :
    Quiet P o a w β st.ob h (.leaf (.imm (.str z))) := by
  have e1 := (k.eval hx).str
  have hu := (hT d td hd).und
  rw [hk] at hu
  have hu : P.underlying d = some .string := hu
  have hv := (hT s ts hs).und
  rw [hks] at hv
  have hv : P.underlying s = some .string := hv
  refine ⟨_, ?_, .leaf _ _ (.imm _ _ (.str _))⟩
  simp [execOp, hop, e1, convert, run_underlying hu, run_underlying hv]

theorem q_conv_bytes (hT : TOk P T) (k : RelAt S w0 h0 st a w β h) {x : Operand} {s d e : Nat} (hop : o.op = .convert s d x) {l : LV} {ts td te : Ty} (hx : evalOp st.tmps x = some (.leaf l)) (hs : T s = some ts) (hd : T d = some td) (hks : ts.k = .slice e) (hk : td.k = .str)
    (hte : T e = some te) (hke : te.k = .int .u8) {ob' : Obs} (hob : ∀ i o, ob' i = some o → st.ob i = some o) {rows : List (List IV)} (hr : rowsOf ob' l = some rows) {bs : List UInt8} (hb : bytesOfRows rows = some bs) :
    Quiet P o a w β st.ob h (.leaf (.imm (.str ⟨bs.toArray⟩))) := by
  have el := (k.eval hx).lv
  have hu := (hT d td hd).und
  rw [hk] at hu
  have hu : P.underlying d = some .string := hu
  have hv := (hT s ts hs).und
  rw [hks] at hv
  have hv : P.underlying s = some (.slice e) := hv
  have hw := (hT e te hte).und
  rw [hke] at hw
  have hw : P.underlying e = some (.int .u8) := hw
  obtain ⟨A, n, c, hax, hnc, hcm, hlen, hrow⟩ := k.rows1 el hob hr
  obtain ⟨ns, e1, e2⟩ := bytesOfRows_spec hb
  have hone := hrow 1 (fun i r hi => by
    rw [e1, List.getElem?_map] at hi
    cases hn : ns[i]? with
    | none => rw [hn] at hi; cases hi
    | some m => rw [hn] at hi; injection hi with hi; subst hi; rfl)
  have hns : ns.length = n := by rw [← hlen, e1]; simp
  refine ⟨_, ?_, .leaf _ _ (.imm _ _ (.str _))⟩
  by_cases hn : n = 0
  · subst hn
    have : ns = [] := List.eq_nil_of_length_eq_zero hns
    subst this
    have hbs : bs = [] := by rw [e2]; rfl
    cases A with
    | none =>
      have hrun := run_convert_bytes_nil (P := P) w s e hv hw 0 c d hu
      rw [← hax] at hrun
      simp [execOp, hop, hrun, hbs]
      rfl
    | some ad =>
      have hrun : (convert s d (.slice (some ad) 0 c)).run P w = .ok (.string ByteArray.empty) w := by
        rw [run_convert_bytes_string w s d e _ 0 c hv hw hu, run_bytesToString w ad 0 c [] (by simp [loadCells, loadCellsFrom])]
        rfl
      rw [← hax] at hrun
      simp [execOp, hop, hrun, hbs]
      rfl
  · obtain ⟨q1, q2, q3⟩ := hone
    obtain ⟨b, p, rfl, hcell⟩ := q3 (by omega)
    have hrun := run_convert_bytes_arg (P := P) w s e hv hw b p n c ns hns (fun i hi => by
      have hil : i < ns.length := by omega
      have hri : rows[i]? = some [.int .u8 ns[i]] := by rw [e1, List.getElem?_map, List.getElem?_eq_getElem hil]; rfl
      obtain ⟨u, hcu, hiv⟩ := hcell i _ 0 _ hri rfl
      cases hiv
      simp only [Nat.mul_one, Nat.add_zero] at hcu
      rw [hcu]
      simp [List.getD, List.getElem?_eq_getElem hil]) d hu
    rw [← hax] at hrun
    have : (⟨bs.toArray⟩ : ByteArray) = strOfNums ns := by rw [e2]; rfl
    rw [this]
    simp [execOp, hop, hrun]

theorem eqLeaf_val {ob : Obs} {l m : LV} {b : Bool} {x y : Value} (he : eqLeaf l m = some b) (kx : LVR β ob h l x) (ky : LVR β ob h m y) :
    (∃ p q, x = .bool p ∧ y = .bool q ∧ b = (p == q)) ∨ (∃ q m n, x = .int q m ∧ y = .int q n ∧ b = (m == n)) ∨ ∃ p q, x = .string p ∧ y = .string q ∧ b = (p == q) := by
  unfold eqLeaf at he
  split at he
  · injection he with he
    cases kx with | imm v x k => cases k; cases ky with | imm v y k => cases k; exact .inl ⟨_, _, rfl, rfl, he.symm⟩
  · split at he
    · rename_i hk
      injection he with he
      subst hk
      cases kx with | imm v x k => cases k; cases ky with | imm v y k => cases k; exact .inr (.inl ⟨_, _, _, rfl, rfl, he.symm⟩)
    · cases he
  · injection he with he
    cases kx with | imm v x k => cases k; cases ky with | imm v y k => cases k; exact .inr (.inr ⟨_, _, rfl, rfl, he.symm⟩)
  · cases he

theorem eqGuard_leaf {op : BinOp} {t : Nat} {x y : Operand} {ob : Obs} {l m : LV} {u v : Value} (ku : LVR β ob h l u) (kv : LVR β ob h m v) (hl : l.solid = true) (hm : m.solid = true) : (eqGuard op t x y u v).run P w = .ok () w := by
  have h1 : u ≠ .nilIface ∧ ∀ xs, u ≠ .agg xs := by
    cases ku with
    | imm _ _ k => cases k <;> simp
    | ap _ _ _ _ _ _ k => cases k <;> simp
    | und => simp [LV.solid] at hl
    | dead => simp [LV.solid] at hl
    | _ => simp
  unfold eqGuard
  obtain ⟨n1, n2⟩ := h1
  cases op <;> simp <;> (cases u <;> simp_all)

/-- Shifts and arithmetic and comparisons of plain values. -/
theorem q_bin (k : RelAt S w0 h0 st a w β h) {op : BinOp} {t : Nat} {x y : Operand} {r : Nat} (hop : o.op = .binOp op t x y r) {u v z : AV} (hx : evalOp st.tmps x = some u) (hy : evalOp st.tmps y = some v) (he : binAV op u v = some z) : Quiet P o a w β st.ob h z := by
  have ex := k.eval hx
  have ey := k.eval hy
  have fin : ∀ {l m : LV} {p : Value}, u = .leaf l → v = .leaf m → l.solid = true → m.solid = true → (binOp op t (a.eval x) (a.eval y)).run P w = .ok p w → AVR β st.ob h z p → Quiet P o a w β st.ob h z := by
    intro l m p e1 e2 s1 s2 hr hz
    subst e1; subst e2
    have hg := eqGuard_leaf (P := P) (w := w) (op := op) (t := t) (x := x) (y := y) ex.lv ey.lv s1 s2
    exact ⟨p, by simp [execOp, hop, hg, hr], hz⟩
  unfold binAV at he
  split at he
  · have e1 := ex.int
    have e2 := ey.int
    rename_i _ _ q' _
    obtain ⟨p, hp, hz⟩ := shift_run (P := P) (w := w) (β := β) (h := h) (q' := q') .shl (.inl rfl) he
    exact fin rfl rfl rfl rfl (by rw [e1, e2]; exact hp) (hz _)
  · have e1 := ex.int
    have e2 := ey.int
    rename_i _ _ q' _
    obtain ⟨p, hp, hz⟩ := shift_run (P := P) (w := w) (β := β) (h := h) (q' := q') .shr (.inr rfl) he
    exact fin rfl rfl rfl rfl (by rw [e1, e2]; exact hp) (hz _)
  · rename_i q m q' n _ _
    split at he
    · rename_i hq
      subst hq
      have e1 := ex.int
      have e2 := ey.int
      obtain ⟨p, hp, hz⟩ := intBin_run (P := P) (w := w) (β := β) (h := h) _ (t := t) he
      exact fin rfl rfl rfl rfl (by rw [e1, e2]; exact hp) (hz _)
    · cases he
  · have e1 := ex.str
    have e2 := ey.str
    obtain ⟨p, hp, hz⟩ := strBin_run (P := P) (w := w) (β := β) (h := h) _ (t := t) he
    exact fin rfl rfl rfl rfl (by rw [e1, e2]; exact hp) (hz _)
  · cases he

theorem isNil_solid {l : LV} {b : Bool} (he : isNil l = some b) : l.solid = true := by
  cases l <;> first | rfl | simp [isNil] at he

/-- Comparisons for which the type is asked. -/
theorem q_cmp (hT : TOk P T) (k : RelAt S w0 h0 st a w β h) {op : BinOp} {t : Nat} {x y : Operand} {r : Nat} (hop : o.op = .binOp op t x y r) {u v z : AV} {ty : Ty} (hx : evalOp st.tmps x = some u) (hy : evalOp st.tmps y = some v) (ht : T t = some ty) (he : cmpAV ty op u v = some z) : Quiet P o a w β st.ob h z := by
  have ex := k.eval hx
  have ey := k.eval hy
  have hty := hT t ty ht
  have fin : ∀ {l m : LV} {p : Value}, u = .leaf l → v = .leaf m → l.solid = true → m.solid = true → (binOp op t (a.eval x) (a.eval y)).run P w = .ok p w → AVR β st.ob h z p → Quiet P o a w β st.ob h z := by
    intro l m p e1 e2 s1 s2 hr hz
    subst e1; subst e2
    have hg := eqGuard_leaf (P := P) (w := w) (op := op) (t := t) (x := x) (y := y) ex.lv ey.lv s1 s2
    exact ⟨p, by simp [execOp, hop, hg, hr], hz⟩
  unfold cmpAV at he
  split at he
  · split at he
    · rename_i hk
      injection he with he
      subst he
      have hu := hty.und
      rw [hk] at hu
      have hu : P.underlying t = some .bool := hu
      refine fin rfl rfl rfl rfl ?_ (boolR _)
      rw [ex.bool, ey.bool]
      have h1 := fun p q => run_equalIn_bool' (P := P) w 9999 t p q hu
      simp only [binOp, Op.equal, Op.maxDepth, Sem.run_bind, h1, Result.andThen_ok, Sem.run_pure]
    · cases he
  · split at he
    · rename_i hk
      injection he with he
      subst he
      have hu := hty.und
      rw [hk] at hu
      have hu : P.underlying t = some .bool := hu
      refine fin rfl rfl rfl rfl ?_ (boolR _)
      rw [ex.bool, ey.bool]
      have h1 := fun p q => run_equalIn_bool' (P := P) w 9999 t p q hu
      simp only [binOp, Op.equal, Op.maxDepth, Sem.run_bind, h1, Result.andThen_ok, Sem.run_pure]
    · cases he
  · split at he
    · rename_i e hk
      rename_i l _
      have hu := hty.und
      rw [hk] at hu
      cases hn : isNil l with
      | none => rw [hn] at he; cases he
      | some b =>
        rw [hn] at he
        injection he with he
        subst he
        exact fin rfl rfl (isNil_solid hn) rfl (nil_run (w := w) hu ex.lv ey.nilv hn).1 (boolR _)
    · cases he
  · split at he
    · rename_i e hk
      rename_i l _
      have hu := hty.und
      rw [hk] at hu
      cases hn : isNil l with
      | none => rw [hn] at he; cases he
      | some b =>
        rw [hn] at he
        injection he with he
        subst he
        exact fin rfl rfl (isNil_solid hn) rfl (nil_run (w := w) hu ex.lv ey.nilv hn).2.2.1 (boolR _)
    · cases he
  · split at he
    · rename_i heq
      rename_i ls ms
      cases hb : eqLeaves ls ms with
      | none => rw [hb] at he; cases he
      | some b =>
        rw [hb] at he
        injection he with he
        subst he
        generalize hax : a.eval x = p at ex
        generalize hay : a.eval y = q at ey
        cases ex with
        | agg ls xs kx =>
          cases ey with
          | agg ms ys ky =>
            rw [Bool.and_eq_true, Bool.and_eq_true] at heq
            obtain ⟨g1, g2⟩ := hty.eqs heq.1 w xs ys ls ms β st.ob h b kx ky heq.2.1 heq.2.2 hb
            refine ⟨.bool b, ?_, boolR _⟩
            simp only [execOp, hop, hax, hay, binOp, Op.equal, Op.maxDepth, Sem.run_bind, g1, g2, Result.andThen_ok, Sem.run_pure]
    · cases he
  · split at he
    · rename_i heq
      rename_i ls ms
      cases hb : eqLeaves ls ms with
      | none => rw [hb] at he; cases he
      | some b =>
        rw [hb] at he
        injection he with he
        subst he
        generalize hax : a.eval x = p at ex
        generalize hay : a.eval y = q at ey
        cases ex with
        | agg ls xs kx =>
          cases ey with
          | agg ms ys ky =>
            rw [Bool.and_eq_true, Bool.and_eq_true] at heq
            obtain ⟨g1, g2⟩ := hty.eqs heq.1 w xs ys ls ms β st.ob h b kx ky heq.2.1 heq.2.2 hb
            refine ⟨.bool !b, ?_, boolR _⟩
            simp only [execOp, hop, hax, hay, binOp, Op.equal, Op.maxDepth, Sem.run_bind, g1, g2, Result.andThen_ok, Sem.run_pure]
    · cases he
  · cases he

end
end Go.Ai
