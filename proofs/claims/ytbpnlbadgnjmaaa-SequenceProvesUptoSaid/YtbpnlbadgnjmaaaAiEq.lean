/- Ai, part 20b: equality of structs and arrays of plain leaves. No condition. -/
import Derived.Test.YtbpnlbadgnjmaaaAiFun
import Derived.DeepKeys
namespace Go.Ai
set_option linter.unusedSimpArgs false
set_option linter.unusedVariables false
set_option linter.constructorNameAsVariable false

theorem like_len : ∀ {z : List IV} {ls : List LV}, likeAll z ls = true → z.length = ls.length := by
  intro z
  induction z with
  | nil => intro ls h; cases ls with
    | nil => rfl
    | cons l ls => simp [likeAll] at h
  | cons v z ih => intro ls h; cases ls with
    | nil => simp [likeAll] at h
    | cons l ls => simp only [likeAll, Bool.and_eq_true] at h; simp [ih h.2]
theorem like_take : ∀ {z : List IV} {ls : List LV}, likeAll z ls = true → ∀ n, likeAll (z.take n) (ls.take n) = true := by
  intro z
  induction z with
  | nil => intro ls h n; cases ls with
    | nil => simp [likeAll]
    | cons l ls => simp [likeAll] at h
  | cons v z ih => intro ls h n; cases ls with
    | nil => simp [likeAll] at h
    | cons l ls =>
      simp only [likeAll, Bool.and_eq_true] at h
      cases n with
      | zero => simp [likeAll]
      | succ n => simp only [List.take_succ_cons, likeAll, Bool.and_eq_true]; exact ⟨h.1, ih h.2 n⟩
theorem like_drop : ∀ {z : List IV} {ls : List LV}, likeAll z ls = true → ∀ n, likeAll (z.drop n) (ls.drop n) = true := by
  intro z
  induction z with
  | nil => intro ls h n; cases ls with
    | nil => simp [likeAll]
    | cons l ls => simp [likeAll] at h
  | cons v z ih => intro ls h n; cases ls with
    | nil => simp [likeAll] at h
    | cons l ls =>
      cases n with
      | zero => exact h
      | succ n =>
        simp only [likeAll, Bool.and_eq_true] at h
        simp only [List.drop_succ_cons]; exact ih h.2 n
theorem like_eq : ∀ {z : List IV} {ls ms : List LV}, likeAll z ls = true → likeAll z ms = true → ∃ b, eqLeaves ls ms = some b := by
  intro z
  induction z with
  | nil => intro ls ms h k; cases ls <;> cases ms <;> simp [likeAll] at h k ⊢; exact .inr rfl
  | cons v z ih => intro ls ms h k; cases ls with
    | nil => simp [likeAll] at h
    | cons l ls => cases ms with
      | nil => simp [likeAll] at k
      | cons m ms =>
        simp only [likeAll, Bool.and_eq_true] at h k
        obtain ⟨b, hb⟩ := ih h.2 k.2
        have : ∃ c, eqLeaf l m = some c := by
          cases v <;> cases l <;> (try (simp [likeLV] at h; done)) <;> rename_i x <;> cases x <;> (try (simp [likeLV] at h; done)) <;> cases m <;> (try (simp [likeLV] at k; done)) <;> rename_i y <;> cases y <;> (try (simp [likeLV] at k; done))
          · exact ⟨_, rfl⟩
          · simp only [likeLV, decide_eq_true_eq] at h k
            simp only [eqLeaf]
            rw [← h.1, ← k.1, if_pos rfl]
            exact ⟨_, rfl⟩
          · exact ⟨_, rfl⟩
        obtain ⟨c, hc⟩ := this
        exact ⟨c && b, by simp only [eqLeaves, hc, hb]⟩
theorem eqLeaves_append : ∀ {a b c d : List LV} {x y : Bool}, eqLeaves a b = some x → eqLeaves c d = some y → eqLeaves (a ++ c) (b ++ d) = some (x && y) := by
  intro a
  induction a with
  | nil => intro b c d x y h k; cases b with
    | nil => simp only [eqLeaves] at h; injection h with h; subst h; simpa using k
    | cons m b => simp [eqLeaves] at h
  | cons l a ih => intro b c d x y h k; cases b with
    | nil => simp [eqLeaves] at h
    | cons m b =>
      simp only [eqLeaves] at h
      split at h
      · rename_i p q hp hq
        injection h with h
        subst h
        simp only [List.cons_append, eqLeaves, hp, ih hq k, Bool.and_assoc]
      · cases h

def eqZf (P : Program) (g : TypeId → Option (List IV)) : Nat → List Field → Option (List IV)
  | _, [] => some []
  | o, f :: fs => if f.name ≠ "_" ∧ f.offset = o then (match g f.type with
    | some z => if P.cellsOf f.type = z.length then (eqZf P g (o + z.length) fs).map (z ++ ·) else none
    | none => none) else none
/-- The plain leaves of a type. -/
def eqZ (P : Program) : Nat → TypeId → Option (List IV)
  | 0, _ => none
  | m + 1, t => match P.underlying t with
    | some .bool => some [.bool false]
    | some (.int k) => some [.int k 0]
    | some .string => some [.str ⟨#[]⟩]
    | some (.array n e) => (match eqZ P m e with
      | some z => if P.cellsOf e = z.length then some (List.replicate n z).flatten else none
      | none => none)
    | some (.struct fs) => if P.stoodInHeld t = false then eqZf P (eqZ P m) 0 fs.toList else none
    | _ => none

def valOf (P : Program) (t : TypeId) (xs : List Value) : Value := match P.underlying t with
  | some (.array _ _) => .agg xs.toArray
  | some (.struct _) => .agg xs.toArray
  | _ => xs.headD undef

section
variable {P : Program} {β : Beta} {ob : Obs} {h : H}

theorem like_one {v : IV} {ls : List LV} (h : likeAll [v] ls = true) : ∃ l, ls = [l] ∧ likeLV v l = true := by
  cases ls with
  | nil => simp [likeAll] at h
  | cons l ls => cases ls with
    | nil => simp only [likeAll, Bool.and_true] at h; exact ⟨l, rfl, h⟩
    | cons m ls => simp [likeAll] at h

theorem part_of {m : Nat} {e : TypeId} {z : List IV} (hz : eqZ P m e = some z) (hc : P.cellsOf e = z.length) (w : World) {XS : Array Value} {off : Nat} {ls : List LV} (hl : likeAll z ls = true) (hp : PW (LVR β ob h) ls ((XS.toList.drop off).take z.length)) :
    (part e XS off).run P w = .ok (valOf P e ((XS.toList.drop off).take z.length)) w := by
  cases m with
  | zero => simp [eqZ] at hz
  | succ m =>
    have plain : P.plainKey e = true → z.length = 1 → ((∀ n e', P.underlying e ≠ some (.array n e')) ∧ ∀ fs, P.underlying e ≠ some (.struct fs)) → (part e XS off).run P w = .ok (valOf P e ((XS.toList.drop off).take z.length)) w := by
      intro hk h1 hna
      have hlen : ((XS.toList.drop off).take z.length).length = 1 := by rw [← hp.1, ← like_len hl, h1]
      obtain ⟨x, hx⟩ := List.length_eq_one_iff.1 hlen
      have hx0 : XS[off]? = some x := by
        have : ((XS.toList.drop off).take z.length)[0]? = some x := by rw [hx]; rfl
        rw [List.getElem?_take, if_pos (by omega), List.getElem?_drop] at this
        simpa using this
      rw [run_part_plain w hk hx0, hx]
      unfold valOf
      split
      · rename_i hu; exact absurd hu (hna.1 _ _)
      · rename_i hu; exact absurd hu (hna.2 _)
      · rfl
    cases hu : P.underlying e with
    | none => simp [eqZ, hu] at hz
    | some kd =>
      obtain ⟨i, hi⟩ := info_of_underlying hu
      have ext : XS.extract off (off + P.cellsOf e) = ((XS.toList.drop off).take z.length).toArray := by
        apply Array.toList_inj.1
        rw [Array.toList_extract, hc]
        simp [List.extract]
      cases kd
      case bool => exact plain (by simp [Program.plainKey, hu]) (by simp [eqZ, hu] at hz; rw [← hz]; rfl) (by simp [hu])
      case int q => exact plain (by simp [Program.plainKey, hu]) (by simp [eqZ, hu] at hz; rw [← hz]; rfl) (by simp [hu])
      case string => exact plain (by simp [Program.plainKey, hu]) (by simp [eqZ, hu] at hz; rw [← hz]; rfl) (by simp [hu])
      case array n e' =>
        have : valOf P e ((XS.toList.drop off).take z.length) = .agg (XS.extract off (off + P.cellsOf e)) := by unfold valOf; rw [hu, ext]
        rw [this]
        simp [part, isAgg, run_underlying hu, run_sizeOf w hi]
      case struct fs =>
        have : valOf P e ((XS.toList.drop off).take z.length) = .agg (XS.extract off (off + P.cellsOf e)) := by unfold valOf; rw [hu, ext]
        rw [this]
        simp [part, isAgg, run_underlying hu, run_sizeOf w hi]
      all_goals (simp [eqZ, hu] at hz; done)

/-- What equality of a type's values answers. -/
def EqV (P : Program) (β : Beta) (ob : Obs) (h : H) (dd : Nat) (t : TypeId) (z : List IV) : Prop := ∀ (w : World) (xs ys : List Value) (ls ms : List LV) (b : Bool), PW (LVR β ob h) ls xs → PW (LVR β ob h) ms ys → likeAll z ls = true → likeAll z ms = true → eqLeaves ls ms = some b →
  (Op.equalIn dd t (valOf P t xs) (valOf P t ys)).run P w = .ok b w

theorem chunk {α : Type} (l : List α) (s c k : Nat) : (l.drop (s * c)).take ((k + 1) * c) = (l.drop (s * c)).take c ++ (l.drop ((s + 1) * c)).take (k * c) := by
  have e : (k + 1) * c = c + k * c := by rw [Nat.add_mul, Nat.one_mul, Nat.add_comm]
  have e2 : (s + 1) * c = s * c + c := by rw [Nat.add_mul, Nat.one_mul]
  rw [e, e2, ← List.drop_drop, List.take_add]

theorem items_run {dd : Nat} {e : TypeId} {m : Nat} {z : List IV} (hz : eqZ P m e = some z) (hc : P.cellsOf e = z.length) (ih : EqV P β ob h dd e z) (w : World) {XS YS : Array Value} {ls ms : List LV} (hx : PW (LVR β ob h) ls XS.toList) (hy : PW (LVR β ob h) ms YS.toList) :
    ∀ (k s : Nat), (∀ i, s ≤ i → i < s + k → likeAll z ((ls.drop (i * z.length)).take z.length) = true ∧ likeAll z ((ms.drop (i * z.length)).take z.length) = true) → ∀ b, eqLeaves ((ls.drop (s * z.length)).take (k * z.length)) ((ms.drop (s * z.length)).take (k * z.length)) = some b →
    (Op.eqItems dd e (P.cellsOf e) XS YS (List.range' s k)).run P w = .ok b w := by
  intro k
  induction k with
  | zero => intro s _ b hb; simp [eqLeaves] at hb; subst hb; simp [Op.eqItems]
  | succ k ihk =>
    intro s hlk b hb
    obtain ⟨l1, l2⟩ := hlk s (Nat.le_refl _) (by omega)
    obtain ⟨b1, hb1⟩ := like_eq l1 l2
    have hex : ∃ b2, eqLeaves ((ls.drop ((s + 1) * z.length)).take (k * z.length)) ((ms.drop ((s + 1) * z.length)).take (k * z.length)) = some b2 := by
      have all : ∀ k s, (∀ i, s ≤ i → i < s + k → likeAll z ((ls.drop (i * z.length)).take z.length) = true ∧ likeAll z ((ms.drop (i * z.length)).take z.length) = true) → ∃ b2, eqLeaves ((ls.drop (s * z.length)).take (k * z.length)) ((ms.drop (s * z.length)).take (k * z.length)) = some b2 := by
        intro k
        induction k with
        | zero => intro s _; exact ⟨true, by simp [eqLeaves]⟩
        | succ k ihk =>
          intro s hlk
          obtain ⟨l1, l2⟩ := hlk s (Nat.le_refl _) (by omega)
          obtain ⟨b1, hb1⟩ := like_eq l1 l2
          obtain ⟨b2, hb2⟩ := ihk (s + 1) fun i h1 h2 => hlk i (by omega) (by omega)
          exact ⟨b1 && b2, by rw [chunk, chunk]; exact eqLeaves_append hb1 hb2⟩
      exact all k (s + 1) fun i h1 h2 => hlk i (by omega) (by omega)
    obtain ⟨b2, hb2⟩ := hex
    rw [chunk, chunk, eqLeaves_append hb1 hb2] at hb
    injection hb with hb
    subst hb
    have px : PW (LVR β ob h) ((ls.drop (s * z.length)).take z.length) ((XS.toList.drop (s * z.length)).take z.length) := (hx.drop _).take _
    have py : PW (LVR β ob h) ((ms.drop (s * z.length)).take z.length) ((YS.toList.drop (s * z.length)).take z.length) := (hy.drop _).take _
    have p1 := part_of hz hc w (XS := XS) (off := s * z.length) l1 px
    have p2 := part_of hz hc w (XS := YS) (off := s * z.length) l2 py
    have p3 := ih w _ _ _ _ b1 px py l1 l2 hb1
    rw [List.range'_succ]
    simp only [Op.eqItems, Sem.run_bind, hc, p1, p2, p3, Result.andThen_ok]
    cases b1 with
    | false => simp
    | true =>
      simp only [Bool.not_true, Bool.false_eq_true, if_false, Bool.true_and]
      have := ihk (s + 1) (fun i h1 h2 => hlk i (by omega) (by omega)) b2 hb2
      rw [hc] at this
      exact this

theorem fields_run {dd m : Nat} (ih : ∀ t z, eqZ P m t = some z → EqV P β ob h dd t z) (w : World) {XS YS : Array Value} {ls ms : List LV} (hx : PW (LVR β ob h) ls XS.toList) (hy : PW (LVR β ob h) ms YS.toList) :
    ∀ (fs : List Field) (o : Nat) (zz : List IV), eqZf P (eqZ P m) o fs = some zz → likeAll zz (ls.drop o) = true → likeAll zz (ms.drop o) = true → ∀ b, eqLeaves (ls.drop o) (ms.drop o) = some b → (Op.eqFields dd XS YS fs).run P w = .ok b w := by
  intro fs
  induction fs with
  | nil =>
    intro o zz hz h1 h2 b hb
    simp only [eqZf] at hz
    injection hz with hz
    subst hz
    have e1 := like_len h1
    have e2 := like_len h2
    rw [List.eq_nil_of_length_eq_zero e1.symm, List.eq_nil_of_length_eq_zero e2.symm] at hb
    simp [eqLeaves] at hb
    subst hb
    simp [Op.eqFields]
  | cons f fs ihf =>
    intro o zz hz h1 h2 b hb
    simp only [eqZf] at hz
    split at hz
    · rename_i hn
      obtain ⟨hn, ho⟩ := hn
      split at hz
      · rename_i z hzf
        split at hz
        · rename_i hc
          obtain ⟨zr, hzr, rfl⟩ := Option.map_eq_some_iff.1 hz
          have a1 : likeAll z ((ls.drop o).take z.length) = true := by have := like_take h1 z.length; rwa [List.take_append_of_le_length (Nat.le_refl _), List.take_of_length_le (Nat.le_refl _)] at this
          have a2 : likeAll z ((ms.drop o).take z.length) = true := by have := like_take h2 z.length; rwa [List.take_append_of_le_length (Nat.le_refl _), List.take_of_length_le (Nat.le_refl _)] at this
          have c1 : likeAll zr (ls.drop (o + z.length)) = true := by have := like_drop h1 z.length; rw [List.drop_append_of_le_length (Nat.le_refl _), List.drop_of_length_le (Nat.le_refl _), List.nil_append, List.drop_drop] at this; exact this
          have c2 : likeAll zr (ms.drop (o + z.length)) = true := by have := like_drop h2 z.length; rw [List.drop_append_of_le_length (Nat.le_refl _), List.drop_of_length_le (Nat.le_refl _), List.nil_append, List.drop_drop] at this; exact this
          obtain ⟨b1, hb1⟩ := like_eq a1 a2
          obtain ⟨b2, hb2⟩ := like_eq c1 c2
          have hbb : b = (b1 && b2) := by
            have := eqLeaves_append hb1 hb2
            rw [← List.drop_drop, ← List.drop_drop, List.take_append_drop, List.take_append_drop, hb] at this
            injection this
          have px : PW (LVR β ob h) ((ls.drop o).take z.length) ((XS.toList.drop o).take z.length) := (hx.drop _).take _
          have py : PW (LVR β ob h) ((ms.drop o).take z.length) ((YS.toList.drop o).take z.length) := (hy.drop _).take _
          have p1 := part_of hzf hc w (XS := XS) (off := o) a1 px
          have p2 := part_of hzf hc w (XS := YS) (off := o) a2 py
          have p3 := ih _ _ hzf w _ _ _ _ b1 px py a1 a2 hb1
          subst hbb
          simp only [Op.eqFields, hn, ne_eq, not_false_eq_true, if_true, Sem.run_bind, ho, p1, p2, p3, Result.andThen_ok]
          cases b1 with
          | false => simp
          | true =>
            simp only [Bool.not_true, Bool.false_eq_true, if_false, Bool.true_and]
            exact ihf (o + z.length) zr hzr c1 c2 b2 hb2
        · cases hz
      · cases hz
    · cases hz

theorem eqV_of (d : Nat) : ∀ (m : Nat) (t : TypeId) (z : List IV), eqZ P m t = some z → EqV P β ob h (d + m) t z := by
  intro m
  induction m with
  | zero => intro t z hz; simp [eqZ] at hz
  | succ m ih =>
    intro t z hz w xs ys ls ms b hx hy h1 h2 hb
    cases hu : P.underlying t with
    | none => simp [eqZ, hu] at hz
    | some kd =>
      cases kd
      case bool =>
        simp [eqZ, hu] at hz
        subst hz
        obtain ⟨l, rfl, hl⟩ := like_one h1
        obtain ⟨l', rfl, hl'⟩ := like_one h2
        obtain ⟨x, rfl⟩ := List.length_eq_one_iff.1 (show xs.length = 1 by rw [← hx.1]; rfl)
        obtain ⟨y, rfl⟩ := List.length_eq_one_iff.1 (show ys.length = 1 by rw [← hy.1]; rfl)
        cases hx.head with
        | imm v x kx => cases hy.head with
          | imm v' y ky => cases kx <;> (try (simp [likeLV] at hl; done)) <;> cases ky <;> (try (simp [likeLV] at hl'; done))
                           simp [eqLeaves, eqLeaf] at hb
                           subst hb
                           simp [valOf, hu, ← Nat.add_assoc, Op.equalIn, run_underlying hu]
          | _ => simp [likeLV] at hl'
        | _ => simp [likeLV] at hl
      case int q =>
        simp [eqZ, hu] at hz
        subst hz
        obtain ⟨l, rfl, hl⟩ := like_one h1
        obtain ⟨l', rfl, hl'⟩ := like_one h2
        obtain ⟨x, rfl⟩ := List.length_eq_one_iff.1 (show xs.length = 1 by rw [← hx.1]; rfl)
        obtain ⟨y, rfl⟩ := List.length_eq_one_iff.1 (show ys.length = 1 by rw [← hy.1]; rfl)
        cases hx.head with
        | imm v x kx => cases hy.head with
          | imm v' y ky => cases kx <;> (try (simp [likeLV] at hl; done)) <;> cases ky <;> (try (simp [likeLV] at hl'; done))
                           simp only [likeLV, decide_eq_true_eq] at hl hl'
                           subst hl; subst hl'
                           simp [eqLeaves, eqLeaf] at hb
                           subst hb
                           simp [valOf, hu, ← Nat.add_assoc, Op.equalIn, run_underlying hu]
          | _ => simp [likeLV] at hl'
        | _ => simp [likeLV] at hl
      case string =>
        simp [eqZ, hu] at hz
        subst hz
        obtain ⟨l, rfl, hl⟩ := like_one h1
        obtain ⟨l', rfl, hl'⟩ := like_one h2
        obtain ⟨x, rfl⟩ := List.length_eq_one_iff.1 (show xs.length = 1 by rw [← hx.1]; rfl)
        obtain ⟨y, rfl⟩ := List.length_eq_one_iff.1 (show ys.length = 1 by rw [← hy.1]; rfl)
        cases hx.head with
        | imm v x kx => cases hy.head with
          | imm v' y ky => cases kx <;> (try (simp [likeLV] at hl; done)) <;> cases ky <;> (try (simp [likeLV] at hl'; done))
                           simp [eqLeaves, eqLeaf] at hb
                           subst hb
                           simp [valOf, hu, ← Nat.add_assoc, Op.equalIn, run_underlying hu]
          | _ => simp [likeLV] at hl'
        | _ => simp [likeLV] at hl
      case array n e =>
        simp only [eqZ, hu] at hz
        split at hz
        · rename_i z1 hz1
          split at hz
          · rename_i hc
            injection hz with hz
            subst hz
            obtain ⟨i, hi⟩ : ∃ i, P.info? e = some i := by
              cases m with
              | zero => simp [eqZ] at hz1
              | succ m => cases hue : P.underlying e with
                | none => simp [eqZ, hue] at hz1
                | some _ => exact info_of_underlying hue
            have e1 : valOf P t xs = .agg xs.toArray := by unfold valOf; rw [hu]
            have e2 : valOf P t ys = .agg ys.toArray := by unfold valOf; rw [hu]
            rw [e1, e2, ← Nat.add_assoc, run_equalIn_array w (d + m) xs.toArray ys.toArray hu hi]
            rw [List.range_eq_range']
            have hrep : ∀ (n i : Nat), i < n → ((List.replicate n z1).flatten.drop (i * z1.length)).take z1.length = z1 := by
              intro n
              induction n with
              | zero => intro i h; omega
              | succ n ihn =>
                intro i hin
                rw [List.replicate_succ, List.flatten_cons]
                cases i with
                | zero => simp
                | succ i => rw [Nat.add_mul, Nat.one_mul, Nat.add_comm, ← List.drop_drop, List.drop_left]; exact ihn i (by omega)
            have hlen : (List.replicate n z1).flatten.length = n * z1.length := by simp
            refine items_run hz1 hc (ih e z1 hz1) w (XS := xs.toArray) (YS := ys.toArray) (by simpa using hx) (by simpa using hy) n 0 (fun i _ hin => ?_) b ?_
            · have g1 := like_take (like_drop h1 (i * z1.length)) z1.length
              have g2 := like_take (like_drop h2 (i * z1.length)) z1.length
              rw [hrep n i (by omega)] at g1 g2
              exact ⟨g1, g2⟩
            · have g1 := like_len h1
              have g2 := like_len h2
              rw [Nat.zero_mul, List.drop_zero, List.drop_zero, List.take_of_length_le (by omega), List.take_of_length_le (by omega)]
              exact hb
          · cases hz
        · cases hz
      case struct fs =>
        simp only [eqZ, hu] at hz
        split at hz
        · rename_i hst
          have e1 : valOf P t xs = .agg xs.toArray := by unfold valOf; rw [hu]
          have e2 : valOf P t ys = .agg ys.toArray := by unfold valOf; rw [hu]
          have hfs : P.fieldsOf t = fs := by simp [Program.fieldsOf, hu]
          rw [e1, e2, ← Nat.add_assoc, run_equalIn_struct w (d + m) t xs.toArray ys.toArray (by rw [hfs]; exact hu) hst, hfs]
          exact fields_run ih w (XS := xs.toArray) (YS := ys.toArray) (by simpa using hx) (by simpa using hy) fs.toList 0 z hz (by simpa using h1) (by simpa using h2) b (by simpa using hb)
        · cases hz
      all_goals (simp [eqZ, hu] at hz; done)

/-- The computed check of a type that is compared. -/
def eqCheck (P : Program) (t : Nat) (zero : List IV) : Bool :=
  (match eqZ P 5 t with
    | some z => decide (z.length = zero.length) && (z.zip zero).all fun p => likeLV p.1 (.imm p.2)
    | none => false) && !P.eqGuardType P.depth t && (match P.underlying t with
    | some (.array _ _) => true
    | some (.struct _) => true
    | _ => false)

theorem like_swap : ∀ {z zero : List IV}, z.length = zero.length → ((z.zip zero).all fun p => likeLV p.1 (.imm p.2)) = true → ∀ {ls : List LV}, likeAll zero ls = true → likeAll z ls = true := by
  intro z
  induction z with
  | nil => intro zero hl _ ls h; cases zero with
    | nil => exact h
    | cons _ _ => simp at hl
  | cons v z ih => intro zero hl ha ls h; cases zero with
    | nil => simp at hl
    | cons u zero => cases ls with
      | nil => simp [likeAll] at h
      | cons l ls =>
        simp only [List.zip_cons_cons, List.all_cons, Bool.and_eq_true, likeAll] at ha h ⊢
        refine ⟨?_, ih (by simpa using hl) ha.2 h.2⟩
        have h1 := ha.1
        have h2 := h.1
        cases v <;> cases u <;> simp [likeLV] at h1 <;> cases l <;> simp [likeLV] at h2 <;> rename_i x <;> cases x <;> simp [likeLV] at h2 ⊢
        · rw [h1, h2]

theorem eqCheck_ok {t : Nat} {zero : List IV} (hc : eqCheck P t zero = true) : EqOk P t zero := by
  intro w xs ys ls ms β ob h b hx hy h1 h2 hb
  unfold eqCheck at hc
  rw [Bool.and_eq_true, Bool.and_eq_true] at hc
  obtain ⟨⟨hz, hg⟩, hu⟩ := hc
  split at hz
  · rename_i z hz5
    rw [Bool.and_eq_true, decide_eq_true_eq] at hz
    have hv : ∀ xs, valOf P t xs = .agg xs.toArray := fun xs => by
      unfold valOf
      split at hu
      · rfl
      · rfl
      · cases hu
    refine ⟨fun op x y => ?_, ?_⟩
    · have hg' : P.eqGuardType P.depth t = false := by simpa using hg
      cases op <;> simp [eqGuard, hg', run_program]
    · have := eqV_of (P := P) (β := β) (ob := ob) (h := h) 9995 5 t z hz5 w xs ys ls ms b hx hy (like_swap hz.1 hz.2 h1) (like_swap hz.1 hz.2 h2) hb
      rw [hv, hv] at this
      exact this
  · cases hz
end
end Go.Ai
