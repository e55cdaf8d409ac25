/- Ai, part 21: a table of types is checked by computing. No condition. -/
import Derived.Test.YtbpnlbadgnjmaaaAiEq
namespace Go.Ai
set_option linter.unusedSimpArgs false
set_option linter.unusedVariables false
set_option linter.constructorNameAsVariable false

/-- Is the value what the leaf says? -/
def valIs : IV → Value → Bool
  | .bool a, .bool b => a == b
  | .int k n, .int k' m => decide (k = k') && decide (n = m)
  | .str a, .string b => decide (a.data.toList = b.data.toList)
  | .nil, .slice none 0 0 => true
  | .nilf, .nilFunc => true
  | .nilp, .pointer none => true
  | _, _ => false

def valsAre : List IV → List Value → Bool
  | [], [] => true
  | v :: vs, x :: xs => valIs v x && valsAre vs xs
  | _, _ => false

theorem valIs_R {h : H} {v : IV} {x : Value} (k : valIs v x = true) : IVR h v x := by
  unfold valIs at k
  split at k
  · simp at k
    subst k; exact .bool _
  · simp at k
    obtain ⟨rfl, rfl⟩ := k
    exact .int _ _
  · rename_i a b
    have e : a = b := by
      have : a.data.toList = b.data.toList := by simpa using k
      cases a; cases b
      congr 1
      exact Array.ext' this
    subst e; exact .str _
  · exact .nil
  · exact .nilf
  · exact .nilp
  · cases k

theorem valsAre_R {h : H} : ∀ {vs : List IV} {xs : List Value}, valsAre vs xs = true → PW (IVR h) vs xs := by
  intro vs
  induction vs with
  | nil =>
    intro xs k
    cases xs with
    | nil => exact PW.nil
    | cons x xs => simp [valsAre] at k
  | cons v vs ih =>
    intro xs k
    cases xs with
    | nil => simp [valsAre] at k
    | cons x xs =>
      simp only [valsAre, Bool.and_eq_true] at k
      exact PW.cons (valIs_R k.1) (ih k.2)

def undCheck (P : Program) (t : Nat) (k : TK) : Bool :=
  match k, P.underlying t with
  | .int k, some (.int k') => decide (k = k')
  | .bool, some .bool => true
  | .str, some .string => true
  | .slice e, some (.slice e') => decide (e = e')
  | .ptr, some (.pointer _) => true
  | .struct fs, some (.struct F) => decide (F.toList.map (fun f => (f.offset, f.type)) = fs) && F.toList.all fun f => (P.info? f.type).isSome
  | .array n e, some (.array n' e') => decide (n = n') && decide (e = e')
  | .other, some (.struct _) => false
  | .other, some (.array _ _) => false
  | .other, some _ => true
  | _, _ => false

theorem undCheck_ok {P : Program} {t : Nat} {k : TK} (h : undCheck P t k = true) : undOk P t k := by
  unfold undCheck at h
  split at h
  · rename_i hu
    simp at h
    subst h; exact hu
  · rename_i hu; exact hu
  · rename_i hu; exact hu
  · rename_i hu
    simp at h
    subst h; exact hu
  · rename_i hu; exact ⟨_, hu⟩
  · rename_i hu
    rw [Bool.and_eq_true] at h
    exact ⟨_, hu, by simpa using h.1, fun f hf => List.all_eq_true.1 h.2 f hf⟩
  · rename_i hu
    simp at h
    obtain ⟨rfl, rfl⟩ := h
    exact hu
  · cases h
  · cases h
  · rename_i d h1 h2 hu
    refine ⟨d, hu, ?_⟩
    cases d <;> first | trivial | exact (h1 _ rfl) | exact (h2 _ _ rfl)
  · cases h

def tyCheck (P : Program) (t : Nat) (ty : Ty) : Bool :=
  (!ty.eq || eqCheck P t ty.zero) && undCheck P t ty.k && match P.info? t with
    | some i => decide (i.size = ty.size) && decide (i.bytes = ty.bytes) && (match i.zero with
      | some z => valsAre ty.zero z.cells.toList && decide (z.cells.size = ty.size)
      | none => false)
    | none => false

theorem tyCheck_ok {P : Program} {t : Nat} {ty : Ty} (h : tyCheck P t ty = true) : TyOk P t ty := by
  unfold tyCheck at h
  simp only [Bool.and_eq_true] at h
  obtain ⟨⟨h1, h2⟩, h3⟩ := h
  refine ⟨?_, undCheck_ok h2, fun e => eqCheck_ok (by rw [e] at h1; simpa using h1)⟩
  split at h3
  · rename_i i hi
    simp only [Bool.and_eq_true, decide_eq_true_eq] at h3
    obtain ⟨⟨h4, h5⟩, h6⟩ := h3
    split at h6
    · rename_i z hz
      simp only [Bool.and_eq_true, decide_eq_true_eq] at h6
      exact ⟨i, z, hi, h4, h5, hz, valsAre_R h6.1, h6.2⟩
    · cases h6
  · cases h3

end Go.Ai
