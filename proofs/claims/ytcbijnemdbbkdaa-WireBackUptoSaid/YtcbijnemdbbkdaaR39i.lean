/- The law WireInts over its arguments. Where sizes are at most 1048576. -/
import Derived.Test.YtcbijnemdbbkdaaR39g
import Derived.Test.YtcbijnemdbbkdaaR39h
namespace Go.Ai
theorem law3 (l0 : List AV) (hl : l0.length = 3) (h : ∀ (j : Nat) t a, [22, 3, 3][j]? = some t → l0[j]? = some a → ArgOk t a) : (seat o).fn 3 l0 = some (boolAV true) := by
  obtain ⟨a, b, c, rfl, ha, hb, hc⟩ := three_args hl h
  obtain ⟨bs, rfl, hbs⟩ := bytes_arg ha
  obtain ⟨n, rfl, hn⟩ := int_arg hb
  obtain ⟨p, rfl, hp⟩ := int_arg hc
  exact fn3 bs n p hbs hn
end Go.Ai
