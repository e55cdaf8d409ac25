/- Numbers as bytes: arithmetic. No condition. -/
import Derived.Test.YtcbijnemdbbkdaaAiSeat
namespace Go.Ai
set_option linter.unusedVariables false
set_option linter.unusedSimpArgs false
set_option maxRecDepth 100000

theorem shl1 (x : Int) : shiftBin .shl .u64 x 1 = some (intAV .u64 (IntKind.wrap .u64 (x * 2))) := rfl
theorem shr63 (x : Int) : shiftBin .shr .i64 x 63 = some (intAV .i64 (x.fdiv 9223372036854775808)) := rfl
theorem shr7 (x : Int) : shiftBin .shr .u64 x 7 = some (intAV .u64 (x.fdiv 128)) := rfl
theorem shr1 (x : Int) : shiftBin .shr .u64 x 1 = some (intAV .u64 (x.fdiv 2)) := rfl
theorem wrap_u64 (n : Int) : IntKind.wrap .u64 n = n % 18446744073709551616 := by simp [IntKind.wrap, IntKind.bits, IntKind.signed]
theorem wrap_u8 (n : Int) : IntKind.wrap .u8 n = n % 256 := by simp [IntKind.wrap, IntKind.bits, IntKind.signed]

/-- A number without a sign, of the same bits as the coding. -/
def zz (n : Int) : Nat := if 0 ≤ n then (2 * n).toNat else (-2 * n - 1).toNat
theorem zz_lt {n : Int} (h1 : -9223372036854775808 ≤ n) (h2 : n ≤ 9223372036854775807) : zz n < 18446744073709551616 := by
  unfold zz; split <;> omega

theorem ofInt_nat (w : Nat) (n : Nat) : BitVec.ofInt w (n : Int) = BitVec.ofNat w n := by
  apply BitVec.eq_of_toNat_eq
  simp [BitVec.toNat_ofInt, BitVec.toNat_ofNat]

theorem zig {n : Int} (h1 : -9223372036854775808 ≤ n) (h2 : n ≤ 9223372036854775807) : bitsOp .xor .u64 (IntKind.wrap .u64 (IntKind.wrap .u64 n * 2)) (IntKind.wrap .u64 (n.fdiv 9223372036854775808)) = some (zz n : Int) := by
  have hx : IntKind.wrap .u64 (IntKind.wrap .u64 n * 2) = (2 * n) % 18446744073709551616 := by rw [wrap_u64, wrap_u64]; omega
  have key : ∀ (a b : Nat), a < 18446744073709551616 → b < 18446744073709551616 → bitsOp .xor .u64 (a : Int) (b : Int) = some ((a ^^^ b : Nat) : Int) := by
    intro a b ha hb
    have e : bitsOp .xor .u64 (a : Int) (b : Int) = some (IntKind.wrap .u64 (((BitVec.ofInt 64 (a : Int)) ^^^ (BitVec.ofInt 64 (b : Int))).toNat : Int)) := rfl
    rw [e, ofInt_nat, ofInt_nat, BitVec.toNat_xor, BitVec.toNat_ofNat, BitVec.toNat_ofNat, Nat.mod_eq_of_lt ha, Nat.mod_eq_of_lt hb, wrap_u64]
    have := Nat.xor_lt_two_pow (x := a) (y := b) (n := 64) ha hb
    congr 1
    omega
  rw [hx]
  by_cases h : 0 ≤ n
  · have e1 : n.fdiv 9223372036854775808 = 0 := by rw [Int.fdiv_eq_ediv_of_nonneg _ (by omega)]; omega
    have e2 : (2 * n) % 18446744073709551616 = ((2 * n).toNat : Int) := by omega
    rw [e1, e2, wrap_u64, show ((0 : Int) % 18446744073709551616) = ((0 : Nat) : Int) from rfl, key _ 0 (by omega) (by omega)]
    simp [zz, h]
  · have e1 : n.fdiv 9223372036854775808 = -1 := by rw [Int.fdiv_eq_ediv_of_nonneg _ (by omega)]; omega
    have e2 : (2 * n) % 18446744073709551616 = ((18446744073709551616 + 2 * n).toNat : Int) := by omega
    rw [e1, e2, wrap_u64, show ((-1 : Int) % 18446744073709551616) = ((18446744073709551615 : Nat) : Int) from rfl, key _ _ (by omega) (by omega)]
    have hlt : (18446744073709551616 + 2 * n).toNat < 2 ^ 64 := by omega
    have h3 : (18446744073709551616 + 2 * n).toNat ^^^ 18446744073709551615 = 18446744073709551615 - (18446744073709551616 + 2 * n).toNat := by
      have h4 := BitVec.toNat_not (x := BitVec.ofNat 64 (18446744073709551616 + 2 * n).toNat)
      rw [← BitVec.xor_allOnes, BitVec.toNat_xor, BitVec.toNat_ofNat, BitVec.toNat_allOnes, Nat.mod_eq_of_lt hlt] at h4
      exact h4
    rw [h3]
    simp only [zz, h, if_false]
    congr 1
    omega

/-- The bytes of a number without a sign. -/
def uenc (u : Nat) : List UInt8 := if h : u < 128 then [UInt8.ofNat u] else UInt8.ofNat (u % 128 + 128) :: uenc (u / 128)
termination_by u
theorem uenc_lo {u : Nat} (h : u < 128) : uenc u = [UInt8.ofNat u] := by rw [uenc, dif_pos h]
theorem uenc_hi {u : Nat} (h : ¬ u < 128) : uenc u = UInt8.ofNat (u % 128 + 128) :: uenc (u / 128) := by rw [uenc, dif_neg h]
theorem uenc_len : ∀ (k u : Nat), u < 128 ^ (k + 1) → (uenc u).length ≤ k + 1 := by
  intro k
  induction k with
  | zero => intro u h; rw [uenc_lo (by simpa using h)]; simp
  | succ k ih =>
    intro u h
    by_cases h1 : u < 128
    · rw [uenc_lo h1]; simp
    · rw [uenc_hi h1, List.length_cons]
      have := ih (u / 128) (by rw [Nat.div_lt_iff_lt_mul (by omega)]; rw [Nat.pow_succ] at h; exact h)
      omega
theorem uenc_len' {u : Nat} (h : u < 18446744073709551616) : (uenc u).length ≤ 10 := uenc_len 9 u (by omega)

theorem low_byte (u : Nat) : IntKind.wrap .u8 (u : Int) = ((u % 256 : Nat) : Int) := by rw [wrap_u8]; omega
theorem or_all : ∀ x : Fin 256, x.val ||| 128 = x.val % 128 + 128 := by decide
theorem or128 (u : Nat) : bitsOp .or .u8 (IntKind.wrap .u8 (u : Int)) 128 = some (((UInt8.ofNat (u % 128 + 128)).toNat : Nat) : Int) := by
  rw [low_byte]
  have e : bitsOp .or .u8 ((u % 256 : Nat) : Int) 128 = some (IntKind.wrap .u8 (((BitVec.ofInt 8 ((u % 256 : Nat) : Int)) ||| (BitVec.ofInt 8 128)).toNat : Int)) := rfl
  rw [e, ofInt_nat, show (128 : Int) = ((128 : Nat) : Int) from rfl, ofInt_nat, BitVec.toNat_or, BitVec.toNat_ofNat, BitVec.toNat_ofNat]
  have h1 := or_all ⟨u % 256, Nat.mod_lt _ (by omega)⟩
  simp only at h1
  rw [show u % 256 % 2 ^ 8 = u % 256 by omega, show 128 % 2 ^ 8 = 128 by rfl, h1, wrap_u8, UInt8.toNat_ofNat']
  congr 1
  omega
theorem lo_byte {u : Nat} (h : u < 128) : IntKind.wrap .u8 (u : Int) = (((UInt8.ofNat u).toNat : Nat) : Int) := by
  rw [low_byte, UInt8.toNat_ofNat']
theorem fdiv_nat (u k : Nat) : (u : Int).fdiv (k : Int) = ((u / k : Nat) : Int) := by
  rw [Int.fdiv_eq_ediv_of_nonneg _ (by omega)]
  exact (Int.natCast_ediv u k).symm
theorem fdiv128 (u : Nat) : (u : Int).fdiv 128 = ((u / 128 : Nat) : Int) := fdiv_nat u 128
theorem rob_append (a b : List UInt8) : rowsOfBytes (a ++ b) = rowsOfBytes a ++ rowsOfBytes b := by simp [rowsOfBytes]
theorem rob_len (a : List UInt8) : (rowsOfBytes a).length = a.length := by simp [rowsOfBytes]
theorem rob_one (x : UInt8) : rowsOfBytes [x] = [[.int .u8 (x.toNat : Int)]] := rfl
theorem rob_nil : rowsOfBytes [] = [] := rfl
theorem rob_get (a : List UInt8) (i : Nat) : (rowsOfBytes a)[i]? = (a[i]?).map fun b => [.int .u8 (b.toNat : Int)] := by simp [rowsOfBytes]
theorem rob_all (l : List UInt8) : ((rowsOfBytes l).all fun r => r.length == 1) = true := by simp [rowsOfBytes]
theorem room_one {n : Nat} (h : n ≤ 1099511627776) : n * 1 ≤ room := by unfold room; omega
theorem room_one' {n : Nat} (h : n ≤ 1099511627776) : n ≤ room := by unfold room; omega
end Go.Ai
