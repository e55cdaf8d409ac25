/- The seat's tables for the abstract run, written by aiseat.py out of the translation. -/
import Derived.Test.YtcbijnemdbbkdaaAiRow
import Derived.Test.YtcbijnemdbbkdaaAiSim5
import Derived.Test.YtcbijnemdbbkdaaAiFull2
import Derived.Test.YtcbijnemdbbkdaaProg
import Derived.KernelRfl
open Go
namespace Go.Ai
set_option maxRecDepth 100000
set_option linter.unusedVariables false
def ty3 : Ty := ⟨.int .i64, [.int .i64 0], 1, 8, false⟩
def ty4 : Ty := ⟨.bool, [.bool false], 1, 1, false⟩
def ty5 : Ty := ⟨.int .u8, [.int .u8 0], 1, 1, false⟩
def ty9 : Ty := ⟨.str, [.str ⟨#[]⟩], 1, 16, false⟩
def ty22 : Ty := ⟨.slice 5, [.nil], 1, 24, false⟩
def ty24 : Ty := ⟨.int .i64, [.int .i64 0], 1, 8, false⟩
def ty30 : Ty := ⟨.slice 36, [.nil], 1, 24, false⟩
def ty33 : Ty := ⟨.slice 3, [.nil], 1, 24, false⟩
def ty34 : Ty := ⟨.slice 61, [.nil], 1, 24, false⟩
def ty36 : Ty := ⟨.struct [(0, 3), (1, 33), (2, 33), (3, 9), (4, 34)], [.int .i64 0, .nil, .nil, .str ⟨#[]⟩, .nil], 5, 96, false⟩
def ty51 : Ty := ⟨.ptr, [.nilp], 1, 8, false⟩
def ty53 : Ty := ⟨.other, [.nilf], 1, 8, false⟩
def ty55 : Ty := ⟨.struct [(0, 22), (1, 3), (2, 4)], [.nil, .int .i64 0, .bool false], 3, 40, false⟩
def ty56 : Ty := ⟨.int .u64, [.int .u64 0], 1, 8, false⟩
def ty59 : Ty := ⟨.struct [(0, 3), (1, 4), (2, 9), (3, 3)], [.int .i64 0, .bool false, .str ⟨#[]⟩, .int .i64 0], 4, 40, true⟩
def ty61 : Ty := ⟨.struct [(0, 3), (1, 3), (2, 59)], [.int .i64 0, .int .i64 0, .int .i64 0, .bool false, .str ⟨#[]⟩, .int .i64 0], 6, 56, true⟩
def ty66 : Ty := ⟨.other, [.nilf], 1, 8, false⟩
def ty77 : Ty := ⟨.other, [.nilf], 1, 8, false⟩
def T : Nat → Option Ty
  | 3 => some ty3
  | 4 => some ty4
  | 5 => some ty5
  | 9 => some ty9
  | 22 => some ty22
  | 24 => some ty24
  | 30 => some ty30
  | 33 => some ty33
  | 34 => some ty34
  | 36 => some ty36
  | 51 => some ty51
  | 53 => some ty53
  | 55 => some ty55
  | 56 => some ty56
  | 59 => some ty59
  | 61 => some ty61
  | 66 => some ty66
  | 77 => some ty77
  | _ => none
def k3 : Nat → Keep
  | _ => ⟨0, [], [], [], []⟩
def k4 : Nat → Keep
  | 4 => ⟨34, [0, 3], [], [], []⟩
  | _ => ⟨0, [], [], [], []⟩
def k5 : Nat → Keep
  | _ => ⟨0, [], [], [], []⟩
def k6 : Nat → Keep
  | _ => ⟨0, [], [], [], []⟩
def k7 : Nat → Keep
  | _ => ⟨0, [], [], [], []⟩
def k8 : Nat → Keep
  | _ => ⟨0, [], [], [], []⟩
def k9 : Nat → Keep
  | _ => ⟨0, [], [], [], []⟩
def k10 : Nat → Keep
  | 5 => ⟨73, [0, 1, 7, 8], [], [], []⟩
  | _ => ⟨0, [], [], [], []⟩
def k11 : Nat → Keep
  | _ => ⟨0, [], [], [], []⟩
def k12 : Nat → Keep
  | _ => ⟨0, [], [], [], []⟩
def k13 : Nat → Keep
  | 5 => ⟨36, [0, 5], [19, 28], [], [(0, 28, 5, 1, false)]⟩
  | _ => ⟨0, [], [], [], []⟩
def k14 : Nat → Keep
  | 3 => ⟨75, [0, 3, 4], [], [], []⟩
  | 7 => ⟨75, [0, 3, 4, 5], [], [], []⟩
  | _ => ⟨0, [], [], [], []⟩
def k15 : Nat → Keep
  | _ => ⟨0, [], [], [], []⟩
def k16 : Nat → Keep
  | 7 => ⟨68, [1, 3, 4], [1], [], []⟩
  | _ => ⟨0, [], [], [], []⟩
def k17 : Nat → Keep
  | 3 => ⟨20, [3, 9, 10, 11], [8], [], []⟩
  | _ => ⟨0, [], [], [], []⟩
def k18 : Nat → Keep
  | 3 => ⟨22, [0, 3, 4], [7, 20], [], [(3, 20, 5, 1, false)]⟩
  | _ => ⟨0, [], [], [], []⟩
def k19 : Nat → Keep
  | _ => ⟨0, [], [], [], []⟩
def k20 : Nat → Keep
  | _ => ⟨0, [], [], [], []⟩
def k21 : Nat → Keep
  | _ => ⟨0, [], [], [], []⟩
def k22 : Nat → Keep
  | _ => ⟨0, [], [], [], []⟩
def k23 : Nat → Keep
  | _ => ⟨0, [], [], [], []⟩
def k24 : Nat → Keep
  | _ => ⟨0, [], [], [], []⟩
def k25 : Nat → Keep
  | _ => ⟨0, [], [], [], []⟩
def k26 : Nat → Keep
  | 20 => ⟨97, [0, 4, 7, 9, 10, 11], [4, 7, 17, 29, 41, 53, 65, 93], [(7, 4, 93, 61, 6, false)], []⟩
  | _ => ⟨0, [], [], [], []⟩
def k27 : Nat → Keep
  | 4 => ⟨27, [0, 1, 5], [], [], []⟩
  | _ => ⟨0, [], [], [], []⟩
def k28 : Nat → Keep
  | 4 => ⟨61, [2, 3, 5], [2, 3], [], []⟩
  | _ => ⟨0, [], [], [], []⟩
def k29 : Nat → Keep
  | _ => ⟨0, [], [], [], []⟩
def k30 : Nat → Keep
  | 6 => ⟨72, [0, 3, 4], [], [], []⟩
  | _ => ⟨0, [], [], [], []⟩
def k31 : Nat → Keep
  | 2 => ⟨28, [0, 5], [20], [], [(0, 20, 5, 1, false)]⟩
  | _ => ⟨0, [], [], [], []⟩
def k32 : Nat → Keep
  | _ => ⟨0, [], [], [], []⟩
def k33 : Nat → Keep
  | _ => ⟨0, [], [], [], []⟩
def k34 : Nat → Keep
  | 4 => ⟨61, [0, 27, 28, 29], [11, 14, 17, 21, 25, 50], [], [(0, 50, 5, 1, false)]⟩
  | _ => ⟨0, [], [], [], []⟩
def k35 : Nat → Keep
  | 3 => ⟨23, [0, 1, 5], [], [], []⟩
  | _ => ⟨0, [], [], [], []⟩
def k36 : Nat → Keep
  | _ => ⟨0, [], [], [], []⟩
def k37 : Nat → Keep
  | _ => ⟨0, [], [], [], []⟩
def k38 : Nat → Keep
  | 4 => ⟨28, [0, 1, 5, 6, 7], [9, 26], [], [(6, 26, 36, 5, false)]⟩
  | _ => ⟨0, [], [], [], []⟩
def k39 : Nat → Keep
  | _ => ⟨0, [], [], [], []⟩
def k40 : Nat → Keep
  | _ => ⟨0, [], [], [], []⟩
def k41 : Nat → Keep
  | 6 => ⟨44, [0, 7, 8, 10, 11], [16, 41], [], [(10, 41, 36, 5, false)]⟩
  | _ => ⟨0, [], [], [], []⟩
def k42 : Nat → Keep
  | 4 => ⟨43, [0, 7, 8, 9, 10, 11], [16, 39], [], [(10, 39, 3, 1, false)]⟩
  | _ => ⟨0, [], [], [], []⟩
def k43 : Nat → Keep
  | _ => ⟨0, [], [], [], []⟩
def k44 : Nat → Keep
  | _ => ⟨0, [], [], [], []⟩
def k45 : Nat → Keep
  | 4 => ⟨26, [0, 1, 5], [], [], []⟩
  | _ => ⟨0, [], [], [], []⟩
def k46 : Nat → Keep
  | _ => ⟨0, [], [], [], []⟩
def k47 : Nat → Keep
  | 3 => ⟨22, [0, 11, 12, 13], [10], [], []⟩
  | _ => ⟨0, [], [], [], []⟩
def k48 : Nat → Keep
  | _ => ⟨0, [], [], [], []⟩
def k49 : Nat → Keep
  | 4 => ⟨28, [0, 1, 5, 6, 7], [9, 26], [], [(6, 26, 3, 1, false)]⟩
  | _ => ⟨0, [], [], [], []⟩
def k50 : Nat → Keep
  | 4 => ⟨28, [0, 1, 5, 6, 7], [9, 26], [], [(6, 26, 61, 6, false)]⟩
  | _ => ⟨0, [], [], [], []⟩
def k51 : Nat → Keep
  | _ => ⟨0, [], [], [], []⟩
def k52 : Nat → Keep
  | _ => ⟨0, [], [], [], []⟩
noncomputable def fun3 : Fun := ⟨Proofs.Try.f3, k3, [], false, false⟩
noncomputable def fun4 : Fun := ⟨Proofs.Try.f4, k4, [], false, false⟩
noncomputable def fun5 : Fun := ⟨Proofs.Try.f5, k5, [], false, false⟩
noncomputable def fun6 : Fun := ⟨Proofs.Try.f6, k6, [], false, false⟩
noncomputable def fun7 : Fun := ⟨Proofs.Try.f7, k7, [], false, false⟩
noncomputable def fun8 : Fun := ⟨Proofs.Try.f8, k8, [], false, false⟩
noncomputable def fun9 : Fun := ⟨Proofs.Try.f9, k9, [], false, false⟩
noncomputable def fun10 : Fun := ⟨Proofs.Try.f10, k10, [], false, false⟩
noncomputable def fun11 : Fun := ⟨Proofs.Try.f11, k11, [], false, false⟩
noncomputable def fun12 : Fun := ⟨Proofs.Try.f12, k12, [], true, true⟩
noncomputable def fun13 : Fun := ⟨Proofs.Try.f13, k13, [], true, true⟩
noncomputable def fun14 : Fun := ⟨Proofs.Try.f14, k14, [], false, false⟩
noncomputable def fun15 : Fun := ⟨Proofs.Try.f15, k15, [], false, false⟩
noncomputable def fun16 : Fun := ⟨Proofs.Try.f16, k16, [], false, false⟩
noncomputable def fun17 : Fun := ⟨Proofs.Try.f17, k17, [], false, false⟩
noncomputable def fun18 : Fun := ⟨Proofs.Try.f18, k18, [], false, false⟩
noncomputable def fun19 : Fun := ⟨Proofs.Try.f19, k19, [], false, false⟩
noncomputable def fun20 : Fun := ⟨Proofs.Try.f20, k20, [], false, false⟩
noncomputable def fun21 : Fun := ⟨Proofs.Try.f21, k21, [], true, true⟩
noncomputable def fun22 : Fun := ⟨Proofs.Try.f22, k22, [], true, true⟩
noncomputable def fun23 : Fun := ⟨Proofs.Try.f23, k23, [], false, false⟩
noncomputable def fun24 : Fun := ⟨Proofs.Try.f24, k24, [], false, false⟩
noncomputable def fun25 : Fun := ⟨Proofs.Try.f25, k25, [], false, false⟩
noncomputable def fun26 : Fun := ⟨Proofs.Try.f26, k26, [], false, false⟩
noncomputable def fun27 : Fun := ⟨Proofs.Try.f27, k27, [], false, false⟩
noncomputable def fun28 : Fun := ⟨Proofs.Try.f28, k28, [], false, false⟩
noncomputable def fun29 : Fun := ⟨Proofs.Try.f29, k29, [], true, true⟩
noncomputable def fun30 : Fun := ⟨Proofs.Try.f30, k30, [], true, true⟩
noncomputable def fun31 : Fun := ⟨Proofs.Try.f31, k31, [], true, true⟩
noncomputable def fun32 : Fun := ⟨Proofs.Try.f32, k32, [], true, true⟩
noncomputable def fun33 : Fun := ⟨Proofs.Try.f33, k33, [], false, false⟩
noncomputable def fun34 : Fun := ⟨Proofs.Try.f34, k34, [], true, true⟩
noncomputable def fun35 : Fun := ⟨Proofs.Try.f35, k35, [], false, false⟩
noncomputable def fun36 : Fun := ⟨Proofs.Try.f36, k36, [], true, true⟩
noncomputable def fun37 : Fun := ⟨Proofs.Try.f37, k37, [], true, true⟩
noncomputable def fun38 : Fun := ⟨Proofs.Try.f38, k38, [], true, true⟩
noncomputable def fun39 : Fun := ⟨Proofs.Try.f39, k39, [], true, true⟩
noncomputable def fun40 : Fun := ⟨Proofs.Try.f40, k40, [], true, true⟩
noncomputable def fun41 : Fun := ⟨Proofs.Try.f41, k41, [], false, false⟩
noncomputable def fun42 : Fun := ⟨Proofs.Try.f42, k42, [], false, false⟩
noncomputable def fun43 : Fun := ⟨Proofs.Try.f43, k43, [], false, false⟩
noncomputable def fun44 : Fun := ⟨Proofs.Try.f44, k44, [], false, false⟩
noncomputable def fun45 : Fun := ⟨Proofs.Try.f45, k45, [], false, false⟩
noncomputable def fun46 : Fun := ⟨Proofs.Try.f46, k46, [], true, true⟩
noncomputable def fun47 : Fun := ⟨Proofs.Try.f47, k47, [], true, true⟩
noncomputable def fun48 : Fun := ⟨Proofs.Try.f48, k48, [], true, true⟩
noncomputable def fun49 : Fun := ⟨Proofs.Try.f49, k49, [], true, true⟩
noncomputable def fun50 : Fun := ⟨Proofs.Try.f50, k50, [], true, true⟩
noncomputable def fun51 : Fun := ⟨Proofs.Try.f51, k51, [], true, true⟩
noncomputable def fun52 : Fun := ⟨Proofs.Try.f52, k52, [], true, true⟩
noncomputable def F : Nat → Option Fun
  | 3 => some fun3
  | 4 => some fun4
  | 5 => some fun5
  | 6 => some fun6
  | 7 => some fun7
  | 8 => some fun8
  | 9 => some fun9
  | 10 => some fun10
  | 11 => some fun11
  | 12 => some fun12
  | 13 => some fun13
  | 14 => some fun14
  | 15 => some fun15
  | 16 => some fun16
  | 17 => some fun17
  | 18 => some fun18
  | 19 => some fun19
  | 20 => some fun20
  | 21 => some fun21
  | 22 => some fun22
  | 23 => some fun23
  | 24 => some fun24
  | 25 => some fun25
  | 26 => some fun26
  | 27 => some fun27
  | 28 => some fun28
  | 29 => some fun29
  | 30 => some fun30
  | 31 => some fun31
  | 32 => some fun32
  | 33 => some fun33
  | 34 => some fun34
  | 35 => some fun35
  | 36 => some fun36
  | 37 => some fun37
  | 38 => some fun38
  | 39 => some fun39
  | 40 => some fun40
  | 41 => some fun41
  | 42 => some fun42
  | 43 => some fun43
  | 44 => some fun44
  | 45 => some fun45
  | 46 => some fun46
  | 47 => some fun47
  | 48 => some fun48
  | 49 => some fun49
  | 50 => some fun50
  | 51 => some fun51
  | 52 => some fun52
  | _ => none
theorem ty3_ok : TyOk Proofs.Try.prog 3 ty3 := tyCheck_ok (by kernel_rfl)
theorem ty4_ok : TyOk Proofs.Try.prog 4 ty4 := tyCheck_ok (by kernel_rfl)
theorem ty5_ok : TyOk Proofs.Try.prog 5 ty5 := tyCheck_ok (by kernel_rfl)
theorem ty9_ok : TyOk Proofs.Try.prog 9 ty9 := tyCheck_ok (by kernel_rfl)
theorem ty22_ok : TyOk Proofs.Try.prog 22 ty22 := tyCheck_ok (by kernel_rfl)
theorem ty24_ok : TyOk Proofs.Try.prog 24 ty24 := tyCheck_ok (by kernel_rfl)
theorem ty30_ok : TyOk Proofs.Try.prog 30 ty30 := tyCheck_ok (by kernel_rfl)
theorem ty33_ok : TyOk Proofs.Try.prog 33 ty33 := tyCheck_ok (by kernel_rfl)
theorem ty34_ok : TyOk Proofs.Try.prog 34 ty34 := tyCheck_ok (by kernel_rfl)
theorem ty36_ok : TyOk Proofs.Try.prog 36 ty36 := tyCheck_ok (by kernel_rfl)
theorem ty51_ok : TyOk Proofs.Try.prog 51 ty51 := tyCheck_ok (by kernel_rfl)
theorem ty53_ok : TyOk Proofs.Try.prog 53 ty53 := tyCheck_ok (by kernel_rfl)
theorem ty55_ok : TyOk Proofs.Try.prog 55 ty55 := tyCheck_ok (by kernel_rfl)
theorem ty56_ok : TyOk Proofs.Try.prog 56 ty56 := tyCheck_ok (by kernel_rfl)
theorem ty59_ok : TyOk Proofs.Try.prog 59 ty59 := tyCheck_ok (by kernel_rfl)
theorem ty61_ok : TyOk Proofs.Try.prog 61 ty61 := tyCheck_ok (by kernel_rfl)
theorem ty66_ok : TyOk Proofs.Try.prog 66 ty66 := tyCheck_ok (by kernel_rfl)
theorem ty77_ok : TyOk Proofs.Try.prog 77 ty77 := tyCheck_ok (by kernel_rfl)
theorem T_ok : TOk Proofs.Try.prog T := by
  intro t ty h
  unfold T at h
  split at h
  · injection h with h; subst h; exact ty3_ok
  · injection h with h; subst h; exact ty4_ok
  · injection h with h; subst h; exact ty5_ok
  · injection h with h; subst h; exact ty9_ok
  · injection h with h; subst h; exact ty22_ok
  · injection h with h; subst h; exact ty24_ok
  · injection h with h; subst h; exact ty30_ok
  · injection h with h; subst h; exact ty33_ok
  · injection h with h; subst h; exact ty34_ok
  · injection h with h; subst h; exact ty36_ok
  · injection h with h; subst h; exact ty51_ok
  · injection h with h; subst h; exact ty53_ok
  · injection h with h; subst h; exact ty55_ok
  · injection h with h; subst h; exact ty56_ok
  · injection h with h; subst h; exact ty59_ok
  · injection h with h; subst h; exact ty61_ok
  · injection h with h; subst h; exact ty66_ok
  · injection h with h; subst h; exact ty77_ok
  · cases h
theorem F_ok : FOk Proofs.Try.prog F := by
  intro g f h
  unfold F at h
  split at h
  · injection h with h; subst h; exact ⟨Proofs.Try.func3, by rfl⟩
  · injection h with h; subst h; exact ⟨Proofs.Try.func4, by rfl⟩
  · injection h with h; subst h; exact ⟨Proofs.Try.func5, by rfl⟩
  · injection h with h; subst h; exact ⟨Proofs.Try.func6, by rfl⟩
  · injection h with h; subst h; exact ⟨Proofs.Try.func7, by rfl⟩
  · injection h with h; subst h; exact ⟨Proofs.Try.func8, by rfl⟩
  · injection h with h; subst h; exact ⟨Proofs.Try.func9, by rfl⟩
  · injection h with h; subst h; exact ⟨Proofs.Try.func10, by rfl⟩
  · injection h with h; subst h; exact ⟨Proofs.Try.func11, by rfl⟩
  · injection h with h; subst h; exact ⟨Proofs.Try.func12, by rfl⟩
  · injection h with h; subst h; exact ⟨Proofs.Try.func13, by rfl⟩
  · injection h with h; subst h; exact ⟨Proofs.Try.func14, by rfl⟩
  · injection h with h; subst h; exact ⟨Proofs.Try.func15, by rfl⟩
  · injection h with h; subst h; exact ⟨Proofs.Try.func16, by rfl⟩
  · injection h with h; subst h; exact ⟨Proofs.Try.func17, by rfl⟩
  · injection h with h; subst h; exact ⟨Proofs.Try.func18, by rfl⟩
  · injection h with h; subst h; exact ⟨Proofs.Try.func19, by rfl⟩
  · injection h with h; subst h; exact ⟨Proofs.Try.func20, by rfl⟩
  · injection h with h; subst h; exact ⟨Proofs.Try.func21, by rfl⟩
  · injection h with h; subst h; exact ⟨Proofs.Try.func22, by rfl⟩
  · injection h with h; subst h; exact ⟨Proofs.Try.func23, by rfl⟩
  · injection h with h; subst h; exact ⟨Proofs.Try.func24, by rfl⟩
  · injection h with h; subst h; exact ⟨Proofs.Try.func25, by rfl⟩
  · injection h with h; subst h; exact ⟨Proofs.Try.func26, by rfl⟩
  · injection h with h; subst h; exact ⟨Proofs.Try.func27, by rfl⟩
  · injection h with h; subst h; exact ⟨Proofs.Try.func28, by rfl⟩
  · injection h with h; subst h; exact ⟨Proofs.Try.func29, by rfl⟩
  · injection h with h; subst h; exact ⟨Proofs.Try.func30, by rfl⟩
  · injection h with h; subst h; exact ⟨Proofs.Try.func31, by rfl⟩
  · injection h with h; subst h; exact ⟨Proofs.Try.func32, by rfl⟩
  · injection h with h; subst h; exact ⟨Proofs.Try.func33, by rfl⟩
  · injection h with h; subst h; exact ⟨Proofs.Try.func34, by rfl⟩
  · injection h with h; subst h; exact ⟨Proofs.Try.func35, by rfl⟩
  · injection h with h; subst h; exact ⟨Proofs.Try.func36, by rfl⟩
  · injection h with h; subst h; exact ⟨Proofs.Try.func37, by rfl⟩
  · injection h with h; subst h; exact ⟨Proofs.Try.func38, by rfl⟩
  · injection h with h; subst h; exact ⟨Proofs.Try.func39, by rfl⟩
  · injection h with h; subst h; exact ⟨Proofs.Try.func40, by rfl⟩
  · injection h with h; subst h; exact ⟨Proofs.Try.func41, by rfl⟩
  · injection h with h; subst h; exact ⟨Proofs.Try.func42, by rfl⟩
  · injection h with h; subst h; exact ⟨Proofs.Try.func43, by rfl⟩
  · injection h with h; subst h; exact ⟨Proofs.Try.func44, by rfl⟩
  · injection h with h; subst h; exact ⟨Proofs.Try.func45, by rfl⟩
  · injection h with h; subst h; exact ⟨Proofs.Try.func46, by rfl⟩
  · injection h with h; subst h; exact ⟨Proofs.Try.func47, by rfl⟩
  · injection h with h; subst h; exact ⟨Proofs.Try.func48, by rfl⟩
  · injection h with h; subst h; exact ⟨Proofs.Try.func49, by rfl⟩
  · injection h with h; subst h; exact ⟨Proofs.Try.func50, by rfl⟩
  · injection h with h; subst h; exact ⟨Proofs.Try.func51, by rfl⟩
  · injection h with h; subst h; exact ⟨Proofs.Try.func52, by rfl⟩
  · cases h
theorem F_obj (g : Nat) (f : Fun) (hf : F g = some f) (hg : [12, 13, 21, 22, 29, 30, 31, 32, 34, 36, 37, 38, 39, 40, 46, 47, 48, 49, 50, 51, 52].contains g = false) : f.obj = false := by
  unfold F at hf
  split at hf <;> first | (injection hf with hf; subst hf; first | rfl | cases hg) | cases hf
theorem F_full (g : Nat) (f : Fun) (hf : F g = some f) (hg : [12, 13, 21, 22, 29, 30, 31, 32, 34, 36, 37, 38, 39, 40, 46, 47, 48, 49, 50, 51, 52].contains g = true) : f.full = true := by
  unfold F at hf
  split at hf <;> first | (injection hf with hf; subst hf; first | rfl | cases hg) | cases hf
theorem k12_ext (r : Nat) : (k12 r).ext ≤ Proofs.Try.f12.ntmps := by
  unfold k12
  split <;> first | exact Nat.zero_le _ | decide
theorem k13_ext (r : Nat) : (k13 r).ext ≤ Proofs.Try.f13.ntmps := by
  unfold k13
  split <;> first | exact Nat.zero_le _ | decide
theorem k21_ext (r : Nat) : (k21 r).ext ≤ Proofs.Try.f21.ntmps := by
  unfold k21
  split <;> first | exact Nat.zero_le _ | decide
theorem k22_ext (r : Nat) : (k22 r).ext ≤ Proofs.Try.f22.ntmps := by
  unfold k22
  split <;> first | exact Nat.zero_le _ | decide
theorem k29_ext (r : Nat) : (k29 r).ext ≤ Proofs.Try.f29.ntmps := by
  unfold k29
  split <;> first | exact Nat.zero_le _ | decide
theorem k30_ext (r : Nat) : (k30 r).ext ≤ Proofs.Try.f30.ntmps := by
  unfold k30
  split <;> first | exact Nat.zero_le _ | decide
theorem k31_ext (r : Nat) : (k31 r).ext ≤ Proofs.Try.f31.ntmps := by
  unfold k31
  split <;> first | exact Nat.zero_le _ | decide
theorem k32_ext (r : Nat) : (k32 r).ext ≤ Proofs.Try.f32.ntmps := by
  unfold k32
  split <;> first | exact Nat.zero_le _ | decide
theorem k34_ext (r : Nat) : (k34 r).ext ≤ Proofs.Try.f34.ntmps := by
  unfold k34
  split <;> first | exact Nat.zero_le _ | decide
theorem k36_ext (r : Nat) : (k36 r).ext ≤ Proofs.Try.f36.ntmps := by
  unfold k36
  split <;> first | exact Nat.zero_le _ | decide
theorem k37_ext (r : Nat) : (k37 r).ext ≤ Proofs.Try.f37.ntmps := by
  unfold k37
  split <;> first | exact Nat.zero_le _ | decide
theorem k38_ext (r : Nat) : (k38 r).ext ≤ Proofs.Try.f38.ntmps := by
  unfold k38
  split <;> first | exact Nat.zero_le _ | decide
theorem k39_ext (r : Nat) : (k39 r).ext ≤ Proofs.Try.f39.ntmps := by
  unfold k39
  split <;> first | exact Nat.zero_le _ | decide
theorem k40_ext (r : Nat) : (k40 r).ext ≤ Proofs.Try.f40.ntmps := by
  unfold k40
  split <;> first | exact Nat.zero_le _ | decide
theorem k46_ext (r : Nat) : (k46 r).ext ≤ Proofs.Try.f46.ntmps := by
  unfold k46
  split <;> first | exact Nat.zero_le _ | decide
theorem k47_ext (r : Nat) : (k47 r).ext ≤ Proofs.Try.f47.ntmps := by
  unfold k47
  split <;> first | exact Nat.zero_le _ | decide
theorem k48_ext (r : Nat) : (k48 r).ext ≤ Proofs.Try.f48.ntmps := by
  unfold k48
  split <;> first | exact Nat.zero_le _ | decide
theorem k49_ext (r : Nat) : (k49 r).ext ≤ Proofs.Try.f49.ntmps := by
  unfold k49
  split <;> first | exact Nat.zero_le _ | decide
theorem k50_ext (r : Nat) : (k50 r).ext ≤ Proofs.Try.f50.ntmps := by
  unfold k50
  split <;> first | exact Nat.zero_le _ | decide
theorem k51_ext (r : Nat) : (k51 r).ext ≤ Proofs.Try.f51.ntmps := by
  unfold k51
  split <;> first | exact Nat.zero_le _ | decide
theorem k52_ext (r : Nat) : (k52 r).ext ≤ Proofs.Try.f52.ntmps := by
  unfold k52
  split <;> first | exact Nat.zero_le _ | decide
theorem F_keep : KeepOk F := by
  intro g f hf ho r
  unfold F at hf
  split at hf <;> first | (injection hf with hf; subst hf; first | (cases ho; done) | exact k12_ext r | exact k13_ext r | exact k21_ext r | exact k22_ext r | exact k29_ext r | exact k30_ext r | exact k31_ext r | exact k32_ext r | exact k34_ext r | exact k36_ext r | exact k37_ext r | exact k38_ext r | exact k39_ext r | exact k40_ext r | exact k46_ext r | exact k47_ext r | exact k48_ext r | exact k49_ext r | exact k50_ext r | exact k51_ext r | exact k52_ext r) | cases hf
/-- Functions whose contracts are proved by hand. -/
structure Orac where
  pure : Nat → List AV → Option AV
  ok : ∀ g a, [33].contains g = false → pure g a = none
/-- No function by hand. -/
def noOrac : Orac := { pure := fun _ _ => none, ok := fun _ _ _ => rfl }
theorem noPure {P : Program} : PureOk P (fun _ _ => none) := fun g ps r h => by cases h
theorem noFullE {P : Program} : FullOk P (fun _ _ _ _ => none) := fun g d l ob r u h => by cases h
variable (o : Orac)
noncomputable def seat : Seat := { T := T, F := F, S := { pure := o.pure, full := fun _ _ _ _ => none }, O := fun g => [12, 13, 21, 22, 29, 30, 31, 32, 34, 36, 37, 38, 39, 40, 46, 47, 48, 49, 50, 51, 52].contains g, apart := { noP := fun g a h => ⟨o.ok g a (by have h2 : g ∈ [12, 13, 21, 22, 29, 30, 31, 32, 34, 36, 37, 38, 39, 40, 46, 47, 48, 49, 50, 51, 52] := (by simpa using h); simp at h2; rcases h2 with rfl | rfl | rfl | rfl | rfl | rfl | rfl | rfl | rfl | rfl | rfl | rfl | rfl | rfl | rfl | rfl | rfl | rfl | rfl | rfl | rfl <;> rfl), fun f hf => F_full g f hf h⟩, noF := fun g d a ob h => ⟨rfl, fun f hf => F_obj g f hf h⟩ } }
theorem noS (g : Nat) (a : List AV) (h : [33].contains g = false) : (seat o).S.pure g a = none := o.ok g a h
theorem seat_T : (seat o).T = T := rfl
theorem seat_O (g : Nat) : (seat o).O g = [12, 13, 21, 22, 29, 30, 31, 32, 34, 36, 37, 38, 39, 40, 46, 47, 48, 49, 50, 51, 52].contains g := rfl
theorem call_3 {T : Nat → Option Ty} {st : St} {d : Option Nat} {xs : Array Operand} {tys : Array TypeId} {G : List Nat} : stepU T ((seat o).env G) st d (.call ⟨.value (.func 3), xs, tys⟩) = callS (seat o) st d 3 (mapEval (evalOp st.tmps) xs.toList) := s_call rfl
theorem call_4 {T : Nat → Option Ty} {st : St} {d : Option Nat} {xs : Array Operand} {tys : Array TypeId} {G : List Nat} : stepU T ((seat o).env G) st d (.call ⟨.value (.func 4), xs, tys⟩) = callS (seat o) st d 4 (mapEval (evalOp st.tmps) xs.toList) := s_call rfl
theorem call_5 {T : Nat → Option Ty} {st : St} {d : Option Nat} {xs : Array Operand} {tys : Array TypeId} {G : List Nat} : stepU T ((seat o).env G) st d (.call ⟨.value (.func 5), xs, tys⟩) = callS (seat o) st d 5 (mapEval (evalOp st.tmps) xs.toList) := s_call rfl
theorem call_6 {T : Nat → Option Ty} {st : St} {d : Option Nat} {xs : Array Operand} {tys : Array TypeId} {G : List Nat} : stepU T ((seat o).env G) st d (.call ⟨.value (.func 6), xs, tys⟩) = callS (seat o) st d 6 (mapEval (evalOp st.tmps) xs.toList) := s_call rfl
theorem call_7 {T : Nat → Option Ty} {st : St} {d : Option Nat} {xs : Array Operand} {tys : Array TypeId} {G : List Nat} : stepU T ((seat o).env G) st d (.call ⟨.value (.func 7), xs, tys⟩) = callS (seat o) st d 7 (mapEval (evalOp st.tmps) xs.toList) := s_call rfl
theorem call_8 {T : Nat → Option Ty} {st : St} {d : Option Nat} {xs : Array Operand} {tys : Array TypeId} {G : List Nat} : stepU T ((seat o).env G) st d (.call ⟨.value (.func 8), xs, tys⟩) = callS (seat o) st d 8 (mapEval (evalOp st.tmps) xs.toList) := s_call rfl
theorem call_9 {T : Nat → Option Ty} {st : St} {d : Option Nat} {xs : Array Operand} {tys : Array TypeId} {G : List Nat} : stepU T ((seat o).env G) st d (.call ⟨.value (.func 9), xs, tys⟩) = callS (seat o) st d 9 (mapEval (evalOp st.tmps) xs.toList) := s_call rfl
theorem call_10 {T : Nat → Option Ty} {st : St} {d : Option Nat} {xs : Array Operand} {tys : Array TypeId} {G : List Nat} : stepU T ((seat o).env G) st d (.call ⟨.value (.func 10), xs, tys⟩) = callS (seat o) st d 10 (mapEval (evalOp st.tmps) xs.toList) := s_call rfl
theorem call_11 {T : Nat → Option Ty} {st : St} {d : Option Nat} {xs : Array Operand} {tys : Array TypeId} {G : List Nat} : stepU T ((seat o).env G) st d (.call ⟨.value (.func 11), xs, tys⟩) = callS (seat o) st d 11 (mapEval (evalOp st.tmps) xs.toList) := s_call rfl
theorem call_12 {T : Nat → Option Ty} {st : St} {d : Nat} {xs : Array Operand} {tys : Array TypeId} {G : List Nat} : stepU T ((seat o).env G) st (some d) (.call ⟨.value (.func 12), xs, tys⟩) = callOS (seat o) st d (idsOf (evalOp st.tmps) (.func 12 :: xs.toList) ++ [d]) 12 (mapEval (evalOp st.tmps) xs.toList) := s_callO rfl fun _ _ _ _ => rfl
theorem call_13 {T : Nat → Option Ty} {st : St} {d : Nat} {xs : Array Operand} {tys : Array TypeId} {G : List Nat} : stepU T ((seat o).env G) st (some d) (.call ⟨.value (.func 13), xs, tys⟩) = callOS (seat o) st d (idsOf (evalOp st.tmps) (.func 13 :: xs.toList) ++ [d]) 13 (mapEval (evalOp st.tmps) xs.toList) := s_callO rfl fun _ _ _ _ => rfl
theorem call_14 {T : Nat → Option Ty} {st : St} {d : Option Nat} {xs : Array Operand} {tys : Array TypeId} {G : List Nat} : stepU T ((seat o).env G) st d (.call ⟨.value (.func 14), xs, tys⟩) = callS (seat o) st d 14 (mapEval (evalOp st.tmps) xs.toList) := s_call rfl
theorem call_15 {T : Nat → Option Ty} {st : St} {d : Option Nat} {xs : Array Operand} {tys : Array TypeId} {G : List Nat} : stepU T ((seat o).env G) st d (.call ⟨.value (.func 15), xs, tys⟩) = callS (seat o) st d 15 (mapEval (evalOp st.tmps) xs.toList) := s_call rfl
theorem call_16 {T : Nat → Option Ty} {st : St} {d : Option Nat} {xs : Array Operand} {tys : Array TypeId} {G : List Nat} : stepU T ((seat o).env G) st d (.call ⟨.value (.func 16), xs, tys⟩) = callS (seat o) st d 16 (mapEval (evalOp st.tmps) xs.toList) := s_call rfl
theorem call_17 {T : Nat → Option Ty} {st : St} {d : Option Nat} {xs : Array Operand} {tys : Array TypeId} {G : List Nat} : stepU T ((seat o).env G) st d (.call ⟨.value (.func 17), xs, tys⟩) = callS (seat o) st d 17 (mapEval (evalOp st.tmps) xs.toList) := s_call rfl
theorem call_18 {T : Nat → Option Ty} {st : St} {d : Option Nat} {xs : Array Operand} {tys : Array TypeId} {G : List Nat} : stepU T ((seat o).env G) st d (.call ⟨.value (.func 18), xs, tys⟩) = callS (seat o) st d 18 (mapEval (evalOp st.tmps) xs.toList) := s_call rfl
theorem call_19 {T : Nat → Option Ty} {st : St} {d : Option Nat} {xs : Array Operand} {tys : Array TypeId} {G : List Nat} : stepU T ((seat o).env G) st d (.call ⟨.value (.func 19), xs, tys⟩) = callS (seat o) st d 19 (mapEval (evalOp st.tmps) xs.toList) := s_call rfl
theorem call_20 {T : Nat → Option Ty} {st : St} {d : Option Nat} {xs : Array Operand} {tys : Array TypeId} {G : List Nat} : stepU T ((seat o).env G) st d (.call ⟨.value (.func 20), xs, tys⟩) = callS (seat o) st d 20 (mapEval (evalOp st.tmps) xs.toList) := s_call rfl
theorem call_21 {T : Nat → Option Ty} {st : St} {d : Nat} {xs : Array Operand} {tys : Array TypeId} {G : List Nat} : stepU T ((seat o).env G) st (some d) (.call ⟨.value (.func 21), xs, tys⟩) = callOS (seat o) st d (idsOf (evalOp st.tmps) (.func 21 :: xs.toList) ++ [d]) 21 (mapEval (evalOp st.tmps) xs.toList) := s_callO rfl fun _ _ _ _ => rfl
theorem call_22 {T : Nat → Option Ty} {st : St} {d : Nat} {xs : Array Operand} {tys : Array TypeId} {G : List Nat} : stepU T ((seat o).env G) st (some d) (.call ⟨.value (.func 22), xs, tys⟩) = callOS (seat o) st d (idsOf (evalOp st.tmps) (.func 22 :: xs.toList) ++ [d]) 22 (mapEval (evalOp st.tmps) xs.toList) := s_callO rfl fun _ _ _ _ => rfl
theorem call_23 {T : Nat → Option Ty} {st : St} {d : Option Nat} {xs : Array Operand} {tys : Array TypeId} {G : List Nat} : stepU T ((seat o).env G) st d (.call ⟨.value (.func 23), xs, tys⟩) = callS (seat o) st d 23 (mapEval (evalOp st.tmps) xs.toList) := s_call rfl
theorem call_24 {T : Nat → Option Ty} {st : St} {d : Option Nat} {xs : Array Operand} {tys : Array TypeId} {G : List Nat} : stepU T ((seat o).env G) st d (.call ⟨.value (.func 24), xs, tys⟩) = callS (seat o) st d 24 (mapEval (evalOp st.tmps) xs.toList) := s_call rfl
theorem call_25 {T : Nat → Option Ty} {st : St} {d : Option Nat} {xs : Array Operand} {tys : Array TypeId} {G : List Nat} : stepU T ((seat o).env G) st d (.call ⟨.value (.func 25), xs, tys⟩) = callS (seat o) st d 25 (mapEval (evalOp st.tmps) xs.toList) := s_call rfl
theorem call_26 {T : Nat → Option Ty} {st : St} {d : Option Nat} {xs : Array Operand} {tys : Array TypeId} {G : List Nat} : stepU T ((seat o).env G) st d (.call ⟨.value (.func 26), xs, tys⟩) = callS (seat o) st d 26 (mapEval (evalOp st.tmps) xs.toList) := s_call rfl
theorem call_27 {T : Nat → Option Ty} {st : St} {d : Option Nat} {xs : Array Operand} {tys : Array TypeId} {G : List Nat} : stepU T ((seat o).env G) st d (.call ⟨.value (.func 27), xs, tys⟩) = callS (seat o) st d 27 (mapEval (evalOp st.tmps) xs.toList) := s_call rfl
theorem call_28 {T : Nat → Option Ty} {st : St} {d : Option Nat} {xs : Array Operand} {tys : Array TypeId} {G : List Nat} : stepU T ((seat o).env G) st d (.call ⟨.value (.func 28), xs, tys⟩) = callS (seat o) st d 28 (mapEval (evalOp st.tmps) xs.toList) := s_call rfl
theorem call_29 {T : Nat → Option Ty} {st : St} {d : Nat} {xs : Array Operand} {tys : Array TypeId} {G : List Nat} : stepU T ((seat o).env G) st (some d) (.call ⟨.value (.func 29), xs, tys⟩) = callOS (seat o) st d (idsOf (evalOp st.tmps) (.func 29 :: xs.toList) ++ [d]) 29 (mapEval (evalOp st.tmps) xs.toList) := s_callO rfl fun _ _ _ _ => rfl
theorem call_30 {T : Nat → Option Ty} {st : St} {d : Nat} {xs : Array Operand} {tys : Array TypeId} {G : List Nat} : stepU T ((seat o).env G) st (some d) (.call ⟨.value (.func 30), xs, tys⟩) = callOS (seat o) st d (idsOf (evalOp st.tmps) (.func 30 :: xs.toList) ++ [d]) 30 (mapEval (evalOp st.tmps) xs.toList) := s_callO rfl fun _ _ _ _ => rfl
theorem call_31 {T : Nat → Option Ty} {st : St} {d : Nat} {xs : Array Operand} {tys : Array TypeId} {G : List Nat} : stepU T ((seat o).env G) st (some d) (.call ⟨.value (.func 31), xs, tys⟩) = callOS (seat o) st d (idsOf (evalOp st.tmps) (.func 31 :: xs.toList) ++ [d]) 31 (mapEval (evalOp st.tmps) xs.toList) := s_callO rfl fun _ _ _ _ => rfl
theorem call_32 {T : Nat → Option Ty} {st : St} {d : Nat} {xs : Array Operand} {tys : Array TypeId} {G : List Nat} : stepU T ((seat o).env G) st (some d) (.call ⟨.value (.func 32), xs, tys⟩) = callOS (seat o) st d (idsOf (evalOp st.tmps) (.func 32 :: xs.toList) ++ [d]) 32 (mapEval (evalOp st.tmps) xs.toList) := s_callO rfl fun _ _ _ _ => rfl
theorem call_33 {T : Nat → Option Ty} {st : St} {d : Option Nat} {xs : Array Operand} {tys : Array TypeId} {G : List Nat} : stepU T ((seat o).env G) st d (.call ⟨.value (.func 33), xs, tys⟩) = callS (seat o) st d 33 (mapEval (evalOp st.tmps) xs.toList) := s_call rfl
theorem call_34 {T : Nat → Option Ty} {st : St} {d : Nat} {xs : Array Operand} {tys : Array TypeId} {G : List Nat} : stepU T ((seat o).env G) st (some d) (.call ⟨.value (.func 34), xs, tys⟩) = callOS (seat o) st d (idsOf (evalOp st.tmps) (.func 34 :: xs.toList) ++ [d]) 34 (mapEval (evalOp st.tmps) xs.toList) := s_callO rfl fun _ _ _ _ => rfl
theorem call_35 {T : Nat → Option Ty} {st : St} {d : Option Nat} {xs : Array Operand} {tys : Array TypeId} {G : List Nat} : stepU T ((seat o).env G) st d (.call ⟨.value (.func 35), xs, tys⟩) = callS (seat o) st d 35 (mapEval (evalOp st.tmps) xs.toList) := s_call rfl
theorem call_36 {T : Nat → Option Ty} {st : St} {d : Nat} {xs : Array Operand} {tys : Array TypeId} {G : List Nat} : stepU T ((seat o).env G) st (some d) (.call ⟨.value (.func 36), xs, tys⟩) = callOS (seat o) st d (idsOf (evalOp st.tmps) (.func 36 :: xs.toList) ++ [d]) 36 (mapEval (evalOp st.tmps) xs.toList) := s_callO rfl fun _ _ _ _ => rfl
theorem call_37 {T : Nat → Option Ty} {st : St} {d : Nat} {xs : Array Operand} {tys : Array TypeId} {G : List Nat} : stepU T ((seat o).env G) st (some d) (.call ⟨.value (.func 37), xs, tys⟩) = callOS (seat o) st d (idsOf (evalOp st.tmps) (.func 37 :: xs.toList) ++ [d]) 37 (mapEval (evalOp st.tmps) xs.toList) := s_callO rfl fun _ _ _ _ => rfl
theorem call_38 {T : Nat → Option Ty} {st : St} {d : Nat} {xs : Array Operand} {tys : Array TypeId} {G : List Nat} : stepU T ((seat o).env G) st (some d) (.call ⟨.value (.func 38), xs, tys⟩) = callOS (seat o) st d (idsOf (evalOp st.tmps) (.func 38 :: xs.toList) ++ [d]) 38 (mapEval (evalOp st.tmps) xs.toList) := s_callO rfl fun _ _ _ _ => rfl
theorem call_39 {T : Nat → Option Ty} {st : St} {d : Nat} {xs : Array Operand} {tys : Array TypeId} {G : List Nat} : stepU T ((seat o).env G) st (some d) (.call ⟨.value (.func 39), xs, tys⟩) = callOS (seat o) st d (idsOf (evalOp st.tmps) (.func 39 :: xs.toList) ++ [d]) 39 (mapEval (evalOp st.tmps) xs.toList) := s_callO rfl fun _ _ _ _ => rfl
theorem call_40 {T : Nat → Option Ty} {st : St} {d : Nat} {xs : Array Operand} {tys : Array TypeId} {G : List Nat} : stepU T ((seat o).env G) st (some d) (.call ⟨.value (.func 40), xs, tys⟩) = callOS (seat o) st d (idsOf (evalOp st.tmps) (.func 40 :: xs.toList) ++ [d]) 40 (mapEval (evalOp st.tmps) xs.toList) := s_callO rfl fun _ _ _ _ => rfl
theorem call_41 {T : Nat → Option Ty} {st : St} {d : Option Nat} {xs : Array Operand} {tys : Array TypeId} {G : List Nat} : stepU T ((seat o).env G) st d (.call ⟨.value (.func 41), xs, tys⟩) = callS (seat o) st d 41 (mapEval (evalOp st.tmps) xs.toList) := s_call rfl
theorem call_42 {T : Nat → Option Ty} {st : St} {d : Option Nat} {xs : Array Operand} {tys : Array TypeId} {G : List Nat} : stepU T ((seat o).env G) st d (.call ⟨.value (.func 42), xs, tys⟩) = callS (seat o) st d 42 (mapEval (evalOp st.tmps) xs.toList) := s_call rfl
theorem call_43 {T : Nat → Option Ty} {st : St} {d : Option Nat} {xs : Array Operand} {tys : Array TypeId} {G : List Nat} : stepU T ((seat o).env G) st d (.call ⟨.value (.func 43), xs, tys⟩) = callS (seat o) st d 43 (mapEval (evalOp st.tmps) xs.toList) := s_call rfl
theorem call_44 {T : Nat → Option Ty} {st : St} {d : Option Nat} {xs : Array Operand} {tys : Array TypeId} {G : List Nat} : stepU T ((seat o).env G) st d (.call ⟨.value (.func 44), xs, tys⟩) = callS (seat o) st d 44 (mapEval (evalOp st.tmps) xs.toList) := s_call rfl
theorem call_45 {T : Nat → Option Ty} {st : St} {d : Option Nat} {xs : Array Operand} {tys : Array TypeId} {G : List Nat} : stepU T ((seat o).env G) st d (.call ⟨.value (.func 45), xs, tys⟩) = callS (seat o) st d 45 (mapEval (evalOp st.tmps) xs.toList) := s_call rfl
theorem call_46 {T : Nat → Option Ty} {st : St} {d : Nat} {xs : Array Operand} {tys : Array TypeId} {G : List Nat} : stepU T ((seat o).env G) st (some d) (.call ⟨.value (.func 46), xs, tys⟩) = callOS (seat o) st d (idsOf (evalOp st.tmps) (.func 46 :: xs.toList) ++ [d]) 46 (mapEval (evalOp st.tmps) xs.toList) := s_callO rfl fun _ _ _ _ => rfl
theorem call_47 {T : Nat → Option Ty} {st : St} {d : Nat} {xs : Array Operand} {tys : Array TypeId} {G : List Nat} : stepU T ((seat o).env G) st (some d) (.call ⟨.value (.func 47), xs, tys⟩) = callOS (seat o) st d (idsOf (evalOp st.tmps) (.func 47 :: xs.toList) ++ [d]) 47 (mapEval (evalOp st.tmps) xs.toList) := s_callO rfl fun _ _ _ _ => rfl
theorem call_48 {T : Nat → Option Ty} {st : St} {d : Nat} {xs : Array Operand} {tys : Array TypeId} {G : List Nat} : stepU T ((seat o).env G) st (some d) (.call ⟨.value (.func 48), xs, tys⟩) = callOS (seat o) st d (idsOf (evalOp st.tmps) (.func 48 :: xs.toList) ++ [d]) 48 (mapEval (evalOp st.tmps) xs.toList) := s_callO rfl fun _ _ _ _ => rfl
theorem call_49 {T : Nat → Option Ty} {st : St} {d : Nat} {xs : Array Operand} {tys : Array TypeId} {G : List Nat} : stepU T ((seat o).env G) st (some d) (.call ⟨.value (.func 49), xs, tys⟩) = callOS (seat o) st d (idsOf (evalOp st.tmps) (.func 49 :: xs.toList) ++ [d]) 49 (mapEval (evalOp st.tmps) xs.toList) := s_callO rfl fun _ _ _ _ => rfl
theorem call_50 {T : Nat → Option Ty} {st : St} {d : Nat} {xs : Array Operand} {tys : Array TypeId} {G : List Nat} : stepU T ((seat o).env G) st (some d) (.call ⟨.value (.func 50), xs, tys⟩) = callOS (seat o) st d (idsOf (evalOp st.tmps) (.func 50 :: xs.toList) ++ [d]) 50 (mapEval (evalOp st.tmps) xs.toList) := s_callO rfl fun _ _ _ _ => rfl
theorem call_51 {T : Nat → Option Ty} {st : St} {d : Nat} {xs : Array Operand} {tys : Array TypeId} {G : List Nat} : stepU T ((seat o).env G) st (some d) (.call ⟨.value (.func 51), xs, tys⟩) = callOS (seat o) st d (idsOf (evalOp st.tmps) (.func 51 :: xs.toList) ++ [d]) 51 (mapEval (evalOp st.tmps) xs.toList) := s_callO rfl fun _ _ _ _ => rfl
theorem call_52 {T : Nat → Option Ty} {st : St} {d : Nat} {xs : Array Operand} {tys : Array TypeId} {G : List Nat} : stepU T ((seat o).env G) st (some d) (.call ⟨.value (.func 52), xs, tys⟩) = callOS (seat o) st d (idsOf (evalOp st.tmps) (.func 52 :: xs.toList) ++ [d]) 52 (mapEval (evalOp st.tmps) xs.toList) := s_callO rfl fun _ _ _ _ => rfl
theorem call_tmp {T : Nat → Option Ty} {st : St} {k d : Nat} {xs : Array Operand} {tys : Array TypeId} {G : List Nat} : stepU T ((seat o).env G) st (some d) (.call ⟨.value (.tmp k), xs, tys⟩) = callTS (seat o) st d (idsOf (evalOp st.tmps) (.tmp k :: xs.toList) ++ [d]) (otherCall T (seat o) G st d k xs tys) (evalOp st.tmps (.tmp k)) (mapEval (evalOp st.tmps) xs.toList) := s_callT fun _ _ _ _ => rfl
theorem T_3 : T 3 = some ⟨.int .i64, [.int .i64 0], 1, 8, false⟩ := rfl
theorem T_4 : T 4 = some ⟨.bool, [.bool false], 1, 1, false⟩ := rfl
theorem T_5 : T 5 = some ⟨.int .u8, [.int .u8 0], 1, 1, false⟩ := rfl
theorem T_9 : T 9 = some ⟨.str, [.str ⟨#[]⟩], 1, 16, false⟩ := rfl
theorem T_22 : T 22 = some ⟨.slice 5, [.nil], 1, 24, false⟩ := rfl
theorem T_24 : T 24 = some ⟨.int .i64, [.int .i64 0], 1, 8, false⟩ := rfl
theorem T_30 : T 30 = some ⟨.slice 36, [.nil], 1, 24, false⟩ := rfl
theorem T_33 : T 33 = some ⟨.slice 3, [.nil], 1, 24, false⟩ := rfl
theorem T_34 : T 34 = some ⟨.slice 61, [.nil], 1, 24, false⟩ := rfl
theorem T_36 : T 36 = some ⟨.struct [(0, 3), (1, 33), (2, 33), (3, 9), (4, 34)], [.int .i64 0, .nil, .nil, .str ⟨#[]⟩, .nil], 5, 96, false⟩ := rfl
theorem T_51 : T 51 = some ⟨.ptr, [.nilp], 1, 8, false⟩ := rfl
theorem T_53 : T 53 = some ⟨.other, [.nilf], 1, 8, false⟩ := rfl
theorem T_55 : T 55 = some ⟨.struct [(0, 22), (1, 3), (2, 4)], [.nil, .int .i64 0, .bool false], 3, 40, false⟩ := rfl
theorem T_56 : T 56 = some ⟨.int .u64, [.int .u64 0], 1, 8, false⟩ := rfl
theorem T_59 : T 59 = some ⟨.struct [(0, 3), (1, 4), (2, 9), (3, 3)], [.int .i64 0, .bool false, .str ⟨#[]⟩, .int .i64 0], 4, 40, true⟩ := rfl
theorem T_61 : T 61 = some ⟨.struct [(0, 3), (1, 3), (2, 59)], [.int .i64 0, .int .i64 0, .int .i64 0, .bool false, .str ⟨#[]⟩, .int .i64 0], 6, 56, true⟩ := rfl
theorem T_66 : T 66 = some ⟨.other, [.nilf], 1, 8, false⟩ := rfl
theorem T_77 : T 77 = some ⟨.other, [.nilf], 1, 8, false⟩ := rfl
def L4_4 (t0 t3 : AV) : St := { tmps := [t0, .leaf .dead, .leaf .dead, t3, .leaf .dead, .leaf .dead, .leaf .dead, .leaf .dead, .leaf .dead, .leaf .dead, .leaf .dead, .leaf .dead, .leaf .dead, .leaf .dead, .leaf .dead, .leaf .dead, .leaf .dead, .leaf .dead, .leaf .dead, .leaf .dead, .leaf .dead, .leaf .dead, .leaf .dead, .leaf .dead, .leaf .dead, .leaf .dead, .leaf .dead, .leaf .dead, .leaf .dead, .leaf .dead, .leaf .dead, .leaf .dead, .leaf .dead, .leaf .dead], objs := [none, none, none, none, none, none, none, none, none, none, none, none, none, none, none, none, none, none, none, none, none, none, none, none, none, none, none, none, none, none, none, none, none, none] }
def L10_5 (t0 t1 t7 t8 : AV) : St := { tmps := [t0, t1, .leaf .dead, .leaf .dead, .leaf .dead, .leaf .dead, .leaf .dead, t7, t8, .leaf .dead, .leaf .dead, .leaf .dead, .leaf .dead, .leaf .dead, .leaf .dead, .leaf .dead, .leaf .dead, .leaf .dead, .leaf .dead, .leaf .dead, .leaf .dead, .leaf .dead, .leaf .dead, .leaf .dead, .leaf .dead, .leaf .dead, .leaf .dead, .leaf .dead, .leaf .dead, .leaf .dead, .leaf .dead, .leaf .dead, .leaf .dead, .leaf .dead, .leaf .dead, .leaf .dead, .leaf .dead, .leaf .dead, .leaf .dead, .leaf .dead, .leaf .dead, .leaf .dead, .leaf .dead, .leaf .dead, .leaf .dead, .leaf .dead, .leaf .dead, .leaf .dead, .leaf .dead, .leaf .dead, .leaf .dead, .leaf .dead, .leaf .dead, .leaf .dead, .leaf .dead, .leaf .dead, .leaf .dead, .leaf .dead, .leaf .dead, .leaf .dead, .leaf .dead, .leaf .dead, .leaf .dead, .leaf .dead, .leaf .dead, .leaf .dead, .leaf .dead, .leaf .dead, .leaf .dead, .leaf .dead, .leaf .dead, .leaf .dead, .leaf .dead], objs := [none, none, none, none, none, none, none, none, none, none, none, none, none, none, none, none, none, none, none, none, none, none, none, none, none, none, none, none, none, none, none, none, none, none, none, none, none, none, none, none, none, none, none, none, none, none, none, none, none, none, none, none, none, none, none, none, none, none, none, none, none, none, none, none, none, none, none, none, none, none, none, none, none] }
def L13_5 (t0 t5 : AV) (o19 o28 : Option AObj) (x : List (Option AObj)) : St := { tmps := [t0, .leaf .dead, .leaf .dead, .leaf .dead, .leaf .dead, t5, .leaf .dead, .leaf .dead, .leaf .dead, .leaf .dead, .leaf .dead, .leaf .dead, .leaf .dead, .leaf .dead, .leaf .dead, .leaf .dead, .leaf .dead, .leaf .dead, .leaf .dead, .leaf .dead, .leaf .dead, .leaf .dead, .leaf .dead, .leaf .dead, .leaf .dead, .leaf .dead, .leaf .dead, .leaf .dead, .leaf .dead, .leaf .dead, .leaf .dead, .leaf .dead, .leaf .dead, .leaf .dead, .leaf .dead, .leaf .dead], objs := [none, none, none, none, none, none, none, none, none, none, none, none, none, none, none, none, none, none, none, o19, none, none, none, none, none, none, none, none, o28, none, none, none, none, none, none, none] ++ x }
def L14_3 (t0 t3 t4 : AV) : St := { tmps := [t0, .leaf .dead, .leaf .dead, t3, t4, .leaf .dead, .leaf .dead, .leaf .dead, .leaf .dead, .leaf .dead, .leaf .dead, .leaf .dead, .leaf .dead, .leaf .dead, .leaf .dead, .leaf .dead, .leaf .dead, .leaf .dead, .leaf .dead, .leaf .dead, .leaf .dead, .leaf .dead, .leaf .dead, .leaf .dead, .leaf .dead, .leaf .dead, .leaf .dead, .leaf .dead, .leaf .dead, .leaf .dead, .leaf .dead, .leaf .dead, .leaf .dead, .leaf .dead, .leaf .dead, .leaf .dead, .leaf .dead, .leaf .dead, .leaf .dead, .leaf .dead, .leaf .dead, .leaf .dead, .leaf .dead, .leaf .dead, .leaf .dead, .leaf .dead, .leaf .dead, .leaf .dead, .leaf .dead, .leaf .dead, .leaf .dead, .leaf .dead, .leaf .dead, .leaf .dead, .leaf .dead, .leaf .dead, .leaf .dead, .leaf .dead, .leaf .dead, .leaf .dead, .leaf .dead, .leaf .dead, .leaf .dead, .leaf .dead, .leaf .dead, .leaf .dead, .leaf .dead, .leaf .dead, .leaf .dead, .leaf .dead, .leaf .dead, .leaf .dead, .leaf .dead, .leaf .dead, .leaf .dead], objs := [none, none, none, none, none, none, none, none, none, none, none, none, none, none, none, none, none, none, none, none, none, none, none, none, none, none, none, none, none, none, none, none, none, none, none, none, none, none, none, none, none, none, none, none, none, none, none, none, none, none, none, none, none, none, none, none, none, none, none, none, none, none, none, none, none, none, none, none, none, none, none, none, none, none, none] }
def L14_7 (t0 t3 t4 t5 : AV) : St := { tmps := [t0, .leaf .dead, .leaf .dead, t3, t4, t5, .leaf .dead, .leaf .dead, .leaf .dead, .leaf .dead, .leaf .dead, .leaf .dead, .leaf .dead, .leaf .dead, .leaf .dead, .leaf .dead, .leaf .dead, .leaf .dead, .leaf .dead, .leaf .dead, .leaf .dead, .leaf .dead, .leaf .dead, .leaf .dead, .leaf .dead, .leaf .dead, .leaf .dead, .leaf .dead, .leaf .dead, .leaf .dead, .leaf .dead, .leaf .dead, .leaf .dead, .leaf .dead, .leaf .dead, .leaf .dead, .leaf .dead, .leaf .dead, .leaf .dead, .leaf .dead, .leaf .dead, .leaf .dead, .leaf .dead, .leaf .dead, .leaf .dead, .leaf .dead, .leaf .dead, .leaf .dead, .leaf .dead, .leaf .dead, .leaf .dead, .leaf .dead, .leaf .dead, .leaf .dead, .leaf .dead, .leaf .dead, .leaf .dead, .leaf .dead, .leaf .dead, .leaf .dead, .leaf .dead, .leaf .dead, .leaf .dead, .leaf .dead, .leaf .dead, .leaf .dead, .leaf .dead, .leaf .dead, .leaf .dead, .leaf .dead, .leaf .dead, .leaf .dead, .leaf .dead, .leaf .dead, .leaf .dead], objs := [none, none, none, none, none, none, none, none, none, none, none, none, none, none, none, none, none, none, none, none, none, none, none, none, none, none, none, none, none, none, none, none, none, none, none, none, none, none, none, none, none, none, none, none, none, none, none, none, none, none, none, none, none, none, none, none, none, none, none, none, none, none, none, none, none, none, none, none, none, none, none, none, none, none, none] }
def L16_7 (t1 t3 t4 : AV) (o1 : Option AObj) : St := { tmps := [.leaf .dead, t1, .leaf .dead, t3, t4, .leaf .dead, .leaf .dead, .leaf .dead, .leaf .dead, .leaf .dead, .leaf .dead, .leaf .dead, .leaf .dead, .leaf .dead, .leaf .dead, .leaf .dead, .leaf .dead, .leaf .dead, .leaf .dead, .leaf .dead, .leaf .dead, .leaf .dead, .leaf .dead, .leaf .dead, .leaf .dead, .leaf .dead, .leaf .dead, .leaf .dead, .leaf .dead, .leaf .dead, .leaf .dead, .leaf .dead, .leaf .dead, .leaf .dead, .leaf .dead, .leaf .dead, .leaf .dead, .leaf .dead, .leaf .dead, .leaf .dead, .leaf .dead, .leaf .dead, .leaf .dead, .leaf .dead, .leaf .dead, .leaf .dead, .leaf .dead, .leaf .dead, .leaf .dead, .leaf .dead, .leaf .dead, .leaf .dead, .leaf .dead, .leaf .dead, .leaf .dead, .leaf .dead, .leaf .dead, .leaf .dead, .leaf .dead, .leaf .dead, .leaf .dead, .leaf .dead, .leaf .dead, .leaf .dead, .leaf .dead, .leaf .dead, .leaf .dead, .leaf .dead], objs := [none, o1, none, none, none, none, none, none, none, none, none, none, none, none, none, none, none, none, none, none, none, none, none, none, none, none, none, none, none, none, none, none, none, none, none, none, none, none, none, none, none, none, none, none, none, none, none, none, none, none, none, none, none, none, none, none, none, none, none, none, none, none, none, none, none, none, none, none] }
def L17_3 (t3 t9 t10 t11 : AV) (o8 : Option AObj) : St := { tmps := [.leaf .dead, .leaf .dead, .leaf .dead, t3, .leaf .dead, .leaf .dead, .leaf .dead, .leaf .dead, .leaf .dead, t9, t10, t11, .leaf .dead, .leaf .dead, .leaf .dead, .leaf .dead, .leaf .dead, .leaf .dead, .leaf .dead, .leaf .dead], objs := [none, none, none, none, none, none, none, none, o8, none, none, none, none, none, none, none, none, none, none, none] }
def L18_3 (t0 t3 t4 : AV) (o7 o20 : Option AObj) : St := { tmps := [t0, .leaf .dead, .leaf .dead, t3, t4, .leaf .dead, .leaf .dead, .leaf .dead, .leaf .dead, .leaf .dead, .leaf .dead, .leaf .dead, .leaf .dead, .leaf .dead, .leaf .dead, .leaf .dead, .leaf .dead, .leaf .dead, .leaf .dead, .leaf .dead, .leaf .dead, .leaf .dead], objs := [none, none, none, none, none, none, none, o7, none, none, none, none, none, none, none, none, none, none, none, none, o20, none] }
def L26_20 (t0 t4 t7 t9 t10 t11 : AV) (o4 o7 o17 o29 o41 o53 o65 o93 : Option AObj) : St := { tmps := [t0, .leaf .dead, .leaf .dead, .leaf .dead, t4, .leaf .dead, .leaf .dead, t7, .leaf .dead, t9, t10, t11, .leaf .dead, .leaf .dead, .leaf .dead, .leaf .dead, .leaf .dead, .leaf .dead, .leaf .dead, .leaf .dead, .leaf .dead, .leaf .dead, .leaf .dead, .leaf .dead, .leaf .dead, .leaf .dead, .leaf .dead, .leaf .dead, .leaf .dead, .leaf .dead, .leaf .dead, .leaf .dead, .leaf .dead, .leaf .dead, .leaf .dead, .leaf .dead, .leaf .dead, .leaf .dead, .leaf .dead, .leaf .dead, .leaf .dead, .leaf .dead, .leaf .dead, .leaf .dead, .leaf .dead, .leaf .dead, .leaf .dead, .leaf .dead, .leaf .dead, .leaf .dead, .leaf .dead, .leaf .dead, .leaf .dead, .leaf .dead, .leaf .dead, .leaf .dead, .leaf .dead, .leaf .dead, .leaf .dead, .leaf .dead, .leaf .dead, .leaf .dead, .leaf .dead, .leaf .dead, .leaf .dead, .leaf .dead, .leaf .dead, .leaf .dead, .leaf .dead, .leaf .dead, .leaf .dead, .leaf .dead, .leaf .dead, .leaf .dead, .leaf .dead, .leaf .dead, .leaf .dead, .leaf .dead, .leaf .dead, .leaf .dead, .leaf .dead, .leaf .dead, .leaf .dead, .leaf .dead, .leaf .dead, .leaf .dead, .leaf .dead, .leaf .dead, .leaf .dead, .leaf .dead, .leaf .dead, .leaf .dead, .leaf .dead, .leaf .dead, .leaf .dead, .leaf .dead, .leaf .dead], objs := [none, none, none, none, o4, none, none, o7, none, none, none, none, none, none, none, none, none, o17, none, none, none, none, none, none, none, none, none, none, none, o29, none, none, none, none, none, none, none, none, none, none, none, o41, none, none, none, none, none, none, none, none, none, none, none, o53, none, none, none, none, none, none, none, none, none, none, none, o65, none, none, none, none, none, none, none, none, none, none, none, none, none, none, none, none, none, none, none, none, none, none, none, none, none, none, none, o93, none, none, none] }
def L27_4 (t0 t1 t5 : AV) : St := { tmps := [t0, t1, .leaf .dead, .leaf .dead, .leaf .dead, t5, .leaf .dead, .leaf .dead, .leaf .dead, .leaf .dead, .leaf .dead, .leaf .dead, .leaf .dead, .leaf .dead, .leaf .dead, .leaf .dead, .leaf .dead, .leaf .dead, .leaf .dead, .leaf .dead, .leaf .dead, .leaf .dead, .leaf .dead, .leaf .dead, .leaf .dead, .leaf .dead, .leaf .dead], objs := [none, none, none, none, none, none, none, none, none, none, none, none, none, none, none, none, none, none, none, none, none, none, none, none, none, none, none] }
def L28_4 (t2 t3 t5 : AV) (o2 o3 : Option AObj) : St := { tmps := [.leaf .dead, .leaf .dead, t2, t3, .leaf .dead, t5, .leaf .dead, .leaf .dead, .leaf .dead, .leaf .dead, .leaf .dead, .leaf .dead, .leaf .dead, .leaf .dead, .leaf .dead, .leaf .dead, .leaf .dead, .leaf .dead, .leaf .dead, .leaf .dead, .leaf .dead, .leaf .dead, .leaf .dead, .leaf .dead, .leaf .dead, .leaf .dead, .leaf .dead, .leaf .dead, .leaf .dead, .leaf .dead, .leaf .dead, .leaf .dead, .leaf .dead, .leaf .dead, .leaf .dead, .leaf .dead, .leaf .dead, .leaf .dead, .leaf .dead, .leaf .dead, .leaf .dead, .leaf .dead, .leaf .dead, .leaf .dead, .leaf .dead, .leaf .dead, .leaf .dead, .leaf .dead, .leaf .dead, .leaf .dead, .leaf .dead, .leaf .dead, .leaf .dead, .leaf .dead, .leaf .dead, .leaf .dead, .leaf .dead, .leaf .dead, .leaf .dead, .leaf .dead, .leaf .dead], objs := [none, none, o2, o3, none, none, none, none, none, none, none, none, none, none, none, none, none, none, none, none, none, none, none, none, none, none, none, none, none, none, none, none, none, none, none, none, none, none, none, none, none, none, none, none, none, none, none, none, none, none, none, none, none, none, none, none, none, none, none, none, none] }
def L30_6 (t0 t3 t4 : AV) (x : List (Option AObj)) : St := { tmps := [t0, .leaf .dead, .leaf .dead, t3, t4, .leaf .dead, .leaf .dead, .leaf .dead, .leaf .dead, .leaf .dead, .leaf .dead, .leaf .dead, .leaf .dead, .leaf .dead, .leaf .dead, .leaf .dead, .leaf .dead, .leaf .dead, .leaf .dead, .leaf .dead, .leaf .dead, .leaf .dead, .leaf .dead, .leaf .dead, .leaf .dead, .leaf .dead, .leaf .dead, .leaf .dead, .leaf .dead, .leaf .dead, .leaf .dead, .leaf .dead, .leaf .dead, .leaf .dead, .leaf .dead, .leaf .dead, .leaf .dead, .leaf .dead, .leaf .dead, .leaf .dead, .leaf .dead, .leaf .dead, .leaf .dead, .leaf .dead, .leaf .dead, .leaf .dead, .leaf .dead, .leaf .dead, .leaf .dead, .leaf .dead, .leaf .dead, .leaf .dead, .leaf .dead, .leaf .dead, .leaf .dead, .leaf .dead, .leaf .dead, .leaf .dead, .leaf .dead, .leaf .dead, .leaf .dead, .leaf .dead, .leaf .dead, .leaf .dead, .leaf .dead, .leaf .dead, .leaf .dead, .leaf .dead, .leaf .dead, .leaf .dead, .leaf .dead, .leaf .dead], objs := [none, none, none, none, none, none, none, none, none, none, none, none, none, none, none, none, none, none, none, none, none, none, none, none, none, none, none, none, none, none, none, none, none, none, none, none, none, none, none, none, none, none, none, none, none, none, none, none, none, none, none, none, none, none, none, none, none, none, none, none, none, none, none, none, none, none, none, none, none, none, none, none] ++ x }
def L31_2 (t0 t5 : AV) (o20 : Option AObj) (x : List (Option AObj)) : St := { tmps := [t0, .leaf .dead, .leaf .dead, .leaf .dead, .leaf .dead, t5, .leaf .dead, .leaf .dead, .leaf .dead, .leaf .dead, .leaf .dead, .leaf .dead, .leaf .dead, .leaf .dead, .leaf .dead, .leaf .dead, .leaf .dead, .leaf .dead, .leaf .dead, .leaf .dead, .leaf .dead, .leaf .dead, .leaf .dead, .leaf .dead, .leaf .dead, .leaf .dead, .leaf .dead, .leaf .dead], objs := [none, none, none, none, none, none, none, none, none, none, none, none, none, none, none, none, none, none, none, none, o20, none, none, none, none, none, none, none] ++ x }
def L34_4 (t0 t27 t28 t29 : AV) (o11 o14 o17 o21 o25 o50 : Option AObj) (x : List (Option AObj)) : St := { tmps := [t0, .leaf .dead, .leaf .dead, .leaf .dead, .leaf .dead, .leaf .dead, .leaf .dead, .leaf .dead, .leaf .dead, .leaf .dead, .leaf .dead, .leaf .dead, .leaf .dead, .leaf .dead, .leaf .dead, .leaf .dead, .leaf .dead, .leaf .dead, .leaf .dead, .leaf .dead, .leaf .dead, .leaf .dead, .leaf .dead, .leaf .dead, .leaf .dead, .leaf .dead, .leaf .dead, t27, t28, t29, .leaf .dead, .leaf .dead, .leaf .dead, .leaf .dead, .leaf .dead, .leaf .dead, .leaf .dead, .leaf .dead, .leaf .dead, .leaf .dead, .leaf .dead, .leaf .dead, .leaf .dead, .leaf .dead, .leaf .dead, .leaf .dead, .leaf .dead, .leaf .dead, .leaf .dead, .leaf .dead, .leaf .dead, .leaf .dead, .leaf .dead, .leaf .dead, .leaf .dead, .leaf .dead, .leaf .dead, .leaf .dead, .leaf .dead, .leaf .dead, .leaf .dead], objs := [none, none, none, none, none, none, none, none, none, none, none, o11, none, none, o14, none, none, o17, none, none, none, o21, none, none, none, o25, none, none, none, none, none, none, none, none, none, none, none, none, none, none, none, none, none, none, none, none, none, none, none, none, o50, none, none, none, none, none, none, none, none, none, none] ++ x }
def L35_3 (t0 t1 t5 : AV) : St := { tmps := [t0, t1, .leaf .dead, .leaf .dead, .leaf .dead, t5, .leaf .dead, .leaf .dead, .leaf .dead, .leaf .dead, .leaf .dead, .leaf .dead, .leaf .dead, .leaf .dead, .leaf .dead, .leaf .dead, .leaf .dead, .leaf .dead, .leaf .dead, .leaf .dead, .leaf .dead, .leaf .dead, .leaf .dead], objs := [none, none, none, none, none, none, none, none, none, none, none, none, none, none, none, none, none, none, none, none, none, none, none] }
def L38_4 (t0 t1 t5 t6 t7 : AV) (o9 o26 : Option AObj) (x : List (Option AObj)) : St := { tmps := [t0, t1, .leaf .dead, .leaf .dead, .leaf .dead, t5, t6, t7, .leaf .dead, .leaf .dead, .leaf .dead, .leaf .dead, .leaf .dead, .leaf .dead, .leaf .dead, .leaf .dead, .leaf .dead, .leaf .dead, .leaf .dead, .leaf .dead, .leaf .dead, .leaf .dead, .leaf .dead, .leaf .dead, .leaf .dead, .leaf .dead, .leaf .dead, .leaf .dead], objs := [none, none, none, none, none, none, none, none, none, o9, none, none, none, none, none, none, none, none, none, none, none, none, none, none, none, none, o26, none] ++ x }
def L41_6 (t0 t7 t8 t10 t11 : AV) (o16 o41 : Option AObj) : St := { tmps := [t0, .leaf .dead, .leaf .dead, .leaf .dead, .leaf .dead, .leaf .dead, .leaf .dead, t7, t8, .leaf .dead, t10, t11, .leaf .dead, .leaf .dead, .leaf .dead, .leaf .dead, .leaf .dead, .leaf .dead, .leaf .dead, .leaf .dead, .leaf .dead, .leaf .dead, .leaf .dead, .leaf .dead, .leaf .dead, .leaf .dead, .leaf .dead, .leaf .dead, .leaf .dead, .leaf .dead, .leaf .dead, .leaf .dead, .leaf .dead, .leaf .dead, .leaf .dead, .leaf .dead, .leaf .dead, .leaf .dead, .leaf .dead, .leaf .dead, .leaf .dead, .leaf .dead, .leaf .dead, .leaf .dead], objs := [none, none, none, none, none, none, none, none, none, none, none, none, none, none, none, none, o16, none, none, none, none, none, none, none, none, none, none, none, none, none, none, none, none, none, none, none, none, none, none, none, none, o41, none, none] }
def L42_4 (t0 t7 t8 t9 t10 t11 : AV) (o16 o39 : Option AObj) : St := { tmps := [t0, .leaf .dead, .leaf .dead, .leaf .dead, .leaf .dead, .leaf .dead, .leaf .dead, t7, t8, t9, t10, t11, .leaf .dead, .leaf .dead, .leaf .dead, .leaf .dead, .leaf .dead, .leaf .dead, .leaf .dead, .leaf .dead, .leaf .dead, .leaf .dead, .leaf .dead, .leaf .dead, .leaf .dead, .leaf .dead, .leaf .dead, .leaf .dead, .leaf .dead, .leaf .dead, .leaf .dead, .leaf .dead, .leaf .dead, .leaf .dead, .leaf .dead, .leaf .dead, .leaf .dead, .leaf .dead, .leaf .dead, .leaf .dead, .leaf .dead, .leaf .dead, .leaf .dead], objs := [none, none, none, none, none, none, none, none, none, none, none, none, none, none, none, none, o16, none, none, none, none, none, none, none, none, none, none, none, none, none, none, none, none, none, none, none, none, none, none, o39, none, none, none] }
def L45_4 (t0 t1 t5 : AV) : St := { tmps := [t0, t1, .leaf .dead, .leaf .dead, .leaf .dead, t5, .leaf .dead, .leaf .dead, .leaf .dead, .leaf .dead, .leaf .dead, .leaf .dead, .leaf .dead, .leaf .dead, .leaf .dead, .leaf .dead, .leaf .dead, .leaf .dead, .leaf .dead, .leaf .dead, .leaf .dead, .leaf .dead, .leaf .dead, .leaf .dead, .leaf .dead, .leaf .dead], objs := [none, none, none, none, none, none, none, none, none, none, none, none, none, none, none, none, none, none, none, none, none, none, none, none, none, none] }
def L47_3 (t0 t11 t12 t13 : AV) (o10 : Option AObj) (x : List (Option AObj)) : St := { tmps := [t0, .leaf .dead, .leaf .dead, .leaf .dead, .leaf .dead, .leaf .dead, .leaf .dead, .leaf .dead, .leaf .dead, .leaf .dead, .leaf .dead, t11, t12, t13, .leaf .dead, .leaf .dead, .leaf .dead, .leaf .dead, .leaf .dead, .leaf .dead, .leaf .dead, .leaf .dead], objs := [none, none, none, none, none, none, none, none, none, none, o10, none, none, none, none, none, none, none, none, none, none, none] ++ x }
def L49_4 (t0 t1 t5 t6 t7 : AV) (o9 o26 : Option AObj) (x : List (Option AObj)) : St := { tmps := [t0, t1, .leaf .dead, .leaf .dead, .leaf .dead, t5, t6, t7, .leaf .dead, .leaf .dead, .leaf .dead, .leaf .dead, .leaf .dead, .leaf .dead, .leaf .dead, .leaf .dead, .leaf .dead, .leaf .dead, .leaf .dead, .leaf .dead, .leaf .dead, .leaf .dead, .leaf .dead, .leaf .dead, .leaf .dead, .leaf .dead, .leaf .dead, .leaf .dead], objs := [none, none, none, none, none, none, none, none, none, o9, none, none, none, none, none, none, none, none, none, none, none, none, none, none, none, none, o26, none] ++ x }
def L50_4 (t0 t1 t5 t6 t7 : AV) (o9 o26 : Option AObj) (x : List (Option AObj)) : St := { tmps := [t0, t1, .leaf .dead, .leaf .dead, .leaf .dead, t5, t6, t7, .leaf .dead, .leaf .dead, .leaf .dead, .leaf .dead, .leaf .dead, .leaf .dead, .leaf .dead, .leaf .dead, .leaf .dead, .leaf .dead, .leaf .dead, .leaf .dead, .leaf .dead, .leaf .dead, .leaf .dead, .leaf .dead, .leaf .dead, .leaf .dead, .leaf .dead, .leaf .dead], objs := [none, none, none, none, none, none, none, none, none, o9, none, none, none, none, none, none, none, none, none, none, none, none, none, none, none, none, o26, none] ++ x }
end Go.Ai
