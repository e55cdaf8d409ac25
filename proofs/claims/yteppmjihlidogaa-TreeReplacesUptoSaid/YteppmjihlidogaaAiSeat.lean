/- The seat's tables for the abstract run, written by aiseat.py out of the translation. -/
import Derived.Test.YteppmjihlidogaaAiRow
import Derived.Test.YteppmjihlidogaaAiSim4
import Derived.Test.YteppmjihlidogaaProg
import Derived.KernelRfl
open Go
namespace Go.Ai
set_option maxRecDepth 100000
set_option linter.unusedVariables false
def ty3 : Ty := ⟨.int .i64, [.int .i64 0], 1, 8, false⟩
def ty4 : Ty := ⟨.bool, [.bool false], 1, 1, false⟩
def ty9 : Ty := ⟨.str, [.str ⟨#[]⟩], 1, 16, false⟩
def ty22 : Ty := ⟨.slice 9, [.nil], 1, 24, false⟩
def ty23 : Ty := ⟨.slice 25, [.nil], 1, 24, false⟩
def ty25 : Ty := ⟨.struct [(0, 3), (1, 9), (2, 22), (3, 23)], [.int .i64 0, .str ⟨#[]⟩, .nil, .nil], 4, 72, false⟩
def ty26 : Ty := ⟨.slice 3, [.nil], 1, 24, false⟩
def ty36 : Ty := ⟨.slice 26, [.nil], 1, 24, false⟩
def ty45 : Ty := ⟨.other, [.nilf], 1, 8, false⟩
def T : Nat → Option Ty
  | 3 => some ty3
  | 4 => some ty4
  | 9 => some ty9
  | 22 => some ty22
  | 23 => some ty23
  | 25 => some ty25
  | 26 => some ty26
  | 36 => some ty36
  | 45 => some ty45
  | _ => none
def k3 : Nat → Keep
  | _ => ⟨0, [], [], [], []⟩
def k4 : Nat → Keep
  | _ => ⟨0, [], [], [], []⟩
def k5 : Nat → Keep
  | _ => ⟨0, [], [], [], []⟩
def k6 : Nat → Keep
  | 5 => ⟨40, [1, 3, 4], [1, 10], [], []⟩
  | _ => ⟨0, [], [], [], []⟩
def k7 : Nat → Keep
  | _ => ⟨0, [], [], [], []⟩
def k8 : Nat → Keep
  | 14 => ⟨154, [1, 3, 7, 10, 14], [3, 10, 29, 60], [], []⟩
  | _ => ⟨0, [], [], [], []⟩
def k9 : Nat → Keep
  | _ => ⟨0, [], [], [], []⟩
def k10 : Nat → Keep
  | _ => ⟨0, [], [], [], []⟩
def k11 : Nat → Keep
  | 2 => ⟨32, [2, 4, 8, 9, 10], [2, 4, 31], [], []⟩
  | _ => ⟨0, [], [], [], []⟩
def k12 : Nat → Keep
  | 2 => ⟨38, [1, 2, 4, 6], [2, 4], [], []⟩
  | _ => ⟨0, [], [], [], []⟩
def k13 : Nat → Keep
  | 4 => ⟨54, [2, 3, 5], [2, 3], [], []⟩
  | _ => ⟨0, [], [], [], []⟩
def k14 : Nat → Keep
  | 3 => ⟨48, [2, 5, 10, 11, 12], [2], [], []⟩
  | 9 => ⟨48, [2, 5, 7, 10, 11, 12, 30, 31, 32], [2], [], []⟩
  | _ => ⟨0, [], [], [], []⟩
def k15 : Nat → Keep
  | 3 => ⟨56, [1, 2, 5, 6], [2], [], []⟩
  | 9 => ⟨56, [1, 2, 5, 6, 7], [2], [], []⟩
  | _ => ⟨0, [], [], [], []⟩
def k16 : Nat → Keep
  | 4 => ⟨54, [2, 3, 37, 38], [2, 3], [], []⟩
  | _ => ⟨0, [], [], [], []⟩
def k17 : Nat → Keep
  | 3 => ⟨27, [2, 3, 12, 13, 14], [2, 3, 23], [(3, 3, 23, 25, 4, false)], []⟩
  | _ => ⟨0, [], [], [], []⟩
def k18 : Nat → Keep
  | 3 => ⟨29, [1, 2, 3, 4], [1, 2, 3, 26], [(3, 3, 26, 25, 4, false)], []⟩
  | _ => ⟨0, [], [], [], []⟩
def k19 : Nat → Keep
  | 3 => ⟨19, [3, 7, 8, 9], [], [], []⟩
  | _ => ⟨0, [], [], [], []⟩
def k20 : Nat → Keep
  | 3 => ⟨21, [1, 3, 4], [1], [], []⟩
  | _ => ⟨0, [], [], [], []⟩
def k21 : Nat → Keep
  | 3 => ⟨20, [3, 7, 8, 9], [], [], []⟩
  | _ => ⟨0, [], [], [], []⟩
def k22 : Nat → Keep
  | 3 => ⟨22, [1, 3, 4], [1], [], []⟩
  | _ => ⟨0, [], [], [], []⟩
def k23 : Nat → Keep
  | 4 => ⟨27, [0, 1, 5], [], [], []⟩
  | _ => ⟨0, [], [], [], []⟩
def k24 : Nat → Keep
  | _ => ⟨0, [], [], [], []⟩
def k25 : Nat → Keep
  | _ => ⟨0, [], [], [], []⟩
def k26 : Nat → Keep
  | 7 => ⟨77, [1, 5, 6, 8, 42, 43, 44], [5, 6, 8, 18, 39, 73], [(8, 3, 73, 25, 4, false)], []⟩
  | _ => ⟨0, [], [], [], []⟩
def k27 : Nat → Keep
  | _ => ⟨0, [], [], [], []⟩
def k28 : Nat → Keep
  | _ => ⟨0, [], [], [], []⟩
def k29 : Nat → Keep
  | _ => ⟨0, [], [], [], []⟩
def k30 : Nat → Keep
  | 3 => ⟨30, [2, 3, 15, 16, 17], [2, 3, 12, 26], [(3, 3, 26, 25, 4, false)], []⟩
  | _ => ⟨0, [], [], [], []⟩
def k31 : Nat → Keep
  | 4 => ⟨26, [0, 1, 5], [], [], []⟩
  | _ => ⟨0, [], [], [], []⟩
def k32 : Nat → Keep
  | 4 => ⟨26, [0, 1, 12, 13], [], [], []⟩
  | _ => ⟨0, [], [], [], []⟩
def k33 : Nat → Keep
  | 4 => ⟨26, [0, 1, 5], [], [], []⟩
  | _ => ⟨0, [], [], [], []⟩
def k34 : Nat → Keep
  | 3 => ⟨29, [1, 3, 14, 15, 16], [26], [], [(1, 26, 3, 1, false)]⟩
  | _ => ⟨0, [], [], [], []⟩
def k35 : Nat → Keep
  | 3 => ⟨33, [0, 2, 4, 7], [4, 11], [], []⟩
  | _ => ⟨0, [], [], [], []⟩
noncomputable def fun3 : Fun := ⟨Proofs.Try.f3, k3, [], false, false⟩
noncomputable def fun4 : Fun := ⟨Proofs.Try.f4, k4, [], false, false⟩
noncomputable def fun5 : Fun := ⟨Proofs.Try.f5, k5, [], false, false⟩
noncomputable def fun6 : Fun := ⟨Proofs.Try.f6, k6, [], false, false⟩
noncomputable def fun7 : Fun := ⟨Proofs.Try.f7, k7, [], false, false⟩
noncomputable def fun8 : Fun := ⟨Proofs.Try.f8, k8, [], false, false⟩
noncomputable def fun9 : Fun := ⟨Proofs.Try.f9, k9, [], false, false⟩
noncomputable def fun10 : Fun := ⟨Proofs.Try.f10, k10, [], false, false⟩
noncomputable def fun11 : Fun := ⟨Proofs.Try.f11, k11, [], false, false⟩
noncomputable def fun12 : Fun := ⟨Proofs.Try.f12, k12, [], false, false⟩
noncomputable def fun13 : Fun := ⟨Proofs.Try.f13, k13, [], false, false⟩
noncomputable def fun14 : Fun := ⟨Proofs.Try.f14, k14, [], false, false⟩
noncomputable def fun15 : Fun := ⟨Proofs.Try.f15, k15, [], false, false⟩
noncomputable def fun16 : Fun := ⟨Proofs.Try.f16, k16, [], false, false⟩
noncomputable def fun17 : Fun := ⟨Proofs.Try.f17, k17, [], false, false⟩
noncomputable def fun18 : Fun := ⟨Proofs.Try.f18, k18, [], false, false⟩
noncomputable def fun19 : Fun := ⟨Proofs.Try.f19, k19, [], false, false⟩
noncomputable def fun20 : Fun := ⟨Proofs.Try.f20, k20, [], false, false⟩
noncomputable def fun21 : Fun := ⟨Proofs.Try.f21, k21, [], false, false⟩
noncomputable def fun22 : Fun := ⟨Proofs.Try.f22, k22, [], false, false⟩
noncomputable def fun23 : Fun := ⟨Proofs.Try.f23, k23, [], false, false⟩
noncomputable def fun24 : Fun := ⟨Proofs.Try.f24, k24, [], false, false⟩
noncomputable def fun25 : Fun := ⟨Proofs.Try.f25, k25, [], false, false⟩
noncomputable def fun26 : Fun := ⟨Proofs.Try.f26, k26, [], false, false⟩
noncomputable def fun27 : Fun := ⟨Proofs.Try.f27, k27, [48], false, false⟩
noncomputable def fun28 : Fun := ⟨Proofs.Try.f28, k28, [], false, false⟩
noncomputable def fun29 : Fun := ⟨Proofs.Try.f29, k29, [], false, false⟩
noncomputable def fun30 : Fun := ⟨Proofs.Try.f30, k30, [], false, false⟩
noncomputable def fun31 : Fun := ⟨Proofs.Try.f31, k31, [], false, false⟩
noncomputable def fun32 : Fun := ⟨Proofs.Try.f32, k32, [], false, false⟩
noncomputable def fun33 : Fun := ⟨Proofs.Try.f33, k33, [], false, false⟩
noncomputable def fun34 : Fun := ⟨Proofs.Try.f34, k34, [], false, false⟩
noncomputable def fun35 : Fun := ⟨Proofs.Try.f35, k35, [], false, false⟩
noncomputable def F : Nat → Option Fun
  | 3 => some fun3
  | 4 => some fun4
  | 5 => some fun5
  | 6 => some fun6
  | 7 => some fun7
  | 8 => some fun8
  | 9 => some fun9
  | 10 => some fun10
  | 11 => some fun11
  | 12 => some fun12
  | 13 => some fun13
  | 14 => some fun14
  | 15 => some fun15
  | 16 => some fun16
  | 17 => some fun17
  | 18 => some fun18
  | 19 => some fun19
  | 20 => some fun20
  | 21 => some fun21
  | 22 => some fun22
  | 23 => some fun23
  | 24 => some fun24
  | 25 => some fun25
  | 26 => some fun26
  | 27 => some fun27
  | 28 => some fun28
  | 29 => some fun29
  | 30 => some fun30
  | 31 => some fun31
  | 32 => some fun32
  | 33 => some fun33
  | 34 => some fun34
  | 35 => some fun35
  | _ => none
theorem ty3_ok : TyOk Proofs.Try.prog 3 ty3 := tyCheck_ok (by kernel_rfl)
theorem ty4_ok : TyOk Proofs.Try.prog 4 ty4 := tyCheck_ok (by kernel_rfl)
theorem ty9_ok : TyOk Proofs.Try.prog 9 ty9 := tyCheck_ok (by kernel_rfl)
theorem ty22_ok : TyOk Proofs.Try.prog 22 ty22 := tyCheck_ok (by kernel_rfl)
theorem ty23_ok : TyOk Proofs.Try.prog 23 ty23 := tyCheck_ok (by kernel_rfl)
theorem ty25_ok : TyOk Proofs.Try.prog 25 ty25 := tyCheck_ok (by kernel_rfl)
theorem ty26_ok : TyOk Proofs.Try.prog 26 ty26 := tyCheck_ok (by kernel_rfl)
theorem ty36_ok : TyOk Proofs.Try.prog 36 ty36 := tyCheck_ok (by kernel_rfl)
theorem ty45_ok : TyOk Proofs.Try.prog 45 ty45 := tyCheck_ok (by kernel_rfl)
theorem T_ok : TOk Proofs.Try.prog T := by
  intro t ty h
  unfold T at h
  split at h
  · injection h with h; subst h; exact ty3_ok
  · injection h with h; subst h; exact ty4_ok
  · injection h with h; subst h; exact ty9_ok
  · injection h with h; subst h; exact ty22_ok
  · injection h with h; subst h; exact ty23_ok
  · injection h with h; subst h; exact ty25_ok
  · injection h with h; subst h; exact ty26_ok
  · injection h with h; subst h; exact ty36_ok
  · injection h with h; subst h; exact ty45_ok
  · cases h
theorem F_ok : FOk Proofs.Try.prog F := by
  intro g f h
  unfold F at h
  split at h
  · injection h with h; subst h; exact ⟨Proofs.Try.func3, by rfl⟩
  · injection h with h; subst h; exact ⟨Proofs.Try.func4, by rfl⟩
  · injection h with h; subst h; exact ⟨Proofs.Try.func5, by rfl⟩
  · injection h with h; subst h; exact ⟨Proofs.Try.func6, by rfl⟩
  · injection h with h; subst h; exact ⟨Proofs.Try.func7, by rfl⟩
  · injection h with h; subst h; exact ⟨Proofs.Try.func8, by rfl⟩
  · injection h with h; subst h; exact ⟨Proofs.Try.func9, by rfl⟩
  · injection h with h; subst h; exact ⟨Proofs.Try.func10, by rfl⟩
  · injection h with h; subst h; exact ⟨Proofs.Try.func11, by rfl⟩
  · injection h with h; subst h; exact ⟨Proofs.Try.func12, by rfl⟩
  · injection h with h; subst h; exact ⟨Proofs.Try.func13, by rfl⟩
  · injection h with h; subst h; exact ⟨Proofs.Try.func14, by rfl⟩
  · injection h with h; subst h; exact ⟨Proofs.Try.func15, by rfl⟩
  · injection h with h; subst h; exact ⟨Proofs.Try.func16, by rfl⟩
  · injection h with h; subst h; exact ⟨Proofs.Try.func17, by rfl⟩
  · injection h with h; subst h; exact ⟨Proofs.Try.func18, by rfl⟩
  · injection h with h; subst h; exact ⟨Proofs.Try.func19, by rfl⟩
  · injection h with h; subst h; exact ⟨Proofs.Try.func20, by rfl⟩
  · injection h with h; subst h; exact ⟨Proofs.Try.func21, by rfl⟩
  · injection h with h; subst h; exact ⟨Proofs.Try.func22, by rfl⟩
  · injection h with h; subst h; exact ⟨Proofs.Try.func23, by rfl⟩
  · injection h with h; subst h; exact ⟨Proofs.Try.func24, by rfl⟩
  · injection h with h; subst h; exact ⟨Proofs.Try.func25, by rfl⟩
  · injection h with h; subst h; exact ⟨Proofs.Try.func26, by rfl⟩
  · injection h with h; subst h; exact ⟨Proofs.Try.func27, by rfl⟩
  · injection h with h; subst h; exact ⟨Proofs.Try.func28, by rfl⟩
  · injection h with h; subst h; exact ⟨Proofs.Try.func29, by rfl⟩
  · injection h with h; subst h; exact ⟨Proofs.Try.func30, by rfl⟩
  · injection h with h; subst h; exact ⟨Proofs.Try.func31, by rfl⟩
  · injection h with h; subst h; exact ⟨Proofs.Try.func32, by rfl⟩
  · injection h with h; subst h; exact ⟨Proofs.Try.func33, by rfl⟩
  · injection h with h; subst h; exact ⟨Proofs.Try.func34, by rfl⟩
  · injection h with h; subst h; exact ⟨Proofs.Try.func35, by rfl⟩
  · cases h
theorem F_obj (g : Nat) (f : Fun) (hf : F g = some f) (hg : [].contains g = false) : f.obj = false := by
  unfold F at hf
  split at hf <;> first | (injection hf with hf; subst hf; first | rfl | cases hg) | cases hf
theorem F_full (g : Nat) (f : Fun) (hf : F g = some f) (hg : [].contains g = true) : f.full = true := by
  unfold F at hf
  split at hf <;> first | (injection hf with hf; subst hf; first | rfl | cases hg) | cases hf
/-- Functions whose contracts are proved by hand. -/
structure Orac where
  pure : Nat → List AV → Option AV
  ok : ∀ g a, [24].contains g = false → pure g a = none
variable (o : Orac)
noncomputable def seat : Seat := { T := T, F := F, S := { pure := o.pure, full := fun _ _ _ _ => none }, O := fun g => [].contains g, apart := { noP := fun g a h => ⟨o.ok g a (by cases h), fun f hf => F_full g f hf h⟩, noF := fun g d a ob h => ⟨rfl, fun f hf => F_obj g f hf h⟩ } }
theorem seat_T : (seat o).T = T := rfl
theorem seat_O (g : Nat) : (seat o).O g = [].contains g := rfl
theorem seat_call {T : Nat → Option Ty} {st : St} {d : Option Nat} {g : Nat} {xs : Array Operand} {tys : Array TypeId} {G : List Nat} : stepU T ((seat o).env G) st d (.call ⟨.value (.func g), xs, tys⟩) = callS (seat o) st d g (mapEval (evalOp st.tmps) xs.toList) := s_call rfl
theorem T_3 : T 3 = some ⟨.int .i64, [.int .i64 0], 1, 8, false⟩ := rfl
theorem T_4 : T 4 = some ⟨.bool, [.bool false], 1, 1, false⟩ := rfl
theorem T_9 : T 9 = some ⟨.str, [.str ⟨#[]⟩], 1, 16, false⟩ := rfl
theorem T_22 : T 22 = some ⟨.slice 9, [.nil], 1, 24, false⟩ := rfl
theorem T_23 : T 23 = some ⟨.slice 25, [.nil], 1, 24, false⟩ := rfl
theorem T_25 : T 25 = some ⟨.struct [(0, 3), (1, 9), (2, 22), (3, 23)], [.int .i64 0, .str ⟨#[]⟩, .nil, .nil], 4, 72, false⟩ := rfl
theorem T_26 : T 26 = some ⟨.slice 3, [.nil], 1, 24, false⟩ := rfl
theorem T_36 : T 36 = some ⟨.slice 26, [.nil], 1, 24, false⟩ := rfl
theorem T_45 : T 45 = some ⟨.other, [.nilf], 1, 8, false⟩ := rfl
def L6_5 (t1 t3 t4 : AV) (o1 o10 : Option AObj) : St := { tmps := [.leaf .dead, t1, .leaf .dead, t3, t4, .leaf .dead, .leaf .dead, .leaf .dead, .leaf .dead, .leaf .dead, .leaf .dead, .leaf .dead, .leaf .dead, .leaf .dead, .leaf .dead, .leaf .dead, .leaf .dead, .leaf .dead, .leaf .dead, .leaf .dead, .leaf .dead, .leaf .dead, .leaf .dead, .leaf .dead, .leaf .dead, .leaf .dead, .leaf .dead, .leaf .dead, .leaf .dead, .leaf .dead, .leaf .dead, .leaf .dead, .leaf .dead, .leaf .dead, .leaf .dead, .leaf .dead, .leaf .dead, .leaf .dead, .leaf .dead, .leaf .dead], objs := [none, o1, none, none, none, none, none, none, none, none, o10, none, none, none, none, none, none, none, none, none, none, none, none, none, none, none, none, none, none, none, none, none, none, none, none, none, none, none, none, none] }
def L8_14 (t1 t3 t7 t10 t14 : AV) (o3 o10 o29 o60 : Option AObj) : St := { tmps := [.leaf .dead, t1, .leaf .dead, t3, .leaf .dead, .leaf .dead, .leaf .dead, t7, .leaf .dead, .leaf .dead, t10, .leaf .dead, .leaf .dead, .leaf .dead, t14, .leaf .dead, .leaf .dead, .leaf .dead, .leaf .dead, .leaf .dead, .leaf .dead, .leaf .dead, .leaf .dead, .leaf .dead, .leaf .dead, .leaf .dead, .leaf .dead, .leaf .dead, .leaf .dead, .leaf .dead, .leaf .dead, .leaf .dead, .leaf .dead, .leaf .dead, .leaf .dead, .leaf .dead, .leaf .dead, .leaf .dead, .leaf .dead, .leaf .dead, .leaf .dead, .leaf .dead, .leaf .dead, .leaf .dead, .leaf .dead, .leaf .dead, .leaf .dead, .leaf .dead, .leaf .dead, .leaf .dead, .leaf .dead, .leaf .dead, .leaf .dead, .leaf .dead, .leaf .dead, .leaf .dead, .leaf .dead, .leaf .dead, .leaf .dead, .leaf .dead, .leaf .dead, .leaf .dead, .leaf .dead, .leaf .dead, .leaf .dead, .leaf .dead, .leaf .dead, .leaf .dead, .leaf .dead, .leaf .dead, .leaf .dead, .leaf .dead, .leaf .dead, .leaf .dead, .leaf .dead, .leaf .dead, .leaf .dead, .leaf .dead, .leaf .dead, .leaf .dead, .leaf .dead, .leaf .dead, .leaf .dead, .leaf .dead, .leaf .dead, .leaf .dead, .leaf .dead, .leaf .dead, .leaf .dead, .leaf .dead, .leaf .dead, .leaf .dead, .leaf .dead, .leaf .dead, .leaf .dead, .leaf .dead, .leaf .dead, .leaf .dead, .leaf .dead, .leaf .dead, .leaf .dead, .leaf .dead, .leaf .dead, .leaf .dead, .leaf .dead, .leaf .dead, .leaf .dead, .leaf .dead, .leaf .dead, .leaf .dead, .leaf .dead, .leaf .dead, .leaf .dead, .leaf .dead, .leaf .dead, .leaf .dead, .leaf .dead, .leaf .dead, .leaf .dead, .leaf .dead, .leaf .dead, .leaf .dead, .leaf .dead, .leaf .dead, .leaf .dead, .leaf .dead, .leaf .dead, .leaf .dead, .leaf .dead, .leaf .dead, .leaf .dead, .leaf .dead, .leaf .dead, .leaf .dead, .leaf .dead, .leaf .dead, .leaf .dead, .leaf .dead, .leaf .dead, .leaf .dead, .leaf .dead, .leaf .dead, .leaf .dead, .leaf .dead, .leaf .dead, .leaf .dead, .leaf .dead, .leaf .dead, .leaf .dead, .leaf .dead, .leaf .dead, .leaf .dead, .leaf .dead, .leaf .dead], objs := [none, none, none, o3, none, none, none, none, none, none, o10, none, none, none, none, none, none, none, none, none, none, none, none, none, none, none, none, none, none, o29, none, none, none, none, none, none, none, none, none, none, none, none, none, none, none, none, none, none, none, none, none, none, none, none, none, none, none, none, none, none, o60, none, none, none, none, none, none, none, none, none, none, none, none, none, none, none, none, none, none, none, none, none, none, none, none, none, none, none, none, none, none, none, none, none, none, none, none, none, none, none, none, none, none, none, none, none, none, none, none, none, none, none, none, none, none, none, none, none, none, none, none, none, none, none, none, none, none, none, none, none, none, none, none, none, none, none, none, none, none, none, none, none, none, none, none, none, none, none, none, none, none, none, none, none] }
def L11_2 (t2 t4 t8 t9 t10 : AV) (o2 o4 o31 : Option AObj) : St := { tmps := [.leaf .dead, .leaf .dead, t2, .leaf .dead, t4, .leaf .dead, .leaf .dead, .leaf .dead, t8, t9, t10, .leaf .dead, .leaf .dead, .leaf .dead, .leaf .dead, .leaf .dead, .leaf .dead, .leaf .dead, .leaf .dead, .leaf .dead, .leaf .dead, .leaf .dead, .leaf .dead, .leaf .dead, .leaf .dead, .leaf .dead, .leaf .dead, .leaf .dead, .leaf .dead, .leaf .dead, .leaf .dead, .leaf .dead], objs := [none, none, o2, none, o4, none, none, none, none, none, none, none, none, none, none, none, none, none, none, none, none, none, none, none, none, none, none, none, none, none, none, o31] }
def L12_2 (t1 t2 t4 t6 : AV) (o2 o4 : Option AObj) : St := { tmps := [.leaf .dead, t1, t2, .leaf .dead, t4, .leaf .dead, t6, .leaf .dead, .leaf .dead, .leaf .dead, .leaf .dead, .leaf .dead, .leaf .dead, .leaf .dead, .leaf .dead, .leaf .dead, .leaf .dead, .leaf .dead, .leaf .dead, .leaf .dead, .leaf .dead, .leaf .dead, .leaf .dead, .leaf .dead, .leaf .dead, .leaf .dead, .leaf .dead, .leaf .dead, .leaf .dead, .leaf .dead, .leaf .dead, .leaf .dead, .leaf .dead, .leaf .dead, .leaf .dead, .leaf .dead, .leaf .dead, .leaf .dead], objs := [none, none, o2, none, o4, none, none, none, none, none, none, none, none, none, none, none, none, none, none, none, none, none, none, none, none, none, none, none, none, none, none, none, none, none, none, none, none, none] }
def L13_4 (t2 t3 t5 : AV) (o2 o3 : Option AObj) : St := { tmps := [.leaf .dead, .leaf .dead, t2, t3, .leaf .dead, t5, .leaf .dead, .leaf .dead, .leaf .dead, .leaf .dead, .leaf .dead, .leaf .dead, .leaf .dead, .leaf .dead, .leaf .dead, .leaf .dead, .leaf .dead, .leaf .dead, .leaf .dead, .leaf .dead, .leaf .dead, .leaf .dead, .leaf .dead, .leaf .dead, .leaf .dead, .leaf .dead, .leaf .dead, .leaf .dead, .leaf .dead, .leaf .dead, .leaf .dead, .leaf .dead, .leaf .dead, .leaf .dead, .leaf .dead, .leaf .dead, .leaf .dead, .leaf .dead, .leaf .dead, .leaf .dead, .leaf .dead, .leaf .dead, .leaf .dead, .leaf .dead, .leaf .dead, .leaf .dead, .leaf .dead, .leaf .dead, .leaf .dead, .leaf .dead, .leaf .dead, .leaf .dead, .leaf .dead, .leaf .dead], objs := [none, none, o2, o3, none, none, none, none, none, none, none, none, none, none, none, none, none, none, none, none, none, none, none, none, none, none, none, none, none, none, none, none, none, none, none, none, none, none, none, none, none, none, none, none, none, none, none, none, none, none, none, none, none, none] }
def L14_3 (t2 t5 t10 t11 t12 : AV) (o2 : Option AObj) : St := { tmps := [.leaf .dead, .leaf .dead, t2, .leaf .dead, .leaf .dead, t5, .leaf .dead, .leaf .dead, .leaf .dead, .leaf .dead, t10, t11, t12, .leaf .dead, .leaf .dead, .leaf .dead, .leaf .dead, .leaf .dead, .leaf .dead, .leaf .dead, .leaf .dead, .leaf .dead, .leaf .dead, .leaf .dead, .leaf .dead, .leaf .dead, .leaf .dead, .leaf .dead, .leaf .dead, .leaf .dead, .leaf .dead, .leaf .dead, .leaf .dead, .leaf .dead, .leaf .dead, .leaf .dead, .leaf .dead, .leaf .dead, .leaf .dead, .leaf .dead, .leaf .dead, .leaf .dead, .leaf .dead, .leaf .dead, .leaf .dead, .leaf .dead, .leaf .dead, .leaf .dead], objs := [none, none, o2, none, none, none, none, none, none, none, none, none, none, none, none, none, none, none, none, none, none, none, none, none, none, none, none, none, none, none, none, none, none, none, none, none, none, none, none, none, none, none, none, none, none, none, none, none] }
def L14_9 (t2 t5 t7 t10 t11 t12 t30 t31 t32 : AV) (o2 : Option AObj) : St := { tmps := [.leaf .dead, .leaf .dead, t2, .leaf .dead, .leaf .dead, t5, .leaf .dead, t7, .leaf .dead, .leaf .dead, t10, t11, t12, .leaf .dead, .leaf .dead, .leaf .dead, .leaf .dead, .leaf .dead, .leaf .dead, .leaf .dead, .leaf .dead, .leaf .dead, .leaf .dead, .leaf .dead, .leaf .dead, .leaf .dead, .leaf .dead, .leaf .dead, .leaf .dead, .leaf .dead, t30, t31, t32, .leaf .dead, .leaf .dead, .leaf .dead, .leaf .dead, .leaf .dead, .leaf .dead, .leaf .dead, .leaf .dead, .leaf .dead, .leaf .dead, .leaf .dead, .leaf .dead, .leaf .dead, .leaf .dead, .leaf .dead], objs := [none, none, o2, none, none, none, none, none, none, none, none, none, none, none, none, none, none, none, none, none, none, none, none, none, none, none, none, none, none, none, none, none, none, none, none, none, none, none, none, none, none, none, none, none, none, none, none, none] }
def L15_3 (t1 t2 t5 t6 : AV) (o2 : Option AObj) : St := { tmps := [.leaf .dead, t1, t2, .leaf .dead, .leaf .dead, t5, t6, .leaf .dead, .leaf .dead, .leaf .dead, .leaf .dead, .leaf .dead, .leaf .dead, .leaf .dead, .leaf .dead, .leaf .dead, .leaf .dead, .leaf .dead, .leaf .dead, .leaf .dead, .leaf .dead, .leaf .dead, .leaf .dead, .leaf .dead, .leaf .dead, .leaf .dead, .leaf .dead, .leaf .dead, .leaf .dead, .leaf .dead, .leaf .dead, .leaf .dead, .leaf .dead, .leaf .dead, .leaf .dead, .leaf .dead, .leaf .dead, .leaf .dead, .leaf .dead, .leaf .dead, .leaf .dead, .leaf .dead, .leaf .dead, .leaf .dead, .leaf .dead, .leaf .dead, .leaf .dead, .leaf .dead, .leaf .dead, .leaf .dead, .leaf .dead, .leaf .dead, .leaf .dead, .leaf .dead, .leaf .dead, .leaf .dead], objs := [none, none, o2, none, none, none, none, none, none, none, none, none, none, none, none, none, none, none, none, none, none, none, none, none, none, none, none, none, none, none, none, none, none, none, none, none, none, none, none, none, none, none, none, none, none, none, none, none, none, none, none, none, none, none, none, none] }
def L15_9 (t1 t2 t5 t6 t7 : AV) (o2 : Option AObj) : St := { tmps := [.leaf .dead, t1, t2, .leaf .dead, .leaf .dead, t5, t6, t7, .leaf .dead, .leaf .dead, .leaf .dead, .leaf .dead, .leaf .dead, .leaf .dead, .leaf .dead, .leaf .dead, .leaf .dead, .leaf .dead, .leaf .dead, .leaf .dead, .leaf .dead, .leaf .dead, .leaf .dead, .leaf .dead, .leaf .dead, .leaf .dead, .leaf .dead, .leaf .dead, .leaf .dead, .leaf .dead, .leaf .dead, .leaf .dead, .leaf .dead, .leaf .dead, .leaf .dead, .leaf .dead, .leaf .dead, .leaf .dead, .leaf .dead, .leaf .dead, .leaf .dead, .leaf .dead, .leaf .dead, .leaf .dead, .leaf .dead, .leaf .dead, .leaf .dead, .leaf .dead, .leaf .dead, .leaf .dead, .leaf .dead, .leaf .dead, .leaf .dead, .leaf .dead, .leaf .dead, .leaf .dead], objs := [none, none, o2, none, none, none, none, none, none, none, none, none, none, none, none, none, none, none, none, none, none, none, none, none, none, none, none, none, none, none, none, none, none, none, none, none, none, none, none, none, none, none, none, none, none, none, none, none, none, none, none, none, none, none, none, none] }
def L16_4 (t2 t3 t37 t38 : AV) (o2 o3 : Option AObj) : St := { tmps := [.leaf .dead, .leaf .dead, t2, t3, .leaf .dead, .leaf .dead, .leaf .dead, .leaf .dead, .leaf .dead, .leaf .dead, .leaf .dead, .leaf .dead, .leaf .dead, .leaf .dead, .leaf .dead, .leaf .dead, .leaf .dead, .leaf .dead, .leaf .dead, .leaf .dead, .leaf .dead, .leaf .dead, .leaf .dead, .leaf .dead, .leaf .dead, .leaf .dead, .leaf .dead, .leaf .dead, .leaf .dead, .leaf .dead, .leaf .dead, .leaf .dead, .leaf .dead, .leaf .dead, .leaf .dead, .leaf .dead, .leaf .dead, t37, t38, .leaf .dead, .leaf .dead, .leaf .dead, .leaf .dead, .leaf .dead, .leaf .dead, .leaf .dead, .leaf .dead, .leaf .dead, .leaf .dead, .leaf .dead, .leaf .dead, .leaf .dead, .leaf .dead, .leaf .dead], objs := [none, none, o2, o3, none, none, none, none, none, none, none, none, none, none, none, none, none, none, none, none, none, none, none, none, none, none, none, none, none, none, none, none, none, none, none, none, none, none, none, none, none, none, none, none, none, none, none, none, none, none, none, none, none, none] }
def L17_3 (t2 t3 t12 t13 t14 : AV) (o2 o3 o23 : Option AObj) : St := { tmps := [.leaf .dead, .leaf .dead, t2, t3, .leaf .dead, .leaf .dead, .leaf .dead, .leaf .dead, .leaf .dead, .leaf .dead, .leaf .dead, .leaf .dead, t12, t13, t14, .leaf .dead, .leaf .dead, .leaf .dead, .leaf .dead, .leaf .dead, .leaf .dead, .leaf .dead, .leaf .dead, .leaf .dead, .leaf .dead, .leaf .dead, .leaf .dead], objs := [none, none, o2, o3, none, none, none, none, none, none, none, none, none, none, none, none, none, none, none, none, none, none, none, o23, none, none, none] }
def L18_3 (t1 t2 t3 t4 : AV) (o1 o2 o3 o26 : Option AObj) : St := { tmps := [.leaf .dead, t1, t2, t3, t4, .leaf .dead, .leaf .dead, .leaf .dead, .leaf .dead, .leaf .dead, .leaf .dead, .leaf .dead, .leaf .dead, .leaf .dead, .leaf .dead, .leaf .dead, .leaf .dead, .leaf .dead, .leaf .dead, .leaf .dead, .leaf .dead, .leaf .dead, .leaf .dead, .leaf .dead, .leaf .dead, .leaf .dead, .leaf .dead, .leaf .dead, .leaf .dead], objs := [none, o1, o2, o3, none, none, none, none, none, none, none, none, none, none, none, none, none, none, none, none, none, none, none, none, none, none, o26, none, none] }
def L19_3 (t3 t7 t8 t9 : AV) : St := { tmps := [.leaf .dead, .leaf .dead, .leaf .dead, t3, .leaf .dead, .leaf .dead, .leaf .dead, t7, t8, t9, .leaf .dead, .leaf .dead, .leaf .dead, .leaf .dead, .leaf .dead, .leaf .dead, .leaf .dead, .leaf .dead, .leaf .dead], objs := [none, none, none, none, none, none, none, none, none, none, none, none, none, none, none, none, none, none, none] }
def L20_3 (t1 t3 t4 : AV) (o1 : Option AObj) : St := { tmps := [.leaf .dead, t1, .leaf .dead, t3, t4, .leaf .dead, .leaf .dead, .leaf .dead, .leaf .dead, .leaf .dead, .leaf .dead, .leaf .dead, .leaf .dead, .leaf .dead, .leaf .dead, .leaf .dead, .leaf .dead, .leaf .dead, .leaf .dead, .leaf .dead, .leaf .dead], objs := [none, o1, none, none, none, none, none, none, none, none, none, none, none, none, none, none, none, none, none, none, none] }
def L21_3 (t3 t7 t8 t9 : AV) : St := { tmps := [.leaf .dead, .leaf .dead, .leaf .dead, t3, .leaf .dead, .leaf .dead, .leaf .dead, t7, t8, t9, .leaf .dead, .leaf .dead, .leaf .dead, .leaf .dead, .leaf .dead, .leaf .dead, .leaf .dead, .leaf .dead, .leaf .dead, .leaf .dead], objs := [none, none, none, none, none, none, none, none, none, none, none, none, none, none, none, none, none, none, none, none] }
def L22_3 (t1 t3 t4 : AV) (o1 : Option AObj) : St := { tmps := [.leaf .dead, t1, .leaf .dead, t3, t4, .leaf .dead, .leaf .dead, .leaf .dead, .leaf .dead, .leaf .dead, .leaf .dead, .leaf .dead, .leaf .dead, .leaf .dead, .leaf .dead, .leaf .dead, .leaf .dead, .leaf .dead, .leaf .dead, .leaf .dead, .leaf .dead, .leaf .dead], objs := [none, o1, none, none, none, none, none, none, none, none, none, none, none, none, none, none, none, none, none, none, none, none] }
def L23_4 (t0 t1 t5 : AV) : St := { tmps := [t0, t1, .leaf .dead, .leaf .dead, .leaf .dead, t5, .leaf .dead, .leaf .dead, .leaf .dead, .leaf .dead, .leaf .dead, .leaf .dead, .leaf .dead, .leaf .dead, .leaf .dead, .leaf .dead, .leaf .dead, .leaf .dead, .leaf .dead, .leaf .dead, .leaf .dead, .leaf .dead, .leaf .dead, .leaf .dead, .leaf .dead, .leaf .dead, .leaf .dead], objs := [none, none, none, none, none, none, none, none, none, none, none, none, none, none, none, none, none, none, none, none, none, none, none, none, none, none, none] }
def L26_7 (t1 t5 t6 t8 t42 t43 t44 : AV) (o5 o6 o8 o18 o39 o73 : Option AObj) : St := { tmps := [.leaf .dead, t1, .leaf .dead, .leaf .dead, .leaf .dead, t5, t6, .leaf .dead, t8, .leaf .dead, .leaf .dead, .leaf .dead, .leaf .dead, .leaf .dead, .leaf .dead, .leaf .dead, .leaf .dead, .leaf .dead, .leaf .dead, .leaf .dead, .leaf .dead, .leaf .dead, .leaf .dead, .leaf .dead, .leaf .dead, .leaf .dead, .leaf .dead, .leaf .dead, .leaf .dead, .leaf .dead, .leaf .dead, .leaf .dead, .leaf .dead, .leaf .dead, .leaf .dead, .leaf .dead, .leaf .dead, .leaf .dead, .leaf .dead, .leaf .dead, .leaf .dead, .leaf .dead, t42, t43, t44, .leaf .dead, .leaf .dead, .leaf .dead, .leaf .dead, .leaf .dead, .leaf .dead, .leaf .dead, .leaf .dead, .leaf .dead, .leaf .dead, .leaf .dead, .leaf .dead, .leaf .dead, .leaf .dead, .leaf .dead, .leaf .dead, .leaf .dead, .leaf .dead, .leaf .dead, .leaf .dead, .leaf .dead, .leaf .dead, .leaf .dead, .leaf .dead, .leaf .dead, .leaf .dead, .leaf .dead, .leaf .dead, .leaf .dead, .leaf .dead, .leaf .dead, .leaf .dead], objs := [none, none, none, none, none, o5, o6, none, o8, none, none, none, none, none, none, none, none, none, o18, none, none, none, none, none, none, none, none, none, none, none, none, none, none, none, none, none, none, none, none, o39, none, none, none, none, none, none, none, none, none, none, none, none, none, none, none, none, none, none, none, none, none, none, none, none, none, none, none, none, none, none, none, none, none, o73, none, none, none] }
def L30_3 (t2 t3 t15 t16 t17 : AV) (o2 o3 o12 o26 : Option AObj) : St := { tmps := [.leaf .dead, .leaf .dead, t2, t3, .leaf .dead, .leaf .dead, .leaf .dead, .leaf .dead, .leaf .dead, .leaf .dead, .leaf .dead, .leaf .dead, .leaf .dead, .leaf .dead, .leaf .dead, t15, t16, t17, .leaf .dead, .leaf .dead, .leaf .dead, .leaf .dead, .leaf .dead, .leaf .dead, .leaf .dead, .leaf .dead, .leaf .dead, .leaf .dead, .leaf .dead, .leaf .dead], objs := [none, none, o2, o3, none, none, none, none, none, none, none, none, o12, none, none, none, none, none, none, none, none, none, none, none, none, none, o26, none, none, none] }
def L31_4 (t0 t1 t5 : AV) : St := { tmps := [t0, t1, .leaf .dead, .leaf .dead, .leaf .dead, t5, .leaf .dead, .leaf .dead, .leaf .dead, .leaf .dead, .leaf .dead, .leaf .dead, .leaf .dead, .leaf .dead, .leaf .dead, .leaf .dead, .leaf .dead, .leaf .dead, .leaf .dead, .leaf .dead, .leaf .dead, .leaf .dead, .leaf .dead, .leaf .dead, .leaf .dead, .leaf .dead], objs := [none, none, none, none, none, none, none, none, none, none, none, none, none, none, none, none, none, none, none, none, none, none, none, none, none, none] }
def L32_4 (t0 t1 t12 t13 : AV) : St := { tmps := [t0, t1, .leaf .dead, .leaf .dead, .leaf .dead, .leaf .dead, .leaf .dead, .leaf .dead, .leaf .dead, .leaf .dead, .leaf .dead, .leaf .dead, t12, t13, .leaf .dead, .leaf .dead, .leaf .dead, .leaf .dead, .leaf .dead, .leaf .dead, .leaf .dead, .leaf .dead, .leaf .dead, .leaf .dead, .leaf .dead, .leaf .dead], objs := [none, none, none, none, none, none, none, none, none, none, none, none, none, none, none, none, none, none, none, none, none, none, none, none, none, none] }
def L33_4 (t0 t1 t5 : AV) : St := { tmps := [t0, t1, .leaf .dead, .leaf .dead, .leaf .dead, t5, .leaf .dead, .leaf .dead, .leaf .dead, .leaf .dead, .leaf .dead, .leaf .dead, .leaf .dead, .leaf .dead, .leaf .dead, .leaf .dead, .leaf .dead, .leaf .dead, .leaf .dead, .leaf .dead, .leaf .dead, .leaf .dead, .leaf .dead, .leaf .dead, .leaf .dead, .leaf .dead], objs := [none, none, none, none, none, none, none, none, none, none, none, none, none, none, none, none, none, none, none, none, none, none, none, none, none, none] }
def L34_3 (t1 t3 t14 t15 t16 : AV) (o26 : Option AObj) : St := { tmps := [.leaf .dead, t1, .leaf .dead, t3, .leaf .dead, .leaf .dead, .leaf .dead, .leaf .dead, .leaf .dead, .leaf .dead, .leaf .dead, .leaf .dead, .leaf .dead, .leaf .dead, t14, t15, t16, .leaf .dead, .leaf .dead, .leaf .dead, .leaf .dead, .leaf .dead, .leaf .dead, .leaf .dead, .leaf .dead, .leaf .dead, .leaf .dead, .leaf .dead, .leaf .dead], objs := [none, none, none, none, none, none, none, none, none, none, none, none, none, none, none, none, none, none, none, none, none, none, none, none, none, none, o26, none, none] }
def L35_3 (t0 t2 t4 t7 : AV) (o4 o11 : Option AObj) : St := { tmps := [t0, .leaf .dead, t2, .leaf .dead, t4, .leaf .dead, .leaf .dead, t7, .leaf .dead, .leaf .dead, .leaf .dead, .leaf .dead, .leaf .dead, .leaf .dead, .leaf .dead, .leaf .dead, .leaf .dead, .leaf .dead, .leaf .dead, .leaf .dead, .leaf .dead, .leaf .dead, .leaf .dead, .leaf .dead, .leaf .dead, .leaf .dead, .leaf .dead, .leaf .dead, .leaf .dead, .leaf .dead, .leaf .dead, .leaf .dead, .leaf .dead], objs := [none, none, none, none, o4, none, none, none, none, none, none, o11, none, none, none, none, none, none, none, none, none, none, none, none, none, none, none, none, none, none, none, none, none] }
end Go.Ai
