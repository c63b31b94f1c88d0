/- Functions of the Go program as Lean functions, by the machine. Written by a program. -/
import Derived.Test.YtlioalaehkohlaaDoorX1
namespace Go.Proofs.YtlioalaehkohlaaDoor.Vm
open Go Go.RowKit
set_option linter.unusedVariables false
set_option linter.unusedSimpArgs false
set_option maxRecDepth 100000
namespace damage_Known
@[reducible] def lin : List (Nat × CS) := [(0, .v (.list (.list (.int .u8)))), (1, .v (.list (.list (.int .u32)))), (2, .v (.pair (.int .i64) (.pair (.int .i64) (.pair (.int .i64) (.pair (.int .i64) .unit)))))]
@[reducible] def lout : List (Nat × CS) := [(6, .own 28 (.list .bool))]
noncomputable def ns : NS := nsOf Go.Proofs.Tryd.f16 lin lout
noncomputable def D (n : Nat) : FuncId → Nat → Option Den := lookD [((26, 0), stripe_Right.den n), ((28, 0), stripe_Blocks.den n), ((29, 0), stripe_Long.den n), ((30, 0), crc_Blocks.den n)]
theorem hD (n : Nat) : DenOk Go.Proofs.Tryd.prog Ty.gl (D n) := lookD_ok ⟨stripe_Right.sat n, stripe_Blocks.sat n, stripe_Long.sat n, crc_Blocks.sat n, trivial⟩
@[reducible] def L2 : List (Nat × CS) := [(1, .v (.list (.list (.int .u32)))), (5, .box 24 [.v (.int .i64), .v (.int .i64), .v (.int .i64), .v (.int .i64)]), (7, .own 28 (.list .bool)), (8, .v (.int .i64)), (10, .own 4 .bool), (16, .v (.list (.list (.int .u8)))), (17, .v (.int .i64)), (18, .v (.int .i64)), (40, .v (.list (.int .u32))), (41, .v (.int .i64)), (42, .v (.int .i64))]
@[reducible] def ws2 : List (Out × List (Nat × CS)) := [(.normal, [(1, .v (.list (.list (.int .u32)))), (5, .box 24 [.v (.int .i64), .v (.int .i64), .v (.int .i64), .v (.int .i64)]), (7, .own 28 (.list .bool)), (10, .own 4 .bool), (16, .v (.list (.list (.int .u8)))), (17, .v (.int .i64)), (18, .v (.int .i64))])]
noncomputable def l2 (n m : Nat) : Nat → CSs.den L2 → Option (wayDen ws2)
  | 0, _ => none
  | k + 1, x => run Ty (D n) (mkH [] [] [] [] [(1000012, [(.normal, [(1, .v (.list (.list (.int .u32)))), (5, .box 24 [.v (.int .i64), .v (.int .i64), .v (.int .i64), .v (.int .i64)]), (7, .own 28 (.list .bool)), (8, .v (.int .i64)), (10, .own 4 .bool), (16, .v (.list (.list (.int .u8)))), (17, .v (.int .i64)), (18, .v (.int .i64)), (40, .v (.list (.int .u32))), (41, .v (.int .i64)), (42, .v (.int .i64))])])]) ns (lb Go.Proofs.Tryd.f16 2) (canon L2 x) (loopK 2 L2 (l2 n m k))
theorem l2_ok (n m : Nat) : HintOk Go.Proofs.Tryd.prog Ty.gl ns (.block 2 (.loop (lb Go.Proofs.Tryd.f16 2))) ⟨L2, ws2, l2 n m m⟩ :=
  loop_is hTy (hD n) [] [] [] [] [(1000012, [(.normal, [(1, .v (.list (.list (.int .u32)))), (5, .box 24 [.v (.int .i64), .v (.int .i64), .v (.int .i64), .v (.int .i64)]), (7, .own 28 (.list .bool)), (8, .v (.int .i64)), (10, .own 4 .bool), (16, .v (.list (.list (.int .u8)))), (17, .v (.int .i64)), (18, .v (.int .i64)), (40, .v (.list (.int .u32))), (41, .v (.int .i64)), (42, .v (.int .i64))])])] (by kernel_rfl) trivial trivial L2 ws2 (fun _ => rfl) (ways_cons (fun _ => rfl) ways_nil) (l2 n m) (fun _ => rfl) (fun _ _ => rfl) m
@[reducible] def L0 : List (Nat × CS) := [(1, .v (.list (.list (.int .u32)))), (5, .box 24 [.v (.int .i64), .v (.int .i64), .v (.int .i64), .v (.int .i64)]), (7, .own 28 (.list .bool)), (16, .v (.list (.list (.int .u8)))), (17, .v (.int .i64)), (18, .v (.int .i64))]
@[reducible] def ws0 : List (Out × List (Nat × CS)) := [(.normal, [(7, .own 28 (.list .bool))])]
noncomputable def l0 (n m : Nat) : Nat → CSs.den L0 → Option (wayDen ws0)
  | 0, _ => none
  | k + 1, x => run Ty (D n) (mkH [(2, ⟨L2, ws2, l2 n m m⟩)] [] [] [] [(1000012, [(.normal, [(1, .v (.list (.list (.int .u32)))), (5, .box 24 [.v (.int .i64), .v (.int .i64), .v (.int .i64), .v (.int .i64)]), (7, .own 28 (.list .bool)), (8, .v (.int .i64)), (10, .own 4 .bool), (16, .v (.list (.list (.int .u8)))), (17, .v (.int .i64)), (18, .v (.int .i64)), (40, .v (.list (.int .u32))), (41, .v (.int .i64)), (42, .v (.int .i64))])]), (1000008, [(.normal, [(1, .v (.list (.list (.int .u32)))), (5, .box 24 [.v (.int .i64), .v (.int .i64), .v (.int .i64), .v (.int .i64)]), (7, .own 28 (.list .bool)), (8, .v (.int .i64)), (9, .v (.list (.int .u8))), (10, .own 4 .bool), (16, .v (.list (.list (.int .u8)))), (17, .v (.int .i64)), (18, .v (.int .i64)), (36, .v .bool)])]), (36, [(.normal, [(1, .v (.list (.list (.int .u32)))), (5, .box 24 [.v (.int .i64), .v (.int .i64), .v (.int .i64), .v (.int .i64)]), (7, .own 28 (.list .bool)), (10, .own 4 .bool), (16, .v (.list (.list (.int .u8)))), (17, .v (.int .i64)), (18, .v (.int .i64))])])]) ns (lb Go.Proofs.Tryd.f16 0) (canon L0 x) (loopK 0 L0 (l0 n m k))
theorem l0_ok (n m : Nat) : HintOk Go.Proofs.Tryd.prog Ty.gl ns (.block 0 (.loop (lb Go.Proofs.Tryd.f16 0))) ⟨L0, ws0, l0 n m m⟩ :=
  loop_is hTy (hD n) [(2, ⟨L2, ws2, l2 n m m⟩)] [] [] [] [(1000012, [(.normal, [(1, .v (.list (.list (.int .u32)))), (5, .box 24 [.v (.int .i64), .v (.int .i64), .v (.int .i64), .v (.int .i64)]), (7, .own 28 (.list .bool)), (8, .v (.int .i64)), (10, .own 4 .bool), (16, .v (.list (.list (.int .u8)))), (17, .v (.int .i64)), (18, .v (.int .i64)), (40, .v (.list (.int .u32))), (41, .v (.int .i64)), (42, .v (.int .i64))])]), (1000008, [(.normal, [(1, .v (.list (.list (.int .u32)))), (5, .box 24 [.v (.int .i64), .v (.int .i64), .v (.int .i64), .v (.int .i64)]), (7, .own 28 (.list .bool)), (8, .v (.int .i64)), (9, .v (.list (.int .u8))), (10, .own 4 .bool), (16, .v (.list (.list (.int .u8)))), (17, .v (.int .i64)), (18, .v (.int .i64)), (36, .v .bool)])]), (36, [(.normal, [(1, .v (.list (.list (.int .u32)))), (5, .box 24 [.v (.int .i64), .v (.int .i64), .v (.int .i64), .v (.int .i64)]), (7, .own 28 (.list .bool)), (10, .own 4 .bool), (16, .v (.list (.list (.int .u8)))), (17, .v (.int .i64)), (18, .v (.int .i64))])])] (by kernel_rfl) ⟨⟨_, by kernel_rfl, l2_ok n m⟩, trivial⟩ trivial L0 ws0 (fun _ => rfl) (ways_cons (fun _ => rfl) ways_nil) (l0 n m) (fun _ => rfl) (fun _ _ => rfl) m
def rs : List ResultVar := [.tmp 6]
noncomputable def f (n : Nat) (x : CSs.den lin) : Option (CSs.den lout) := run Ty (D n) (mkH [(0, ⟨L0, ws0, l0 n n n⟩), (2, ⟨L2, ws2, l2 n n n⟩)] [] [] [] [(1000012, [(.normal, [(1, .v (.list (.list (.int .u32)))), (5, .box 24 [.v (.int .i64), .v (.int .i64), .v (.int .i64), .v (.int .i64)]), (7, .own 28 (.list .bool)), (8, .v (.int .i64)), (10, .own 4 .bool), (16, .v (.list (.list (.int .u8)))), (17, .v (.int .i64)), (18, .v (.int .i64)), (40, .v (.list (.int .u32))), (41, .v (.int .i64)), (42, .v (.int .i64))])]), (1000008, [(.normal, [(1, .v (.list (.list (.int .u32)))), (5, .box 24 [.v (.int .i64), .v (.int .i64), .v (.int .i64), .v (.int .i64)]), (7, .own 28 (.list .bool)), (8, .v (.int .i64)), (9, .v (.list (.int .u8))), (10, .own 4 .bool), (16, .v (.list (.list (.int .u8)))), (17, .v (.int .i64)), (18, .v (.int .i64)), (36, .v .bool)])]), (36, [(.normal, [(1, .v (.list (.list (.int .u32)))), (5, .box 24 [.v (.int .i64), .v (.int .i64), .v (.int .i64), .v (.int .i64)]), (7, .own 28 (.list .bool)), (10, .own 4 .bool), (16, .v (.list (.list (.int .u8)))), (17, .v (.int .i64)), (18, .v (.int .i64))])])]) ns (cd Go.Proofs.Tryd.f16) (canon lin x) (retK Ty rs (Go.Func.ntmps Go.Proofs.Tryd.f16) lout id)
@[reducible] noncomputable def den (n : Nat) : Den := ⟨lin, lout, [6], [none], CSs.den lout, f n, id⟩
theorem sat (n : Nat) : Sat Go.Proofs.Tryd.prog Ty.gl 16 (den n) := sat_is hTy (hD n) Go.Proofs.Tryd.func16 rfl rfl (den n) [(0, ⟨L0, ws0, l0 n n n⟩), (2, ⟨L2, ws2, l2 n n n⟩)] [] [] [] [(1000012, [(.normal, [(1, .v (.list (.list (.int .u32)))), (5, .box 24 [.v (.int .i64), .v (.int .i64), .v (.int .i64), .v (.int .i64)]), (7, .own 28 (.list .bool)), (8, .v (.int .i64)), (10, .own 4 .bool), (16, .v (.list (.list (.int .u8)))), (17, .v (.int .i64)), (18, .v (.int .i64)), (40, .v (.list (.int .u32))), (41, .v (.int .i64)), (42, .v (.int .i64))])]), (1000008, [(.normal, [(1, .v (.list (.list (.int .u32)))), (5, .box 24 [.v (.int .i64), .v (.int .i64), .v (.int .i64), .v (.int .i64)]), (7, .own 28 (.list .bool)), (8, .v (.int .i64)), (9, .v (.list (.int .u8))), (10, .own 4 .bool), (16, .v (.list (.list (.int .u8)))), (17, .v (.int .i64)), (18, .v (.int .i64)), (36, .v .bool)])]), (36, [(.normal, [(1, .v (.list (.list (.int .u32)))), (5, .box 24 [.v (.int .i64), .v (.int .i64), .v (.int .i64), .v (.int .i64)]), (7, .own 28 (.list .bool)), (10, .own 4 .bool), (16, .v (.list (.list (.int .u8)))), (17, .v (.int .i64)), (18, .v (.int .i64))])])] (by kernel_rfl) ⟨⟨_, by kernel_rfl, l0_ok n n⟩, ⟨_, by kernel_rfl, l2_ok n n⟩, trivial⟩ trivial (rs := rs) (by kernel_rfl) (by kernel_rfl) (by kernel_rfl) (by kernel_rfl) (by kernel_rfl) (fun _ => rfl) (fun _ _ => rfl) id (fun _ => rfl) (by intro x; kernel_rfl)
end damage_Known
namespace damage_Worst
@[reducible] def lin : List (Nat × CS) := [(0, .v (.list (.list .bool)))]
@[reducible] def lout : List (Nat × CS) := [(2, .v (.int .i64))]
noncomputable def ns : NS := nsOf Go.Proofs.Tryd.f12 lin lout
noncomputable def D (n : Nat) : FuncId → Nat → Option Den := lookD []
theorem hD (n : Nat) : DenOk Go.Proofs.Tryd.prog Ty.gl (D n) := lookD_ok trivial
@[reducible] def L0 : List (Nat × CS) := [(0, .v (.list (.list .bool))), (3, .v (.int .i64)), (4, .v (.int .i64)), (11, .v (.list (.list .bool))), (12, .v (.int .i64)), (13, .v (.int .i64))]
@[reducible] def ws0 : List (Out × List (Nat × CS)) := [(.normal, [(0, .v (.list (.list .bool))), (3, .v (.int .i64)), (4, .v (.int .i64))])]
noncomputable def l0 (n m : Nat) : Nat → CSs.den L0 → Option (wayDen ws0)
  | 0, _ => none
  | k + 1, x => run Ty (D n) (mkH [] [] [] [] []) ns (lb Go.Proofs.Tryd.f12 0) (canon L0 x) (loopK 0 L0 (l0 n m k))
theorem l0_ok (n m : Nat) : HintOk Go.Proofs.Tryd.prog Ty.gl ns (.block 0 (.loop (lb Go.Proofs.Tryd.f12 0))) ⟨L0, ws0, l0 n m m⟩ :=
  loop_is hTy (hD n) [] [] [] [] [] (by kernel_rfl) trivial trivial L0 ws0 (fun _ => rfl) (ways_cons (fun _ => rfl) ways_nil) (l0 n m) (fun _ => rfl) (fun _ _ => rfl) m
@[reducible] def L4 : List (Nat × CS) := [(0, .v (.list (.list .bool))), (4, .v (.int .i64)), (7, .v (.int .i64)), (8, .v (.int .i64)), (22, .v (.int .i64)), (23, .v (.int .i64)), (26, .v (.list (.list .bool))), (27, .v (.int .i64)), (28, .v (.int .i64))]
@[reducible] def ws4 : List (Out × List (Nat × CS)) := [(.normal, [(0, .v (.list (.list .bool))), (4, .v (.int .i64)), (8, .v (.int .i64)), (22, .v (.int .i64)), (23, .v (.int .i64))])]
noncomputable def l4 (n m : Nat) : Nat → CSs.den L4 → Option (wayDen ws4)
  | 0, _ => none
  | k + 1, x => run Ty (D n) (mkH [] [] [] [] [(1000014, [(.normal, [(0, .v (.list (.list .bool))), (4, .v (.int .i64)), (7, .v (.int .i64)), (8, .v (.int .i64)), (22, .v (.int .i64)), (23, .v (.int .i64)), (26, .v (.list (.list .bool))), (27, .v (.int .i64)), (28, .v (.int .i64)), (42, .v .bool)])]), (42, [(.normal, [(0, .v (.list (.list .bool))), (4, .v (.int .i64)), (7, .v (.int .i64)), (8, .v (.int .i64)), (22, .v (.int .i64)), (23, .v (.int .i64)), (26, .v (.list (.list .bool))), (27, .v (.int .i64)), (28, .v (.int .i64))])])]) ns (lb Go.Proofs.Tryd.f12 4) (canon L4 x) (loopK 4 L4 (l4 n m k))
theorem l4_ok (n m : Nat) : HintOk Go.Proofs.Tryd.prog Ty.gl ns (.block 4 (.loop (lb Go.Proofs.Tryd.f12 4))) ⟨L4, ws4, l4 n m m⟩ :=
  loop_is hTy (hD n) [] [] [] [] [(1000014, [(.normal, [(0, .v (.list (.list .bool))), (4, .v (.int .i64)), (7, .v (.int .i64)), (8, .v (.int .i64)), (22, .v (.int .i64)), (23, .v (.int .i64)), (26, .v (.list (.list .bool))), (27, .v (.int .i64)), (28, .v (.int .i64)), (42, .v .bool)])]), (42, [(.normal, [(0, .v (.list (.list .bool))), (4, .v (.int .i64)), (7, .v (.int .i64)), (8, .v (.int .i64)), (22, .v (.int .i64)), (23, .v (.int .i64)), (26, .v (.list (.list .bool))), (27, .v (.int .i64)), (28, .v (.int .i64))])])] (by kernel_rfl) trivial trivial L4 ws4 (fun _ => rfl) (ways_cons (fun _ => rfl) ways_nil) (l4 n m) (fun _ => rfl) (fun _ _ => rfl) m
@[reducible] def L2 : List (Nat × CS) := [(0, .v (.list (.list .bool))), (4, .v (.int .i64)), (22, .v (.int .i64)), (23, .v (.int .i64))]
@[reducible] def ws2 : List (Out × List (Nat × CS)) := [(.normal, [(4, .v (.int .i64))])]
noncomputable def l2 (n m : Nat) : Nat → CSs.den L2 → Option (wayDen ws2)
  | 0, _ => none
  | k + 1, x => run Ty (D n) (mkH [(4, ⟨L4, ws4, l4 n m m⟩)] [] [] [] [(1000014, [(.normal, [(0, .v (.list (.list .bool))), (4, .v (.int .i64)), (7, .v (.int .i64)), (8, .v (.int .i64)), (22, .v (.int .i64)), (23, .v (.int .i64)), (26, .v (.list (.list .bool))), (27, .v (.int .i64)), (28, .v (.int .i64)), (42, .v .bool)])]), (42, [(.normal, [(0, .v (.list (.list .bool))), (4, .v (.int .i64)), (7, .v (.int .i64)), (8, .v (.int .i64)), (22, .v (.int .i64)), (23, .v (.int .i64)), (26, .v (.list (.list .bool))), (27, .v (.int .i64)), (28, .v (.int .i64))])])]) ns (lb Go.Proofs.Tryd.f12 2) (canon L2 x) (loopK 2 L2 (l2 n m k))
theorem l2_ok (n m : Nat) : HintOk Go.Proofs.Tryd.prog Ty.gl ns (.block 2 (.loop (lb Go.Proofs.Tryd.f12 2))) ⟨L2, ws2, l2 n m m⟩ :=
  loop_is hTy (hD n) [(4, ⟨L4, ws4, l4 n m m⟩)] [] [] [] [(1000014, [(.normal, [(0, .v (.list (.list .bool))), (4, .v (.int .i64)), (7, .v (.int .i64)), (8, .v (.int .i64)), (22, .v (.int .i64)), (23, .v (.int .i64)), (26, .v (.list (.list .bool))), (27, .v (.int .i64)), (28, .v (.int .i64)), (42, .v .bool)])]), (42, [(.normal, [(0, .v (.list (.list .bool))), (4, .v (.int .i64)), (7, .v (.int .i64)), (8, .v (.int .i64)), (22, .v (.int .i64)), (23, .v (.int .i64)), (26, .v (.list (.list .bool))), (27, .v (.int .i64)), (28, .v (.int .i64))])])] (by kernel_rfl) ⟨⟨_, by kernel_rfl, l4_ok n m⟩, trivial⟩ trivial L2 ws2 (fun _ => rfl) (ways_cons (fun _ => rfl) ways_nil) (l2 n m) (fun _ => rfl) (fun _ _ => rfl) m
def rs : List ResultVar := [.tmp 2]
noncomputable def f (n : Nat) (x : CSs.den lin) : Option (CSs.den lout) := run Ty (D n) (mkH [(0, ⟨L0, ws0, l0 n n n⟩), (2, ⟨L2, ws2, l2 n n n⟩), (4, ⟨L4, ws4, l4 n n n⟩)] [] [] [] [(1000014, [(.normal, [(0, .v (.list (.list .bool))), (4, .v (.int .i64)), (7, .v (.int .i64)), (8, .v (.int .i64)), (22, .v (.int .i64)), (23, .v (.int .i64)), (26, .v (.list (.list .bool))), (27, .v (.int .i64)), (28, .v (.int .i64)), (42, .v .bool)])]), (42, [(.normal, [(0, .v (.list (.list .bool))), (4, .v (.int .i64)), (7, .v (.int .i64)), (8, .v (.int .i64)), (22, .v (.int .i64)), (23, .v (.int .i64)), (26, .v (.list (.list .bool))), (27, .v (.int .i64)), (28, .v (.int .i64))])])]) ns (cd Go.Proofs.Tryd.f12) (canon lin x) (retK Ty rs (Go.Func.ntmps Go.Proofs.Tryd.f12) lout id)
@[reducible] noncomputable def den (n : Nat) : Den := ⟨lin, lout, [2], [], CSs.den lout, f n, id⟩
theorem sat (n : Nat) : Sat Go.Proofs.Tryd.prog Ty.gl 12 (den n) := sat_is hTy (hD n) Go.Proofs.Tryd.func12 rfl rfl (den n) [(0, ⟨L0, ws0, l0 n n n⟩), (2, ⟨L2, ws2, l2 n n n⟩), (4, ⟨L4, ws4, l4 n n n⟩)] [] [] [] [(1000014, [(.normal, [(0, .v (.list (.list .bool))), (4, .v (.int .i64)), (7, .v (.int .i64)), (8, .v (.int .i64)), (22, .v (.int .i64)), (23, .v (.int .i64)), (26, .v (.list (.list .bool))), (27, .v (.int .i64)), (28, .v (.int .i64)), (42, .v .bool)])]), (42, [(.normal, [(0, .v (.list (.list .bool))), (4, .v (.int .i64)), (7, .v (.int .i64)), (8, .v (.int .i64)), (22, .v (.int .i64)), (23, .v (.int .i64)), (26, .v (.list (.list .bool))), (27, .v (.int .i64)), (28, .v (.int .i64))])])] (by kernel_rfl) ⟨⟨_, by kernel_rfl, l0_ok n n⟩, ⟨_, by kernel_rfl, l2_ok n n⟩, ⟨_, by kernel_rfl, l4_ok n n⟩, trivial⟩ trivial (rs := rs) (by kernel_rfl) (by kernel_rfl) (by kernel_rfl) (by kernel_rfl) (by kernel_rfl) (fun _ => rfl) (fun _ _ => rfl) id (fun _ => rfl) (by intro x; kernel_rfl)
end damage_Worst
namespace law25_alive
@[reducible] def lin : List (Nat × CS) := []
@[reducible] def lout : List (Nat × CS) := [(0, .v .bool)]
noncomputable def ns : NS := nsOf Go.Proofs.Tryd.f6 lin lout
noncomputable def D (n : Nat) : FuncId → Nat → Option Den := lookD [((21, 0), damage_Set.den n), ((14, 1000000), damage_Columns_own.den n), ((9, 1000000), damage_Find_own.den n), ((16, 0), damage_Known.den n), ((12, 0), damage_Worst.den n)]
theorem hD (n : Nat) : DenOk Go.Proofs.Tryd.prog Ty.gl (D n) := lookD_ok ⟨damage_Set.sat n, damage_Columns_own.sat n, damage_Find_own.sat n, damage_Known.sat n, damage_Worst.sat n, trivial⟩
def rs : List ResultVar := [.tmp 0]
noncomputable def f (n : Nat) (x : CSs.den lin) : Option (CSs.den lout) := run Ty (D n) (mkH [] [] [] [] []) ns (cd Go.Proofs.Tryd.f6) (canon lin x) (retK Ty rs (Go.Func.ntmps Go.Proofs.Tryd.f6) lout id)
@[reducible] noncomputable def den (n : Nat) : Den := ⟨lin, lout, [0], [], CSs.den lout, f n, id⟩
theorem sat (n : Nat) : Sat Go.Proofs.Tryd.prog Ty.gl 6 (den n) := sat_is hTy (hD n) Go.Proofs.Tryd.func6 rfl rfl (den n) [] [] [] [] [] (by kernel_rfl) trivial trivial (rs := rs) (by kernel_rfl) (by kernel_rfl) (by kernel_rfl) (by kernel_rfl) (by kernel_rfl) (fun _ => rfl) (fun _ _ => rfl) id (fun _ => rfl) (by intro x; kernel_rfl)
end law25_alive
namespace law25_few
@[reducible] def lin : List (Nat × CS) := [(0, .v (.list (.pair .bool (.pair (.list (.int .u8)) .unit))))]
@[reducible] def lout : List (Nat × CS) := [(2, .v .bool)]
noncomputable def ns : NS := nsOf Go.Proofs.Tryd.f7 lin lout
noncomputable def D (n : Nat) : FuncId → Nat → Option Den := lookD []
theorem hD (n : Nat) : DenOk Go.Proofs.Tryd.prog Ty.gl (D n) := lookD_ok trivial
@[reducible] def L0 : List (Nat × CS) := [(0, .v (.list (.pair .bool (.pair (.list (.int .u8)) .unit)))), (5, .v (.list (.pair .bool (.pair (.list (.int .u8)) .unit)))), (6, .v (.int .i64)), (7, .v (.int .i64))]
@[reducible] def ws0 : List (Out × List (Nat × CS)) := [(.ret, [(2, .v .bool)]), (.normal, [(0, .v (.list (.pair .bool (.pair (.list (.int .u8)) .unit))))])]
noncomputable def l0 (n m : Nat) : Nat → CSs.den L0 → Option (wayDen ws0)
  | 0, _ => none
  | k + 1, x => run Ty (D n) (mkH [] [] [] [] []) ns (lb Go.Proofs.Tryd.f7 0) (canon L0 x) (loopK 0 L0 (l0 n m k))
theorem l0_ok (n m : Nat) : HintOk Go.Proofs.Tryd.prog Ty.gl ns (.block 0 (.loop (lb Go.Proofs.Tryd.f7 0))) ⟨L0, ws0, l0 n m m⟩ :=
  loop_is hTy (hD n) [] [] [] [] [] (by kernel_rfl) trivial trivial L0 ws0 (fun _ => rfl) (ways_cons (fun _ => rfl) (ways_cons (fun _ => rfl) ways_nil)) (l0 n m) (fun _ => rfl) (fun _ _ => rfl) m
def rs : List ResultVar := [.tmp 2]
noncomputable def f (n : Nat) (x : CSs.den lin) : Option (CSs.den lout) := run Ty (D n) (mkH [(0, ⟨L0, ws0, l0 n n n⟩)] [] [] [] []) ns (cd Go.Proofs.Tryd.f7) (canon lin x) (retK Ty rs (Go.Func.ntmps Go.Proofs.Tryd.f7) lout id)
@[reducible] noncomputable def den (n : Nat) : Den := ⟨lin, lout, [2], [], CSs.den lout, f n, id⟩
theorem sat (n : Nat) : Sat Go.Proofs.Tryd.prog Ty.gl 7 (den n) := sat_is hTy (hD n) Go.Proofs.Tryd.func7 rfl rfl (den n) [(0, ⟨L0, ws0, l0 n n n⟩)] [] [] [] [] (by kernel_rfl) ⟨⟨_, by kernel_rfl, l0_ok n n⟩, trivial⟩ trivial (rs := rs) (by kernel_rfl) (by kernel_rfl) (by kernel_rfl) (by kernel_rfl) (by kernel_rfl) (fun _ => rfl) (fun _ _ => rfl) id (fun _ => rfl) (by intro x; kernel_rfl)
end law25_few
namespace ref23_Right
@[reducible] def lin : List (Nat × CS) := [(0, .v (.pair (.int .i64) (.pair (.int .i64) (.pair (.int .i64) (.pair (.int .i64) .unit)))))]
@[reducible] def lout : List (Nat × CS) := [(2, .v .bool)]
noncomputable def ns : NS := nsOf Go.Proofs.Tryd.f15 lin lout
noncomputable def D (n : Nat) : FuncId → Nat → Option Den := lookD []
theorem hD (n : Nat) : DenOk Go.Proofs.Tryd.prog Ty.gl (D n) := lookD_ok trivial
def rs : List ResultVar := [.tmp 2]
noncomputable def f (n : Nat) (x : CSs.den lin) : Option (CSs.den lout) := run Ty (D n) (mkH [] [] [] [] []) ns (cd Go.Proofs.Tryd.f15) (canon lin x) (retK Ty rs (Go.Func.ntmps Go.Proofs.Tryd.f15) lout id)
@[reducible] noncomputable def den (n : Nat) : Den := ⟨lin, lout, [2], [], CSs.den lout, f n, id⟩
theorem sat (n : Nat) : Sat Go.Proofs.Tryd.prog Ty.gl 15 (den n) := sat_is hTy (hD n) Go.Proofs.Tryd.func15 rfl rfl (den n) [] [] [] [] [] (by kernel_rfl) trivial trivial (rs := rs) (by kernel_rfl) (by kernel_rfl) (by kernel_rfl) (by kernel_rfl) (by kernel_rfl) (fun _ => rfl) (fun _ _ => rfl) id (fun _ => rfl) (by intro x; kernel_rfl)
end ref23_Right
namespace law25_small
@[reducible] def lin : List (Nat × CS) := [(0, .v (.pair (.int .i64) (.pair (.int .i64) (.pair (.int .i64) (.pair (.int .i64) .unit)))))]
@[reducible] def lout : List (Nat × CS) := [(2, .v .bool)]
noncomputable def ns : NS := nsOf Go.Proofs.Tryd.f8 lin lout
noncomputable def D (n : Nat) : FuncId → Nat → Option Den := lookD [((15, 0), ref23_Right.den n)]
theorem hD (n : Nat) : DenOk Go.Proofs.Tryd.prog Ty.gl (D n) := lookD_ok ⟨ref23_Right.sat n, trivial⟩
def rs : List ResultVar := [.tmp 2]
noncomputable def f (n : Nat) (x : CSs.den lin) : Option (CSs.den lout) := run Ty (D n) (mkH [] [] [] [] []) ns (cd Go.Proofs.Tryd.f8) (canon lin x) (retK Ty rs (Go.Func.ntmps Go.Proofs.Tryd.f8) lout id)
@[reducible] noncomputable def den (n : Nat) : Den := ⟨lin, lout, [2], [], CSs.den lout, f n, id⟩
theorem sat (n : Nat) : Sat Go.Proofs.Tryd.prog Ty.gl 8 (den n) := sat_is hTy (hD n) Go.Proofs.Tryd.func8 rfl rfl (den n) [] [] [] [] [] (by kernel_rfl) trivial trivial (rs := rs) (by kernel_rfl) (by kernel_rfl) (by kernel_rfl) (by kernel_rfl) (by kernel_rfl) (fun _ => rfl) (fun _ _ => rfl) id (fun _ => rfl) (by intro x; kernel_rfl)
end law25_small
namespace damage_Find
@[reducible] def lin : List (Nat × CS) := [(0, .v (.list (.pair .bool (.pair (.list (.int .u8)) .unit))))]
@[reducible] def lout : List (Nat × CS) := [(41, .v (.pair (.pair (.int .i64) (.pair (.int .i64) (.pair (.int .i64) (.pair (.int .i64) .unit)))) (.pair (.int .i64) (.pair (.list (.list (.int .u32))) .unit)))), (3, .v .bool)]
noncomputable def ns : NS := nsOf Go.Proofs.Tryd.f9 lin lout
noncomputable def D (n : Nat) : FuncId → Nat → Option Den := lookD [((23, 0), seal_Parse.den n)]
theorem hD (n : Nat) : DenOk Go.Proofs.Tryd.prog Ty.gl (D n) := lookD_ok ⟨seal_Parse.sat n, trivial⟩
@[reducible] def L0 : List (Nat × CS) := [(2, .box 32 [.v (.int .i64), .v (.int .i64), .v (.int .i64), .v (.int .i64), .v (.int .i64), .v (.list (.list (.int .u32)))]), (9, .v (.list (.pair .bool (.pair (.list (.int .u8)) .unit)))), (10, .v (.int .i64)), (11, .v (.int .i64))]
@[reducible] def ws0 : List (Out × List (Nat × CS)) := [(.ret, [(2, .box 32 [.v (.int .i64), .v (.int .i64), .v (.int .i64), .v (.int .i64), .v (.int .i64), .v (.list (.list (.int .u32)))]), (3, .v .bool)]), (.normal, [(2, .box 32 [.v (.int .i64), .v (.int .i64), .v (.int .i64), .v (.int .i64), .v (.int .i64), .v (.list (.list (.int .u32)))])])]
noncomputable def l0 (n m : Nat) : Nat → CSs.den L0 → Option (wayDen ws0)
  | 0, _ => none
  | k + 1, x => run Ty (D n) (mkH [] [] [] [] [(1000006, [(.normal, [(2, .box 32 [.v (.int .i64), .v (.int .i64), .v (.int .i64), .v (.int .i64), .v (.int .i64), .v (.list (.list (.int .u32)))]), (6, .box 32 [.v (.int .i64), .v (.int .i64), .v (.int .i64), .v (.int .i64), .v (.int .i64), .v (.list (.list (.int .u32)))]), (9, .v (.list (.pair .bool (.pair (.list (.int .u8)) .unit)))), (10, .v (.int .i64)), (11, .v (.int .i64)), (37, .v .bool)])])]) ns (lb Go.Proofs.Tryd.f9 0) (canon L0 x) (loopK 0 L0 (l0 n m k))
theorem l0_ok (n m : Nat) : HintOk Go.Proofs.Tryd.prog Ty.gl ns (.block 0 (.loop (lb Go.Proofs.Tryd.f9 0))) ⟨L0, ws0, l0 n m m⟩ :=
  loop_is hTy (hD n) [] [] [] [] [(1000006, [(.normal, [(2, .box 32 [.v (.int .i64), .v (.int .i64), .v (.int .i64), .v (.int .i64), .v (.int .i64), .v (.list (.list (.int .u32)))]), (6, .box 32 [.v (.int .i64), .v (.int .i64), .v (.int .i64), .v (.int .i64), .v (.int .i64), .v (.list (.list (.int .u32)))]), (9, .v (.list (.pair .bool (.pair (.list (.int .u8)) .unit)))), (10, .v (.int .i64)), (11, .v (.int .i64)), (37, .v .bool)])])] (by kernel_rfl) trivial trivial L0 ws0 (fun _ => rfl) (ways_cons (fun _ => rfl) (ways_cons (fun _ => rfl) ways_nil)) (l0 n m) (fun _ => rfl) (fun _ _ => rfl) m
def rs : List ResultVar := [.cell 2 32, .tmp 3]
noncomputable def f (n : Nat) (x : CSs.den lin) : Option (CSs.den lout) := run Ty (D n) (mkH [(0, ⟨L0, ws0, l0 n n n⟩)] [] [] [] [(1000006, [(.normal, [(2, .box 32 [.v (.int .i64), .v (.int .i64), .v (.int .i64), .v (.int .i64), .v (.int .i64), .v (.list (.list (.int .u32)))]), (6, .box 32 [.v (.int .i64), .v (.int .i64), .v (.int .i64), .v (.int .i64), .v (.int .i64), .v (.list (.list (.int .u32)))]), (9, .v (.list (.pair .bool (.pair (.list (.int .u8)) .unit)))), (10, .v (.int .i64)), (11, .v (.int .i64)), (37, .v .bool)])])]) ns (cd Go.Proofs.Tryd.f9) (canon lin x) (retK Ty rs (Go.Func.ntmps Go.Proofs.Tryd.f9) lout id)
@[reducible] noncomputable def den (n : Nat) : Den := ⟨lin, lout, [41, 3], [], CSs.den lout, f n, id⟩
theorem sat (n : Nat) : Sat Go.Proofs.Tryd.prog Ty.gl 9 (den n) := sat_is hTy (hD n) Go.Proofs.Tryd.func9 rfl rfl (den n) [(0, ⟨L0, ws0, l0 n n n⟩)] [] [] [] [(1000006, [(.normal, [(2, .box 32 [.v (.int .i64), .v (.int .i64), .v (.int .i64), .v (.int .i64), .v (.int .i64), .v (.list (.list (.int .u32)))]), (6, .box 32 [.v (.int .i64), .v (.int .i64), .v (.int .i64), .v (.int .i64), .v (.int .i64), .v (.list (.list (.int .u32)))]), (9, .v (.list (.pair .bool (.pair (.list (.int .u8)) .unit)))), (10, .v (.int .i64)), (11, .v (.int .i64)), (37, .v .bool)])])] (by kernel_rfl) ⟨⟨_, by kernel_rfl, l0_ok n n⟩, trivial⟩ trivial (rs := rs) (by kernel_rfl) (by kernel_rfl) (by kernel_rfl) (by kernel_rfl) (by kernel_rfl) (fun _ => rfl) (fun _ _ => rfl) id (fun _ => rfl) (by intro x; kernel_rfl)
end damage_Find
namespace ref07_Get
@[reducible] def lin : List (Nat × CS) := [(0, .v (.list (.int .u8)))]
@[reducible] def lout : List (Nat × CS) := [(2, .v (.int .u64))]
noncomputable def ns : NS := nsOf Go.Proofs.Tryd.f78 lin lout
noncomputable def D (n : Nat) : FuncId → Nat → Option Den := lookD []
theorem hD (n : Nat) : DenOk Go.Proofs.Tryd.prog Ty.gl (D n) := lookD_ok trivial
@[reducible] def L0 : List (Nat × CS) := [(0, .v (.list (.int .u8))), (3, .v (.int .u64)), (4, .v (.int .u64)), (5, .v (.int .i64))]
@[reducible] def ws0 : List (Out × List (Nat × CS)) := [(.normal, [(3, .v (.int .u64))])]
noncomputable def l0 (n m : Nat) : Nat → CSs.den L0 → Option (wayDen ws0)
  | 0, _ => none
  | k + 1, x => run Ty (D n) (mkH [] [] [] [] []) ns (lb Go.Proofs.Tryd.f78 0) (canon L0 x) (loopK 0 L0 (l0 n m k))
theorem l0_ok (n m : Nat) : HintOk Go.Proofs.Tryd.prog Ty.gl ns (.block 0 (.loop (lb Go.Proofs.Tryd.f78 0))) ⟨L0, ws0, l0 n m m⟩ :=
  loop_is hTy (hD n) [] [] [] [] [] (by kernel_rfl) trivial trivial L0 ws0 (fun _ => rfl) (ways_cons (fun _ => rfl) ways_nil) (l0 n m) (fun _ => rfl) (fun _ _ => rfl) m
def rs : List ResultVar := [.tmp 2]
noncomputable def f (n : Nat) (x : CSs.den lin) : Option (CSs.den lout) := run Ty (D n) (mkH [(0, ⟨L0, ws0, l0 n n n⟩)] [] [] [] []) ns (cd Go.Proofs.Tryd.f78) (canon lin x) (retK Ty rs (Go.Func.ntmps Go.Proofs.Tryd.f78) lout id)
@[reducible] noncomputable def den (n : Nat) : Den := ⟨lin, lout, [2], [], CSs.den lout, f n, id⟩
theorem sat (n : Nat) : Sat Go.Proofs.Tryd.prog Ty.gl 78 (den n) := sat_is hTy (hD n) Go.Proofs.Tryd.func78 rfl rfl (den n) [(0, ⟨L0, ws0, l0 n n n⟩)] [] [] [] [] (by kernel_rfl) ⟨⟨_, by kernel_rfl, l0_ok n n⟩, trivial⟩ trivial (rs := rs) (by kernel_rfl) (by kernel_rfl) (by kernel_rfl) (by kernel_rfl) (by kernel_rfl) (fun _ => rfl) (fun _ _ => rfl) id (fun _ => rfl) (by intro x; kernel_rfl)
end ref07_Get
namespace ref24_at
@[reducible] def lin : List (Nat × CS) := [(0, .v (.list (.int .u8))), (1, .v (.int .i64)), (2, .v (.int .i64))]
@[reducible] def lout : List (Nat × CS) := [(6, .v (.int .i64))]
noncomputable def ns : NS := nsOf Go.Proofs.Tryd.f53 lin lout
noncomputable def D (n : Nat) : FuncId → Nat → Option Den := lookD [((78, 0), ref07_Get.den n)]
theorem hD (n : Nat) : DenOk Go.Proofs.Tryd.prog Ty.gl (D n) := lookD_ok ⟨ref07_Get.sat n, trivial⟩
def rs : List ResultVar := [.tmp 6]
noncomputable def f (n : Nat) (x : CSs.den lin) : Option (CSs.den lout) := run Ty (D n) (mkH [] [] [] [] []) ns (cd Go.Proofs.Tryd.f53) (canon lin x) (retK Ty rs (Go.Func.ntmps Go.Proofs.Tryd.f53) lout id)
@[reducible] noncomputable def den (n : Nat) : Den := ⟨lin, lout, [6], [], CSs.den lout, f n, id⟩
theorem sat (n : Nat) : Sat Go.Proofs.Tryd.prog Ty.gl 53 (den n) := sat_is hTy (hD n) Go.Proofs.Tryd.func53 rfl rfl (den n) [] [] [] [] [] (by kernel_rfl) trivial trivial (rs := rs) (by kernel_rfl) (by kernel_rfl) (by kernel_rfl) (by kernel_rfl) (by kernel_rfl) (fun _ => rfl) (fun _ _ => rfl) id (fun _ => rfl) (by intro x; kernel_rfl)
end ref24_at
namespace ref23_Blocks
@[reducible] def lin : List (Nat × CS) := [(0, .v (.pair (.int .i64) (.pair (.int .i64) (.pair (.int .i64) (.pair (.int .i64) .unit)))))]
@[reducible] def lout : List (Nat × CS) := [(2, .v (.int .i64))]
noncomputable def ns : NS := nsOf Go.Proofs.Tryd.f34 lin lout
noncomputable def D (n : Nat) : FuncId → Nat → Option Den := lookD []
theorem hD (n : Nat) : DenOk Go.Proofs.Tryd.prog Ty.gl (D n) := lookD_ok trivial
@[reducible] def L0 : List (Nat × CS) := [(1, .box 35 [.v (.int .i64), .v (.int .i64), .v (.int .i64), .v (.int .i64)]), (3, .v (.int .i64)), (4, .v (.int .i64))]
@[reducible] def ws0 : List (Out × List (Nat × CS)) := [(.normal, [(3, .v (.int .i64))])]
noncomputable def l0 (n m : Nat) : Nat → CSs.den L0 → Option (wayDen ws0)
  | 0, _ => none
  | k + 1, x => run Ty (D n) (mkH [] [] [] [] []) ns (lb Go.Proofs.Tryd.f34 0) (canon L0 x) (loopK 0 L0 (l0 n m k))
theorem l0_ok (n m : Nat) : HintOk Go.Proofs.Tryd.prog Ty.gl ns (.block 0 (.loop (lb Go.Proofs.Tryd.f34 0))) ⟨L0, ws0, l0 n m m⟩ :=
  loop_is hTy (hD n) [] [] [] [] [] (by kernel_rfl) trivial trivial L0 ws0 (fun _ => rfl) (ways_cons (fun _ => rfl) ways_nil) (l0 n m) (fun _ => rfl) (fun _ _ => rfl) m
def rs : List ResultVar := [.tmp 2]
noncomputable def f (n : Nat) (x : CSs.den lin) : Option (CSs.den lout) := run Ty (D n) (mkH [(0, ⟨L0, ws0, l0 n n n⟩)] [] [] [] []) ns (cd Go.Proofs.Tryd.f34) (canon lin x) (retK Ty rs (Go.Func.ntmps Go.Proofs.Tryd.f34) lout id)
@[reducible] noncomputable def den (n : Nat) : Den := ⟨lin, lout, [2], [], CSs.den lout, f n, id⟩
theorem sat (n : Nat) : Sat Go.Proofs.Tryd.prog Ty.gl 34 (den n) := sat_is hTy (hD n) Go.Proofs.Tryd.func34 rfl rfl (den n) [(0, ⟨L0, ws0, l0 n n n⟩)] [] [] [] [] (by kernel_rfl) ⟨⟨_, by kernel_rfl, l0_ok n n⟩, trivial⟩ trivial (rs := rs) (by kernel_rfl) (by kernel_rfl) (by kernel_rfl) (by kernel_rfl) (by kernel_rfl) (fun _ => rfl) (fun _ _ => rfl) id (fun _ => rfl) (by intro x; kernel_rfl)
end ref23_Blocks
namespace ref24_Head
@[reducible] def lin : List (Nat × CS) := [(0, .v (.pair (.int .i64) (.pair (.int .i64) (.pair (.int .i64) (.pair (.int .i64) .unit)))))]
@[reducible] def lout : List (Nat × CS) := [(2, .v (.int .i64))]
noncomputable def ns : NS := nsOf Go.Proofs.Tryd.f31 lin lout
noncomputable def D (n : Nat) : FuncId → Nat → Option Den := lookD [((34, 0), ref23_Blocks.den n)]
theorem hD (n : Nat) : DenOk Go.Proofs.Tryd.prog Ty.gl (D n) := lookD_ok ⟨ref23_Blocks.sat n, trivial⟩
def rs : List ResultVar := [.tmp 2]
noncomputable def f (n : Nat) (x : CSs.den lin) : Option (CSs.den lout) := run Ty (D n) (mkH [] [(1, ⟨[1], [(.mem, 0), (.mem, 1), (.mem, 2), (.mem, 3), (.mem, 4), (.mem, 5), (.mem, 6), (.step, 7), (.cur, 8), (.cur, 9), (.cur, 10)]⟩)] [] [] []) ns (cd Go.Proofs.Tryd.f31) (canon lin x) (retK Ty rs (Go.Func.ntmps Go.Proofs.Tryd.f31) lout id)
@[reducible] noncomputable def den (n : Nat) : Den := ⟨lin, lout, [2], [], CSs.den lout, f n, id⟩
theorem sat (n : Nat) : Sat Go.Proofs.Tryd.prog Ty.gl 31 (den n) := sat_is hTy (hD n) Go.Proofs.Tryd.func31 rfl rfl (den n) [] [(1, ⟨[1], [(.mem, 0), (.mem, 1), (.mem, 2), (.mem, 3), (.mem, 4), (.mem, 5), (.mem, 6), (.step, 7), (.cur, 8), (.cur, 9), (.cur, 10)]⟩)] [] [] [] (by kernel_rfl) trivial trivial (rs := rs) (by kernel_rfl) (by kernel_rfl) (by kernel_rfl) (by kernel_rfl) (by kernel_rfl) (fun _ => rfl) (fun _ _ => rfl) id (fun _ => rfl) (by intro x; kernel_rfl)
end ref24_Head
namespace ref06_Update
@[reducible] def lin : List (Nat × CS) := [(0, .v (.int .u32)), (1, .v (.list (.int .u8)))]
@[reducible] def lout : List (Nat × CS) := [(4, .v (.int .u32))]
noncomputable def ns : NS := nsOf Go.Proofs.Tryd.f58 lin lout
noncomputable def D (n : Nat) : FuncId → Nat → Option Den := lookD []
theorem hD (n : Nat) : DenOk Go.Proofs.Tryd.prog Ty.gl (D n) := lookD_ok trivial
@[reducible] def L2 : List (Nat × CS) := [(1, .v (.list (.int .u8))), (5, .v (.int .u32)), (6, .v (.int .i64)), (7, .v (.int .i64))]
@[reducible] def ws2 : List (Out × List (Nat × CS)) := [(.normal, [(1, .v (.list (.int .u8))), (5, .v (.int .u32)), (6, .v (.int .i64))])]
noncomputable def l2 (n m : Nat) : Nat → CSs.den L2 → Option (wayDen ws2)
  | 0, _ => none
  | k + 1, x => run Ty (D n) (mkH [] [] [] [] []) ns (lb Go.Proofs.Tryd.f58 2) (canon L2 x) (loopK 2 L2 (l2 n m k))
theorem l2_ok (n m : Nat) : HintOk Go.Proofs.Tryd.prog Ty.gl ns (.block 2 (.loop (lb Go.Proofs.Tryd.f58 2))) ⟨L2, ws2, l2 n m m⟩ :=
  loop_is hTy (hD n) [] [] [] [] [] (by kernel_rfl) trivial trivial L2 ws2 (fun _ => rfl) (ways_cons (fun _ => rfl) ways_nil) (l2 n m) (fun _ => rfl) (fun _ _ => rfl) m
@[reducible] def L0 : List (Nat × CS) := [(1, .v (.list (.int .u8))), (5, .v (.int .u32)), (6, .v (.int .i64))]
@[reducible] def ws0 : List (Out × List (Nat × CS)) := [(.normal, [(5, .v (.int .u32))])]
noncomputable def l0 (n m : Nat) : Nat → CSs.den L0 → Option (wayDen ws0)
  | 0, _ => none
  | k + 1, x => run Ty (D n) (mkH [(2, ⟨L2, ws2, l2 n m m⟩)] [] [] [] []) ns (lb Go.Proofs.Tryd.f58 0) (canon L0 x) (loopK 0 L0 (l0 n m k))
theorem l0_ok (n m : Nat) : HintOk Go.Proofs.Tryd.prog Ty.gl ns (.block 0 (.loop (lb Go.Proofs.Tryd.f58 0))) ⟨L0, ws0, l0 n m m⟩ :=
  loop_is hTy (hD n) [(2, ⟨L2, ws2, l2 n m m⟩)] [] [] [] [] (by kernel_rfl) ⟨⟨_, by kernel_rfl, l2_ok n m⟩, trivial⟩ trivial L0 ws0 (fun _ => rfl) (ways_cons (fun _ => rfl) ways_nil) (l0 n m) (fun _ => rfl) (fun _ _ => rfl) m
def rs : List ResultVar := [.tmp 4]
noncomputable def f (n : Nat) (x : CSs.den lin) : Option (CSs.den lout) := run Ty (D n) (mkH [(0, ⟨L0, ws0, l0 n n n⟩), (2, ⟨L2, ws2, l2 n n n⟩)] [] [] [] []) ns (cd Go.Proofs.Tryd.f58) (canon lin x) (retK Ty rs (Go.Func.ntmps Go.Proofs.Tryd.f58) lout id)
@[reducible] noncomputable def den (n : Nat) : Den := ⟨lin, lout, [4], [], CSs.den lout, f n, id⟩
theorem sat (n : Nat) : Sat Go.Proofs.Tryd.prog Ty.gl 58 (den n) := sat_is hTy (hD n) Go.Proofs.Tryd.func58 rfl rfl (den n) [(0, ⟨L0, ws0, l0 n n n⟩), (2, ⟨L2, ws2, l2 n n n⟩)] [] [] [] [] (by kernel_rfl) ⟨⟨_, by kernel_rfl, l0_ok n n⟩, ⟨_, by kernel_rfl, l2_ok n n⟩, trivial⟩ trivial (rs := rs) (by kernel_rfl) (by kernel_rfl) (by kernel_rfl) (by kernel_rfl) (by kernel_rfl) (fun _ => rfl) (fun _ _ => rfl) id (fun _ => rfl) (by intro x; kernel_rfl)
end ref06_Update
namespace ref06_Sum
@[reducible] def lin : List (Nat × CS) := [(0, .v (.list (.int .u8)))]
@[reducible] def lout : List (Nat × CS) := [(2, .v (.int .u32))]
noncomputable def ns : NS := nsOf Go.Proofs.Tryd.f36 lin lout
noncomputable def D (n : Nat) : FuncId → Nat → Option Den := lookD [((58, 0), ref06_Update.den n)]
theorem hD (n : Nat) : DenOk Go.Proofs.Tryd.prog Ty.gl (D n) := lookD_ok ⟨ref06_Update.sat n, trivial⟩
def rs : List ResultVar := [.tmp 2]
noncomputable def f (n : Nat) (x : CSs.den lin) : Option (CSs.den lout) := run Ty (D n) (mkH [] [] [] [] []) ns (cd Go.Proofs.Tryd.f36) (canon lin x) (retK Ty rs (Go.Func.ntmps Go.Proofs.Tryd.f36) lout id)
@[reducible] noncomputable def den (n : Nat) : Den := ⟨lin, lout, [2], [], CSs.den lout, f n, id⟩
theorem sat (n : Nat) : Sat Go.Proofs.Tryd.prog Ty.gl 36 (den n) := sat_is hTy (hD n) Go.Proofs.Tryd.func36 rfl rfl (den n) [] [] [] [] [] (by kernel_rfl) trivial trivial (rs := rs) (by kernel_rfl) (by kernel_rfl) (by kernel_rfl) (by kernel_rfl) (by kernel_rfl) (fun _ => rfl) (fun _ _ => rfl) id (fun _ => rfl) (by intro x; kernel_rfl)
end ref06_Sum
namespace ref24_Parse
@[reducible] def lin : List (Nat × CS) := [(0, .v (.list (.int .u8)))]
@[reducible] def lout : List (Nat × CS) := [(156, .v (.pair (.pair (.int .i64) (.pair (.int .i64) (.pair (.int .i64) (.pair (.int .i64) .unit)))) (.pair (.int .i64) (.pair (.list (.list (.int .u32))) .unit)))), (3, .v (.list (.int .u8))), (4, .v (.int .i64))]
noncomputable def ns : NS := nsOf Go.Proofs.Tryd.f24 lin lout
noncomputable def D (n : Nat) : FuncId → Nat → Option Den := lookD [((53, 0), ref24_at.den n), ((15, 0), ref23_Right.den n), ((34, 0), ref23_Blocks.den n), ((31, 0), ref24_Head.den n), ((36, 0), ref06_Sum.den n)]
theorem hD (n : Nat) : DenOk Go.Proofs.Tryd.prog Ty.gl (D n) := lookD_ok ⟨ref24_at.sat n, ref23_Right.sat n, ref23_Blocks.sat n, ref24_Head.sat n, ref06_Sum.sat n, trivial⟩
@[reducible] def L2 : List (Nat × CS) := [(0, .v (.list (.int .u8))), (2, .box 37 [.v (.int .i64), .v (.int .i64), .v (.int .i64), .v (.int .i64), .v (.int .i64), .own 66 (.list (.int .u32))]), (5, .box 37 [.v (.int .i64), .v (.int .i64), .v (.int .i64), .v (.int .i64), .v (.int .i64), .own 66 (.list (.int .u32))]), (6, .v (.int .i64)), (7, .v (.int .i64)), (8, .v (.int .i64)), (9, .own 70 (.int .u32)), (10, .v (.int .i64))]
@[reducible] def ws2 : List (Out × List (Nat × CS)) := [(.normal, [(0, .v (.list (.int .u8))), (2, .box 37 [.v (.int .i64), .v (.int .i64), .v (.int .i64), .v (.int .i64), .v (.int .i64), .own 66 (.list (.int .u32))]), (5, .box 37 [.v (.int .i64), .v (.int .i64), .v (.int .i64), .v (.int .i64), .v (.int .i64), .own 66 (.list (.int .u32))]), (6, .v (.int .i64)), (7, .v (.int .i64)), (8, .v (.int .i64)), (9, .own 70 (.int .u32))])]
noncomputable def l2 (n m : Nat) : Nat → CSs.den L2 → Option (wayDen ws2)
  | 0, _ => none
  | k + 1, x => run (Ty.keepT [] [] [] [] [54]) (D n) (mkH [] [] [] [] []) ns (lb Go.Proofs.Tryd.f24 2) (canon L2 x) (loopK 2 L2 (l2 n m k))
theorem l2_ok (n m : Nat) : HintOk Go.Proofs.Tryd.prog Ty.gl ns (.block 2 (.loop (lb Go.Proofs.Tryd.f24 2))) ⟨L2, ws2, l2 n m m⟩ :=
  loop_is (hTy.keep [] [] [] [] [54]) (hD n) [] [] [] [] [] (by kernel_rfl) trivial trivial L2 ws2 (fun _ => rfl) (ways_cons (fun _ => rfl) ways_nil) (l2 n m) (fun _ => rfl) (fun _ _ => rfl) m
@[reducible] def L0 : List (Nat × CS) := [(0, .v (.list (.int .u8))), (2, .box 37 [.v (.int .i64), .v (.int .i64), .v (.int .i64), .v (.int .i64), .v (.int .i64), .own 66 (.list (.int .u32))]), (5, .box 37 [.v (.int .i64), .v (.int .i64), .v (.int .i64), .v (.int .i64), .v (.int .i64), .own 66 (.list (.int .u32))]), (6, .v (.int .i64)), (7, .v (.int .i64)), (8, .v (.int .i64))]
@[reducible] def ws0 : List (Out × List (Nat × CS)) := [(.normal, [(0, .v (.list (.int .u8))), (2, .box 37 [.v (.int .i64), .v (.int .i64), .v (.int .i64), .v (.int .i64), .v (.int .i64), .own 66 (.list (.int .u32))]), (5, .box 37 [.v (.int .i64), .v (.int .i64), .v (.int .i64), .v (.int .i64), .v (.int .i64), .own 66 (.list (.int .u32))]), (7, .v (.int .i64))])]
noncomputable def l0 (n m : Nat) : Nat → CSs.den L0 → Option (wayDen ws0)
  | 0, _ => none
  | k + 1, x => run (Ty.keepT [] [] [] [] [54]) (D n) (mkH [(2, ⟨L2, ws2, l2 n m m⟩)] [] [] [] []) ns (lb Go.Proofs.Tryd.f24 0) (canon L0 x) (loopK 0 L0 (l0 n m k))
theorem l0_ok (n m : Nat) : HintOk Go.Proofs.Tryd.prog Ty.gl ns (.block 0 (.loop (lb Go.Proofs.Tryd.f24 0))) ⟨L0, ws0, l0 n m m⟩ :=
  loop_is (hTy.keep [] [] [] [] [54]) (hD n) [(2, ⟨L2, ws2, l2 n m m⟩)] [] [] [] [] (by kernel_rfl) ⟨⟨_, by kernel_rfl, l2_ok n m⟩, trivial⟩ trivial L0 ws0 (fun _ => rfl) (ways_cons (fun _ => rfl) ways_nil) (l0 n m) (fun _ => rfl) (fun _ _ => rfl) m
def rs : List ResultVar := [.cell 2 37, .tmp 3, .tmp 4]
noncomputable def f (n : Nat) (x : CSs.den lin) : Option (CSs.den lout) := run (Ty.keepT [] [] [] [] [54]) (D n) (mkH [(0, ⟨L0, ws0, l0 n n n⟩), (2, ⟨L2, ws2, l2 n n n⟩)] [(21, ⟨[], [(.mem, 0), (.mem, 1), (.mem, 2), (.mem, 5), (.mem, 6), (.mem, 7), (.mem, 8), (.step, 3), (.cur, 4), (.step, 9), (.cur, 10)]⟩), (27, ⟨[], [(.mem, 1), (.mem, 2), (.mem, 3), (.step, 0), (.step, 4), (.mem, 5), (.mem, 6)]⟩)] [] [] []) ns (cd Go.Proofs.Tryd.f24) (canon lin x) (retK (Ty.keepT [] [] [] [] [54]) rs (Go.Func.ntmps Go.Proofs.Tryd.f24) lout id)
@[reducible] noncomputable def den (n : Nat) : Den := ⟨lin, lout, [156, 3, 4], [], CSs.den lout, f n, id⟩
theorem sat (n : Nat) : Sat Go.Proofs.Tryd.prog Ty.gl 24 (den n) := sat_is (hTy.keep [] [] [] [] [54]) (hD n) Go.Proofs.Tryd.func24 rfl rfl (den n) [(0, ⟨L0, ws0, l0 n n n⟩), (2, ⟨L2, ws2, l2 n n n⟩)] [(21, ⟨[], [(.mem, 0), (.mem, 1), (.mem, 2), (.mem, 5), (.mem, 6), (.mem, 7), (.mem, 8), (.step, 3), (.cur, 4), (.step, 9), (.cur, 10)]⟩), (27, ⟨[], [(.mem, 1), (.mem, 2), (.mem, 3), (.step, 0), (.step, 4), (.mem, 5), (.mem, 6)]⟩)] [] [] [] (by kernel_rfl) ⟨⟨_, by kernel_rfl, l0_ok n n⟩, ⟨_, by kernel_rfl, l2_ok n n⟩, trivial⟩ trivial (rs := rs) (by kernel_rfl) (by kernel_rfl) (by kernel_rfl) (by kernel_rfl) (by kernel_rfl) (fun _ => rfl) (fun _ _ => rfl) id (fun _ => rfl) (by intro x; kernel_rfl)
end ref24_Parse
namespace ref25_Find
@[reducible] def lin : List (Nat × CS) := [(0, .v (.list (.pair .bool (.pair (.list (.int .u8)) .unit))))]
@[reducible] def lout : List (Nat × CS) := [(43, .v (.pair (.pair (.int .i64) (.pair (.int .i64) (.pair (.int .i64) (.pair (.int .i64) .unit)))) (.pair (.int .i64) (.pair (.list (.list (.int .u32))) .unit)))), (3, .v .bool)]
noncomputable def ns : NS := nsOf Go.Proofs.Tryd.f10 lin lout
noncomputable def D (n : Nat) : FuncId → Nat → Option Den := lookD [((24, 0), ref24_Parse.den n)]
theorem hD (n : Nat) : DenOk Go.Proofs.Tryd.prog Ty.gl (D n) := lookD_ok ⟨ref24_Parse.sat n, trivial⟩
@[reducible] def L0 : List (Nat × CS) := [(0, .v (.list (.pair .bool (.pair (.list (.int .u8)) .unit)))), (2, .box 37 [.v (.int .i64), .v (.int .i64), .v (.int .i64), .v (.int .i64), .v (.int .i64), .own 66 (.list (.int .u32))]), (4, .v (.int .i64))]
@[reducible] def ws0 : List (Out × List (Nat × CS)) := [(.ret, [(2, .box 37 [.v (.int .i64), .v (.int .i64), .v (.int .i64), .v (.int .i64), .v (.int .i64), .v (.list (.list (.int .u32)))]), (3, .v .bool)]), (.normal, [(2, .box 37 [.v (.int .i64), .v (.int .i64), .v (.int .i64), .v (.int .i64), .v (.int .i64), .own 66 (.list (.int .u32))])])]
noncomputable def l0 (n m : Nat) : Nat → CSs.den L0 → Option (wayDen ws0)
  | 0, _ => none
  | k + 1, x => run Ty (D n) (mkH [] [] [] [] []) ns (lb Go.Proofs.Tryd.f10 0) (canon L0 x) (loopK 0 L0 (l0 n m k))
theorem l0_ok (n m : Nat) : HintOk Go.Proofs.Tryd.prog Ty.gl ns (.block 0 (.loop (lb Go.Proofs.Tryd.f10 0))) ⟨L0, ws0, l0 n m m⟩ :=
  loop_is hTy (hD n) [] [] [] [] [] (by kernel_rfl) trivial trivial L0 ws0 (fun _ => rfl) (ways_cons (fun _ => rfl) (ways_cons (fun _ => rfl) ways_nil)) (l0 n m) (fun _ => rfl) (fun _ _ => rfl) m
def rs : List ResultVar := [.cell 2 37, .tmp 3]
noncomputable def f (n : Nat) (x : CSs.den lin) : Option (CSs.den lout) := run Ty (D n) (mkH [(0, ⟨L0, ws0, l0 n n n⟩)] [] [] [] []) ns (cd Go.Proofs.Tryd.f10) (canon lin x) (retK Ty rs (Go.Func.ntmps Go.Proofs.Tryd.f10) lout id)
@[reducible] noncomputable def den (n : Nat) : Den := ⟨lin, lout, [43, 3], [], CSs.den lout, f n, id⟩
theorem sat (n : Nat) : Sat Go.Proofs.Tryd.prog Ty.gl 10 (den n) := sat_is hTy (hD n) Go.Proofs.Tryd.func10 rfl rfl (den n) [(0, ⟨L0, ws0, l0 n n n⟩)] [] [] [] [] (by kernel_rfl) ⟨⟨_, by kernel_rfl, l0_ok n n⟩, trivial⟩ trivial (rs := rs) (by kernel_rfl) (by kernel_rfl) (by kernel_rfl) (by kernel_rfl) (by kernel_rfl) (fun _ => rfl) (fun _ _ => rfl) id (fun _ => rfl) (by intro x; kernel_rfl)
end ref25_Find
namespace ref06_Same
@[reducible] def lin : List (Nat × CS) := [(0, .v (.list (.int .u32))), (1, .v (.list (.int .u32)))]
@[reducible] def lout : List (Nat × CS) := [(4, .v .bool)]
noncomputable def ns : NS := nsOf Go.Proofs.Tryd.f25 lin lout
noncomputable def D (n : Nat) : FuncId → Nat → Option Den := lookD []
theorem hD (n : Nat) : DenOk Go.Proofs.Tryd.prog Ty.gl (D n) := lookD_ok trivial
@[reducible] def L0 : List (Nat × CS) := [(0, .v (.list (.int .u32))), (1, .v (.list (.int .u32))), (5, .v (.int .i64))]
@[reducible] def ws0 : List (Out × List (Nat × CS)) := [(.ret, [(4, .v .bool)]), (.normal, [])]
noncomputable def l0 (n m : Nat) : Nat → CSs.den L0 → Option (wayDen ws0)
  | 0, _ => none
  | k + 1, x => run Ty (D n) (mkH [] [(6, ⟨[], [(.mem, 0), (.mem, 1), (.mem, 2), (.mem, 3), (.mem, 4), (.mem, 5), (.mem, 6), (.mem, 7), (.mem, 8)]⟩)] [] [] []) ns (lb Go.Proofs.Tryd.f25 0) (canon L0 x) (loopK 0 L0 (l0 n m k))
theorem l0_ok (n m : Nat) : HintOk Go.Proofs.Tryd.prog Ty.gl ns (.block 0 (.loop (lb Go.Proofs.Tryd.f25 0))) ⟨L0, ws0, l0 n m m⟩ :=
  loop_is hTy (hD n) [] [(6, ⟨[], [(.mem, 0), (.mem, 1), (.mem, 2), (.mem, 3), (.mem, 4), (.mem, 5), (.mem, 6), (.mem, 7), (.mem, 8)]⟩)] [] [] [] (by kernel_rfl) trivial trivial L0 ws0 (fun _ => rfl) (ways_cons (fun _ => rfl) (ways_cons (fun _ => rfl) ways_nil)) (l0 n m) (fun _ => rfl) (fun _ _ => rfl) m
def rs : List ResultVar := [.tmp 4]
noncomputable def f (n : Nat) (x : CSs.den lin) : Option (CSs.den lout) := run Ty (D n) (mkH [(0, ⟨L0, ws0, l0 n n n⟩)] [(6, ⟨[], [(.mem, 0), (.mem, 1), (.mem, 2), (.mem, 3), (.mem, 4), (.mem, 5), (.mem, 6), (.mem, 7), (.mem, 8)]⟩)] [] [] []) ns (cd Go.Proofs.Tryd.f25) (canon lin x) (retK Ty rs (Go.Func.ntmps Go.Proofs.Tryd.f25) lout id)
@[reducible] noncomputable def den (n : Nat) : Den := ⟨lin, lout, [4], [], CSs.den lout, f n, id⟩
theorem sat (n : Nat) : Sat Go.Proofs.Tryd.prog Ty.gl 25 (den n) := sat_is hTy (hD n) Go.Proofs.Tryd.func25 rfl rfl (den n) [(0, ⟨L0, ws0, l0 n n n⟩)] [(6, ⟨[], [(.mem, 0), (.mem, 1), (.mem, 2), (.mem, 3), (.mem, 4), (.mem, 5), (.mem, 6), (.mem, 7), (.mem, 8)]⟩)] [] [] [] (by kernel_rfl) ⟨⟨_, by kernel_rfl, l0_ok n n⟩, trivial⟩ trivial (rs := rs) (by kernel_rfl) (by kernel_rfl) (by kernel_rfl) (by kernel_rfl) (by kernel_rfl) (fun _ => rfl) (fun _ _ => rfl) id (fun _ => rfl) (by intro x; kernel_rfl)
end ref06_Same
namespace ref24_SameSums
@[reducible] def lin : List (Nat × CS) := [(0, .v (.list (.list (.int .u32)))), (1, .v (.list (.list (.int .u32))))]
@[reducible] def lout : List (Nat × CS) := [(4, .v .bool)]
noncomputable def ns : NS := nsOf Go.Proofs.Tryd.f11 lin lout
noncomputable def D (n : Nat) : FuncId → Nat → Option Den := lookD [((25, 0), ref06_Same.den n)]
theorem hD (n : Nat) : DenOk Go.Proofs.Tryd.prog Ty.gl (D n) := lookD_ok ⟨ref06_Same.sat n, trivial⟩
@[reducible] def L0 : List (Nat × CS) := [(0, .v (.list (.list (.int .u32)))), (1, .v (.list (.list (.int .u32)))), (5, .v (.int .i64))]
@[reducible] def ws0 : List (Out × List (Nat × CS)) := [(.ret, [(4, .v .bool)]), (.normal, [])]
noncomputable def l0 (n m : Nat) : Nat → CSs.den L0 → Option (wayDen ws0)
  | 0, _ => none
  | k + 1, x => run Ty (D n) (mkH [] [(6, ⟨[], [(.mem, 0), (.mem, 1), (.mem, 2), (.mem, 3), (.mem, 4), (.mem, 5), (.mem, 6), (.mem, 7), (.step, 8), (.cur, 9)]⟩)] [] [] []) ns (lb Go.Proofs.Tryd.f11 0) (canon L0 x) (loopK 0 L0 (l0 n m k))
theorem l0_ok (n m : Nat) : HintOk Go.Proofs.Tryd.prog Ty.gl ns (.block 0 (.loop (lb Go.Proofs.Tryd.f11 0))) ⟨L0, ws0, l0 n m m⟩ :=
  loop_is hTy (hD n) [] [(6, ⟨[], [(.mem, 0), (.mem, 1), (.mem, 2), (.mem, 3), (.mem, 4), (.mem, 5), (.mem, 6), (.mem, 7), (.step, 8), (.cur, 9)]⟩)] [] [] [] (by kernel_rfl) trivial trivial L0 ws0 (fun _ => rfl) (ways_cons (fun _ => rfl) (ways_cons (fun _ => rfl) ways_nil)) (l0 n m) (fun _ => rfl) (fun _ _ => rfl) m
def rs : List ResultVar := [.tmp 4]
noncomputable def f (n : Nat) (x : CSs.den lin) : Option (CSs.den lout) := run Ty (D n) (mkH [(0, ⟨L0, ws0, l0 n n n⟩)] [(6, ⟨[], [(.mem, 0), (.mem, 1), (.mem, 2), (.mem, 3), (.mem, 4), (.mem, 5), (.mem, 6), (.mem, 7), (.step, 8), (.cur, 9)]⟩)] [] [] []) ns (cd Go.Proofs.Tryd.f11) (canon lin x) (retK Ty rs (Go.Func.ntmps Go.Proofs.Tryd.f11) lout id)
@[reducible] noncomputable def den (n : Nat) : Den := ⟨lin, lout, [4], [], CSs.den lout, f n, id⟩
theorem sat (n : Nat) : Sat Go.Proofs.Tryd.prog Ty.gl 11 (den n) := sat_is hTy (hD n) Go.Proofs.Tryd.func11 rfl rfl (den n) [(0, ⟨L0, ws0, l0 n n n⟩)] [(6, ⟨[], [(.mem, 0), (.mem, 1), (.mem, 2), (.mem, 3), (.mem, 4), (.mem, 5), (.mem, 6), (.mem, 7), (.step, 8), (.cur, 9)]⟩)] [] [] [] (by kernel_rfl) ⟨⟨_, by kernel_rfl, l0_ok n n⟩, trivial⟩ trivial (rs := rs) (by kernel_rfl) (by kernel_rfl) (by kernel_rfl) (by kernel_rfl) (by kernel_rfl) (fun _ => rfl) (fun _ _ => rfl) id (fun _ => rfl) (by intro x; kernel_rfl)
end ref24_SameSums
namespace ref25_Worst
@[reducible] def lin : List (Nat × CS) := [(0, .v (.list (.list .bool)))]
@[reducible] def lout : List (Nat × CS) := [(2, .v (.int .i64))]
noncomputable def ns : NS := nsOf Go.Proofs.Tryd.f13 lin lout
noncomputable def D (n : Nat) : FuncId → Nat → Option Den := lookD []
theorem hD (n : Nat) : DenOk Go.Proofs.Tryd.prog Ty.gl (D n) := lookD_ok trivial
@[reducible] def L0 : List (Nat × CS) := [(0, .v (.list (.list .bool))), (3, .v (.int .i64)), (4, .v (.int .i64)), (5, .v (.int .i64))]
@[reducible] def ws0 : List (Out × List (Nat × CS)) := [(.normal, [(0, .v (.list (.list .bool))), (3, .v (.int .i64)), (4, .v (.int .i64))])]
noncomputable def l0 (n m : Nat) : Nat → CSs.den L0 → Option (wayDen ws0)
  | 0, _ => none
  | k + 1, x => run Ty (D n) (mkH [] [] [] [] []) ns (lb Go.Proofs.Tryd.f13 0) (canon L0 x) (loopK 0 L0 (l0 n m k))
theorem l0_ok (n m : Nat) : HintOk Go.Proofs.Tryd.prog Ty.gl ns (.block 0 (.loop (lb Go.Proofs.Tryd.f13 0))) ⟨L0, ws0, l0 n m m⟩ :=
  loop_is hTy (hD n) [] [] [] [] [] (by kernel_rfl) trivial trivial L0 ws0 (fun _ => rfl) (ways_cons (fun _ => rfl) ways_nil) (l0 n m) (fun _ => rfl) (fun _ _ => rfl) m
@[reducible] def L4 : List (Nat × CS) := [(0, .v (.list (.list .bool))), (3, .v (.int .i64)), (4, .v (.int .i64)), (6, .v (.int .i64)), (7, .v (.int .i64)), (8, .v (.int .i64))]
@[reducible] def ws4 : List (Out × List (Nat × CS)) := [(.normal, [(0, .v (.list (.list .bool))), (3, .v (.int .i64)), (4, .v (.int .i64)), (6, .v (.int .i64)), (7, .v (.int .i64))])]
noncomputable def l4 (n m : Nat) : Nat → CSs.den L4 → Option (wayDen ws4)
  | 0, _ => none
  | k + 1, x => run Ty (D n) (mkH [] [] [] [] []) ns (lb Go.Proofs.Tryd.f13 4) (canon L4 x) (loopK 4 L4 (l4 n m k))
theorem l4_ok (n m : Nat) : HintOk Go.Proofs.Tryd.prog Ty.gl ns (.block 4 (.loop (lb Go.Proofs.Tryd.f13 4))) ⟨L4, ws4, l4 n m m⟩ :=
  loop_is hTy (hD n) [] [] [] [] [] (by kernel_rfl) trivial trivial L4 ws4 (fun _ => rfl) (ways_cons (fun _ => rfl) ways_nil) (l4 n m) (fun _ => rfl) (fun _ _ => rfl) m
@[reducible] def L2 : List (Nat × CS) := [(0, .v (.list (.list .bool))), (3, .v (.int .i64)), (4, .v (.int .i64)), (6, .v (.int .i64))]
@[reducible] def ws2 : List (Out × List (Nat × CS)) := [(.normal, [(3, .v (.int .i64))])]
noncomputable def l2 (n m : Nat) : Nat → CSs.den L2 → Option (wayDen ws2)
  | 0, _ => none
  | k + 1, x => run Ty (D n) (mkH [(4, ⟨L4, ws4, l4 n m m⟩)] [] [] [] []) ns (lb Go.Proofs.Tryd.f13 2) (canon L2 x) (loopK 2 L2 (l2 n m k))
theorem l2_ok (n m : Nat) : HintOk Go.Proofs.Tryd.prog Ty.gl ns (.block 2 (.loop (lb Go.Proofs.Tryd.f13 2))) ⟨L2, ws2, l2 n m m⟩ :=
  loop_is hTy (hD n) [(4, ⟨L4, ws4, l4 n m m⟩)] [] [] [] [] (by kernel_rfl) ⟨⟨_, by kernel_rfl, l4_ok n m⟩, trivial⟩ trivial L2 ws2 (fun _ => rfl) (ways_cons (fun _ => rfl) ways_nil) (l2 n m) (fun _ => rfl) (fun _ _ => rfl) m
def rs : List ResultVar := [.tmp 2]
noncomputable def f (n : Nat) (x : CSs.den lin) : Option (CSs.den lout) := run Ty (D n) (mkH [(0, ⟨L0, ws0, l0 n n n⟩), (2, ⟨L2, ws2, l2 n n n⟩), (4, ⟨L4, ws4, l4 n n n⟩)] [] [] [] []) ns (cd Go.Proofs.Tryd.f13) (canon lin x) (retK Ty rs (Go.Func.ntmps Go.Proofs.Tryd.f13) lout id)
@[reducible] noncomputable def den (n : Nat) : Den := ⟨lin, lout, [2], [], CSs.den lout, f n, id⟩
theorem sat (n : Nat) : Sat Go.Proofs.Tryd.prog Ty.gl 13 (den n) := sat_is hTy (hD n) Go.Proofs.Tryd.func13 rfl rfl (den n) [(0, ⟨L0, ws0, l0 n n n⟩), (2, ⟨L2, ws2, l2 n n n⟩), (4, ⟨L4, ws4, l4 n n n⟩)] [] [] [] [] (by kernel_rfl) ⟨⟨_, by kernel_rfl, l0_ok n n⟩, ⟨_, by kernel_rfl, l2_ok n n⟩, ⟨_, by kernel_rfl, l4_ok n n⟩, trivial⟩ trivial (rs := rs) (by kernel_rfl) (by kernel_rfl) (by kernel_rfl) (by kernel_rfl) (by kernel_rfl) (fun _ => rfl) (fun _ _ => rfl) id (fun _ => rfl) (by intro x; kernel_rfl)
end ref25_Worst
namespace damage_Columns
@[reducible] def lin : List (Nat × CS) := [(0, .v (.list (.pair .bool (.pair (.list (.int .u8)) .unit)))), (1, .v (.pair (.int .i64) (.pair (.int .i64) (.pair (.int .i64) (.pair (.int .i64) .unit)))))]
@[reducible] def lout : List (Nat × CS) := [(4, .own 52 (.list (.int .u8))), (5, .own 4 .bool)]
noncomputable def ns : NS := nsOf Go.Proofs.Tryd.f14 lin lout
noncomputable def D (n : Nat) : FuncId → Nat → Option Den := lookD [((26, 0), stripe_Right.den n), ((27, 0), damage_column.den n)]
theorem hD (n : Nat) : DenOk Go.Proofs.Tryd.prog Ty.gl (D n) := lookD_ok ⟨stripe_Right.sat n, damage_column.sat n, trivial⟩
@[reducible] def L0 : List (Nat × CS) := [(0, .v (.list (.pair .bool (.pair (.list (.int .u8)) .unit)))), (3, .box 24 [.v (.int .i64), .v (.int .i64), .v (.int .i64), .v (.int .i64)]), (4, .own 52 (.list (.int .u8))), (5, .own 4 .bool), (16, .v (.int .i64)), (17, .v (.int .i64))]
@[reducible] def ws0 : List (Out × List (Nat × CS)) := [(.normal, [(4, .own 52 (.list (.int .u8))), (5, .own 4 .bool)])]
noncomputable def l0 (n m : Nat) : Nat → CSs.den L0 → Option (wayDen ws0)
  | 0, _ => none
  | k + 1, x => run Ty (D n) (mkH [] [] [] [] [(23, [(.normal, [(0, .v (.list (.pair .bool (.pair (.list (.int .u8)) .unit)))), (3, .box 24 [.v (.int .i64), .v (.int .i64), .v (.int .i64), .v (.int .i64)]), (4, .own 52 (.list (.int .u8))), (5, .own 4 .bool), (6, .v (.int .i64)), (7, .box 57 [.v .bool, .v (.list (.int .u8))]), (16, .v (.int .i64)), (17, .v (.int .i64))])])]) ns (lb Go.Proofs.Tryd.f14 0) (canon L0 x) (loopK 0 L0 (l0 n m k))
theorem l0_ok (n m : Nat) : HintOk Go.Proofs.Tryd.prog Ty.gl ns (.block 0 (.loop (lb Go.Proofs.Tryd.f14 0))) ⟨L0, ws0, l0 n m m⟩ :=
  loop_is hTy (hD n) [] [] [] [] [(23, [(.normal, [(0, .v (.list (.pair .bool (.pair (.list (.int .u8)) .unit)))), (3, .box 24 [.v (.int .i64), .v (.int .i64), .v (.int .i64), .v (.int .i64)]), (4, .own 52 (.list (.int .u8))), (5, .own 4 .bool), (6, .v (.int .i64)), (7, .box 57 [.v .bool, .v (.list (.int .u8))]), (16, .v (.int .i64)), (17, .v (.int .i64))])])] (by kernel_rfl) trivial trivial L0 ws0 (fun _ => rfl) (ways_cons (fun _ => rfl) ways_nil) (l0 n m) (fun _ => rfl) (fun _ _ => rfl) m
def rs : List ResultVar := [.tmp 4, .tmp 5]
noncomputable def f (n : Nat) (x : CSs.den lin) : Option (CSs.den lout) := run Ty (D n) (mkH [(0, ⟨L0, ws0, l0 n n n⟩)] [] [] [] [(23, [(.normal, [(0, .v (.list (.pair .bool (.pair (.list (.int .u8)) .unit)))), (3, .box 24 [.v (.int .i64), .v (.int .i64), .v (.int .i64), .v (.int .i64)]), (4, .own 52 (.list (.int .u8))), (5, .own 4 .bool), (6, .v (.int .i64)), (7, .box 57 [.v .bool, .v (.list (.int .u8))]), (16, .v (.int .i64)), (17, .v (.int .i64))])])]) ns (cd Go.Proofs.Tryd.f14) (canon lin x) (retK Ty rs (Go.Func.ntmps Go.Proofs.Tryd.f14) lout id)
@[reducible] noncomputable def den (n : Nat) : Den := ⟨lin, lout, [4, 5], [none, none], CSs.den lout, f n, id⟩
theorem sat (n : Nat) : Sat Go.Proofs.Tryd.prog Ty.gl 14 (den n) := sat_is hTy (hD n) Go.Proofs.Tryd.func14 rfl rfl (den n) [(0, ⟨L0, ws0, l0 n n n⟩)] [] [] [] [(23, [(.normal, [(0, .v (.list (.pair .bool (.pair (.list (.int .u8)) .unit)))), (3, .box 24 [.v (.int .i64), .v (.int .i64), .v (.int .i64), .v (.int .i64)]), (4, .own 52 (.list (.int .u8))), (5, .own 4 .bool), (6, .v (.int .i64)), (7, .box 57 [.v .bool, .v (.list (.int .u8))]), (16, .v (.int .i64)), (17, .v (.int .i64))])])] (by kernel_rfl) ⟨⟨_, by kernel_rfl, l0_ok n n⟩, trivial⟩ trivial (rs := rs) (by kernel_rfl) (by kernel_rfl) (by kernel_rfl) (by kernel_rfl) (by kernel_rfl) (fun _ => rfl) (fun _ _ => rfl) id (fun _ => rfl) (by intro x; kernel_rfl)
end damage_Columns
namespace ref07_Put
@[reducible] def lin : List (Nat × CS) := [(0, .v (.int .u64)), (1, .v (.int .i64))]
@[reducible] def lout : List (Nat × CS) := [(4, .v (.list (.int .u8)))]
noncomputable def ns : NS := nsOf Go.Proofs.Tryd.f57 lin lout
noncomputable def D (n : Nat) : FuncId → Nat → Option Den := lookD []
theorem hD (n : Nat) : DenOk Go.Proofs.Tryd.prog Ty.gl (D n) := lookD_ok trivial
@[reducible] def L0 : List (Nat × CS) := [(0, .v (.int .u64)), (1, .v (.int .i64)), (5, .own 5 (.int .u8)), (6, .v (.int .i64))]
@[reducible] def ws0 : List (Out × List (Nat × CS)) := [(.normal, [(5, .own 5 (.int .u8))])]
noncomputable def l0 (n m : Nat) : Nat → CSs.den L0 → Option (wayDen ws0)
  | 0, _ => none
  | k + 1, x => run Ty (D n) (mkH [] [] [] [] []) ns (lb Go.Proofs.Tryd.f57 0) (canon L0 x) (loopK 0 L0 (l0 n m k))
theorem l0_ok (n m : Nat) : HintOk Go.Proofs.Tryd.prog Ty.gl ns (.block 0 (.loop (lb Go.Proofs.Tryd.f57 0))) ⟨L0, ws0, l0 n m m⟩ :=
  loop_is hTy (hD n) [] [] [] [] [] (by kernel_rfl) trivial trivial L0 ws0 (fun _ => rfl) (ways_cons (fun _ => rfl) ways_nil) (l0 n m) (fun _ => rfl) (fun _ _ => rfl) m
def rs : List ResultVar := [.tmp 4]
noncomputable def f (n : Nat) (x : CSs.den lin) : Option (CSs.den lout) := run Ty (D n) (mkH [(0, ⟨L0, ws0, l0 n n n⟩)] [] [] [] []) ns (cd Go.Proofs.Tryd.f57) (canon lin x) (retK Ty rs (Go.Func.ntmps Go.Proofs.Tryd.f57) lout id)
@[reducible] noncomputable def den (n : Nat) : Den := ⟨lin, lout, [4], [], CSs.den lout, f n, id⟩
theorem sat (n : Nat) : Sat Go.Proofs.Tryd.prog Ty.gl 57 (den n) := sat_is hTy (hD n) Go.Proofs.Tryd.func57 rfl rfl (den n) [(0, ⟨L0, ws0, l0 n n n⟩)] [] [] [] [] (by kernel_rfl) ⟨⟨_, by kernel_rfl, l0_ok n n⟩, trivial⟩ trivial (rs := rs) (by kernel_rfl) (by kernel_rfl) (by kernel_rfl) (by kernel_rfl) (by kernel_rfl) (fun _ => rfl) (fun _ _ => rfl) id (fun _ => rfl) (by intro x; kernel_rfl)
end ref07_Put
namespace ref01_Join
@[reducible] def lin : List (Nat × CS) := [(0, .v (.list (.list (.int .u8))))]
@[reducible] def lout : List (Nat × CS) := [(2, .own 5 (.int .u8))]
noncomputable def ns : NS := nsOf Go.Proofs.Tryd.f56 lin lout
noncomputable def D (n : Nat) : FuncId → Nat → Option Den := lookD []
theorem hD (n : Nat) : DenOk Go.Proofs.Tryd.prog Ty.gl (D n) := lookD_ok trivial
@[reducible] def L0 : List (Nat × CS) := [(0, .v (.list (.list (.int .u8)))), (3, .own 5 (.int .u8)), (4, .v (.int .i64))]
@[reducible] def ws0 : List (Out × List (Nat × CS)) := [(.normal, [(3, .own 5 (.int .u8))])]
noncomputable def l0 (n m : Nat) : Nat → CSs.den L0 → Option (wayDen ws0)
  | 0, _ => none
  | k + 1, x => run Ty (D n) (mkH [] [] [] [] []) ns (lb Go.Proofs.Tryd.f56 0) (canon L0 x) (loopK 0 L0 (l0 n m k))
theorem l0_ok (n m : Nat) : HintOk Go.Proofs.Tryd.prog Ty.gl ns (.block 0 (.loop (lb Go.Proofs.Tryd.f56 0))) ⟨L0, ws0, l0 n m m⟩ :=
  loop_is hTy (hD n) [] [] [] [] [] (by kernel_rfl) trivial trivial L0 ws0 (fun _ => rfl) (ways_cons (fun _ => rfl) ways_nil) (l0 n m) (fun _ => rfl) (fun _ _ => rfl) m
def rs : List ResultVar := [.tmp 2]
noncomputable def f (n : Nat) (x : CSs.den lin) : Option (CSs.den lout) := run Ty (D n) (mkH [(0, ⟨L0, ws0, l0 n n n⟩)] [] [] [] []) ns (cd Go.Proofs.Tryd.f56) (canon lin x) (retK Ty rs (Go.Func.ntmps Go.Proofs.Tryd.f56) lout id)
@[reducible] noncomputable def den (n : Nat) : Den := ⟨lin, lout, [2], [none], CSs.den lout, f n, id⟩
theorem sat (n : Nat) : Sat Go.Proofs.Tryd.prog Ty.gl 56 (den n) := sat_is hTy (hD n) Go.Proofs.Tryd.func56 rfl rfl (den n) [(0, ⟨L0, ws0, l0 n n n⟩)] [] [] [] [] (by kernel_rfl) ⟨⟨_, by kernel_rfl, l0_ok n n⟩, trivial⟩ trivial (rs := rs) (by kernel_rfl) (by kernel_rfl) (by kernel_rfl) (by kernel_rfl) (by kernel_rfl) (fun _ => rfl) (fun _ _ => rfl) id (fun _ => rfl) (by intro x; kernel_rfl)
end ref01_Join
end Go.Proofs.YtlioalaehkohlaaDoor.Vm
