/- Functions of the Go program as Lean functions, by the machine. Written by a program. -/
import Derived.Test.YtcnegcjjeakmmaaDoorX0
namespace Go.Proofs.YtcnegcjjeakmmaaDoor.Vm
open Go Go.RowKit
set_option linter.unusedVariables false
set_option linter.unusedSimpArgs false
set_option maxRecDepth 100000
namespace central_judge
@[reducible] def lin : List (Nat × CS) := [(0, .v (.pair (.pair (.int .i64) (.pair (.pair (.int .i64) (.pair (.int .i64) (.pair (.int .i64) (.pair (.int .i64) (.pair (.int .i64) (.pair (.int .i64) .unit)))))) (.pair (.int .u32) (.pair (.int .u64) (.pair (.int .u64) (.pair .str .unit)))))) (.pair (.int .u32) (.pair (.int .u64) .unit)))), (1, .v (.list (.int .u8))), (2, .v .bool), (3, .v (.int .i64))]
@[reducible] def lout : List (Nat × CS) := [(94, .v (.pair (.pair (.int .i64) (.pair (.pair (.int .i64) (.pair (.int .i64) (.pair (.int .i64) (.pair (.int .i64) (.pair (.int .i64) (.pair (.int .i64) .unit)))))) (.pair (.int .u32) (.pair (.int .u64) (.pair (.int .u64) (.pair .str .unit)))))) (.pair (.int .u32) (.pair (.int .u64) .unit)))), (9, .v (.int .i64)), (10, .v (.int .i64))]
noncomputable def ns : NS := nsOf Go.Proofs.Tryd.f39 lin lout
noncomputable def D (n : Nat) : FuncId → Nat → Option Den := lookD [((9, 0), central_Write.den n), ((56, 0), slices_Equal_byte_byte.den n), ((22, 0), central_extra.den n), ((20, 0), central_check.den n)]
theorem hD (n : Nat) : DenOk Go.Proofs.Tryd.prog Ty.gl (D n) := lookD_ok ⟨central_Write.sat n, slices_Equal_byte_byte.sat n, central_extra.sat n, central_check.sat n, trivial⟩
@[reducible] def L0 : List (Nat × CS) := [(1, .v (.list (.int .u8))), (2, .v .bool), (3, .v (.int .i64)), (4, .box 29 [.v (.int .i64), .v (.int .i64), .v (.int .i64), .v (.int .i64), .v (.int .i64), .v (.int .i64), .v (.int .i64), .v (.int .u32), .v (.int .u64), .v (.int .u64), .v .str, .v (.int .u32), .v (.int .u64)]), (8, .box 29 [.v (.int .i64), .v (.int .i64), .v (.int .i64), .v (.int .i64), .v (.int .i64), .v (.int .i64), .v (.int .i64), .v (.int .u32), .v (.int .u64), .v (.int .u64), .v .str, .v (.int .u32), .v (.int .u64)]), (12, .v (.list (.int .u8))), (35, .own 105 (.arr 2 (.int .i64))), (36, .v (.int .i64)), (37, .v (.int .i64))]
@[reducible] def ws0 : List (Out × List (Nat × CS)) := [(.normal, [(1, .v (.list (.int .u8))), (2, .v .bool), (3, .v (.int .i64)), (4, .box 29 [.v (.int .i64), .v (.int .i64), .v (.int .i64), .v (.int .i64), .v (.int .i64), .v (.int .i64), .v (.int .i64), .v (.int .u32), .v (.int .u64), .v (.int .u64), .v .str, .v (.int .u32), .v (.int .u64)]), (8, .box 29 [.v (.int .i64), .v (.int .i64), .v (.int .i64), .v (.int .i64), .v (.int .i64), .v (.int .i64), .v (.int .i64), .v (.int .u32), .v (.int .u64), .v (.int .u64), .v .str, .v (.int .u32), .v (.int .u64)])])]
noncomputable def l0 (n m : Nat) : Nat → CSs.den L0 → Option (wayDen ws0)
  | 0, _ => none
  | k + 1, x => run Ty (D n) (mkH [] [(9, ⟨[15], [(.mem, 0), (.mem, 1), (.mem, 2), (.mem, 3), (.mem, 4), (.mem, 5), (.mem, 6), (.cur, 7), (.mem, 8), (.mem, 9), (.mem, 10), (.mem, 11), (.mem, 12), (.mem, 13), (.step, 14), (.cur, 15), (.cur, 16)]⟩)] [] [] [(1000009, [(.normal, [(1, .v (.list (.int .u8))), (2, .v .bool), (3, .v (.int .i64)), (4, .box 29 [.v (.int .i64), .v (.int .i64), .v (.int .i64), .v (.int .i64), .v (.int .i64), .v (.int .i64), .v (.int .i64), .v (.int .u32), .v (.int .u64), .v (.int .u64), .v .str, .v (.int .u32), .v (.int .u64)]), (8, .box 29 [.v (.int .i64), .v (.int .i64), .v (.int .i64), .v (.int .i64), .v (.int .i64), .v (.int .i64), .v (.int .i64), .v (.int .u32), .v (.int .u64), .v (.int .u64), .v .str, .v (.int .u32), .v (.int .u64)]), (12, .v (.list (.int .u8))), (35, .own 105 (.arr 2 (.int .i64))), (36, .v (.int .i64)), (37, .v (.int .i64))])])]) ns (lb Go.Proofs.Tryd.f39 0) (canon L0 x) (loopK 0 L0 (l0 n m k))
theorem l0_ok (n m : Nat) : HintOk Go.Proofs.Tryd.prog Ty.gl ns (.block 0 (.loop (lb Go.Proofs.Tryd.f39 0))) ⟨L0, ws0, l0 n m m⟩ :=
  loop_is hTy (hD n) [] [(9, ⟨[15], [(.mem, 0), (.mem, 1), (.mem, 2), (.mem, 3), (.mem, 4), (.mem, 5), (.mem, 6), (.cur, 7), (.mem, 8), (.mem, 9), (.mem, 10), (.mem, 11), (.mem, 12), (.mem, 13), (.step, 14), (.cur, 15), (.cur, 16)]⟩)] [] [] [(1000009, [(.normal, [(1, .v (.list (.int .u8))), (2, .v .bool), (3, .v (.int .i64)), (4, .box 29 [.v (.int .i64), .v (.int .i64), .v (.int .i64), .v (.int .i64), .v (.int .i64), .v (.int .i64), .v (.int .i64), .v (.int .u32), .v (.int .u64), .v (.int .u64), .v .str, .v (.int .u32), .v (.int .u64)]), (8, .box 29 [.v (.int .i64), .v (.int .i64), .v (.int .i64), .v (.int .i64), .v (.int .i64), .v (.int .i64), .v (.int .i64), .v (.int .u32), .v (.int .u64), .v (.int .u64), .v .str, .v (.int .u32), .v (.int .u64)]), (12, .v (.list (.int .u8))), (35, .own 105 (.arr 2 (.int .i64))), (36, .v (.int .i64)), (37, .v (.int .i64))])])] (by kernel_rfl) trivial trivial L0 ws0 (fun _ => rfl) (ways_cons (fun _ => rfl) ways_nil) (l0 n m) (fun _ => rfl) (fun _ _ => rfl) m
def rs : List ResultVar := [.cell 8 29, .tmp 9, .tmp 10]
noncomputable def f (n : Nat) (x : CSs.den lin) : Option (CSs.den lout) := run Ty (D n) (mkH [(0, ⟨L0, ws0, l0 n n n⟩)] [(9, ⟨[15], [(.mem, 0), (.mem, 1), (.mem, 2), (.mem, 3), (.mem, 4), (.mem, 5), (.mem, 6), (.cur, 7), (.mem, 8), (.mem, 9), (.mem, 10), (.mem, 11), (.mem, 12), (.mem, 13), (.step, 14), (.cur, 15), (.cur, 16)]⟩), (11, ⟨[4], [(.mem, 0), (.mem, 1), (.mem, 2), (.mem, 3), (.mem, 5), (.mem, 6), (.mem, 7), (.mem, 8), (.mem, 9), (.mem, 10), (.mem, 11), (.step, 4), (.step, 12), (.cur, 13), (.cur, 14)]⟩)] [] [] [(23, [(.normal, [(1, .v (.list (.int .u8))), (2, .v .bool), (3, .v (.int .i64)), (4, .box 29 [.v (.int .i64), .v (.int .i64), .v (.int .i64), .v (.int .i64), .v (.int .i64), .v (.int .i64), .v (.int .i64), .v (.int .u32), .v (.int .u64), .v (.int .u64), .v .str, .v (.int .u32), .v (.int .u64)]), (8, .box 29 [.v (.int .i64), .v (.int .i64), .v (.int .i64), .v (.int .i64), .v (.int .i64), .v (.int .i64), .v (.int .i64), .v (.int .u32), .v (.int .u64), .v (.int .u64), .v .str, .v (.int .u32), .v (.int .u64)]), (11, .box 29 [.v (.int .i64), .v (.int .i64), .v (.int .i64), .v (.int .i64), .v (.int .i64), .v (.int .i64), .v (.int .i64), .v (.int .u32), .v (.int .u64), .v (.int .u64), .v .str, .v (.int .u32), .v (.int .u64)])])]), (1000009, [(.normal, [(1, .v (.list (.int .u8))), (2, .v .bool), (3, .v (.int .i64)), (4, .box 29 [.v (.int .i64), .v (.int .i64), .v (.int .i64), .v (.int .i64), .v (.int .i64), .v (.int .i64), .v (.int .i64), .v (.int .u32), .v (.int .u64), .v (.int .u64), .v .str, .v (.int .u32), .v (.int .u64)]), (8, .box 29 [.v (.int .i64), .v (.int .i64), .v (.int .i64), .v (.int .i64), .v (.int .i64), .v (.int .i64), .v (.int .i64), .v (.int .u32), .v (.int .u64), .v (.int .u64), .v .str, .v (.int .u32), .v (.int .u64)]), (12, .v (.list (.int .u8))), (35, .own 105 (.arr 2 (.int .i64))), (36, .v (.int .i64)), (37, .v (.int .i64))])]), (1000011, [(.normal, [(1, .v (.list (.int .u8))), (3, .v (.int .i64)), (4, .box 29 [.v (.int .i64), .v (.int .i64), .v (.int .i64), .v (.int .i64), .v (.int .i64), .v (.int .i64), .v (.int .i64), .v (.int .u32), .v (.int .u64), .v (.int .u64), .v .str, .v (.int .u32), .v (.int .u64)]), (8, .box 29 [.v (.int .i64), .v (.int .i64), .v (.int .i64), .v (.int .i64), .v (.int .i64), .v (.int .i64), .v (.int .i64), .v (.int .u32), .v (.int .u64), .v (.int .u64), .v .str, .v (.int .u32), .v (.int .u64)]), (72, .v .bool)])])]) ns (cd Go.Proofs.Tryd.f39) (canon lin x) (retK Ty rs (Go.Func.ntmps Go.Proofs.Tryd.f39) lout id)
@[reducible] noncomputable def den (n : Nat) : Den := ⟨lin, lout, [94, 9, 10], [], CSs.den lout, f n, id⟩
theorem sat (n : Nat) : Sat Go.Proofs.Tryd.prog Ty.gl 39 (den n) := sat_is hTy (hD n) Go.Proofs.Tryd.func39 rfl rfl (den n) [(0, ⟨L0, ws0, l0 n n n⟩)] [(9, ⟨[15], [(.mem, 0), (.mem, 1), (.mem, 2), (.mem, 3), (.mem, 4), (.mem, 5), (.mem, 6), (.cur, 7), (.mem, 8), (.mem, 9), (.mem, 10), (.mem, 11), (.mem, 12), (.mem, 13), (.step, 14), (.cur, 15), (.cur, 16)]⟩), (11, ⟨[4], [(.mem, 0), (.mem, 1), (.mem, 2), (.mem, 3), (.mem, 5), (.mem, 6), (.mem, 7), (.mem, 8), (.mem, 9), (.mem, 10), (.mem, 11), (.step, 4), (.step, 12), (.cur, 13), (.cur, 14)]⟩)] [] [] [(23, [(.normal, [(1, .v (.list (.int .u8))), (2, .v .bool), (3, .v (.int .i64)), (4, .box 29 [.v (.int .i64), .v (.int .i64), .v (.int .i64), .v (.int .i64), .v (.int .i64), .v (.int .i64), .v (.int .i64), .v (.int .u32), .v (.int .u64), .v (.int .u64), .v .str, .v (.int .u32), .v (.int .u64)]), (8, .box 29 [.v (.int .i64), .v (.int .i64), .v (.int .i64), .v (.int .i64), .v (.int .i64), .v (.int .i64), .v (.int .i64), .v (.int .u32), .v (.int .u64), .v (.int .u64), .v .str, .v (.int .u32), .v (.int .u64)]), (11, .box 29 [.v (.int .i64), .v (.int .i64), .v (.int .i64), .v (.int .i64), .v (.int .i64), .v (.int .i64), .v (.int .i64), .v (.int .u32), .v (.int .u64), .v (.int .u64), .v .str, .v (.int .u32), .v (.int .u64)])])]), (1000009, [(.normal, [(1, .v (.list (.int .u8))), (2, .v .bool), (3, .v (.int .i64)), (4, .box 29 [.v (.int .i64), .v (.int .i64), .v (.int .i64), .v (.int .i64), .v (.int .i64), .v (.int .i64), .v (.int .i64), .v (.int .u32), .v (.int .u64), .v (.int .u64), .v .str, .v (.int .u32), .v (.int .u64)]), (8, .box 29 [.v (.int .i64), .v (.int .i64), .v (.int .i64), .v (.int .i64), .v (.int .i64), .v (.int .i64), .v (.int .i64), .v (.int .u32), .v (.int .u64), .v (.int .u64), .v .str, .v (.int .u32), .v (.int .u64)]), (12, .v (.list (.int .u8))), (35, .own 105 (.arr 2 (.int .i64))), (36, .v (.int .i64)), (37, .v (.int .i64))])]), (1000011, [(.normal, [(1, .v (.list (.int .u8))), (3, .v (.int .i64)), (4, .box 29 [.v (.int .i64), .v (.int .i64), .v (.int .i64), .v (.int .i64), .v (.int .i64), .v (.int .i64), .v (.int .i64), .v (.int .u32), .v (.int .u64), .v (.int .u64), .v .str, .v (.int .u32), .v (.int .u64)]), (8, .box 29 [.v (.int .i64), .v (.int .i64), .v (.int .i64), .v (.int .i64), .v (.int .i64), .v (.int .i64), .v (.int .i64), .v (.int .u32), .v (.int .u64), .v (.int .u64), .v .str, .v (.int .u32), .v (.int .u64)]), (72, .v .bool)])])] (by kernel_rfl) ⟨⟨_, by kernel_rfl, l0_ok n n⟩, trivial⟩ trivial (rs := rs) (by kernel_rfl) (by kernel_rfl) (by kernel_rfl) (by kernel_rfl) (by kernel_rfl) (fun _ => rfl) (fun _ _ => rfl) id (fun _ => rfl) (by intro x; kernel_rfl)
end central_judge
namespace central_Parse
@[reducible] def lin : List (Nat × CS) := [(0, .v (.list (.int .u8)))]
@[reducible] def lout : List (Nat × CS) := [(87, .v (.pair (.pair (.int .i64) (.pair (.pair (.int .i64) (.pair (.int .i64) (.pair (.int .i64) (.pair (.int .i64) (.pair (.int .i64) (.pair (.int .i64) .unit)))))) (.pair (.int .u32) (.pair (.int .u64) (.pair (.int .u64) (.pair .str .unit)))))) (.pair (.int .u32) (.pair (.int .u64) .unit)))), (3, .v (.int .i64)), (4, .v (.int .i64))]
noncomputable def ns : NS := nsOf Go.Proofs.Tryd.f15 lin lout
noncomputable def D (n : Nat) : FuncId → Nat → Option Den := lookD [((30, 0), little_Read.den n), ((31, 0), little_Reader_Num.den n), ((32, 0), little_Reader_Bytes.den n), ((33, 0), little_Reader_Short.den n), ((34, 0), central_Parse_1.den n), ((36, 0), little_Reader_Left.den n), ((37, 0), stamp_Unpack.den n), ((38, 0), central_told.den n), ((40, 0), little_Reader_At.den n), ((39, 0), central_judge.den n)]
theorem hD (n : Nat) : DenOk Go.Proofs.Tryd.prog Ty.gl (D n) := lookD_ok ⟨little_Read.sat n, little_Reader_Num.sat n, little_Reader_Bytes.sat n, little_Reader_Short.sat n, central_Parse_1.sat n, little_Reader_Left.sat n, stamp_Unpack.sat n, central_told.sat n, little_Reader_At.sat n, central_judge.sat n, trivial⟩
def rs : List ResultVar := [.cell 2 29, .tmp 3, .tmp 4]
noncomputable def f (n : Nat) (x : CSs.den lin) : Option (CSs.den lout) := run Ty (D n) (mkH [] [(13, ⟨[10], [(.mem, 0), (.mem, 3), (.mem, 4), (.mem, 7), (.mem, 9), (.mem, 11), (.mem, 12), (.step, 1), (.cur, 2), (.step, 5), (.cur, 6), (.step, 8), (.step, 10), (.step, 13), (.step, 14), (.cur, 15), (.mem, 16), (.step, 17)]⟩), (15, ⟨[12], [(.mem, 0), (.mem, 1), (.mem, 2), (.mem, 5), (.mem, 6), (.step, 3), (.cur, 4), (.step, 7), (.cur, 8), (.cur, 9), (.cur, 10), (.step, 11), (.cur, 12), (.cur, 13)]⟩)] [] [] []) ns (cd Go.Proofs.Tryd.f15) (canon lin x) (retK Ty rs (Go.Func.ntmps Go.Proofs.Tryd.f15) lout id)
@[reducible] noncomputable def den (n : Nat) : Den := ⟨lin, lout, [87, 3, 4], [], CSs.den lout, f n, id⟩
theorem sat (n : Nat) : Sat Go.Proofs.Tryd.prog Ty.gl 15 (den n) := sat_is hTy (hD n) Go.Proofs.Tryd.func15 rfl rfl (den n) [] [(13, ⟨[10], [(.mem, 0), (.mem, 3), (.mem, 4), (.mem, 7), (.mem, 9), (.mem, 11), (.mem, 12), (.step, 1), (.cur, 2), (.step, 5), (.cur, 6), (.step, 8), (.step, 10), (.step, 13), (.step, 14), (.cur, 15), (.mem, 16), (.step, 17)]⟩), (15, ⟨[12], [(.mem, 0), (.mem, 1), (.mem, 2), (.mem, 5), (.mem, 6), (.step, 3), (.cur, 4), (.step, 7), (.cur, 8), (.cur, 9), (.cur, 10), (.step, 11), (.cur, 12), (.cur, 13)]⟩)] [] [] [] (by kernel_rfl) trivial trivial (rs := rs) (by kernel_rfl) (by kernel_rfl) (by kernel_rfl) (by kernel_rfl) (by kernel_rfl) (fun _ => rfl) (fun _ _ => rfl) id (fun _ => rfl) (by intro x; kernel_rfl)
end central_Parse
namespace central_Size
@[reducible] def lin : List (Nat × CS) := [(0, .v (.pair (.pair (.int .i64) (.pair (.pair (.int .i64) (.pair (.int .i64) (.pair (.int .i64) (.pair (.int .i64) (.pair (.int .i64) (.pair (.int .i64) .unit)))))) (.pair (.int .u32) (.pair (.int .u64) (.pair (.int .u64) (.pair .str .unit)))))) (.pair (.int .u32) (.pair (.int .u64) .unit))))]
@[reducible] def lout : List (Nat × CS) := [(2, .v (.int .i64))]
noncomputable def ns : NS := nsOf Go.Proofs.Tryd.f13 lin lout
noncomputable def D (n : Nat) : FuncId → Nat → Option Den := lookD [((22, 0), central_extra.den n)]
theorem hD (n : Nat) : DenOk Go.Proofs.Tryd.prog Ty.gl (D n) := lookD_ok ⟨central_extra.sat n, trivial⟩
def rs : List ResultVar := [.tmp 2]
noncomputable def f (n : Nat) (x : CSs.den lin) : Option (CSs.den lout) := run Ty (D n) (mkH [] [(1, ⟨[1], [(.mem, 0), (.mem, 1), (.mem, 2), (.mem, 3), (.mem, 4), (.mem, 5), (.mem, 6), (.step, 7), (.cur, 8), (.cur, 9), (.cur, 10)]⟩)] [] [] []) ns (cd Go.Proofs.Tryd.f13) (canon lin x) (retK Ty rs (Go.Func.ntmps Go.Proofs.Tryd.f13) lout id)
@[reducible] noncomputable def den (n : Nat) : Den := ⟨lin, lout, [2], [], CSs.den lout, f n, id⟩
theorem sat (n : Nat) : Sat Go.Proofs.Tryd.prog Ty.gl 13 (den n) := sat_is hTy (hD n) Go.Proofs.Tryd.func13 rfl rfl (den n) [] [(1, ⟨[1], [(.mem, 0), (.mem, 1), (.mem, 2), (.mem, 3), (.mem, 4), (.mem, 5), (.mem, 6), (.step, 7), (.cur, 8), (.cur, 9), (.cur, 10)]⟩)] [] [] [] (by kernel_rfl) trivial trivial (rs := rs) (by kernel_rfl) (by kernel_rfl) (by kernel_rfl) (by kernel_rfl) (by kernel_rfl) (fun _ => rfl) (fun _ _ => rfl) id (fun _ => rfl) (by intro x; kernel_rfl)
end central_Size
namespace law19_alive
@[reducible] def lin : List (Nat × CS) := []
@[reducible] def lout : List (Nat × CS) := [(0, .v .bool)]
noncomputable def ns : NS := nsOf Go.Proofs.Tryd.f8 lin lout
noncomputable def D (n : Nat) : FuncId → Nat → Option Den := lookD [((19, 0), law19_sample.den n), ((9, 0), central_Write.den n), ((15, 0), central_Parse.den n), ((13, 0), central_Size.den n)]
theorem hD (n : Nat) : DenOk Go.Proofs.Tryd.prog Ty.gl (D n) := lookD_ok ⟨law19_sample.sat n, central_Write.sat n, central_Parse.sat n, central_Size.sat n, trivial⟩
def rs : List ResultVar := [.tmp 0]
noncomputable def f (n : Nat) (x : CSs.den lin) : Option (CSs.den lout) := run (Ty.keepT [26]) (D n) (mkH [] [(11, ⟨[3, 12, 6], [(.mem, 0), (.mem, 1), (.mem, 2), (.mem, 3), (.step, 4), (.cur, 5), (.cur, 6), (.cur, 7), (.mem, 8), (.mem, 9), (.cur, 10), (.cur, 11), (.mem, 12), (.mem, 13), (.cur, 14), (.cur, 15), (.mem, 16), (.mem, 17), (.cur, 18), (.cur, 19), (.mem, 20), (.mem, 21), (.mem, 22), (.cur, 23), (.cur, 24), (.mem, 25), (.mem, 26), (.cur, 27), (.cur, 28), (.mem, 29), (.mem, 30), (.cur, 31), (.cur, 32), (.mem, 33), (.mem, 34), (.cur, 35), (.cur, 36), (.mem, 37), (.step, 38), (.cur, 39), (.cur, 40), (.cur, 41)]⟩)] [] [] []) ns (cd Go.Proofs.Tryd.f8) (canon lin x) (retK (Ty.keepT [26]) rs (Go.Func.ntmps Go.Proofs.Tryd.f8) lout id)
@[reducible] noncomputable def den (n : Nat) : Den := ⟨lin, lout, [0], [], CSs.den lout, f n, id⟩
theorem sat (n : Nat) : Sat Go.Proofs.Tryd.prog Ty.gl 8 (den n) := sat_is (hTy.keep [26]) (hD n) Go.Proofs.Tryd.func8 rfl rfl (den n) [] [(11, ⟨[3, 12, 6], [(.mem, 0), (.mem, 1), (.mem, 2), (.mem, 3), (.step, 4), (.cur, 5), (.cur, 6), (.cur, 7), (.mem, 8), (.mem, 9), (.cur, 10), (.cur, 11), (.mem, 12), (.mem, 13), (.cur, 14), (.cur, 15), (.mem, 16), (.mem, 17), (.cur, 18), (.cur, 19), (.mem, 20), (.mem, 21), (.mem, 22), (.cur, 23), (.cur, 24), (.mem, 25), (.mem, 26), (.cur, 27), (.cur, 28), (.mem, 29), (.mem, 30), (.cur, 31), (.cur, 32), (.mem, 33), (.mem, 34), (.cur, 35), (.cur, 36), (.mem, 37), (.step, 38), (.cur, 39), (.cur, 40), (.cur, 41)]⟩)] [] [] [] (by kernel_rfl) trivial trivial (rs := rs) (by kernel_rfl) (by kernel_rfl) (by kernel_rfl) (by kernel_rfl) (by kernel_rfl) (fun _ => rfl) (fun _ _ => rfl) id (fun _ => rfl) (by intro x; kernel_rfl)
end law19_alive
namespace law19_as
@[reducible] def lin : List (Nat × CS) := [(0, .v (.pair (.pair (.int .i64) (.pair (.pair (.int .i64) (.pair (.int .i64) (.pair (.int .i64) (.pair (.int .i64) (.pair (.int .i64) (.pair (.int .i64) .unit)))))) (.pair (.int .u32) (.pair (.int .u64) (.pair (.int .u64) (.pair .str .unit)))))) (.pair (.int .u32) (.pair (.int .u64) .unit))))]
@[reducible] def lout : List (Nat × CS) := [(10, .v (.pair (.pair (.int .i64) (.pair (.pair (.int .i64) (.pair (.int .i64) (.pair (.int .i64) (.pair (.int .i64) (.pair (.int .i64) (.pair (.int .i64) .unit)))))) (.pair (.int .u32) (.pair (.int .u64) (.pair (.int .u64) (.pair .str .unit)))))) (.pair (.int .u32) (.pair (.int .u64) .unit))))]
noncomputable def ns : NS := nsOf Go.Proofs.Tryd.f11 lin lout
noncomputable def D (n : Nat) : FuncId → Nat → Option Den := lookD []
theorem hD (n : Nat) : DenOk Go.Proofs.Tryd.prog Ty.gl (D n) := lookD_ok trivial
def rs : List ResultVar := [.cell 2 39]
noncomputable def f (n : Nat) (x : CSs.den lin) : Option (CSs.den lout) := run Ty (D n) (mkH [] [] [] [] []) ns (cd Go.Proofs.Tryd.f11) (canon lin x) (retK Ty rs (Go.Func.ntmps Go.Proofs.Tryd.f11) lout id)
@[reducible] noncomputable def den (n : Nat) : Den := ⟨lin, lout, [10], [], CSs.den lout, f n, id⟩
theorem sat (n : Nat) : Sat Go.Proofs.Tryd.prog Ty.gl 11 (den n) := sat_is hTy (hD n) Go.Proofs.Tryd.func11 rfl rfl (den n) [] [] [] [] [] (by kernel_rfl) trivial trivial (rs := rs) (by kernel_rfl) (by kernel_rfl) (by kernel_rfl) (by kernel_rfl) (by kernel_rfl) (fun _ => rfl) (fun _ _ => rfl) id (fun _ => rfl) (by intro x; kernel_rfl)
end law19_as
namespace ref17_Days
@[reducible] def lin : List (Nat × CS) := [(0, .v (.int .i64)), (1, .v (.int .i64))]
@[reducible] def lout : List (Nat × CS) := [(4, .v (.int .i64))]
noncomputable def ns : NS := nsOf Go.Proofs.Tryd.f65 lin lout
noncomputable def D (n : Nat) : FuncId → Nat → Option Den := lookD []
theorem hD (n : Nat) : DenOk Go.Proofs.Tryd.prog Ty.gl (D n) := lookD_ok trivial
def rs : List ResultVar := [.tmp 4]
noncomputable def f (n : Nat) (x : CSs.den lin) : Option (CSs.den lout) := run Ty (D n) (mkH [] [] [] [] []) ns (cd Go.Proofs.Tryd.f65) (canon lin x) (retK Ty rs (Go.Func.ntmps Go.Proofs.Tryd.f65) lout id)
@[reducible] noncomputable def den (n : Nat) : Den := ⟨lin, lout, [4], [], CSs.den lout, f n, id⟩
theorem sat (n : Nat) : Sat Go.Proofs.Tryd.prog Ty.gl 65 (den n) := sat_is hTy (hD n) Go.Proofs.Tryd.func65 rfl rfl (den n) [] [] [] [] [] (by kernel_rfl) trivial trivial (rs := rs) (by kernel_rfl) (by kernel_rfl) (by kernel_rfl) (by kernel_rfl) (by kernel_rfl) (fun _ => rfl) (fun _ _ => rfl) id (fun _ => rfl) (by intro x; kernel_rfl)
end ref17_Days
namespace ref17_Right
@[reducible] def lin : List (Nat × CS) := [(0, .v (.pair (.int .i64) (.pair (.int .i64) (.pair (.int .i64) (.pair (.int .i64) (.pair (.int .i64) (.pair (.int .i64) .unit)))))))]
@[reducible] def lout : List (Nat × CS) := [(2, .v .bool)]
noncomputable def ns : NS := nsOf Go.Proofs.Tryd.f50 lin lout
noncomputable def D (n : Nat) : FuncId → Nat → Option Den := lookD [((65, 0), ref17_Days.den n)]
theorem hD (n : Nat) : DenOk Go.Proofs.Tryd.prog Ty.gl (D n) := lookD_ok ⟨ref17_Days.sat n, trivial⟩
def rs : List ResultVar := [.tmp 2]
noncomputable def f (n : Nat) (x : CSs.den lin) : Option (CSs.den lout) := run Ty (D n) (mkH [] [(1, ⟨[1], [(.mem, 0), (.mem, 1), (.mem, 2), (.mem, 3), (.mem, 4), (.mem, 5), (.mem, 6), (.mem, 7), (.mem, 8), (.mem, 9), (.mem, 10), (.mem, 11), (.mem, 12), (.mem, 13), (.mem, 14), (.mem, 15), (.mem, 16), (.mem, 17), (.mem, 18), (.mem, 19), (.step, 20), (.cur, 21), (.cur, 22)]⟩)] [] [] []) ns (cd Go.Proofs.Tryd.f50) (canon lin x) (retK Ty rs (Go.Func.ntmps Go.Proofs.Tryd.f50) lout id)
@[reducible] noncomputable def den (n : Nat) : Den := ⟨lin, lout, [2], [], CSs.den lout, f n, id⟩
theorem sat (n : Nat) : Sat Go.Proofs.Tryd.prog Ty.gl 50 (den n) := sat_is hTy (hD n) Go.Proofs.Tryd.func50 rfl rfl (den n) [] [(1, ⟨[1], [(.mem, 0), (.mem, 1), (.mem, 2), (.mem, 3), (.mem, 4), (.mem, 5), (.mem, 6), (.mem, 7), (.mem, 8), (.mem, 9), (.mem, 10), (.mem, 11), (.mem, 12), (.mem, 13), (.mem, 14), (.mem, 15), (.mem, 16), (.mem, 17), (.mem, 18), (.mem, 19), (.step, 20), (.cur, 21), (.cur, 22)]⟩)] [] [] [] (by kernel_rfl) trivial trivial (rs := rs) (by kernel_rfl) (by kernel_rfl) (by kernel_rfl) (by kernel_rfl) (by kernel_rfl) (fun _ => rfl) (fun _ _ => rfl) id (fun _ => rfl) (by intro x; kernel_rfl)
end ref17_Right
namespace ref16_Rune
@[reducible] def lin : List (Nat × CS) := [(0, .v .str), (1, .v (.int .i64))]
@[reducible] def lout : List (Nat × CS) := [(4, .v (.int .i64)), (5, .v (.int .i64))]
noncomputable def ns : NS := nsOf Go.Proofs.Tryd.f58 lin lout
noncomputable def D (n : Nat) : FuncId → Nat → Option Den := lookD []
theorem hD (n : Nat) : DenOk Go.Proofs.Tryd.prog Ty.gl (D n) := lookD_ok trivial
@[reducible] def L0 : List (Nat × CS) := [(0, .v .str), (1, .v (.int .i64)), (7, .v (.int .i64)), (8, .v (.int .i64)), (9, .v (.int .i64)), (10, .v (.int .i64))]
@[reducible] def ws0 : List (Out × List (Nat × CS)) := [(.ret, [(4, .v (.int .i64)), (5, .v (.int .i64))]), (.normal, [(7, .v (.int .i64)), (8, .v (.int .i64)), (9, .v (.int .i64))])]
noncomputable def l0 (n m : Nat) : Nat → CSs.den L0 → Option (wayDen ws0)
  | 0, _ => none
  | k + 1, x => run Ty (D n) (mkH [] [] [] [] []) ns (lb Go.Proofs.Tryd.f58 0) (canon L0 x) (loopK 0 L0 (l0 n m k))
theorem l0_ok (n m : Nat) : HintOk Go.Proofs.Tryd.prog Ty.gl ns (.block 0 (.loop (lb Go.Proofs.Tryd.f58 0))) ⟨L0, ws0, l0 n m m⟩ :=
  loop_is hTy (hD n) [] [] [] [] [] (by kernel_rfl) trivial trivial L0 ws0 (fun _ => rfl) (ways_cons (fun _ => rfl) (ways_cons (fun _ => rfl) ways_nil)) (l0 n m) (fun _ => rfl) (fun _ _ => rfl) m
def rs : List ResultVar := [.tmp 4, .tmp 5]
noncomputable def f (n : Nat) (x : CSs.den lin) : Option (CSs.den lout) := run Ty (D n) (mkH [(0, ⟨L0, ws0, l0 n n n⟩)] [] [] [] []) ns (cd Go.Proofs.Tryd.f58) (canon lin x) (retK Ty rs (Go.Func.ntmps Go.Proofs.Tryd.f58) lout id)
@[reducible] noncomputable def den (n : Nat) : Den := ⟨lin, lout, [4, 5], [], CSs.den lout, f n, id⟩
theorem sat (n : Nat) : Sat Go.Proofs.Tryd.prog Ty.gl 58 (den n) := sat_is hTy (hD n) Go.Proofs.Tryd.func58 rfl rfl (den n) [(0, ⟨L0, ws0, l0 n n n⟩)] [] [] [] [] (by kernel_rfl) ⟨⟨_, by kernel_rfl, l0_ok n n⟩, trivial⟩ trivial (rs := rs) (by kernel_rfl) (by kernel_rfl) (by kernel_rfl) (by kernel_rfl) (by kernel_rfl) (fun _ => rfl) (fun _ _ => rfl) id (fun _ => rfl) (by intro x; kernel_rfl)
end ref16_Rune
namespace ref16_Parts
@[reducible] def lin : List (Nat × CS) := [(0, .v .str)]
@[reducible] def lout : List (Nat × CS) := [(2, .own 9 .str)]
noncomputable def ns : NS := nsOf Go.Proofs.Tryd.f59 lin lout
noncomputable def D (n : Nat) : FuncId → Nat → Option Den := lookD []
theorem hD (n : Nat) : DenOk Go.Proofs.Tryd.prog Ty.gl (D n) := lookD_ok trivial
@[reducible] def L0 : List (Nat × CS) := [(0, .v .str), (3, .own 9 .str), (4, .v (.int .i64)), (5, .v (.int .i64))]
@[reducible] def ws0 : List (Out × List (Nat × CS)) := [(.normal, [(3, .own 9 .str)])]
noncomputable def l0 (n m : Nat) : Nat → CSs.den L0 → Option (wayDen ws0)
  | 0, _ => none
  | k + 1, x => run Ty (D n) (mkH [] [] [] [] []) ns (lb Go.Proofs.Tryd.f59 0) (canon L0 x) (loopK 0 L0 (l0 n m k))
theorem l0_ok (n m : Nat) : HintOk Go.Proofs.Tryd.prog Ty.gl ns (.block 0 (.loop (lb Go.Proofs.Tryd.f59 0))) ⟨L0, ws0, l0 n m m⟩ :=
  loop_is hTy (hD n) [] [] [] [] [] (by kernel_rfl) trivial trivial L0 ws0 (fun _ => rfl) (ways_cons (fun _ => rfl) ways_nil) (l0 n m) (fun _ => rfl) (fun _ _ => rfl) m
def rs : List ResultVar := [.tmp 2]
noncomputable def f (n : Nat) (x : CSs.den lin) : Option (CSs.den lout) := run Ty (D n) (mkH [(0, ⟨L0, ws0, l0 n n n⟩)] [] [] [] []) ns (cd Go.Proofs.Tryd.f59) (canon lin x) (retK Ty rs (Go.Func.ntmps Go.Proofs.Tryd.f59) lout id)
@[reducible] noncomputable def den (n : Nat) : Den := ⟨lin, lout, [2], [none], CSs.den lout, f n, id⟩
theorem sat (n : Nat) : Sat Go.Proofs.Tryd.prog Ty.gl 59 (den n) := sat_is hTy (hD n) Go.Proofs.Tryd.func59 rfl rfl (den n) [(0, ⟨L0, ws0, l0 n n n⟩)] [] [] [] [] (by kernel_rfl) ⟨⟨_, by kernel_rfl, l0_ok n n⟩, trivial⟩ trivial (rs := rs) (by kernel_rfl) (by kernel_rfl) (by kernel_rfl) (by kernel_rfl) (by kernel_rfl) (fun _ => rfl) (fun _ _ => rfl) id (fun _ => rfl) (by intro x; kernel_rfl)
end ref16_Parts
namespace ref16_Check
@[reducible] def lin : List (Nat × CS) := [(0, .v .str)]
@[reducible] def lout : List (Nat × CS) := [(2, .v (.int .i64))]
noncomputable def ns : NS := nsOf Go.Proofs.Tryd.f43 lin lout
noncomputable def D (n : Nat) : FuncId → Nat → Option Den := lookD [((58, 0), ref16_Rune.den n), ((59, 0), ref16_Parts.den n)]
theorem hD (n : Nat) : DenOk Go.Proofs.Tryd.prog Ty.gl (D n) := lookD_ok ⟨ref16_Rune.sat n, ref16_Parts.sat n, trivial⟩
@[reducible] def L0 : List (Nat × CS) := [(0, .v .str), (3, .v (.int .i64))]
@[reducible] def ws0 : List (Out × List (Nat × CS)) := [(.ret, [(2, .v (.int .i64))]), (.normal, [(0, .v .str)])]
noncomputable def l0 (n m : Nat) : Nat → CSs.den L0 → Option (wayDen ws0)
  | 0, _ => none
  | k + 1, x => run Ty (D n) (mkH [] [] [] [] []) ns (lb Go.Proofs.Tryd.f43 0) (canon L0 x) (loopK 0 L0 (l0 n m k))
theorem l0_ok (n m : Nat) : HintOk Go.Proofs.Tryd.prog Ty.gl ns (.block 0 (.loop (lb Go.Proofs.Tryd.f43 0))) ⟨L0, ws0, l0 n m m⟩ :=
  loop_is hTy (hD n) [] [] [] [] [] (by kernel_rfl) trivial trivial L0 ws0 (fun _ => rfl) (ways_cons (fun _ => rfl) (ways_cons (fun _ => rfl) ways_nil)) (l0 n m) (fun _ => rfl) (fun _ _ => rfl) m
@[reducible] def L2 : List (Nat × CS) := [(6, .own 9 .str), (7, .v (.int .i64))]
@[reducible] def ws2 : List (Out × List (Nat × CS)) := [(.ret, [(2, .v (.int .i64))]), (.normal, [])]
noncomputable def l2 (n m : Nat) : Nat → CSs.den L2 → Option (wayDen ws2)
  | 0, _ => none
  | k + 1, x => run Ty (D n) (mkH [] [] [] [] []) ns (lb Go.Proofs.Tryd.f43 2) (canon L2 x) (loopK 2 L2 (l2 n m k))
theorem l2_ok (n m : Nat) : HintOk Go.Proofs.Tryd.prog Ty.gl ns (.block 2 (.loop (lb Go.Proofs.Tryd.f43 2))) ⟨L2, ws2, l2 n m m⟩ :=
  loop_is hTy (hD n) [] [] [] [] [] (by kernel_rfl) trivial trivial L2 ws2 (fun _ => rfl) (ways_cons (fun _ => rfl) (ways_cons (fun _ => rfl) ways_nil)) (l2 n m) (fun _ => rfl) (fun _ _ => rfl) m
def rs : List ResultVar := [.tmp 2]
noncomputable def f (n : Nat) (x : CSs.den lin) : Option (CSs.den lout) := run Ty (D n) (mkH [(0, ⟨L0, ws0, l0 n n n⟩), (2, ⟨L2, ws2, l2 n n n⟩)] [] [] [] []) ns (cd Go.Proofs.Tryd.f43) (canon lin x) (retK Ty rs (Go.Func.ntmps Go.Proofs.Tryd.f43) lout id)
@[reducible] noncomputable def den (n : Nat) : Den := ⟨lin, lout, [2], [], CSs.den lout, f n, id⟩
theorem sat (n : Nat) : Sat Go.Proofs.Tryd.prog Ty.gl 43 (den n) := sat_is hTy (hD n) Go.Proofs.Tryd.func43 rfl rfl (den n) [(0, ⟨L0, ws0, l0 n n n⟩), (2, ⟨L2, ws2, l2 n n n⟩)] [] [] [] [] (by kernel_rfl) ⟨⟨_, by kernel_rfl, l0_ok n n⟩, ⟨_, by kernel_rfl, l2_ok n n⟩, trivial⟩ trivial (rs := rs) (by kernel_rfl) (by kernel_rfl) (by kernel_rfl) (by kernel_rfl) (by kernel_rfl) (fun _ => rfl) (fun _ _ => rfl) id (fun _ => rfl) (by intro x; kernel_rfl)
end ref16_Check
namespace ref18_Check
@[reducible] def lin : List (Nat × CS) := [(0, .v (.pair (.int .i64) (.pair (.pair (.int .i64) (.pair (.int .i64) (.pair (.int .i64) (.pair (.int .i64) (.pair (.int .i64) (.pair (.int .i64) .unit)))))) (.pair (.int .u32) (.pair (.int .u64) (.pair (.int .u64) (.pair .str .unit)))))))]
@[reducible] def lout : List (Nat × CS) := [(2, .v (.int .i64))]
noncomputable def ns : NS := nsOf Go.Proofs.Tryd.f26 lin lout
noncomputable def D (n : Nat) : FuncId → Nat → Option Den := lookD [((50, 0), ref17_Right.den n), ((43, 0), ref16_Check.den n)]
theorem hD (n : Nat) : DenOk Go.Proofs.Tryd.prog Ty.gl (D n) := lookD_ok ⟨ref17_Right.sat n, ref16_Check.sat n, trivial⟩
def rs : List ResultVar := [.tmp 2]
noncomputable def f (n : Nat) (x : CSs.den lin) : Option (CSs.den lout) := run Ty (D n) (mkH [] [] [] [] []) ns (cd Go.Proofs.Tryd.f26) (canon lin x) (retK Ty rs (Go.Func.ntmps Go.Proofs.Tryd.f26) lout id)
@[reducible] noncomputable def den (n : Nat) : Den := ⟨lin, lout, [2], [], CSs.den lout, f n, id⟩
theorem sat (n : Nat) : Sat Go.Proofs.Tryd.prog Ty.gl 26 (den n) := sat_is hTy (hD n) Go.Proofs.Tryd.func26 rfl rfl (den n) [] [] [] [] [] (by kernel_rfl) trivial trivial (rs := rs) (by kernel_rfl) (by kernel_rfl) (by kernel_rfl) (by kernel_rfl) (by kernel_rfl) (fun _ => rfl) (fun _ _ => rfl) id (fun _ => rfl) (by intro x; kernel_rfl)
end ref18_Check
namespace ref17_Pack
@[reducible] def lin : List (Nat × CS) := [(0, .v (.pair (.int .i64) (.pair (.int .i64) (.pair (.int .i64) (.pair (.int .i64) (.pair (.int .i64) (.pair (.int .i64) .unit)))))))]
@[reducible] def lout : List (Nat × CS) := [(2, .v (.int .i64)), (3, .v (.int .i64))]
noncomputable def ns : NS := nsOf Go.Proofs.Tryd.f27 lin lout
noncomputable def D (n : Nat) : FuncId → Nat → Option Den := lookD []
theorem hD (n : Nat) : DenOk Go.Proofs.Tryd.prog Ty.gl (D n) := lookD_ok trivial
def rs : List ResultVar := [.tmp 2, .tmp 3]
noncomputable def f (n : Nat) (x : CSs.den lin) : Option (CSs.den lout) := run Ty (D n) (mkH [] [(1, ⟨[1], [(.mem, 0), (.mem, 1), (.mem, 2), (.mem, 3), (.mem, 4), (.mem, 5), (.mem, 6), (.mem, 7), (.mem, 8), (.mem, 9), (.mem, 10), (.mem, 11), (.mem, 12), (.mem, 13), (.mem, 14), (.mem, 15), (.mem, 16), (.mem, 17), (.mem, 18), (.mem, 19), (.mem, 20), (.mem, 21), (.mem, 22), (.mem, 23)]⟩)] [] [] []) ns (cd Go.Proofs.Tryd.f27) (canon lin x) (retK Ty rs (Go.Func.ntmps Go.Proofs.Tryd.f27) lout id)
@[reducible] noncomputable def den (n : Nat) : Den := ⟨lin, lout, [2, 3], [], CSs.den lout, f n, id⟩
theorem sat (n : Nat) : Sat Go.Proofs.Tryd.prog Ty.gl 27 (den n) := sat_is hTy (hD n) Go.Proofs.Tryd.func27 rfl rfl (den n) [] [(1, ⟨[1], [(.mem, 0), (.mem, 1), (.mem, 2), (.mem, 3), (.mem, 4), (.mem, 5), (.mem, 6), (.mem, 7), (.mem, 8), (.mem, 9), (.mem, 10), (.mem, 11), (.mem, 12), (.mem, 13), (.mem, 14), (.mem, 15), (.mem, 16), (.mem, 17), (.mem, 18), (.mem, 19), (.mem, 20), (.mem, 21), (.mem, 22), (.mem, 23)]⟩)] [] [] [] (by kernel_rfl) trivial trivial (rs := rs) (by kernel_rfl) (by kernel_rfl) (by kernel_rfl) (by kernel_rfl) (by kernel_rfl) (fun _ => rfl) (fun _ _ => rfl) id (fun _ => rfl) (by intro x; kernel_rfl)
end ref17_Pack
namespace ref07_Put
@[reducible] def lin : List (Nat × CS) := [(0, .v (.int .u64)), (1, .v (.int .i64))]
@[reducible] def lout : List (Nat × CS) := [(4, .own 5 (.int .u8))]
noncomputable def ns : NS := nsOf Go.Proofs.Tryd.f54 lin lout
noncomputable def D (n : Nat) : FuncId → Nat → Option Den := lookD []
theorem hD (n : Nat) : DenOk Go.Proofs.Tryd.prog Ty.gl (D n) := lookD_ok trivial
@[reducible] def L0 : List (Nat × CS) := [(0, .v (.int .u64)), (1, .v (.int .i64)), (5, .own 5 (.int .u8)), (6, .v (.int .i64))]
@[reducible] def ws0 : List (Out × List (Nat × CS)) := [(.normal, [(5, .own 5 (.int .u8))])]
noncomputable def l0 (n m : Nat) : Nat → CSs.den L0 → Option (wayDen ws0)
  | 0, _ => none
  | k + 1, x => run Ty (D n) (mkH [] [] [] [] []) ns (lb Go.Proofs.Tryd.f54 0) (canon L0 x) (loopK 0 L0 (l0 n m k))
theorem l0_ok (n m : Nat) : HintOk Go.Proofs.Tryd.prog Ty.gl ns (.block 0 (.loop (lb Go.Proofs.Tryd.f54 0))) ⟨L0, ws0, l0 n m m⟩ :=
  loop_is hTy (hD n) [] [] [] [] [] (by kernel_rfl) trivial trivial L0 ws0 (fun _ => rfl) (ways_cons (fun _ => rfl) ways_nil) (l0 n m) (fun _ => rfl) (fun _ _ => rfl) m
def rs : List ResultVar := [.tmp 4]
noncomputable def f (n : Nat) (x : CSs.den lin) : Option (CSs.den lout) := run Ty (D n) (mkH [(0, ⟨L0, ws0, l0 n n n⟩)] [] [] [] []) ns (cd Go.Proofs.Tryd.f54) (canon lin x) (retK Ty rs (Go.Func.ntmps Go.Proofs.Tryd.f54) lout id)
@[reducible] noncomputable def den (n : Nat) : Den := ⟨lin, lout, [4], [none], CSs.den lout, f n, id⟩
theorem sat (n : Nat) : Sat Go.Proofs.Tryd.prog Ty.gl 54 (den n) := sat_is hTy (hD n) Go.Proofs.Tryd.func54 rfl rfl (den n) [(0, ⟨L0, ws0, l0 n n n⟩)] [] [] [] [] (by kernel_rfl) ⟨⟨_, by kernel_rfl, l0_ok n n⟩, trivial⟩ trivial (rs := rs) (by kernel_rfl) (by kernel_rfl) (by kernel_rfl) (by kernel_rfl) (by kernel_rfl) (fun _ => rfl) (fun _ _ => rfl) id (fun _ => rfl) (by intro x; kernel_rfl)
end ref07_Put
namespace ref01_Join
@[reducible] def lin : List (Nat × CS) := [(0, .v (.list (.list (.int .u8))))]
@[reducible] def lout : List (Nat × CS) := [(2, .own 5 (.int .u8))]
noncomputable def ns : NS := nsOf Go.Proofs.Tryd.f52 lin lout
noncomputable def D (n : Nat) : FuncId → Nat → Option Den := lookD []
theorem hD (n : Nat) : DenOk Go.Proofs.Tryd.prog Ty.gl (D n) := lookD_ok trivial
@[reducible] def L0 : List (Nat × CS) := [(0, .v (.list (.list (.int .u8)))), (3, .own 5 (.int .u8)), (4, .v (.int .i64))]
@[reducible] def ws0 : List (Out × List (Nat × CS)) := [(.normal, [(3, .own 5 (.int .u8))])]
noncomputable def l0 (n m : Nat) : Nat → CSs.den L0 → Option (wayDen ws0)
  | 0, _ => none
  | k + 1, x => run Ty (D n) (mkH [] [] [] [] []) ns (lb Go.Proofs.Tryd.f52 0) (canon L0 x) (loopK 0 L0 (l0 n m k))
theorem l0_ok (n m : Nat) : HintOk Go.Proofs.Tryd.prog Ty.gl ns (.block 0 (.loop (lb Go.Proofs.Tryd.f52 0))) ⟨L0, ws0, l0 n m m⟩ :=
  loop_is hTy (hD n) [] [] [] [] [] (by kernel_rfl) trivial trivial L0 ws0 (fun _ => rfl) (ways_cons (fun _ => rfl) ways_nil) (l0 n m) (fun _ => rfl) (fun _ _ => rfl) m
def rs : List ResultVar := [.tmp 2]
noncomputable def f (n : Nat) (x : CSs.den lin) : Option (CSs.den lout) := run Ty (D n) (mkH [(0, ⟨L0, ws0, l0 n n n⟩)] [] [] [] []) ns (cd Go.Proofs.Tryd.f52) (canon lin x) (retK Ty rs (Go.Func.ntmps Go.Proofs.Tryd.f52) lout id)
@[reducible] noncomputable def den (n : Nat) : Den := ⟨lin, lout, [2], [none], CSs.den lout, f n, id⟩
theorem sat (n : Nat) : Sat Go.Proofs.Tryd.prog Ty.gl 52 (den n) := sat_is hTy (hD n) Go.Proofs.Tryd.func52 rfl rfl (den n) [(0, ⟨L0, ws0, l0 n n n⟩)] [] [] [] [] (by kernel_rfl) ⟨⟨_, by kernel_rfl, l0_ok n n⟩, trivial⟩ trivial (rs := rs) (by kernel_rfl) (by kernel_rfl) (by kernel_rfl) (by kernel_rfl) (by kernel_rfl) (fun _ => rfl) (fun _ _ => rfl) id (fun _ => rfl) (by intro x; kernel_rfl)
end ref01_Join
namespace ref19_extra
@[reducible] def lin : List (Nat × CS) := [(0, .v (.pair (.pair (.int .i64) (.pair (.pair (.int .i64) (.pair (.int .i64) (.pair (.int .i64) (.pair (.int .i64) (.pair (.int .i64) (.pair (.int .i64) .unit)))))) (.pair (.int .u32) (.pair (.int .u64) (.pair (.int .u64) (.pair .str .unit)))))) (.pair (.int .u32) (.pair (.int .u64) .unit))))]
@[reducible] def lout : List (Nat × CS) := [(2, .own 5 (.int .u8))]
noncomputable def ns : NS := nsOf Go.Proofs.Tryd.f29 lin lout
noncomputable def D (n : Nat) : FuncId → Nat → Option Den := lookD [((54, 0), ref07_Put.den n), ((52, 0), ref01_Join.den n)]
theorem hD (n : Nat) : DenOk Go.Proofs.Tryd.prog Ty.gl (D n) := lookD_ok ⟨ref07_Put.sat n, ref01_Join.sat n, trivial⟩
def rs : List ResultVar := [.tmp 2]
noncomputable def f (n : Nat) (x : CSs.den lin) : Option (CSs.den lout) := run Ty (D n) (mkH [] [] [] [] [(8, [(.normal, [(1, .box 39 [.v (.int .i64), .v (.int .i64), .v (.int .i64), .v (.int .i64), .v (.int .i64), .v (.int .i64), .v (.int .i64), .v (.int .u32), .v (.int .u64), .v (.int .u64), .v .str, .v (.int .u32), .v (.int .u64)]), (3, .own 5 (.int .u8))])]), (18, [(.normal, [(1, .box 39 [.v (.int .i64), .v (.int .i64), .v (.int .i64), .v (.int .i64), .v (.int .i64), .v (.int .i64), .v (.int .i64), .v (.int .u32), .v (.int .u64), .v (.int .u64), .v .str, .v (.int .u32), .v (.int .u64)]), (3, .own 5 (.int .u8))])]), (27, [(.normal, [(1, .box 39 [.v (.int .i64), .v (.int .i64), .v (.int .i64), .v (.int .i64), .v (.int .i64), .v (.int .i64), .v (.int .i64), .v (.int .u32), .v (.int .u64), .v (.int .u64), .v .str, .v (.int .u32), .v (.int .u64)]), (3, .own 5 (.int .u8))])]), (35, [(.normal, [(3, .own 5 (.int .u8))])])]) ns (cd Go.Proofs.Tryd.f29) (canon lin x) (retK Ty rs (Go.Func.ntmps Go.Proofs.Tryd.f29) lout id)
@[reducible] noncomputable def den (n : Nat) : Den := ⟨lin, lout, [2], [none], CSs.den lout, f n, id⟩
theorem sat (n : Nat) : Sat Go.Proofs.Tryd.prog Ty.gl 29 (den n) := sat_is hTy (hD n) Go.Proofs.Tryd.func29 rfl rfl (den n) [] [] [] [] [(8, [(.normal, [(1, .box 39 [.v (.int .i64), .v (.int .i64), .v (.int .i64), .v (.int .i64), .v (.int .i64), .v (.int .i64), .v (.int .i64), .v (.int .u32), .v (.int .u64), .v (.int .u64), .v .str, .v (.int .u32), .v (.int .u64)]), (3, .own 5 (.int .u8))])]), (18, [(.normal, [(1, .box 39 [.v (.int .i64), .v (.int .i64), .v (.int .i64), .v (.int .i64), .v (.int .i64), .v (.int .i64), .v (.int .i64), .v (.int .u32), .v (.int .u64), .v (.int .u64), .v .str, .v (.int .u32), .v (.int .u64)]), (3, .own 5 (.int .u8))])]), (27, [(.normal, [(1, .box 39 [.v (.int .i64), .v (.int .i64), .v (.int .i64), .v (.int .i64), .v (.int .i64), .v (.int .i64), .v (.int .i64), .v (.int .u32), .v (.int .u64), .v (.int .u64), .v .str, .v (.int .u32), .v (.int .u64)]), (3, .own 5 (.int .u8))])]), (35, [(.normal, [(3, .own 5 (.int .u8))])])] (by kernel_rfl) trivial trivial (rs := rs) (by kernel_rfl) (by kernel_rfl) (by kernel_rfl) (by kernel_rfl) (by kernel_rfl) (fun _ => rfl) (fun _ _ => rfl) id (fun _ => rfl) (by intro x; kernel_rfl)
end ref19_extra
namespace ref19_least
@[reducible] def lin : List (Nat × CS) := [(0, .v (.int .u64)), (1, .v (.int .u64))]
@[reducible] def lout : List (Nat × CS) := [(4, .v (.int .u64))]
noncomputable def ns : NS := nsOf Go.Proofs.Tryd.f51 lin lout
noncomputable def D (n : Nat) : FuncId → Nat → Option Den := lookD []
theorem hD (n : Nat) : DenOk Go.Proofs.Tryd.prog Ty.gl (D n) := lookD_ok trivial
def rs : List ResultVar := [.tmp 4]
noncomputable def f (n : Nat) (x : CSs.den lin) : Option (CSs.den lout) := run Ty (D n) (mkH [] [] [] [] []) ns (cd Go.Proofs.Tryd.f51) (canon lin x) (retK Ty rs (Go.Func.ntmps Go.Proofs.Tryd.f51) lout id)
@[reducible] noncomputable def den (n : Nat) : Den := ⟨lin, lout, [4], [], CSs.den lout, f n, id⟩
theorem sat (n : Nat) : Sat Go.Proofs.Tryd.prog Ty.gl 51 (den n) := sat_is hTy (hD n) Go.Proofs.Tryd.func51 rfl rfl (den n) [] [] [] [] [] (by kernel_rfl) trivial trivial (rs := rs) (by kernel_rfl) (by kernel_rfl) (by kernel_rfl) (by kernel_rfl) (by kernel_rfl) (fun _ => rfl) (fun _ _ => rfl) id (fun _ => rfl) (by intro x; kernel_rfl)
end ref19_least
namespace ref18_Numbers
@[reducible] def lin : List (Nat × CS) := [(0, .v (.list (.int .u64))), (1, .v (.list (.int .i64)))]
@[reducible] def lout : List (Nat × CS) := [(4, .own 5 (.int .u8))]
noncomputable def ns : NS := nsOf Go.Proofs.Tryd.f53 lin lout
noncomputable def D (n : Nat) : FuncId → Nat → Option Den := lookD [((54, 0), ref07_Put.den n)]
theorem hD (n : Nat) : DenOk Go.Proofs.Tryd.prog Ty.gl (D n) := lookD_ok ⟨ref07_Put.sat n, trivial⟩
@[reducible] def L0 : List (Nat × CS) := [(0, .v (.list (.int .u64))), (1, .v (.list (.int .i64))), (5, .own 5 (.int .u8)), (6, .v (.int .i64))]
@[reducible] def ws0 : List (Out × List (Nat × CS)) := [(.normal, [(5, .own 5 (.int .u8))])]
noncomputable def l0 (n m : Nat) : Nat → CSs.den L0 → Option (wayDen ws0)
  | 0, _ => none
  | k + 1, x => run Ty (D n) (mkH [] [(5, ⟨[], [(.mem, 0), (.mem, 1), (.mem, 2), (.mem, 3), (.mem, 4), (.mem, 5), (.mem, 6), (.mem, 7), (.mem, 8), (.step, 9), (.step, 10), (.cur, 11)]⟩)] [] [] []) ns (lb Go.Proofs.Tryd.f53 0) (canon L0 x) (loopK 0 L0 (l0 n m k))
theorem l0_ok (n m : Nat) : HintOk Go.Proofs.Tryd.prog Ty.gl ns (.block 0 (.loop (lb Go.Proofs.Tryd.f53 0))) ⟨L0, ws0, l0 n m m⟩ :=
  loop_is hTy (hD n) [] [(5, ⟨[], [(.mem, 0), (.mem, 1), (.mem, 2), (.mem, 3), (.mem, 4), (.mem, 5), (.mem, 6), (.mem, 7), (.mem, 8), (.step, 9), (.step, 10), (.cur, 11)]⟩)] [] [] [] (by kernel_rfl) trivial trivial L0 ws0 (fun _ => rfl) (ways_cons (fun _ => rfl) ways_nil) (l0 n m) (fun _ => rfl) (fun _ _ => rfl) m
def rs : List ResultVar := [.tmp 4]
noncomputable def f (n : Nat) (x : CSs.den lin) : Option (CSs.den lout) := run Ty (D n) (mkH [(0, ⟨L0, ws0, l0 n n n⟩)] [(5, ⟨[], [(.mem, 0), (.mem, 1), (.mem, 2), (.mem, 3), (.mem, 4), (.mem, 5), (.mem, 6), (.mem, 7), (.mem, 8), (.step, 9), (.step, 10), (.cur, 11)]⟩)] [] [] []) ns (cd Go.Proofs.Tryd.f53) (canon lin x) (retK Ty rs (Go.Func.ntmps Go.Proofs.Tryd.f53) lout id)
@[reducible] noncomputable def den (n : Nat) : Den := ⟨lin, lout, [4], [none], CSs.den lout, f n, id⟩
theorem sat (n : Nat) : Sat Go.Proofs.Tryd.prog Ty.gl 53 (den n) := sat_is hTy (hD n) Go.Proofs.Tryd.func53 rfl rfl (den n) [(0, ⟨L0, ws0, l0 n n n⟩)] [(5, ⟨[], [(.mem, 0), (.mem, 1), (.mem, 2), (.mem, 3), (.mem, 4), (.mem, 5), (.mem, 6), (.mem, 7), (.mem, 8), (.step, 9), (.step, 10), (.cur, 11)]⟩)] [] [] [] (by kernel_rfl) ⟨⟨_, by kernel_rfl, l0_ok n n⟩, trivial⟩ trivial (rs := rs) (by kernel_rfl) (by kernel_rfl) (by kernel_rfl) (by kernel_rfl) (by kernel_rfl) (fun _ => rfl) (fun _ _ => rfl) id (fun _ => rfl) (by intro x; kernel_rfl)
end ref18_Numbers
namespace ref19_bytes
@[reducible] def lin : List (Nat × CS) := [(0, .v (.pair (.pair (.int .i64) (.pair (.pair (.int .i64) (.pair (.int .i64) (.pair (.int .i64) (.pair (.int .i64) (.pair (.int .i64) (.pair (.int .i64) .unit)))))) (.pair (.int .u32) (.pair (.int .u64) (.pair (.int .u64) (.pair .str .unit)))))) (.pair (.int .u32) (.pair (.int .u64) .unit)))), (1, .v (.int .u64)), (2, .v (.int .u64)), (3, .v (.int .u64))]
@[reducible] def lout : List (Nat × CS) := [(8, .own 5 (.int .u8))]
noncomputable def ns : NS := nsOf Go.Proofs.Tryd.f28 lin lout
noncomputable def D (n : Nat) : FuncId → Nat → Option Den := lookD [((29, 0), ref19_extra.den n), ((51, 0), ref19_least.den n), ((53, 0), ref18_Numbers.den n), ((52, 0), ref01_Join.den n)]
theorem hD (n : Nat) : DenOk Go.Proofs.Tryd.prog Ty.gl (D n) := lookD_ok ⟨ref19_extra.sat n, ref19_least.sat n, ref18_Numbers.sat n, ref01_Join.sat n, trivial⟩
def rs : List ResultVar := [.tmp 8]
noncomputable def f (n : Nat) (x : CSs.den lin) : Option (CSs.den lout) := run Ty (D n) (mkH [] [(5, ⟨[4], [(.mem, 0), (.mem, 1), (.mem, 2), (.mem, 3), (.mem, 4), (.mem, 5), (.mem, 6), (.mem, 7), (.mem, 8), (.mem, 9), (.mem, 10), (.mem, 12), (.mem, 13), (.mem, 14), (.mem, 16), (.mem, 17), (.mem, 18), (.mem, 19), (.mem, 20), (.mem, 21), (.mem, 22), (.mem, 23), (.mem, 24), (.mem, 25), (.mem, 26), (.mem, 28), (.mem, 29), (.step, 11), (.step, 15), (.step, 27), (.step, 30), (.step, 31), (.cur, 32)]⟩), (6, ⟨[4], [(.mem, 0), (.mem, 3), (.mem, 4), (.mem, 5), (.mem, 7), (.late, 6), (.step, 1), (.step, 2), (.sync, 0), (.step, 8), (.step, 9), (.cur, 10)]⟩)] [] [] [(16, [(.normal, [(1, .v (.int .u64)), (2, .v (.int .u64)), (3, .v (.int .u64)), (4, .box 39 [.v (.int .i64), .v (.int .i64), .v (.int .i64), .v (.int .i64), .v (.int .i64), .v (.int .i64), .v (.int .i64), .v (.int .u32), .v (.int .u64), .v (.int .u64), .v .str, .v (.int .u32), .v (.int .u64)]), (9, .own 5 (.int .u8)), (10, .v (.int .u64))])])]) ns (cd Go.Proofs.Tryd.f28) (canon lin x) (retK Ty rs (Go.Func.ntmps Go.Proofs.Tryd.f28) lout id)
@[reducible] noncomputable def den (n : Nat) : Den := ⟨lin, lout, [8], [none], CSs.den lout, f n, id⟩
theorem sat (n : Nat) : Sat Go.Proofs.Tryd.prog Ty.gl 28 (den n) := sat_is hTy (hD n) Go.Proofs.Tryd.func28 rfl rfl (den n) [] [(5, ⟨[4], [(.mem, 0), (.mem, 1), (.mem, 2), (.mem, 3), (.mem, 4), (.mem, 5), (.mem, 6), (.mem, 7), (.mem, 8), (.mem, 9), (.mem, 10), (.mem, 12), (.mem, 13), (.mem, 14), (.mem, 16), (.mem, 17), (.mem, 18), (.mem, 19), (.mem, 20), (.mem, 21), (.mem, 22), (.mem, 23), (.mem, 24), (.mem, 25), (.mem, 26), (.mem, 28), (.mem, 29), (.step, 11), (.step, 15), (.step, 27), (.step, 30), (.step, 31), (.cur, 32)]⟩), (6, ⟨[4], [(.mem, 0), (.mem, 3), (.mem, 4), (.mem, 5), (.mem, 7), (.late, 6), (.step, 1), (.step, 2), (.sync, 0), (.step, 8), (.step, 9), (.cur, 10)]⟩)] [] [] [(16, [(.normal, [(1, .v (.int .u64)), (2, .v (.int .u64)), (3, .v (.int .u64)), (4, .box 39 [.v (.int .i64), .v (.int .i64), .v (.int .i64), .v (.int .i64), .v (.int .i64), .v (.int .i64), .v (.int .i64), .v (.int .u32), .v (.int .u64), .v (.int .u64), .v .str, .v (.int .u32), .v (.int .u64)]), (9, .own 5 (.int .u8)), (10, .v (.int .u64))])])] (by kernel_rfl) trivial trivial (rs := rs) (by kernel_rfl) (by kernel_rfl) (by kernel_rfl) (by kernel_rfl) (by kernel_rfl) (fun _ => rfl) (fun _ _ => rfl) id (fun _ => rfl) (by intro x; kernel_rfl)
end ref19_bytes
namespace ref19_Write
@[reducible] def lin : List (Nat × CS) := [(0, .v (.pair (.pair (.int .i64) (.pair (.pair (.int .i64) (.pair (.int .i64) (.pair (.int .i64) (.pair (.int .i64) (.pair (.int .i64) (.pair (.int .i64) .unit)))))) (.pair (.int .u32) (.pair (.int .u64) (.pair (.int .u64) (.pair .str .unit)))))) (.pair (.int .u32) (.pair (.int .u64) .unit))))]
@[reducible] def lout : List (Nat × CS) := [(2, .own 5 (.int .u8)), (3, .v (.int .i64))]
noncomputable def ns : NS := nsOf Go.Proofs.Tryd.f10 lin lout
noncomputable def D (n : Nat) : FuncId → Nat → Option Den := lookD [((26, 0), ref18_Check.den n), ((27, 0), ref17_Pack.den n), ((28, 0), ref19_bytes.den n)]
theorem hD (n : Nat) : DenOk Go.Proofs.Tryd.prog Ty.gl (D n) := lookD_ok ⟨ref18_Check.sat n, ref17_Pack.sat n, ref19_bytes.sat n, trivial⟩
def rs : List ResultVar := [.tmp 2, .tmp 3]
noncomputable def f (n : Nat) (x : CSs.den lin) : Option (CSs.den lout) := run Ty (D n) (mkH [] [] [] [] []) ns (cd Go.Proofs.Tryd.f10) (canon lin x) (retK Ty rs (Go.Func.ntmps Go.Proofs.Tryd.f10) lout id)
@[reducible] noncomputable def den (n : Nat) : Den := ⟨lin, lout, [2, 3], [none], CSs.den lout, f n, id⟩
theorem sat (n : Nat) : Sat Go.Proofs.Tryd.prog Ty.gl 10 (den n) := sat_is hTy (hD n) Go.Proofs.Tryd.func10 rfl rfl (den n) [] [] [] [] [] (by kernel_rfl) trivial trivial (rs := rs) (by kernel_rfl) (by kernel_rfl) (by kernel_rfl) (by kernel_rfl) (by kernel_rfl) (fun _ => rfl) (fun _ _ => rfl) id (fun _ => rfl) (by intro x; kernel_rfl)
end ref19_Write
namespace ref01_Same
@[reducible] def lin : List (Nat × CS) := [(0, .v (.list (.int .u8))), (1, .v (.list (.int .u8)))]
@[reducible] def lout : List (Nat × CS) := [(4, .v .bool)]
noncomputable def ns : NS := nsOf Go.Proofs.Tryd.f12 lin lout
noncomputable def D (n : Nat) : FuncId → Nat → Option Den := lookD []
theorem hD (n : Nat) : DenOk Go.Proofs.Tryd.prog Ty.gl (D n) := lookD_ok trivial
@[reducible] def L0 : List (Nat × CS) := [(0, .v (.list (.int .u8))), (1, .v (.list (.int .u8))), (5, .v (.int .i64))]
@[reducible] def ws0 : List (Out × List (Nat × CS)) := [(.ret, [(4, .v .bool)]), (.normal, [])]
noncomputable def l0 (n m : Nat) : Nat → CSs.den L0 → Option (wayDen ws0)
  | 0, _ => none
  | k + 1, x => run Ty (D n) (mkH [] [(6, ⟨[], [(.mem, 0), (.mem, 1), (.mem, 2), (.mem, 3), (.mem, 4), (.mem, 5), (.mem, 6), (.mem, 7), (.mem, 8)]⟩)] [] [] []) ns (lb Go.Proofs.Tryd.f12 0) (canon L0 x) (loopK 0 L0 (l0 n m k))
theorem l0_ok (n m : Nat) : HintOk Go.Proofs.Tryd.prog Ty.gl ns (.block 0 (.loop (lb Go.Proofs.Tryd.f12 0))) ⟨L0, ws0, l0 n m m⟩ :=
  loop_is hTy (hD n) [] [(6, ⟨[], [(.mem, 0), (.mem, 1), (.mem, 2), (.mem, 3), (.mem, 4), (.mem, 5), (.mem, 6), (.mem, 7), (.mem, 8)]⟩)] [] [] [] (by kernel_rfl) trivial trivial L0 ws0 (fun _ => rfl) (ways_cons (fun _ => rfl) (ways_cons (fun _ => rfl) ways_nil)) (l0 n m) (fun _ => rfl) (fun _ _ => rfl) m
def rs : List ResultVar := [.tmp 4]
noncomputable def f (n : Nat) (x : CSs.den lin) : Option (CSs.den lout) := run Ty (D n) (mkH [(0, ⟨L0, ws0, l0 n n n⟩)] [(6, ⟨[], [(.mem, 0), (.mem, 1), (.mem, 2), (.mem, 3), (.mem, 4), (.mem, 5), (.mem, 6), (.mem, 7), (.mem, 8)]⟩)] [] [] []) ns (cd Go.Proofs.Tryd.f12) (canon lin x) (retK Ty rs (Go.Func.ntmps Go.Proofs.Tryd.f12) lout id)
@[reducible] noncomputable def den (n : Nat) : Den := ⟨lin, lout, [4], [], CSs.den lout, f n, id⟩
theorem sat (n : Nat) : Sat Go.Proofs.Tryd.prog Ty.gl 12 (den n) := sat_is hTy (hD n) Go.Proofs.Tryd.func12 rfl rfl (den n) [(0, ⟨L0, ws0, l0 n n n⟩)] [(6, ⟨[], [(.mem, 0), (.mem, 1), (.mem, 2), (.mem, 3), (.mem, 4), (.mem, 5), (.mem, 6), (.mem, 7), (.mem, 8)]⟩)] [] [] [] (by kernel_rfl) ⟨⟨_, by kernel_rfl, l0_ok n n⟩, trivial⟩ trivial (rs := rs) (by kernel_rfl) (by kernel_rfl) (by kernel_rfl) (by kernel_rfl) (by kernel_rfl) (fun _ => rfl) (fun _ _ => rfl) id (fun _ => rfl) (by intro x; kernel_rfl)
end ref01_Same
namespace ref19_Size
@[reducible] def lin : List (Nat × CS) := [(0, .v (.pair (.pair (.int .i64) (.pair (.pair (.int .i64) (.pair (.int .i64) (.pair (.int .i64) (.pair (.int .i64) (.pair (.int .i64) (.pair (.int .i64) .unit)))))) (.pair (.int .u32) (.pair (.int .u64) (.pair (.int .u64) (.pair .str .unit)))))) (.pair (.int .u32) (.pair (.int .u64) .unit))))]
@[reducible] def lout : List (Nat × CS) := [(2, .v (.int .i64))]
noncomputable def ns : NS := nsOf Go.Proofs.Tryd.f14 lin lout
noncomputable def D (n : Nat) : FuncId → Nat → Option Den := lookD [((29, 0), ref19_extra.den n)]
theorem hD (n : Nat) : DenOk Go.Proofs.Tryd.prog Ty.gl (D n) := lookD_ok ⟨ref19_extra.sat n, trivial⟩
def rs : List ResultVar := [.tmp 2]
noncomputable def f (n : Nat) (x : CSs.den lin) : Option (CSs.den lout) := run Ty (D n) (mkH [] [(1, ⟨[1], [(.mem, 0), (.mem, 1), (.mem, 2), (.mem, 3), (.mem, 4), (.mem, 5), (.step, 6), (.cur, 7), (.cur, 8), (.cur, 9)]⟩)] [] [] []) ns (cd Go.Proofs.Tryd.f14) (canon lin x) (retK Ty rs (Go.Func.ntmps Go.Proofs.Tryd.f14) lout id)
@[reducible] noncomputable def den (n : Nat) : Den := ⟨lin, lout, [2], [], CSs.den lout, f n, id⟩
theorem sat (n : Nat) : Sat Go.Proofs.Tryd.prog Ty.gl 14 (den n) := sat_is hTy (hD n) Go.Proofs.Tryd.func14 rfl rfl (den n) [] [(1, ⟨[1], [(.mem, 0), (.mem, 1), (.mem, 2), (.mem, 3), (.mem, 4), (.mem, 5), (.step, 6), (.cur, 7), (.cur, 8), (.cur, 9)]⟩)] [] [] [] (by kernel_rfl) trivial trivial (rs := rs) (by kernel_rfl) (by kernel_rfl) (by kernel_rfl) (by kernel_rfl) (by kernel_rfl) (fun _ => rfl) (fun _ _ => rfl) id (fun _ => rfl) (by intro x; kernel_rfl)
end ref19_Size
namespace law19_CentralWrites
@[reducible] def lin : List (Nat × CS) := [(0, .v (.pair (.pair (.int .i64) (.pair (.pair (.int .i64) (.pair (.int .i64) (.pair (.int .i64) (.pair (.int .i64) (.pair (.int .i64) (.pair (.int .i64) .unit)))))) (.pair (.int .u32) (.pair (.int .u64) (.pair (.int .u64) (.pair .str .unit)))))) (.pair (.int .u32) (.pair (.int .u64) .unit))))]
@[reducible] def lout : List (Nat × CS) := [(2, .v .bool)]
noncomputable def ns : NS := nsOf Go.Proofs.Tryd.f3 lin lout
noncomputable def D (n : Nat) : FuncId → Nat → Option Den := lookD [((8, 0), law19_alive.den n), ((9, 0), central_Write.den n), ((11, 0), law19_as.den n), ((10, 0), ref19_Write.den n), ((12, 0), ref01_Same.den n), ((13, 0), central_Size.den n), ((14, 0), ref19_Size.den n)]
theorem hD (n : Nat) : DenOk Go.Proofs.Tryd.prog Ty.gl (D n) := lookD_ok ⟨law19_alive.sat n, central_Write.sat n, law19_as.sat n, ref19_Write.sat n, ref01_Same.sat n, central_Size.sat n, ref19_Size.sat n, trivial⟩
def rs : List ResultVar := [.tmp 2]
noncomputable def f (n : Nat) (x : CSs.den lin) : Option (CSs.den lout) := run Ty (D n) (mkH [] [(7, ⟨[1], [(.mem, 0), (.mem, 1), (.mem, 2), (.mem, 3), (.mem, 4), (.mem, 5), (.step, 6), (.cur, 7), (.cur, 8), (.mem, 9), (.mem, 11), (.step, 10), (.step, 12), (.step, 13), (.cur, 14), (.cur, 15), (.cur, 16), (.mem, 17), (.mem, 18), (.mem, 19), (.mem, 20), (.mem, 21), (.mem, 22), (.step, 23), (.cur, 24), (.cur, 25), (.cur, 26), (.cur, 27)]⟩)] [] [] []) ns (cd Go.Proofs.Tryd.f3) (canon lin x) (retK Ty rs (Go.Func.ntmps Go.Proofs.Tryd.f3) lout id)
@[reducible] noncomputable def den (n : Nat) : Den := ⟨lin, lout, [2], [], CSs.den lout, f n, id⟩
theorem sat (n : Nat) : Sat Go.Proofs.Tryd.prog Ty.gl 3 (den n) := sat_is hTy (hD n) Go.Proofs.Tryd.func3 rfl rfl (den n) [] [(7, ⟨[1], [(.mem, 0), (.mem, 1), (.mem, 2), (.mem, 3), (.mem, 4), (.mem, 5), (.step, 6), (.cur, 7), (.cur, 8), (.mem, 9), (.mem, 11), (.step, 10), (.step, 12), (.step, 13), (.cur, 14), (.cur, 15), (.cur, 16), (.mem, 17), (.mem, 18), (.mem, 19), (.mem, 20), (.mem, 21), (.mem, 22), (.step, 23), (.cur, 24), (.cur, 25), (.cur, 26), (.cur, 27)]⟩)] [] [] [] (by kernel_rfl) trivial trivial (rs := rs) (by kernel_rfl) (by kernel_rfl) (by kernel_rfl) (by kernel_rfl) (by kernel_rfl) (fun _ => rfl) (fun _ _ => rfl) id (fun _ => rfl) (by intro x; kernel_rfl)
end law19_CentralWrites
namespace ref07_Get
@[reducible] def lin : List (Nat × CS) := [(0, .v (.list (.int .u8)))]
@[reducible] def lout : List (Nat × CS) := [(2, .v (.int .u64))]
noncomputable def ns : NS := nsOf Go.Proofs.Tryd.f57 lin lout
noncomputable def D (n : Nat) : FuncId → Nat → Option Den := lookD []
theorem hD (n : Nat) : DenOk Go.Proofs.Tryd.prog Ty.gl (D n) := lookD_ok trivial
@[reducible] def L0 : List (Nat × CS) := [(0, .v (.list (.int .u8))), (3, .v (.int .u64)), (4, .v (.int .u64)), (5, .v (.int .i64))]
@[reducible] def ws0 : List (Out × List (Nat × CS)) := [(.normal, [(3, .v (.int .u64))])]
noncomputable def l0 (n m : Nat) : Nat → CSs.den L0 → Option (wayDen ws0)
  | 0, _ => none
  | k + 1, x => run Ty (D n) (mkH [] [] [] [] []) ns (lb Go.Proofs.Tryd.f57 0) (canon L0 x) (loopK 0 L0 (l0 n m k))
theorem l0_ok (n m : Nat) : HintOk Go.Proofs.Tryd.prog Ty.gl ns (.block 0 (.loop (lb Go.Proofs.Tryd.f57 0))) ⟨L0, ws0, l0 n m m⟩ :=
  loop_is hTy (hD n) [] [] [] [] [] (by kernel_rfl) trivial trivial L0 ws0 (fun _ => rfl) (ways_cons (fun _ => rfl) ways_nil) (l0 n m) (fun _ => rfl) (fun _ _ => rfl) m
def rs : List ResultVar := [.tmp 2]
noncomputable def f (n : Nat) (x : CSs.den lin) : Option (CSs.den lout) := run Ty (D n) (mkH [(0, ⟨L0, ws0, l0 n n n⟩)] [] [] [] []) ns (cd Go.Proofs.Tryd.f57) (canon lin x) (retK Ty rs (Go.Func.ntmps Go.Proofs.Tryd.f57) lout id)
@[reducible] noncomputable def den (n : Nat) : Den := ⟨lin, lout, [2], [], CSs.den lout, f n, id⟩
theorem sat (n : Nat) : Sat Go.Proofs.Tryd.prog Ty.gl 57 (den n) := sat_is hTy (hD n) Go.Proofs.Tryd.func57 rfl rfl (den n) [(0, ⟨L0, ws0, l0 n n n⟩)] [] [] [] [] (by kernel_rfl) ⟨⟨_, by kernel_rfl, l0_ok n n⟩, trivial⟩ trivial (rs := rs) (by kernel_rfl) (by kernel_rfl) (by kernel_rfl) (by kernel_rfl) (by kernel_rfl) (fun _ => rfl) (fun _ _ => rfl) id (fun _ => rfl) (by intro x; kernel_rfl)
end ref07_Get
namespace ref19_at
@[reducible] def lin : List (Nat × CS) := [(0, .v (.list (.int .u8))), (1, .v (.int .i64)), (2, .v (.int .i64))]
@[reducible] def lout : List (Nat × CS) := [(6, .v (.int .u64))]
noncomputable def ns : NS := nsOf Go.Proofs.Tryd.f41 lin lout
noncomputable def D (n : Nat) : FuncId → Nat → Option Den := lookD [((57, 0), ref07_Get.den n)]
theorem hD (n : Nat) : DenOk Go.Proofs.Tryd.prog Ty.gl (D n) := lookD_ok ⟨ref07_Get.sat n, trivial⟩
def rs : List ResultVar := [.tmp 6]
noncomputable def f (n : Nat) (x : CSs.den lin) : Option (CSs.den lout) := run Ty (D n) (mkH [] [] [] [] []) ns (cd Go.Proofs.Tryd.f41) (canon lin x) (retK Ty rs (Go.Func.ntmps Go.Proofs.Tryd.f41) lout id)
@[reducible] noncomputable def den (n : Nat) : Den := ⟨lin, lout, [6], [], CSs.den lout, f n, id⟩
theorem sat (n : Nat) : Sat Go.Proofs.Tryd.prog Ty.gl 41 (den n) := sat_is hTy (hD n) Go.Proofs.Tryd.func41 rfl rfl (den n) [] [] [] [] [] (by kernel_rfl) trivial trivial (rs := rs) (by kernel_rfl) (by kernel_rfl) (by kernel_rfl) (by kernel_rfl) (by kernel_rfl) (fun _ => rfl) (fun _ _ => rfl) id (fun _ => rfl) (by intro x; kernel_rfl)
end ref19_at
namespace ref17_Unpack
@[reducible] def lin : List (Nat × CS) := [(0, .v (.int .u16)), (1, .v (.int .u16))]
@[reducible] def lout : List (Nat × CS) := [(41, .v (.pair (.int .i64) (.pair (.int .i64) (.pair (.int .i64) (.pair (.int .i64) (.pair (.int .i64) (.pair (.int .i64) .unit))))))), (5, .v .bool)]
noncomputable def ns : NS := nsOf Go.Proofs.Tryd.f42 lin lout
noncomputable def D (n : Nat) : FuncId → Nat → Option Den := lookD [((50, 0), ref17_Right.den n)]
theorem hD (n : Nat) : DenOk Go.Proofs.Tryd.prog Ty.gl (D n) := lookD_ok ⟨ref17_Right.sat n, trivial⟩
def rs : List ResultVar := [.cell 4 23, .tmp 5]
noncomputable def f (n : Nat) (x : CSs.den lin) : Option (CSs.den lout) := run Ty (D n) (mkH [] [] [] [] []) ns (cd Go.Proofs.Tryd.f42) (canon lin x) (retK Ty rs (Go.Func.ntmps Go.Proofs.Tryd.f42) lout id)
@[reducible] noncomputable def den (n : Nat) : Den := ⟨lin, lout, [41, 5], [], CSs.den lout, f n, id⟩
theorem sat (n : Nat) : Sat Go.Proofs.Tryd.prog Ty.gl 42 (den n) := sat_is hTy (hD n) Go.Proofs.Tryd.func42 rfl rfl (den n) [] [] [] [] [] (by kernel_rfl) trivial trivial (rs := rs) (by kernel_rfl) (by kernel_rfl) (by kernel_rfl) (by kernel_rfl) (by kernel_rfl) (fun _ => rfl) (fun _ _ => rfl) id (fun _ => rfl) (by intro x; kernel_rfl)
end ref17_Unpack
end Go.Proofs.YtcnegcjjeakmmaaDoor.Vm
