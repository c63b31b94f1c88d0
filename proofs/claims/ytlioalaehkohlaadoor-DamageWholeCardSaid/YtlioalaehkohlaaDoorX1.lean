/- Functions of the Go program as Lean functions, by the machine. Written by a program. -/
import Derived.Test.YtlioalaehkohlaaDoorX0
namespace Go.Proofs.YtlioalaehkohlaaDoor.Vm
open Go Go.RowKit
set_option linter.unusedVariables false
set_option linter.unusedSimpArgs false
set_option maxRecDepth 100000
namespace stripe_Parity
@[reducible] def lin : List (Nat × CS) := [(0, .v (.list (.list (.int .u8)))), (1, .v (.int .i64))]
@[reducible] def lout : List (Nat × CS) := [(4, .nest 52 5 (.int .u8)), (5, .v (.int .i64))]
noncomputable def ns : NS := nsOf Go.Proofs.Tryd.f39 lin lout
noncomputable def D (n : Nat) : FuncId → Nat → Option Den := lookD [((61, 63), slices_ContainsFunc_byte_byte_stripe_Parity_1.den n), ((64, 0), stripe_row.den n), ((63, 0), systematic_Encode.den n)]
theorem hD (n : Nat) : DenOk Go.Proofs.Tryd.prog Ty.gl (D n) := lookD_ok ⟨slices_ContainsFunc_byte_byte_stripe_Parity_1.sat n, stripe_row.sat n, systematic_Encode.sat n, trivial⟩
@[reducible] def L2 : List (Nat × CS) := [(1, .v (.int .i64)), (2, .box 42 [.v (.list (.list (.int .u8)))]), (6, .nest 52 5 (.int .u8)), (38, .v (.int .i64)), (39, .v (.int .i64)), (50, .own 5 (.int .u8)), (51, .v (.int .i64)), (52, .v (.int .i64))]
@[reducible] def ws2 : List (Out × List (Nat × CS)) := [(.normal, [(1, .v (.int .i64)), (2, .box 42 [.v (.list (.list (.int .u8)))]), (6, .nest 52 5 (.int .u8)), (38, .v (.int .i64)), (39, .v (.int .i64))])]
noncomputable def l2 (n m : Nat) : Nat → CSs.den L2 → Option (wayDen ws2)
  | 0, _ => none
  | k + 1, x => run (Ty.keepT [] [] [34] [] []) (D n) (mkH [] [] [] [] []) ns (lb Go.Proofs.Tryd.f39 2) (canon L2 x) (loopK 2 L2 (l2 n m k))
theorem l2_ok (n m : Nat) : HintOk Go.Proofs.Tryd.prog Ty.gl ns (.block 2 (.loop (lb Go.Proofs.Tryd.f39 2))) ⟨L2, ws2, l2 n m m⟩ :=
  loop_is (hTy.keep [] [] [34] [] []) (hD n) [] [] [] [] [] (by kernel_rfl) trivial trivial L2 ws2 (fun _ => rfl) (ways_cons (fun _ => rfl) ways_nil) (l2 n m) (fun _ => rfl) (fun _ _ => rfl) m
@[reducible] def L0 : List (Nat × CS) := [(1, .v (.int .i64)), (2, .box 42 [.v (.list (.list (.int .u8)))]), (6, .nest 52 5 (.int .u8)), (38, .v (.int .i64)), (39, .v (.int .i64))]
@[reducible] def ws0 : List (Out × List (Nat × CS)) := [(.normal, [(6, .nest 52 5 (.int .u8))])]
noncomputable def l0 (n m : Nat) : Nat → CSs.den L0 → Option (wayDen ws0)
  | 0, _ => none
  | k + 1, x => run (Ty.keepT [] [] [34] [] []) (D n) (mkH [(2, ⟨L2, ws2, l2 n m m⟩)] [] [] [] []) ns (lb Go.Proofs.Tryd.f39 0) (canon L0 x) (loopK 0 L0 (l0 n m k))
theorem l0_ok (n m : Nat) : HintOk Go.Proofs.Tryd.prog Ty.gl ns (.block 0 (.loop (lb Go.Proofs.Tryd.f39 0))) ⟨L0, ws0, l0 n m m⟩ :=
  loop_is (hTy.keep [] [] [34] [] []) (hD n) [(2, ⟨L2, ws2, l2 n m m⟩)] [] [] [] [] (by kernel_rfl) ⟨⟨_, by kernel_rfl, l2_ok n m⟩, trivial⟩ trivial L0 ws0 (fun _ => rfl) (ways_cons (fun _ => rfl) ways_nil) (l0 n m) (fun _ => rfl) (fun _ _ => rfl) m
def rs : List ResultVar := [.tmp 4, .tmp 5]
noncomputable def f (n : Nat) (x : CSs.den lin) : Option (CSs.den lout) := run (Ty.keepT [] [] [34] [] []) (D n) (mkH [(0, ⟨L0, ws0, l0 n n n⟩), (2, ⟨L2, ws2, l2 n n n⟩)] [] [] [] []) ns (cd Go.Proofs.Tryd.f39) (canon lin x) (retK (Ty.keepT [] [] [34] [] []) rs (Go.Func.ntmps Go.Proofs.Tryd.f39) lout id)
@[reducible] noncomputable def den (n : Nat) : Den := ⟨lin, lout, [4, 5], [none], CSs.den lout, f n, id⟩
theorem sat (n : Nat) : Sat Go.Proofs.Tryd.prog Ty.gl 39 (den n) := sat_is (hTy.keep [] [] [34] [] []) (hD n) Go.Proofs.Tryd.func39 rfl rfl (den n) [(0, ⟨L0, ws0, l0 n n n⟩), (2, ⟨L2, ws2, l2 n n n⟩)] [] [] [] [] (by kernel_rfl) ⟨⟨_, by kernel_rfl, l0_ok n n⟩, ⟨_, by kernel_rfl, l2_ok n n⟩, trivial⟩ trivial (rs := rs) (by kernel_rfl) (by kernel_rfl) (by kernel_rfl) (by kernel_rfl) (by kernel_rfl) (fun _ => rfl) (fun _ _ => rfl) id (fun _ => rfl) (by intro x; kernel_rfl)
end stripe_Parity
namespace crc_Blocks
@[reducible] def lin : List (Nat × CS) := [(0, .v (.list (.int .u8))), (1, .v (.int .i64))]
@[reducible] def lout : List (Nat × CS) := [(4, .v (.list (.int .u32)))]
noncomputable def sumB (n : Nat) (ys : List Int) : Option Int := (crc_Sum.f n (ys, ())).bind fun y => some y.1
noncomputable def f (n : Nat) (x : CSs.den lin) : Option (CSs.den lout) := (Ck.blocksN (sumB n) n x.1 x.2.1).bind fun r => some (r, ())
@[reducible] noncomputable def den (n : Nat) : Den := ⟨lin, lout, [4], [], CSs.den lout, f n, id⟩
theorem sat (n : Nat) : Sat Go.Proofs.Tryd.prog Ty.gl 30 (den n) := by
  refine sat_vals (ks := [.list (.int .u8), .int .i64]) (k := .list (.int .u32)) (F0 := fun x => Ck.blocksN (sumB n) n x.1 x.2.1) Go.Proofs.Tryd.func30 rfl rfl (fun W F x vs r hW hF hva hr => ?_)
  obtain ⟨v0, us, rfl, h0, v1, us', rfl, h1, h2⟩ := hva
  have h2 : us' = [] := h2
  subst h2
  have hv1 : v1 = .int .i64 x.2.1 := VRv.int h1
  subst hv1
  refine (Ck.blocks_ok (sumB := sumB n) h0 hF (fun ys u s W' hs hB hu => ?_) hr).mono ?_
  · have hs' : (crc_Sum.f n (ys, ())).bind (fun y => some y.1) = some s := hs
    obtain ⟨y, e1, e2⟩ : ∃ y, crc_Sum.f n (ys, ()) = some y ∧ y.1 = s := by
      cases hc : crc_Sum.f n (ys, ()) with
      | none => rw [hc] at hs'; cases hs'
      | some y => rw [hc] at hs'; exact ⟨y, rfl, Option.some.inj hs'⟩
    have hg := hW.below hB
    refine (val_callsK (crc_Sum.sat n) (ks := [.list (.int .u8)]) rfl hg (vs := [u]) (x := (ys, ())) ⟨_, _, rfl, hu.mono (fun b hb => ⟨Nat.lt_of_lt_of_le (hF b hb) hB.size, rfl⟩), rfl⟩ rfl rfl e1).mono ?_
    rintro e w' ⟨v, rfl, hv, hB'⟩
    have hv' : v = .int .u32 y.1 := VRv.int hv
    exact ⟨by rw [hv', e2], hB'⟩
  · rintro e w' ⟨v', rfl, hB, ho⟩
    refine ⟨v', rfl, ?_, hB⟩
    exact Ck.own_list (w := W) ho (fun b h1 h2 => .inr ⟨h1, h2⟩)
end crc_Blocks
namespace seal_Sums
@[reducible] def lin : List (Nat × CS) := [(0, .v (.list (.list (.int .u8)))), (1, .v (.pair (.int .i64) (.pair (.int .i64) (.pair (.int .i64) (.pair (.int .i64) .unit)))))]
@[reducible] def lout : List (Nat × CS) := [(4, .own 66 (.list (.int .u32)))]
noncomputable def ns : NS := nsOf Go.Proofs.Tryd.f40 lin lout
noncomputable def D (n : Nat) : FuncId → Nat → Option Den := lookD [((26, 0), stripe_Right.den n), ((30, 0), crc_Blocks.den n)]
theorem hD (n : Nat) : DenOk Go.Proofs.Tryd.prog Ty.gl (D n) := lookD_ok ⟨stripe_Right.sat n, crc_Blocks.sat n, trivial⟩
@[reducible] def L0 : List (Nat × CS) := [(3, .box 24 [.v (.int .i64), .v (.int .i64), .v (.int .i64), .v (.int .i64)]), (5, .own 66 (.list (.int .u32))), (11, .v (.list (.list (.int .u8)))), (12, .v (.int .i64)), (13, .v (.int .i64))]
@[reducible] def ws0 : List (Out × List (Nat × CS)) := [(.normal, [(5, .own 66 (.list (.int .u32)))])]
noncomputable def l0 (n m : Nat) : Nat → CSs.den L0 → Option (wayDen ws0)
  | 0, _ => none
  | k + 1, x => run Ty (D n) (mkH [] [] [] [] []) ns (lb Go.Proofs.Tryd.f40 0) (canon L0 x) (loopK 0 L0 (l0 n m k))
theorem l0_ok (n m : Nat) : HintOk Go.Proofs.Tryd.prog Ty.gl ns (.block 0 (.loop (lb Go.Proofs.Tryd.f40 0))) ⟨L0, ws0, l0 n m m⟩ :=
  loop_is hTy (hD n) [] [] [] [] [] (by kernel_rfl) trivial trivial L0 ws0 (fun _ => rfl) (ways_cons (fun _ => rfl) ways_nil) (l0 n m) (fun _ => rfl) (fun _ _ => rfl) m
def rs : List ResultVar := [.tmp 4]
noncomputable def f (n : Nat) (x : CSs.den lin) : Option (CSs.den lout) := run Ty (D n) (mkH [(0, ⟨L0, ws0, l0 n n n⟩)] [] [] [] []) ns (cd Go.Proofs.Tryd.f40) (canon lin x) (retK Ty rs (Go.Func.ntmps Go.Proofs.Tryd.f40) lout id)
@[reducible] noncomputable def den (n : Nat) : Den := ⟨lin, lout, [4], [none], CSs.den lout, f n, id⟩
theorem sat (n : Nat) : Sat Go.Proofs.Tryd.prog Ty.gl 40 (den n) := sat_is hTy (hD n) Go.Proofs.Tryd.func40 rfl rfl (den n) [(0, ⟨L0, ws0, l0 n n n⟩)] [] [] [] [] (by kernel_rfl) ⟨⟨_, by kernel_rfl, l0_ok n n⟩, trivial⟩ trivial (rs := rs) (by kernel_rfl) (by kernel_rfl) (by kernel_rfl) (by kernel_rfl) (by kernel_rfl) (fun _ => rfl) (fun _ _ => rfl) id (fun _ => rfl) (by intro x; kernel_rfl)
end seal_Sums
namespace stripe_Long
@[reducible] def lin : List (Nat × CS) := [(0, .v (.pair (.int .i64) (.pair (.int .i64) (.pair (.int .i64) (.pair (.int .i64) .unit)))))]
@[reducible] def lout : List (Nat × CS) := [(2, .v (.int .i64))]
noncomputable def ns : NS := nsOf Go.Proofs.Tryd.f29 lin lout
noncomputable def D (n : Nat) : FuncId → Nat → Option Den := lookD [((26, 0), stripe_Right.den n)]
theorem hD (n : Nat) : DenOk Go.Proofs.Tryd.prog Ty.gl (D n) := lookD_ok ⟨stripe_Right.sat n, trivial⟩
def rs : List ResultVar := [.tmp 2]
noncomputable def f (n : Nat) (x : CSs.den lin) : Option (CSs.den lout) := run Ty (D n) (mkH [] [] [] [] []) ns (cd Go.Proofs.Tryd.f29) (canon lin x) (retK Ty rs (Go.Func.ntmps Go.Proofs.Tryd.f29) lout id)
@[reducible] noncomputable def den (n : Nat) : Den := ⟨lin, lout, [2], [], CSs.den lout, f n, id⟩
theorem sat (n : Nat) : Sat Go.Proofs.Tryd.prog Ty.gl 29 (den n) := sat_is hTy (hD n) Go.Proofs.Tryd.func29 rfl rfl (den n) [] [] [] [] [] (by kernel_rfl) trivial trivial (rs := rs) (by kernel_rfl) (by kernel_rfl) (by kernel_rfl) (by kernel_rfl) (by kernel_rfl) (fun _ => rfl) (fun _ _ => rfl) id (fun _ => rfl) (by intro x; kernel_rfl)
end stripe_Long
namespace stripe_Blocks
@[reducible] def lin : List (Nat × CS) := [(0, .v (.pair (.int .i64) (.pair (.int .i64) (.pair (.int .i64) (.pair (.int .i64) .unit)))))]
@[reducible] def lout : List (Nat × CS) := [(2, .v (.int .i64))]
noncomputable def ns : NS := nsOf Go.Proofs.Tryd.f28 lin lout
noncomputable def D (n : Nat) : FuncId → Nat → Option Den := lookD [((26, 0), stripe_Right.den n), ((29, 0), stripe_Long.den n)]
theorem hD (n : Nat) : DenOk Go.Proofs.Tryd.prog Ty.gl (D n) := lookD_ok ⟨stripe_Right.sat n, stripe_Long.sat n, trivial⟩
def rs : List ResultVar := [.tmp 2]
noncomputable def f (n : Nat) (x : CSs.den lin) : Option (CSs.den lout) := run Ty (D n) (mkH [] [(3, ⟨[1], [(.mem, 0), (.mem, 2), (.mem, 3), (.mem, 6), (.mem, 7), (.step, 1), (.cur, 4), (.cur, 5), (.cur, 8), (.cur, 9)]⟩)] [] [] []) ns (cd Go.Proofs.Tryd.f28) (canon lin x) (retK Ty rs (Go.Func.ntmps Go.Proofs.Tryd.f28) lout id)
@[reducible] noncomputable def den (n : Nat) : Den := ⟨lin, lout, [2], [], CSs.den lout, f n, id⟩
theorem sat (n : Nat) : Sat Go.Proofs.Tryd.prog Ty.gl 28 (den n) := sat_is hTy (hD n) Go.Proofs.Tryd.func28 rfl rfl (den n) [] [(3, ⟨[1], [(.mem, 0), (.mem, 2), (.mem, 3), (.mem, 6), (.mem, 7), (.step, 1), (.cur, 4), (.cur, 5), (.cur, 8), (.cur, 9)]⟩)] [] [] [] (by kernel_rfl) trivial trivial (rs := rs) (by kernel_rfl) (by kernel_rfl) (by kernel_rfl) (by kernel_rfl) (by kernel_rfl) (fun _ => rfl) (fun _ _ => rfl) id (fun _ => rfl) (by intro x; kernel_rfl)
end stripe_Blocks
namespace seal_right_1
@[reducible] def lin : List (Nat × CS) := [(0, .v (.list (.int .u32))), (1, .box 3 [.v (.int .i64)])]
@[reducible] def lout : List (Nat × CS) := [(1, .box 3 [.v (.int .i64)]), (3, .v .bool)]
noncomputable def ns : NS := nsOf Go.Proofs.Tryd.f83 lin lout
noncomputable def D (n : Nat) : FuncId → Nat → Option Den := lookD []
theorem hD (n : Nat) : DenOk Go.Proofs.Tryd.prog Ty.gl (D n) := lookD_ok trivial
def rs : List ResultVar := [.tmp 3]
noncomputable def f (n : Nat) (x : CSs.den lin) : Option (CSs.den lout) := run Ty (D n) (mkH [] [] [] [] []) ns (cd Go.Proofs.Tryd.f83) (canon lin x) (retK Ty rs (Go.Func.ntmps Go.Proofs.Tryd.f83) lout id)
@[reducible] noncomputable def den (n : Nat) : Den := ⟨lin, lout, [3], [some (.inr 0)], CSs.den lout, f n, id⟩
theorem sat (n : Nat) : Sat Go.Proofs.Tryd.prog Ty.gl 83 (den n) := sat_is hTy (hD n) Go.Proofs.Tryd.func83 rfl rfl (den n) [] [] [] [] [] (by kernel_rfl) trivial trivial (rs := rs) (by kernel_rfl) (by kernel_rfl) (by kernel_rfl) (by kernel_rfl) (by kernel_rfl) (fun _ => rfl) (fun _ _ => rfl) id (fun _ => rfl) (by intro x; kernel_rfl)
end seal_right_1
namespace slices_IndexFunc_uint32_uint32_seal_right_1
@[reducible] def lin : List (Nat × CS) := [(0, .v (.list (.list (.int .u32)))), (1, .fn 83 [.box 3 [.v (.int .i64)]])]
@[reducible] def lout : List (Nat × CS) := [(1, .fn 83 [.box 3 [.v (.int .i64)]]), (4, .v (.int .i64))]
noncomputable def ns : NS := nsOf Go.Proofs.Tryd.f87 lin lout
noncomputable def D (n : Nat) : FuncId → Nat → Option Den := lookD [((83, 0), seal_right_1.den n)]
theorem hD (n : Nat) : DenOk Go.Proofs.Tryd.prog Ty.gl (D n) := lookD_ok ⟨seal_right_1.sat n, trivial⟩
@[reducible] def L0 : List (Nat × CS) := [(0, .v (.list (.list (.int .u32)))), (1, .fn 83 [.box 3 [.v (.int .i64)]]), (7, .v (.int .i64)), (8, .v (.int .i64))]
@[reducible] def ws0 : List (Out × List (Nat × CS)) := [(.ret, [(1, .fn 83 [.box 3 [.v (.int .i64)]]), (4, .v (.int .i64))]), (.normal, [(1, .fn 83 [.box 3 [.v (.int .i64)]])])]
noncomputable def l0 (n m : Nat) : Nat → CSs.den L0 → Option (wayDen ws0)
  | 0, _ => none
  | k + 1, x => run Ty (D n) (mkH [] [] [] [] []) ns (lb Go.Proofs.Tryd.f87 0) (canon L0 x) (loopK 0 L0 (l0 n m k))
theorem l0_ok (n m : Nat) : HintOk Go.Proofs.Tryd.prog Ty.gl ns (.block 0 (.loop (lb Go.Proofs.Tryd.f87 0))) ⟨L0, ws0, l0 n m m⟩ :=
  loop_is hTy (hD n) [] [] [] [] [] (by kernel_rfl) trivial trivial L0 ws0 (fun _ => rfl) (ways_cons (fun _ => rfl) (ways_cons (fun _ => rfl) ways_nil)) (l0 n m) (fun _ => rfl) (fun _ _ => rfl) m
def rs : List ResultVar := [.tmp 4]
noncomputable def f (n : Nat) (x : CSs.den lin) : Option (CSs.den lout) := run Ty (D n) (mkH [(0, ⟨L0, ws0, l0 n n n⟩)] [] [] [] []) ns (cd Go.Proofs.Tryd.f87) (canon lin x) (retK Ty rs (Go.Func.ntmps Go.Proofs.Tryd.f87) lout id)
@[reducible] noncomputable def den (n : Nat) : Den := ⟨lin, lout, [4], [some (.inr 0)], CSs.den lout, f n, id⟩
theorem sat (n : Nat) : Sat Go.Proofs.Tryd.prog Ty.gl 87 (den n) := sat_is hTy (hD n) Go.Proofs.Tryd.func87 rfl rfl (den n) [(0, ⟨L0, ws0, l0 n n n⟩)] [] [] [] [] (by kernel_rfl) ⟨⟨_, by kernel_rfl, l0_ok n n⟩, trivial⟩ trivial (rs := rs) (by kernel_rfl) (by kernel_rfl) (by kernel_rfl) (by kernel_rfl) (by kernel_rfl) (fun _ => rfl) (fun _ _ => rfl) id (fun _ => rfl) (by intro x; kernel_rfl)
end slices_IndexFunc_uint32_uint32_seal_right_1
namespace slices_ContainsFunc_uint32_uint32_seal_right_1
@[reducible] def lin : List (Nat × CS) := [(0, .v (.list (.list (.int .u32)))), (1, .fn 83 [.box 3 [.v (.int .i64)]])]
@[reducible] def lout : List (Nat × CS) := [(1, .fn 83 [.box 3 [.v (.int .i64)]]), (4, .v .bool)]
noncomputable def ns : NS := nsOf Go.Proofs.Tryd.f82 lin lout
noncomputable def D (n : Nat) : FuncId → Nat → Option Den := lookD [((87, 84), slices_IndexFunc_uint32_uint32_seal_right_1.den n)]
theorem hD (n : Nat) : DenOk Go.Proofs.Tryd.prog Ty.gl (D n) := lookD_ok ⟨slices_IndexFunc_uint32_uint32_seal_right_1.sat n, trivial⟩
def rs : List ResultVar := [.tmp 4]
noncomputable def f (n : Nat) (x : CSs.den lin) : Option (CSs.den lout) := run Ty (D n) (mkH [] [] [] [] []) ns (cd Go.Proofs.Tryd.f82) (canon lin x) (retK Ty rs (Go.Func.ntmps Go.Proofs.Tryd.f82) lout id)
@[reducible] noncomputable def den (n : Nat) : Den := ⟨lin, lout, [4], [some (.inr 0)], CSs.den lout, f n, id⟩
theorem sat (n : Nat) : Sat Go.Proofs.Tryd.prog Ty.gl 82 (den n) := sat_is hTy (hD n) Go.Proofs.Tryd.func82 rfl rfl (den n) [] [] [] [] [] (by kernel_rfl) trivial trivial (rs := rs) (by kernel_rfl) (by kernel_rfl) (by kernel_rfl) (by kernel_rfl) (by kernel_rfl) (fun _ => rfl) (fun _ _ => rfl) id (fun _ => rfl) (by intro x; kernel_rfl)
end slices_ContainsFunc_uint32_uint32_seal_right_1
namespace seal_right
@[reducible] def lin : List (Nat × CS) := [(0, .v (.pair (.pair (.int .i64) (.pair (.int .i64) (.pair (.int .i64) (.pair (.int .i64) .unit)))) (.pair (.int .i64) (.pair (.list (.list (.int .u32))) .unit))))]
@[reducible] def lout : List (Nat × CS) := [(2, .v .bool)]
noncomputable def ns : NS := nsOf Go.Proofs.Tryd.f65 lin lout
noncomputable def D (n : Nat) : FuncId → Nat → Option Den := lookD [((26, 0), stripe_Right.den n), ((28, 0), stripe_Blocks.den n), ((82, 84), slices_ContainsFunc_uint32_uint32_seal_right_1.den n)]
theorem hD (n : Nat) : DenOk Go.Proofs.Tryd.prog Ty.gl (D n) := lookD_ok ⟨stripe_Right.sat n, stripe_Blocks.sat n, slices_ContainsFunc_uint32_uint32_seal_right_1.sat n, trivial⟩
def rs : List ResultVar := [.tmp 2]
noncomputable def f (n : Nat) (x : CSs.den lin) : Option (CSs.den lout) := run Ty (D n) (mkH [] [] [] [] [(1000001, [(.normal, [(1, .box 32 [.v (.int .i64), .v (.int .i64), .v (.int .i64), .v (.int .i64), .v (.int .i64), .v (.list (.list (.int .u32)))]), (33, .v .bool)])])]) ns (cd Go.Proofs.Tryd.f65) (canon lin x) (retK Ty rs (Go.Func.ntmps Go.Proofs.Tryd.f65) lout id)
@[reducible] noncomputable def den (n : Nat) : Den := ⟨lin, lout, [2], [], CSs.den lout, f n, id⟩
theorem sat (n : Nat) : Sat Go.Proofs.Tryd.prog Ty.gl 65 (den n) := sat_is hTy (hD n) Go.Proofs.Tryd.func65 rfl rfl (den n) [] [] [] [] [(1000001, [(.normal, [(1, .box 32 [.v (.int .i64), .v (.int .i64), .v (.int .i64), .v (.int .i64), .v (.int .i64), .v (.list (.list (.int .u32)))]), (33, .v .bool)])])] (by kernel_rfl) trivial trivial (rs := rs) (by kernel_rfl) (by kernel_rfl) (by kernel_rfl) (by kernel_rfl) (by kernel_rfl) (fun _ => rfl) (fun _ _ => rfl) id (fun _ => rfl) (by intro x; kernel_rfl)
end seal_right
namespace seal_lay_int
@[reducible] def lin : List (Nat × CS) := [(0, .v (.list (.int .i64))), (1, .v (.int .i64))]
@[reducible] def lout : List (Nat × CS) := [(4, .own 5 (.int .u8))]
noncomputable def ns : NS := nsOf Go.Proofs.Tryd.f66 lin lout
noncomputable def D (n : Nat) : FuncId → Nat → Option Den := lookD [((60, 0), little_Put.den n)]
theorem hD (n : Nat) : DenOk Go.Proofs.Tryd.prog Ty.gl (D n) := lookD_ok ⟨little_Put.sat n, trivial⟩
@[reducible] def L0 : List (Nat × CS) := [(1, .v (.int .i64)), (5, .own 5 (.int .u8)), (8, .v (.list (.int .i64))), (9, .v (.int .i64)), (10, .v (.int .i64))]
@[reducible] def ws0 : List (Out × List (Nat × CS)) := [(.normal, [(5, .own 5 (.int .u8))])]
noncomputable def l0 (n m : Nat) : Nat → CSs.den L0 → Option (wayDen ws0)
  | 0, _ => none
  | k + 1, x => run Ty (D n) (mkH [] [] [] [] []) ns (lb Go.Proofs.Tryd.f66 0) (canon L0 x) (loopK 0 L0 (l0 n m k))
theorem l0_ok (n m : Nat) : HintOk Go.Proofs.Tryd.prog Ty.gl ns (.block 0 (.loop (lb Go.Proofs.Tryd.f66 0))) ⟨L0, ws0, l0 n m m⟩ :=
  loop_is hTy (hD n) [] [] [] [] [] (by kernel_rfl) trivial trivial L0 ws0 (fun _ => rfl) (ways_cons (fun _ => rfl) ways_nil) (l0 n m) (fun _ => rfl) (fun _ _ => rfl) m
def rs : List ResultVar := [.tmp 4]
noncomputable def f (n : Nat) (x : CSs.den lin) : Option (CSs.den lout) := run Ty (D n) (mkH [(0, ⟨L0, ws0, l0 n n n⟩)] [] [] [] []) ns (cd Go.Proofs.Tryd.f66) (canon lin x) (retK Ty rs (Go.Func.ntmps Go.Proofs.Tryd.f66) lout id)
@[reducible] noncomputable def den (n : Nat) : Den := ⟨lin, lout, [4], [none], CSs.den lout, f n, id⟩
theorem sat (n : Nat) : Sat Go.Proofs.Tryd.prog Ty.gl 66 (den n) := sat_is hTy (hD n) Go.Proofs.Tryd.func66 rfl rfl (den n) [(0, ⟨L0, ws0, l0 n n n⟩)] [] [] [] [] (by kernel_rfl) ⟨⟨_, by kernel_rfl, l0_ok n n⟩, trivial⟩ trivial (rs := rs) (by kernel_rfl) (by kernel_rfl) (by kernel_rfl) (by kernel_rfl) (by kernel_rfl) (fun _ => rfl) (fun _ _ => rfl) id (fun _ => rfl) (by intro x; kernel_rfl)
end seal_lay_int
namespace seal_lay_uint32
@[reducible] def lin : List (Nat × CS) := [(0, .v (.list (.int .u32))), (1, .v (.int .i64))]
@[reducible] def lout : List (Nat × CS) := [(4, .own 5 (.int .u8))]
noncomputable def ns : NS := nsOf Go.Proofs.Tryd.f67 lin lout
noncomputable def D (n : Nat) : FuncId → Nat → Option Den := lookD [((60, 0), little_Put.den n)]
theorem hD (n : Nat) : DenOk Go.Proofs.Tryd.prog Ty.gl (D n) := lookD_ok ⟨little_Put.sat n, trivial⟩
@[reducible] def L0 : List (Nat × CS) := [(1, .v (.int .i64)), (5, .own 5 (.int .u8)), (8, .v (.list (.int .u32))), (9, .v (.int .i64)), (10, .v (.int .i64))]
@[reducible] def ws0 : List (Out × List (Nat × CS)) := [(.normal, [(5, .own 5 (.int .u8))])]
noncomputable def l0 (n m : Nat) : Nat → CSs.den L0 → Option (wayDen ws0)
  | 0, _ => none
  | k + 1, x => run Ty (D n) (mkH [] [] [] [] []) ns (lb Go.Proofs.Tryd.f67 0) (canon L0 x) (loopK 0 L0 (l0 n m k))
theorem l0_ok (n m : Nat) : HintOk Go.Proofs.Tryd.prog Ty.gl ns (.block 0 (.loop (lb Go.Proofs.Tryd.f67 0))) ⟨L0, ws0, l0 n m m⟩ :=
  loop_is hTy (hD n) [] [] [] [] [] (by kernel_rfl) trivial trivial L0 ws0 (fun _ => rfl) (ways_cons (fun _ => rfl) ways_nil) (l0 n m) (fun _ => rfl) (fun _ _ => rfl) m
def rs : List ResultVar := [.tmp 4]
noncomputable def f (n : Nat) (x : CSs.den lin) : Option (CSs.den lout) := run Ty (D n) (mkH [(0, ⟨L0, ws0, l0 n n n⟩)] [] [] [] []) ns (cd Go.Proofs.Tryd.f67) (canon lin x) (retK Ty rs (Go.Func.ntmps Go.Proofs.Tryd.f67) lout id)
@[reducible] noncomputable def den (n : Nat) : Den := ⟨lin, lout, [4], [none], CSs.den lout, f n, id⟩
theorem sat (n : Nat) : Sat Go.Proofs.Tryd.prog Ty.gl 67 (den n) := sat_is hTy (hD n) Go.Proofs.Tryd.func67 rfl rfl (den n) [(0, ⟨L0, ws0, l0 n n n⟩)] [] [] [] [] (by kernel_rfl) ⟨⟨_, by kernel_rfl, l0_ok n n⟩, trivial⟩ trivial (rs := rs) (by kernel_rfl) (by kernel_rfl) (by kernel_rfl) (by kernel_rfl) (by kernel_rfl) (fun _ => rfl) (fun _ _ => rfl) id (fun _ => rfl) (by intro x; kernel_rfl)
end seal_lay_uint32
namespace seal_Write
@[reducible] def lin : List (Nat × CS) := [(0, .v (.pair (.pair (.int .i64) (.pair (.int .i64) (.pair (.int .i64) (.pair (.int .i64) .unit)))) (.pair (.int .i64) (.pair (.list (.list (.int .u32))) .unit)))), (1, .v (.list (.int .u8)))]
@[reducible] def lout : List (Nat × CS) := [(4, .own 5 (.int .u8)), (5, .v (.int .i64))]
noncomputable def ns : NS := nsOf Go.Proofs.Tryd.f41 lin lout
noncomputable def D (n : Nat) : FuncId → Nat → Option Den := lookD [((65, 0), seal_right.den n), ((29, 0), stripe_Long.den n), ((66, 0), seal_lay_int.den n), ((59, 0), slices_Concat_byte_byte.den n), ((67, 0), seal_lay_uint32.den n), ((51, 0), crc_Sum.den n), ((60, 0), little_Put.den n)]
theorem hD (n : Nat) : DenOk Go.Proofs.Tryd.prog Ty.gl (D n) := lookD_ok ⟨seal_right.sat n, stripe_Long.sat n, seal_lay_int.sat n, slices_Concat_byte_byte.sat n, seal_lay_uint32.sat n, crc_Sum.sat n, little_Put.sat n, trivial⟩
@[reducible] def L0 : List (Nat × CS) := [(1, .v (.list (.int .u8))), (6, .own 5 (.int .u8)), (44, .v (.list (.list (.int .u32)))), (45, .v (.int .i64)), (46, .v (.int .i64))]
@[reducible] def ws0 : List (Out × List (Nat × CS)) := [(.normal, [(1, .v (.list (.int .u8))), (6, .own 5 (.int .u8))])]
noncomputable def l0 (n m : Nat) : Nat → CSs.den L0 → Option (wayDen ws0)
  | 0, _ => none
  | k + 1, x => run Ty (D n) (mkH [] [] [] [] []) ns (lb Go.Proofs.Tryd.f41 0) (canon L0 x) (loopK 0 L0 (l0 n m k))
theorem l0_ok (n m : Nat) : HintOk Go.Proofs.Tryd.prog Ty.gl ns (.block 0 (.loop (lb Go.Proofs.Tryd.f41 0))) ⟨L0, ws0, l0 n m m⟩ :=
  loop_is hTy (hD n) [] [] [] [] [] (by kernel_rfl) trivial trivial L0 ws0 (fun _ => rfl) (ways_cons (fun _ => rfl) ways_nil) (l0 n m) (fun _ => rfl) (fun _ _ => rfl) m
def rs : List ResultVar := [.tmp 4, .tmp 5]
noncomputable def f (n : Nat) (x : CSs.den lin) : Option (CSs.den lout) := run Ty (D n) (mkH [(0, ⟨L0, ws0, l0 n n n⟩)] [(4, ⟨[2], [(.mem, 0), (.mem, 1), (.mem, 2), (.mem, 3), (.mem, 4), (.mem, 5), (.mem, 6), (.mem, 7), (.mem, 8), (.mem, 11), (.mem, 12), (.mem, 13), (.mem, 14), (.mem, 15), (.mem, 16), (.late, 17), (.step, 9), (.step, 10), (.sync, 0), (.step, 18), (.step, 19), (.step, 20), (.cur, 21)]⟩)] [] [] [(1000001, [(.normal, [(1, .v (.list (.int .u8))), (2, .box 32 [.v (.int .i64), .v (.int .i64), .v (.int .i64), .v (.int .i64), .v (.int .i64), .v (.list (.list (.int .u32)))]), (19, .v .bool)])])]) ns (cd Go.Proofs.Tryd.f41) (canon lin x) (retK Ty rs (Go.Func.ntmps Go.Proofs.Tryd.f41) lout id)
@[reducible] noncomputable def den (n : Nat) : Den := ⟨lin, lout, [4, 5], [none], CSs.den lout, f n, id⟩
theorem sat (n : Nat) : Sat Go.Proofs.Tryd.prog Ty.gl 41 (den n) := sat_is hTy (hD n) Go.Proofs.Tryd.func41 rfl rfl (den n) [(0, ⟨L0, ws0, l0 n n n⟩)] [(4, ⟨[2], [(.mem, 0), (.mem, 1), (.mem, 2), (.mem, 3), (.mem, 4), (.mem, 5), (.mem, 6), (.mem, 7), (.mem, 8), (.mem, 11), (.mem, 12), (.mem, 13), (.mem, 14), (.mem, 15), (.mem, 16), (.late, 17), (.step, 9), (.step, 10), (.sync, 0), (.step, 18), (.step, 19), (.step, 20), (.cur, 21)]⟩)] [] [] [(1000001, [(.normal, [(1, .v (.list (.int .u8))), (2, .box 32 [.v (.int .i64), .v (.int .i64), .v (.int .i64), .v (.int .i64), .v (.int .i64), .v (.list (.list (.int .u32)))]), (19, .v .bool)])])] (by kernel_rfl) ⟨⟨_, by kernel_rfl, l0_ok n n⟩, trivial⟩ trivial (rs := rs) (by kernel_rfl) (by kernel_rfl) (by kernel_rfl) (by kernel_rfl) (by kernel_rfl) (fun _ => rfl) (fun _ _ => rfl) id (fun _ => rfl) (by intro x; kernel_rfl)
end seal_Write
namespace damage_Set
@[reducible] def lin : List (Nat × CS) := [(0, .v (.list (.list (.int .u8)))), (1, .v (.int .i64)), (2, .v (.int .i64)), (3, .v (.int .i64))]
@[reducible] def lout : List (Nat × CS) := [(8, .own 57 (.pair .bool (.pair (.list (.int .u8)) .unit))), (9, .v (.int .i64))]
noncomputable def ns : NS := nsOf Go.Proofs.Tryd.f21 lin lout
noncomputable def D (n : Nat) : FuncId → Nat → Option Den := lookD [((26, 0), stripe_Right.den n), ((37, 0), stripe_Column.den n), ((38, 0), slices_Clone_byte_byte.den n), ((39, 0), stripe_Parity.den n), ((40, 0), seal_Sums.den n), ((41, 0), seal_Write.den n)]
theorem hD (n : Nat) : DenOk Go.Proofs.Tryd.prog Ty.gl (D n) := lookD_ok ⟨stripe_Right.sat n, stripe_Column.sat n, slices_Clone_byte_byte.sat n, stripe_Parity.sat n, seal_Sums.sat n, seal_Write.sat n, trivial⟩
@[reducible] def L0 : List (Nat × CS) := [(1, .v (.int .i64)), (2, .v (.int .i64)), (10, .box 24 [.v (.int .i64), .v (.int .i64), .v (.int .i64), .v (.int .i64)]), (11, .own 57 (.pair .bool (.pair (.list (.int .u8)) .unit))), (12, .own 52 (.list (.int .u8))), (33, .v (.list (.list (.int .u8)))), (34, .v (.int .i64)), (35, .v (.int .i64))]
@[reducible] def ws0 : List (Out × List (Nat × CS)) := [(.normal, [(1, .v (.int .i64)), (10, .box 24 [.v (.int .i64), .v (.int .i64), .v (.int .i64), .v (.int .i64)]), (11, .own 57 (.pair .bool (.pair (.list (.int .u8)) .unit))), (12, .own 52 (.list (.int .u8)))]), (.ret, [(8, .nil), (9, .v (.int .i64))])]
noncomputable def l0 (n m : Nat) : Nat → CSs.den L0 → Option (wayDen ws0)
  | 0, _ => none
  | k + 1, x => run (Ty.keepT [] [] [] [17] []) (D n) (mkH [] [] [] [] []) ns (lb Go.Proofs.Tryd.f21 0) (canon L0 x) (loopK 0 L0 (l0 n m k))
theorem l0_ok (n m : Nat) : HintOk Go.Proofs.Tryd.prog Ty.gl ns (.block 0 (.loop (lb Go.Proofs.Tryd.f21 0))) ⟨L0, ws0, l0 n m m⟩ :=
  loop_is (hTy.keep [] [] [] [17] []) (hD n) [] [] [] [] [] (by kernel_rfl) trivial trivial L0 ws0 (fun _ => rfl) (ways_cons (fun _ => rfl) (ways_cons (fun _ => rfl) ways_nil)) (l0 n m) (fun _ => rfl) (fun _ _ => rfl) m
@[reducible] def L3 : List (Nat × CS) := [(10, .box 24 [.v (.int .i64), .v (.int .i64), .v (.int .i64), .v (.int .i64)]), (11, .own 57 (.pair .bool (.pair (.list (.int .u8)) .unit))), (19, .v (.list (.list (.int .u32)))), (75, .v (.list (.list (.int .u8)))), (76, .v (.int .i64)), (77, .v (.int .i64))]
@[reducible] def ws3 : List (Out × List (Nat × CS)) := [(.normal, [(11, .own 57 (.pair .bool (.pair (.list (.int .u8)) .unit)))])]
noncomputable def l3 (n m : Nat) : Nat → CSs.den L3 → Option (wayDen ws3)
  | 0, _ => none
  | k + 1, x => run (Ty.keepT [] [] [] [17] []) (D n) (mkH [] [] [] [] []) ns (lb Go.Proofs.Tryd.f21 3) (canon L3 x) (loopK 3 L3 (l3 n m k))
theorem l3_ok (n m : Nat) : HintOk Go.Proofs.Tryd.prog Ty.gl ns (.block 3 (.loop (lb Go.Proofs.Tryd.f21 3))) ⟨L3, ws3, l3 n m m⟩ :=
  loop_is (hTy.keep [] [] [] [17] []) (hD n) [] [] [] [] [] (by kernel_rfl) trivial trivial L3 ws3 (fun _ => rfl) (ways_cons (fun _ => rfl) ways_nil) (l3 n m) (fun _ => rfl) (fun _ _ => rfl) m
def rs : List ResultVar := [.tmp 8, .tmp 9]
noncomputable def f (n : Nat) (x : CSs.den lin) : Option (CSs.den lout) := run (Ty.keepT [] [] [] [17] []) (D n) (mkH [(0, ⟨L0, ws0, l0 n n n⟩), (3, ⟨L3, ws3, l3 n n n⟩)] [(17, ⟨[10], [(.mem, 0), (.mem, 1), (.mem, 3), (.step, 2), (.step, 4), (.cur, 5)]⟩)] [] [] []) ns (cd Go.Proofs.Tryd.f21) (canon lin x) (retK (Ty.keepT [] [] [] [17] []) rs (Go.Func.ntmps Go.Proofs.Tryd.f21) lout id)
@[reducible] noncomputable def den (n : Nat) : Den := ⟨lin, lout, [8, 9], [none], CSs.den lout, f n, id⟩
theorem sat (n : Nat) : Sat Go.Proofs.Tryd.prog Ty.gl 21 (den n) := sat_is (hTy.keep [] [] [] [17] []) (hD n) Go.Proofs.Tryd.func21 rfl rfl (den n) [(0, ⟨L0, ws0, l0 n n n⟩), (3, ⟨L3, ws3, l3 n n n⟩)] [(17, ⟨[10], [(.mem, 0), (.mem, 1), (.mem, 3), (.step, 2), (.step, 4), (.cur, 5)]⟩)] [] [] [] (by kernel_rfl) ⟨⟨_, by kernel_rfl, l0_ok n n⟩, ⟨_, by kernel_rfl, l3_ok n n⟩, trivial⟩ trivial (rs := rs) (by kernel_rfl) (by kernel_rfl) (by kernel_rfl) (by kernel_rfl) (by kernel_rfl) (fun _ => rfl) (fun _ _ => rfl) id (fun _ => rfl) (by intro x; kernel_rfl)
end damage_Set
namespace seal_Head
@[reducible] def lin : List (Nat × CS) := [(0, .v (.pair (.int .i64) (.pair (.int .i64) (.pair (.int .i64) (.pair (.int .i64) .unit)))))]
@[reducible] def lout : List (Nat × CS) := [(2, .v (.int .i64))]
noncomputable def ns : NS := nsOf Go.Proofs.Tryd.f49 lin lout
noncomputable def D (n : Nat) : FuncId → Nat → Option Den := lookD [((26, 0), stripe_Right.den n), ((28, 0), stripe_Blocks.den n)]
theorem hD (n : Nat) : DenOk Go.Proofs.Tryd.prog Ty.gl (D n) := lookD_ok ⟨stripe_Right.sat n, stripe_Blocks.sat n, trivial⟩
def rs : List ResultVar := [.tmp 2]
noncomputable def f (n : Nat) (x : CSs.den lin) : Option (CSs.den lout) := run Ty (D n) (mkH [] [(3, ⟨[1], [(.mem, 0), (.mem, 1), (.mem, 2), (.mem, 3), (.mem, 4), (.mem, 5), (.mem, 6), (.step, 7), (.cur, 8), (.cur, 9), (.cur, 10), (.cur, 11)]⟩)] [] [] []) ns (cd Go.Proofs.Tryd.f49) (canon lin x) (retK Ty rs (Go.Func.ntmps Go.Proofs.Tryd.f49) lout id)
@[reducible] noncomputable def den (n : Nat) : Den := ⟨lin, lout, [2], [], CSs.den lout, f n, id⟩
theorem sat (n : Nat) : Sat Go.Proofs.Tryd.prog Ty.gl 49 (den n) := sat_is hTy (hD n) Go.Proofs.Tryd.func49 rfl rfl (den n) [] [(3, ⟨[1], [(.mem, 0), (.mem, 1), (.mem, 2), (.mem, 3), (.mem, 4), (.mem, 5), (.mem, 6), (.step, 7), (.cur, 8), (.cur, 9), (.cur, 10), (.cur, 11)]⟩)] [] [] [] (by kernel_rfl) trivial trivial (rs := rs) (by kernel_rfl) (by kernel_rfl) (by kernel_rfl) (by kernel_rfl) (by kernel_rfl) (fun _ => rfl) (fun _ _ => rfl) id (fun _ => rfl) (by intro x; kernel_rfl)
end seal_Head
namespace damage_column
@[reducible] def lin : List (Nat × CS) := [(0, .v (.pair .bool (.pair (.list (.int .u8)) .unit))), (1, .v (.pair (.int .i64) (.pair (.int .i64) (.pair (.int .i64) (.pair (.int .i64) .unit))))), (2, .v (.int .i64))]
@[reducible] def lout : List (Nat × CS) := [(6, .v (.nl (.int .u8)))]
noncomputable def ns : NS := nsOf Go.Proofs.Tryd.f27 lin lout
noncomputable def D (n : Nat) : FuncId → Nat → Option Den := lookD [((29, 0), stripe_Long.den n), ((49, 0), seal_Head.den n), ((38, 0), slices_Clone_byte_byte.den n), ((37, 0), stripe_Column.den n)]
theorem hD (n : Nat) : DenOk Go.Proofs.Tryd.prog Ty.gl (D n) := lookD_ok ⟨stripe_Long.sat n, seal_Head.sat n, slices_Clone_byte_byte.sat n, stripe_Column.sat n, trivial⟩
def rs : List ResultVar := [.tmp 6]
noncomputable def f (n : Nat) (x : CSs.den lin) : Option (CSs.den lout) := run (Ty.keepT [] [(6, (.int .u8))]) (D n) (mkH [] [(1, ⟨[4], [(.mem, 0), (.mem, 2), (.step, 1), (.step, 3), (.cur, 4), (.cur, 5)]⟩)] [] [] [(1000004, [(.normal, [(2, .v (.int .i64)), (3, .box 57 [.v .bool, .v (.list (.int .u8))]), (4, .box 24 [.v (.int .i64), .v (.int .i64), .v (.int .i64), .v (.int .i64)]), (8, .v (.int .i64)), (19, .v .bool)])]), (1000006, [(.normal, [(3, .box 57 [.v .bool, .v (.list (.int .u8))]), (4, .box 24 [.v (.int .i64), .v (.int .i64), .v (.int .i64), .v (.int .i64)]), (38, .v .bool)])])]) ns (cd Go.Proofs.Tryd.f27) (canon lin x) (retK (Ty.keepT [] [(6, (.int .u8))]) rs (Go.Func.ntmps Go.Proofs.Tryd.f27) lout id)
@[reducible] noncomputable def den (n : Nat) : Den := ⟨lin, lout, [6], [], CSs.den lout, f n, id⟩
theorem sat (n : Nat) : Sat Go.Proofs.Tryd.prog Ty.gl 27 (den n) := sat_is (hTy.keep [] [(6, (.int .u8))]) (hD n) Go.Proofs.Tryd.func27 rfl rfl (den n) [] [(1, ⟨[4], [(.mem, 0), (.mem, 2), (.step, 1), (.step, 3), (.cur, 4), (.cur, 5)]⟩)] [] [] [(1000004, [(.normal, [(2, .v (.int .i64)), (3, .box 57 [.v .bool, .v (.list (.int .u8))]), (4, .box 24 [.v (.int .i64), .v (.int .i64), .v (.int .i64), .v (.int .i64)]), (8, .v (.int .i64)), (19, .v .bool)])]), (1000006, [(.normal, [(3, .box 57 [.v .bool, .v (.list (.int .u8))]), (4, .box 24 [.v (.int .i64), .v (.int .i64), .v (.int .i64), .v (.int .i64)]), (38, .v .bool)])])] (by kernel_rfl) trivial trivial (rs := rs) (by kernel_rfl) (by kernel_rfl) (by kernel_rfl) (by kernel_rfl) (by kernel_rfl) (fun _ => rfl) (fun _ _ => rfl) id (fun _ => rfl) (by intro x; kernel_rfl)
end damage_column
namespace damage_Columns_own
@[reducible] def lin : List (Nat × CS) := [(0, .own 57 (.pair .bool (.pair (.list (.int .u8)) .unit))), (1, .v (.pair (.int .i64) (.pair (.int .i64) (.pair (.int .i64) (.pair (.int .i64) .unit)))))]
@[reducible] def lout : List (Nat × CS) := [(0, .own 57 (.pair .bool (.pair (.list (.int .u8)) .unit))), (4, .own 52 (.list (.int .u8))), (5, .own 4 .bool)]
noncomputable def ns : NS := nsOf Go.Proofs.Tryd.f14 lin lout
noncomputable def D (n : Nat) : FuncId → Nat → Option Den := lookD [((26, 0), stripe_Right.den n), ((27, 0), damage_column.den n)]
theorem hD (n : Nat) : DenOk Go.Proofs.Tryd.prog Ty.gl (D n) := lookD_ok ⟨stripe_Right.sat n, damage_column.sat n, trivial⟩
@[reducible] def L0 : List (Nat × CS) := [(0, .own 57 (.pair .bool (.pair (.list (.int .u8)) .unit))), (3, .box 24 [.v (.int .i64), .v (.int .i64), .v (.int .i64), .v (.int .i64)]), (4, .own 52 (.list (.int .u8))), (5, .own 4 .bool), (16, .v (.int .i64)), (17, .v (.int .i64))]
@[reducible] def ws0 : List (Out × List (Nat × CS)) := [(.normal, [(0, .own 57 (.pair .bool (.pair (.list (.int .u8)) .unit))), (4, .own 52 (.list (.int .u8))), (5, .own 4 .bool)])]
noncomputable def l0 (n m : Nat) : Nat → CSs.den L0 → Option (wayDen ws0)
  | 0, _ => none
  | k + 1, x => run Ty (D n) (mkH [] [] [] [] [(23, [(.normal, [(0, .own 57 (.pair .bool (.pair (.list (.int .u8)) .unit))), (3, .box 24 [.v (.int .i64), .v (.int .i64), .v (.int .i64), .v (.int .i64)]), (4, .own 52 (.list (.int .u8))), (5, .own 4 .bool), (6, .v (.int .i64)), (7, .box 57 [.v .bool, .v (.list (.int .u8))]), (16, .v (.int .i64)), (17, .v (.int .i64))])])]) ns (lb Go.Proofs.Tryd.f14 0) (canon L0 x) (loopK 0 L0 (l0 n m k))
theorem l0_ok (n m : Nat) : HintOk Go.Proofs.Tryd.prog Ty.gl ns (.block 0 (.loop (lb Go.Proofs.Tryd.f14 0))) ⟨L0, ws0, l0 n m m⟩ :=
  loop_is hTy (hD n) [] [] [] [] [(23, [(.normal, [(0, .own 57 (.pair .bool (.pair (.list (.int .u8)) .unit))), (3, .box 24 [.v (.int .i64), .v (.int .i64), .v (.int .i64), .v (.int .i64)]), (4, .own 52 (.list (.int .u8))), (5, .own 4 .bool), (6, .v (.int .i64)), (7, .box 57 [.v .bool, .v (.list (.int .u8))]), (16, .v (.int .i64)), (17, .v (.int .i64))])])] (by kernel_rfl) trivial trivial L0 ws0 (fun _ => rfl) (ways_cons (fun _ => rfl) ways_nil) (l0 n m) (fun _ => rfl) (fun _ _ => rfl) m
def rs : List ResultVar := [.tmp 4, .tmp 5]
noncomputable def f (n : Nat) (x : CSs.den lin) : Option (CSs.den lout) := run Ty (D n) (mkH [(0, ⟨L0, ws0, l0 n n n⟩)] [] [] [] [(23, [(.normal, [(0, .own 57 (.pair .bool (.pair (.list (.int .u8)) .unit))), (3, .box 24 [.v (.int .i64), .v (.int .i64), .v (.int .i64), .v (.int .i64)]), (4, .own 52 (.list (.int .u8))), (5, .own 4 .bool), (6, .v (.int .i64)), (7, .box 57 [.v .bool, .v (.list (.int .u8))]), (16, .v (.int .i64)), (17, .v (.int .i64))])])]) ns (cd Go.Proofs.Tryd.f14) (canon lin x) (retK Ty rs (Go.Func.ntmps Go.Proofs.Tryd.f14) lout id)
@[reducible] noncomputable def den (n : Nat) : Den := ⟨lin, lout, [4, 5], [some (.inl 0), none, none], CSs.den lout, f n, id⟩
theorem sat (n : Nat) : Sat Go.Proofs.Tryd.prog Ty.gl 14 (den n) := sat_is hTy (hD n) Go.Proofs.Tryd.func14 rfl rfl (den n) [(0, ⟨L0, ws0, l0 n n n⟩)] [] [] [] [(23, [(.normal, [(0, .own 57 (.pair .bool (.pair (.list (.int .u8)) .unit))), (3, .box 24 [.v (.int .i64), .v (.int .i64), .v (.int .i64), .v (.int .i64)]), (4, .own 52 (.list (.int .u8))), (5, .own 4 .bool), (6, .v (.int .i64)), (7, .box 57 [.v .bool, .v (.list (.int .u8))]), (16, .v (.int .i64)), (17, .v (.int .i64))])])] (by kernel_rfl) ⟨⟨_, by kernel_rfl, l0_ok n n⟩, trivial⟩ trivial (rs := rs) (by kernel_rfl) (by kernel_rfl) (by kernel_rfl) (by kernel_rfl) (by kernel_rfl) (fun _ => rfl) (fun _ _ => rfl) id (fun _ => rfl) (by intro x; kernel_rfl)
end damage_Columns_own
namespace little_Read
@[reducible] def lin : List (Nat × CS) := [(0, .v (.list (.int .u8)))]
@[reducible] def lout : List (Nat × CS) := [(2, .box 115 [.v (.list (.int .u8)), .v (.int .i64), .v .bool])]
noncomputable def ns : NS := nsOf Go.Proofs.Tryd.f46 lin lout
noncomputable def D (n : Nat) : FuncId → Nat → Option Den := lookD []
theorem hD (n : Nat) : DenOk Go.Proofs.Tryd.prog Ty.gl (D n) := lookD_ok trivial
def rs : List ResultVar := [.tmp 2]
noncomputable def f (n : Nat) (x : CSs.den lin) : Option (CSs.den lout) := run Ty (D n) (mkH [] [] [] [] []) ns (cd Go.Proofs.Tryd.f46) (canon lin x) (retK Ty rs (Go.Func.ntmps Go.Proofs.Tryd.f46) lout id)
@[reducible] noncomputable def den (n : Nat) : Den := ⟨lin, lout, [2], [none], CSs.den lout, f n, id⟩
theorem sat (n : Nat) : Sat Go.Proofs.Tryd.prog Ty.gl 46 (den n) := sat_is hTy (hD n) Go.Proofs.Tryd.func46 rfl rfl (den n) [] [] [] [] [] (by kernel_rfl) trivial trivial (rs := rs) (by kernel_rfl) (by kernel_rfl) (by kernel_rfl) (by kernel_rfl) (by kernel_rfl) (fun _ => rfl) (fun _ _ => rfl) id (fun _ => rfl) (by intro x; kernel_rfl)
end little_Read
namespace little_Reader_Left
@[reducible] def lin : List (Nat × CS) := [(0, .box 115 [.v (.list (.int .u8)), .v (.int .i64), .v .bool])]
@[reducible] def lout : List (Nat × CS) := [(0, .box 115 [.v (.list (.int .u8)), .v (.int .i64), .v .bool]), (2, .v (.int .i64))]
noncomputable def ns : NS := nsOf Go.Proofs.Tryd.f74 lin lout
noncomputable def D (n : Nat) : FuncId → Nat → Option Den := lookD []
theorem hD (n : Nat) : DenOk Go.Proofs.Tryd.prog Ty.gl (D n) := lookD_ok trivial
def rs : List ResultVar := [.tmp 2]
noncomputable def f (n : Nat) (x : CSs.den lin) : Option (CSs.den lout) := run Ty (D n) (mkH [] [(1, ⟨[0], [(.mem, 0), (.mem, 1), (.mem, 2), (.mem, 3), (.mem, 4), (.mem, 5), (.mem, 6), (.mem, 7), (.mem, 8), (.mem, 9), (.mem, 10)]⟩)] [] [] []) ns (cd Go.Proofs.Tryd.f74) (canon lin x) (retK Ty rs (Go.Func.ntmps Go.Proofs.Tryd.f74) lout id)
@[reducible] noncomputable def den (n : Nat) : Den := ⟨lin, lout, [2], [some (.inr 0)], CSs.den lout, f n, id⟩
theorem sat (n : Nat) : Sat Go.Proofs.Tryd.prog Ty.gl 74 (den n) := sat_is hTy (hD n) Go.Proofs.Tryd.func74 rfl rfl (den n) [] [(1, ⟨[0], [(.mem, 0), (.mem, 1), (.mem, 2), (.mem, 3), (.mem, 4), (.mem, 5), (.mem, 6), (.mem, 7), (.mem, 8), (.mem, 9), (.mem, 10)]⟩)] [] [] [] (by kernel_rfl) trivial trivial (rs := rs) (by kernel_rfl) (by kernel_rfl) (by kernel_rfl) (by kernel_rfl) (by kernel_rfl) (fun _ => rfl) (fun _ _ => rfl) id (fun _ => rfl) (by intro x; kernel_rfl)
end little_Reader_Left
namespace little_Reader_Bytes
@[reducible] def lin : List (Nat × CS) := [(0, .box 115 [.v (.list (.int .u8)), .v (.int .i64), .v .bool]), (1, .v (.int .i64))]
@[reducible] def lout : List (Nat × CS) := [(0, .box 115 [.v (.list (.int .u8)), .v (.int .i64), .v .bool]), (4, .own 5 (.int .u8))]
noncomputable def ns : NS := nsOf Go.Proofs.Tryd.f47 lin lout
noncomputable def D (n : Nat) : FuncId → Nat → Option Den := lookD [((74, 0), little_Reader_Left.den n), ((38, 0), slices_Clone_byte_byte.den n)]
theorem hD (n : Nat) : DenOk Go.Proofs.Tryd.prog Ty.gl (D n) := lookD_ok ⟨little_Reader_Left.sat n, slices_Clone_byte_byte.sat n, trivial⟩
def rs : List ResultVar := [.tmp 4]
noncomputable def f (n : Nat) (x : CSs.den lin) : Option (CSs.den lout) := run Ty (D n) (mkH [] [(6, ⟨[0], [(.mem, 0), (.mem, 1), (.mem, 2), (.mem, 3), (.mem, 4), (.mem, 5), (.mem, 6), (.mem, 7), (.mem, 8), (.mem, 9), (.mem, 10), (.mem, 11), (.mem, 12), (.mem, 13), (.mem, 14), (.step, 15), (.cur, 16)]⟩)] [] [] []) ns (cd Go.Proofs.Tryd.f47) (canon lin x) (retK Ty rs (Go.Func.ntmps Go.Proofs.Tryd.f47) lout id)
@[reducible] noncomputable def den (n : Nat) : Den := ⟨lin, lout, [4], [some (.inr 0), none], CSs.den lout, f n, id⟩
theorem sat (n : Nat) : Sat Go.Proofs.Tryd.prog Ty.gl 47 (den n) := sat_is hTy (hD n) Go.Proofs.Tryd.func47 rfl rfl (den n) [] [(6, ⟨[0], [(.mem, 0), (.mem, 1), (.mem, 2), (.mem, 3), (.mem, 4), (.mem, 5), (.mem, 6), (.mem, 7), (.mem, 8), (.mem, 9), (.mem, 10), (.mem, 11), (.mem, 12), (.mem, 13), (.mem, 14), (.step, 15), (.cur, 16)]⟩)] [] [] [] (by kernel_rfl) trivial trivial (rs := rs) (by kernel_rfl) (by kernel_rfl) (by kernel_rfl) (by kernel_rfl) (by kernel_rfl) (fun _ => rfl) (fun _ _ => rfl) id (fun _ => rfl) (by intro x; kernel_rfl)
end little_Reader_Bytes
namespace little_Get
@[reducible] def lin : List (Nat × CS) := [(0, .v (.list (.int .u8)))]
@[reducible] def lout : List (Nat × CS) := [(2, .v (.int .u64))]
noncomputable def ns : NS := nsOf Go.Proofs.Tryd.f75 lin lout
noncomputable def D (n : Nat) : FuncId → Nat → Option Den := lookD []
theorem hD (n : Nat) : DenOk Go.Proofs.Tryd.prog Ty.gl (D n) := lookD_ok trivial
@[reducible] def L0 : List (Nat × CS) := [(0, .v (.list (.int .u8))), (3, .v (.int .u64)), (4, .v (.int .i64))]
@[reducible] def ws0 : List (Out × List (Nat × CS)) := [(.normal, [(3, .v (.int .u64))])]
noncomputable def l0 (n m : Nat) : Nat → CSs.den L0 → Option (wayDen ws0)
  | 0, _ => none
  | k + 1, x => run Ty (D n) (mkH [] [] [] [] []) ns (lb Go.Proofs.Tryd.f75 0) (canon L0 x) (loopK 0 L0 (l0 n m k))
theorem l0_ok (n m : Nat) : HintOk Go.Proofs.Tryd.prog Ty.gl ns (.block 0 (.loop (lb Go.Proofs.Tryd.f75 0))) ⟨L0, ws0, l0 n m m⟩ :=
  loop_is hTy (hD n) [] [] [] [] [] (by kernel_rfl) trivial trivial L0 ws0 (fun _ => rfl) (ways_cons (fun _ => rfl) ways_nil) (l0 n m) (fun _ => rfl) (fun _ _ => rfl) m
def rs : List ResultVar := [.tmp 2]
noncomputable def f (n : Nat) (x : CSs.den lin) : Option (CSs.den lout) := run Ty (D n) (mkH [(0, ⟨L0, ws0, l0 n n n⟩)] [] [] [] []) ns (cd Go.Proofs.Tryd.f75) (canon lin x) (retK Ty rs (Go.Func.ntmps Go.Proofs.Tryd.f75) lout id)
@[reducible] noncomputable def den (n : Nat) : Den := ⟨lin, lout, [2], [], CSs.den lout, f n, id⟩
theorem sat (n : Nat) : Sat Go.Proofs.Tryd.prog Ty.gl 75 (den n) := sat_is hTy (hD n) Go.Proofs.Tryd.func75 rfl rfl (den n) [(0, ⟨L0, ws0, l0 n n n⟩)] [] [] [] [] (by kernel_rfl) ⟨⟨_, by kernel_rfl, l0_ok n n⟩, trivial⟩ trivial (rs := rs) (by kernel_rfl) (by kernel_rfl) (by kernel_rfl) (by kernel_rfl) (by kernel_rfl) (fun _ => rfl) (fun _ _ => rfl) id (fun _ => rfl) (by intro x; kernel_rfl)
end little_Get
namespace little_Reader_Num
@[reducible] def lin : List (Nat × CS) := [(0, .box 115 [.v (.list (.int .u8)), .v (.int .i64), .v .bool]), (1, .v (.int .i64))]
@[reducible] def lout : List (Nat × CS) := [(0, .box 115 [.v (.list (.int .u8)), .v (.int .i64), .v .bool]), (4, .v (.int .u64))]
noncomputable def ns : NS := nsOf Go.Proofs.Tryd.f48 lin lout
noncomputable def D (n : Nat) : FuncId → Nat → Option Den := lookD [((76, 0), little_held.den n), ((47, 0), little_Reader_Bytes.den n), ((75, 0), little_Get.den n)]
theorem hD (n : Nat) : DenOk Go.Proofs.Tryd.prog Ty.gl (D n) := lookD_ok ⟨little_held.sat n, little_Reader_Bytes.sat n, little_Get.sat n, trivial⟩
def rs : List ResultVar := [.tmp 4]
noncomputable def f (n : Nat) (x : CSs.den lin) : Option (CSs.den lout) := run Ty (D n) (mkH [] [] [] [] []) ns (cd Go.Proofs.Tryd.f48) (canon lin x) (retK Ty rs (Go.Func.ntmps Go.Proofs.Tryd.f48) lout id)
@[reducible] noncomputable def den (n : Nat) : Den := ⟨lin, lout, [4], [some (.inr 0)], CSs.den lout, f n, id⟩
theorem sat (n : Nat) : Sat Go.Proofs.Tryd.prog Ty.gl 48 (den n) := sat_is hTy (hD n) Go.Proofs.Tryd.func48 rfl rfl (den n) [] [] [] [] [] (by kernel_rfl) trivial trivial (rs := rs) (by kernel_rfl) (by kernel_rfl) (by kernel_rfl) (by kernel_rfl) (by kernel_rfl) (fun _ => rfl) (fun _ _ => rfl) id (fun _ => rfl) (by intro x; kernel_rfl)
end little_Reader_Num
namespace seal_sums
@[reducible] def lin : List (Nat × CS) := [(0, .box 115 [.v (.list (.int .u8)), .v (.int .i64), .v .bool]), (1, .v (.pair (.int .i64) (.pair (.int .i64) (.pair (.int .i64) (.pair (.int .i64) .unit)))))]
@[reducible] def lout : List (Nat × CS) := [(0, .box 115 [.v (.list (.int .u8)), .v (.int .i64), .v .bool]), (4, .v (.list (.list (.int .u32))))]
noncomputable def ns : NS := nsOf Go.Proofs.Tryd.f50 lin lout
noncomputable def D (n : Nat) : FuncId → Nat → Option Den := lookD [((28, 0), stripe_Blocks.den n), ((48, 0), little_Reader_Num.den n)]
theorem hD (n : Nat) : DenOk Go.Proofs.Tryd.prog Ty.gl (D n) := lookD_ok ⟨stripe_Blocks.sat n, little_Reader_Num.sat n, trivial⟩
@[reducible] def L2 : List (Nat × CS) := [(0, .box 115 [.v (.list (.int .u8)), .v (.int .i64), .v .bool]), (5, .own 66 (.list (.int .u32))), (6, .v (.int .i64)), (7, .own 70 (.int .u32)), (15, .v (.int .i64)), (16, .v (.int .i64)), (21, .v (.int .i64)), (22, .v (.int .i64))]
@[reducible] def ws2 : List (Out × List (Nat × CS)) := [(.normal, [(0, .box 115 [.v (.list (.int .u8)), .v (.int .i64), .v .bool]), (5, .own 66 (.list (.int .u32))), (6, .v (.int .i64)), (7, .own 70 (.int .u32)), (15, .v (.int .i64)), (16, .v (.int .i64))])]
noncomputable def l2 (n m : Nat) : Nat → CSs.den L2 → Option (wayDen ws2)
  | 0, _ => none
  | k + 1, x => run Ty (D n) (mkH [] [] [] [] []) ns (lb Go.Proofs.Tryd.f50 2) (canon L2 x) (loopK 2 L2 (l2 n m k))
theorem l2_ok (n m : Nat) : HintOk Go.Proofs.Tryd.prog Ty.gl ns (.block 2 (.loop (lb Go.Proofs.Tryd.f50 2))) ⟨L2, ws2, l2 n m m⟩ :=
  loop_is hTy (hD n) [] [] [] [] [] (by kernel_rfl) trivial trivial L2 ws2 (fun _ => rfl) (ways_cons (fun _ => rfl) ways_nil) (l2 n m) (fun _ => rfl) (fun _ _ => rfl) m
@[reducible] def L0 : List (Nat × CS) := [(0, .box 115 [.v (.list (.int .u8)), .v (.int .i64), .v .bool]), (5, .own 66 (.list (.int .u32))), (6, .v (.int .i64)), (15, .v (.int .i64)), (16, .v (.int .i64))]
@[reducible] def ws0 : List (Out × List (Nat × CS)) := [(.normal, [(0, .box 115 [.v (.list (.int .u8)), .v (.int .i64), .v .bool]), (5, .own 66 (.list (.int .u32)))])]
noncomputable def l0 (n m : Nat) : Nat → CSs.den L0 → Option (wayDen ws0)
  | 0, _ => none
  | k + 1, x => run Ty (D n) (mkH [(2, ⟨L2, ws2, l2 n m m⟩)] [] [] [] []) ns (lb Go.Proofs.Tryd.f50 0) (canon L0 x) (loopK 0 L0 (l0 n m k))
theorem l0_ok (n m : Nat) : HintOk Go.Proofs.Tryd.prog Ty.gl ns (.block 0 (.loop (lb Go.Proofs.Tryd.f50 0))) ⟨L0, ws0, l0 n m m⟩ :=
  loop_is hTy (hD n) [(2, ⟨L2, ws2, l2 n m m⟩)] [] [] [] [] (by kernel_rfl) ⟨⟨_, by kernel_rfl, l2_ok n m⟩, trivial⟩ trivial L0 ws0 (fun _ => rfl) (ways_cons (fun _ => rfl) ways_nil) (l0 n m) (fun _ => rfl) (fun _ _ => rfl) m
def rs : List ResultVar := [.tmp 4]
noncomputable def f (n : Nat) (x : CSs.den lin) : Option (CSs.den lout) := run Ty (D n) (mkH [(0, ⟨L0, ws0, l0 n n n⟩), (2, ⟨L2, ws2, l2 n n n⟩)] [] [] [] []) ns (cd Go.Proofs.Tryd.f50) (canon lin x) (retK Ty rs (Go.Func.ntmps Go.Proofs.Tryd.f50) lout id)
@[reducible] noncomputable def den (n : Nat) : Den := ⟨lin, lout, [4], [some (.inr 0)], CSs.den lout, f n, id⟩
theorem sat (n : Nat) : Sat Go.Proofs.Tryd.prog Ty.gl 50 (den n) := sat_is hTy (hD n) Go.Proofs.Tryd.func50 rfl rfl (den n) [(0, ⟨L0, ws0, l0 n n n⟩), (2, ⟨L2, ws2, l2 n n n⟩)] [] [] [] [] (by kernel_rfl) ⟨⟨_, by kernel_rfl, l0_ok n n⟩, ⟨_, by kernel_rfl, l2_ok n n⟩, trivial⟩ trivial (rs := rs) (by kernel_rfl) (by kernel_rfl) (by kernel_rfl) (by kernel_rfl) (by kernel_rfl) (fun _ => rfl) (fun _ _ => rfl) id (fun _ => rfl) (by intro x; kernel_rfl)
end seal_sums
namespace little_Reader_Rest
@[reducible] def lin : List (Nat × CS) := [(0, .box 115 [.v (.list (.int .u8)), .v (.int .i64), .v .bool])]
@[reducible] def lout : List (Nat × CS) := [(0, .box 115 [.v (.list (.int .u8)), .v (.int .i64), .v .bool]), (2, .own 5 (.int .u8))]
noncomputable def ns : NS := nsOf Go.Proofs.Tryd.f52 lin lout
noncomputable def D (n : Nat) : FuncId → Nat → Option Den := lookD [((74, 0), little_Reader_Left.den n), ((47, 0), little_Reader_Bytes.den n)]
theorem hD (n : Nat) : DenOk Go.Proofs.Tryd.prog Ty.gl (D n) := lookD_ok ⟨little_Reader_Left.sat n, little_Reader_Bytes.sat n, trivial⟩
def rs : List ResultVar := [.tmp 2]
noncomputable def f (n : Nat) (x : CSs.den lin) : Option (CSs.den lout) := run Ty (D n) (mkH [] [] [] [] []) ns (cd Go.Proofs.Tryd.f52) (canon lin x) (retK Ty rs (Go.Func.ntmps Go.Proofs.Tryd.f52) lout id)
@[reducible] noncomputable def den (n : Nat) : Den := ⟨lin, lout, [2], [some (.inr 0), none], CSs.den lout, f n, id⟩
theorem sat (n : Nat) : Sat Go.Proofs.Tryd.prog Ty.gl 52 (den n) := sat_is hTy (hD n) Go.Proofs.Tryd.func52 rfl rfl (den n) [] [] [] [] [] (by kernel_rfl) trivial trivial (rs := rs) (by kernel_rfl) (by kernel_rfl) (by kernel_rfl) (by kernel_rfl) (by kernel_rfl) (fun _ => rfl) (fun _ _ => rfl) id (fun _ => rfl) (by intro x; kernel_rfl)
end little_Reader_Rest
namespace seal_Parse
@[reducible] def lin : List (Nat × CS) := [(0, .v (.list (.int .u8)))]
@[reducible] def lout : List (Nat × CS) := [(107, .v (.pair (.pair (.int .i64) (.pair (.int .i64) (.pair (.int .i64) (.pair (.int .i64) .unit)))) (.pair (.int .i64) (.pair (.list (.list (.int .u32))) .unit)))), (3, .own 5 (.int .u8)), (4, .v (.int .i64))]
noncomputable def ns : NS := nsOf Go.Proofs.Tryd.f23 lin lout
noncomputable def D (n : Nat) : FuncId → Nat → Option Den := lookD [((46, 0), little_Read.den n), ((47, 0), little_Reader_Bytes.den n), ((48, 0), little_Reader_Num.den n), ((49, 0), seal_Head.den n), ((50, 0), seal_sums.den n), ((29, 0), stripe_Long.den n), ((51, 0), crc_Sum.den n), ((52, 0), little_Reader_Rest.den n)]
theorem hD (n : Nat) : DenOk Go.Proofs.Tryd.prog Ty.gl (D n) := lookD_ok ⟨little_Read.sat n, little_Reader_Bytes.sat n, little_Reader_Num.sat n, seal_Head.sat n, seal_sums.sat n, stripe_Long.sat n, crc_Sum.sat n, little_Reader_Rest.sat n, trivial⟩
def rs : List ResultVar := [.cell 2 32, .tmp 3, .tmp 4]
noncomputable def f (n : Nat) (x : CSs.den lin) : Option (CSs.den lout) := run Ty (D n) (mkH [] [(23, ⟨[7], [(.mem, 0), (.mem, 1), (.step, 2), (.step, 3), (.cur, 4), (.mem, 5)]⟩)] [] [] [(1000010, [(.normal, [(0, .v (.list (.int .u8))), (2, .box 32 [.v (.int .i64), .v (.int .i64), .v (.int .i64), .v (.int .i64), .v (.int .i64), .v (.list (.list (.int .u32)))]), (5, .box 115 [.v (.list (.int .u8)), .v (.int .i64), .v .bool]), (7, .box 32 [.v (.int .i64), .v (.int .i64), .v (.int .i64), .v (.int .i64), .v (.int .i64), .v (.list (.list (.int .u32)))]), (8, .v (.int .i64)), (48, .v .bool)])])]) ns (cd Go.Proofs.Tryd.f23) (canon lin x) (retK Ty rs (Go.Func.ntmps Go.Proofs.Tryd.f23) lout id)
@[reducible] noncomputable def den (n : Nat) : Den := ⟨lin, lout, [107, 3, 4], [none], CSs.den lout, f n, id⟩
theorem sat (n : Nat) : Sat Go.Proofs.Tryd.prog Ty.gl 23 (den n) := sat_is hTy (hD n) Go.Proofs.Tryd.func23 rfl rfl (den n) [] [(23, ⟨[7], [(.mem, 0), (.mem, 1), (.step, 2), (.step, 3), (.cur, 4), (.mem, 5)]⟩)] [] [] [(1000010, [(.normal, [(0, .v (.list (.int .u8))), (2, .box 32 [.v (.int .i64), .v (.int .i64), .v (.int .i64), .v (.int .i64), .v (.int .i64), .v (.list (.list (.int .u32)))]), (5, .box 115 [.v (.list (.int .u8)), .v (.int .i64), .v .bool]), (7, .box 32 [.v (.int .i64), .v (.int .i64), .v (.int .i64), .v (.int .i64), .v (.int .i64), .v (.list (.list (.int .u32)))]), (8, .v (.int .i64)), (48, .v .bool)])])] (by kernel_rfl) trivial trivial (rs := rs) (by kernel_rfl) (by kernel_rfl) (by kernel_rfl) (by kernel_rfl) (by kernel_rfl) (fun _ => rfl) (fun _ _ => rfl) id (fun _ => rfl) (by intro x; kernel_rfl)
end seal_Parse
namespace damage_Find_own
@[reducible] def lin : List (Nat × CS) := [(0, .own 57 (.pair .bool (.pair (.list (.int .u8)) .unit)))]
@[reducible] def lout : List (Nat × CS) := [(0, .own 57 (.pair .bool (.pair (.list (.int .u8)) .unit))), (41, .v (.pair (.pair (.int .i64) (.pair (.int .i64) (.pair (.int .i64) (.pair (.int .i64) .unit)))) (.pair (.int .i64) (.pair (.list (.list (.int .u32))) .unit)))), (3, .v .bool)]
noncomputable def ns : NS := nsOf Go.Proofs.Tryd.f9 lin lout
noncomputable def D (n : Nat) : FuncId → Nat → Option Den := lookD [((23, 0), seal_Parse.den n)]
theorem hD (n : Nat) : DenOk Go.Proofs.Tryd.prog Ty.gl (D n) := lookD_ok ⟨seal_Parse.sat n, trivial⟩
@[reducible] def L0 : List (Nat × CS) := [(0, .own 57 (.pair .bool (.pair (.list (.int .u8)) .unit))), (2, .box 32 [.v (.int .i64), .v (.int .i64), .v (.int .i64), .v (.int .i64), .v (.int .i64), .v (.list (.list (.int .u32)))]), (9, .ra 0), (10, .v (.int .i64)), (11, .v (.int .i64))]
@[reducible] def ws0 : List (Out × List (Nat × CS)) := [(.ret, [(0, .own 57 (.pair .bool (.pair (.list (.int .u8)) .unit))), (2, .box 32 [.v (.int .i64), .v (.int .i64), .v (.int .i64), .v (.int .i64), .v (.int .i64), .v (.list (.list (.int .u32)))]), (3, .v .bool)]), (.normal, [(0, .own 57 (.pair .bool (.pair (.list (.int .u8)) .unit))), (2, .box 32 [.v (.int .i64), .v (.int .i64), .v (.int .i64), .v (.int .i64), .v (.int .i64), .v (.list (.list (.int .u32)))])])]
noncomputable def l0 (n m : Nat) : Nat → CSs.den L0 → Option (wayDen ws0)
  | 0, _ => none
  | k + 1, x => run Ty (D n) (mkH [] [] [] [] [(1000006, [(.normal, [(0, .own 57 (.pair .bool (.pair (.list (.int .u8)) .unit))), (2, .box 32 [.v (.int .i64), .v (.int .i64), .v (.int .i64), .v (.int .i64), .v (.int .i64), .v (.list (.list (.int .u32)))]), (6, .box 32 [.v (.int .i64), .v (.int .i64), .v (.int .i64), .v (.int .i64), .v (.int .i64), .v (.list (.list (.int .u32)))]), (9, .ra 0), (10, .v (.int .i64)), (11, .v (.int .i64)), (37, .v .bool)])])]) ns (lb Go.Proofs.Tryd.f9 0) (canon L0 x) (loopK 0 L0 (l0 n m k))
theorem l0_ok (n m : Nat) : HintOk Go.Proofs.Tryd.prog Ty.gl ns (.block 0 (.loop (lb Go.Proofs.Tryd.f9 0))) ⟨L0, ws0, l0 n m m⟩ :=
  loop_is hTy (hD n) [] [] [] [] [(1000006, [(.normal, [(0, .own 57 (.pair .bool (.pair (.list (.int .u8)) .unit))), (2, .box 32 [.v (.int .i64), .v (.int .i64), .v (.int .i64), .v (.int .i64), .v (.int .i64), .v (.list (.list (.int .u32)))]), (6, .box 32 [.v (.int .i64), .v (.int .i64), .v (.int .i64), .v (.int .i64), .v (.int .i64), .v (.list (.list (.int .u32)))]), (9, .ra 0), (10, .v (.int .i64)), (11, .v (.int .i64)), (37, .v .bool)])])] (by kernel_rfl) trivial trivial L0 ws0 (fun _ => rfl) (ways_cons (fun _ => rfl) (ways_cons (fun _ => rfl) ways_nil)) (l0 n m) (fun _ => rfl) (fun _ _ => rfl) m
def rs : List ResultVar := [.cell 2 32, .tmp 3]
noncomputable def f (n : Nat) (x : CSs.den lin) : Option (CSs.den lout) := run Ty (D n) (mkH [(0, ⟨L0, ws0, l0 n n n⟩)] [] [] [] [(1000006, [(.normal, [(0, .own 57 (.pair .bool (.pair (.list (.int .u8)) .unit))), (2, .box 32 [.v (.int .i64), .v (.int .i64), .v (.int .i64), .v (.int .i64), .v (.int .i64), .v (.list (.list (.int .u32)))]), (6, .box 32 [.v (.int .i64), .v (.int .i64), .v (.int .i64), .v (.int .i64), .v (.int .i64), .v (.list (.list (.int .u32)))]), (9, .ra 0), (10, .v (.int .i64)), (11, .v (.int .i64)), (37, .v .bool)])])]) ns (cd Go.Proofs.Tryd.f9) (canon lin x) (retK Ty rs (Go.Func.ntmps Go.Proofs.Tryd.f9) lout id)
@[reducible] noncomputable def den (n : Nat) : Den := ⟨lin, lout, [41, 3], [some (.inl 0)], CSs.den lout, f n, id⟩
theorem sat (n : Nat) : Sat Go.Proofs.Tryd.prog Ty.gl 9 (den n) := sat_is hTy (hD n) Go.Proofs.Tryd.func9 rfl rfl (den n) [(0, ⟨L0, ws0, l0 n n n⟩)] [] [] [] [(1000006, [(.normal, [(0, .own 57 (.pair .bool (.pair (.list (.int .u8)) .unit))), (2, .box 32 [.v (.int .i64), .v (.int .i64), .v (.int .i64), .v (.int .i64), .v (.int .i64), .v (.list (.list (.int .u32)))]), (6, .box 32 [.v (.int .i64), .v (.int .i64), .v (.int .i64), .v (.int .i64), .v (.int .i64), .v (.list (.list (.int .u32)))]), (9, .ra 0), (10, .v (.int .i64)), (11, .v (.int .i64)), (37, .v .bool)])])] (by kernel_rfl) ⟨⟨_, by kernel_rfl, l0_ok n n⟩, trivial⟩ trivial (rs := rs) (by kernel_rfl) (by kernel_rfl) (by kernel_rfl) (by kernel_rfl) (by kernel_rfl) (fun _ => rfl) (fun _ _ => rfl) id (fun _ => rfl) (by intro x; kernel_rfl)
end damage_Find_own
end Go.Proofs.YtlioalaehkohlaaDoor.Vm
