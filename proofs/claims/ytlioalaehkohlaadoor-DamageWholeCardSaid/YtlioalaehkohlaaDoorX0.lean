/- Functions of the Go program as Lean functions, by the machine. Written by a program. -/
import Derived.Test.YtlioalaehkohlaaDoorXt
import Derived.Lib.SliceRun
import Derived.Test.YtlioalaehkohlaaDoorN5
import Derived.Test.YtlioalaehkohlaaDoorVH
import Derived.WalkKit
namespace Go.Proofs.YtlioalaehkohlaaDoor.Vm
open Go Go.RowKit
set_option linter.unusedVariables false
set_option linter.unusedSimpArgs false
set_option maxRecDepth 100000
namespace crc_Update
@[reducible] def lin : List (Nat × CS) := [(0, .v (.int .u32)), (1, .v (.list (.int .u8)))]
@[reducible] def lout : List (Nat × CS) := [(4, .v (.int .u32))]
noncomputable def ns : NS := nsOf Go.Proofs.Tryd.f77 lin lout
noncomputable def D (n : Nat) : FuncId → Nat → Option Den := lookD []
theorem hD (n : Nat) : DenOk Go.Proofs.Tryd.prog Ty.gl (D n) := lookD_ok trivial
@[reducible] def L0 : List (Nat × CS) := [(0, .v (.int .u32)), (9, .v (.list (.int .u8))), (10, .v (.int .i64)), (11, .v (.int .i64))]
@[reducible] def ws0 : List (Out × List (Nat × CS)) := [(.normal, [(0, .v (.int .u32))])]
noncomputable def l0 (n m : Nat) : Nat → CSs.den L0 → Option (wayDen ws0)
  | 0, _ => none
  | k + 1, x => run Ty (D n) (mkH [] [] [] [] []) ns (lb Go.Proofs.Tryd.f77 0) (canon L0 x) (loopK 0 L0 (l0 n m k))
theorem l0_ok (n m : Nat) : HintOk Go.Proofs.Tryd.prog Ty.gl ns (.block 0 (.loop (lb Go.Proofs.Tryd.f77 0))) ⟨L0, ws0, l0 n m m⟩ :=
  loop_is hTy (hD n) [] [] [] [] [] (by kernel_rfl) trivial trivial L0 ws0 (fun _ => rfl) (ways_cons (fun _ => rfl) ways_nil) (l0 n m) (fun _ => rfl) (fun _ _ => rfl) m
def rs : List ResultVar := [.tmp 4]
noncomputable def f (n : Nat) (x : CSs.den lin) : Option (CSs.den lout) := run Ty (D n) (mkH [(0, ⟨L0, ws0, l0 n n n⟩)] [] [] [] []) ns (cd Go.Proofs.Tryd.f77) (canon lin x) (retK Ty rs (Go.Func.ntmps Go.Proofs.Tryd.f77) lout id)
@[reducible] noncomputable def den (n : Nat) : Den := ⟨lin, lout, [4], [], CSs.den lout, f n, id⟩
theorem sat (n : Nat) : Sat Go.Proofs.Tryd.prog Ty.gl 77 (den n) := sat_is hTy (hD n) Go.Proofs.Tryd.func77 rfl rfl (den n) [(0, ⟨L0, ws0, l0 n n n⟩)] [] [] [] [] (by kernel_rfl) ⟨⟨_, by kernel_rfl, l0_ok n n⟩, trivial⟩ trivial (rs := rs) (by kernel_rfl) (by kernel_rfl) (by kernel_rfl) (by kernel_rfl) (by kernel_rfl) (fun _ => rfl) (fun _ _ => rfl) id (fun _ => rfl) (by intro x; kernel_rfl)
end crc_Update
namespace crc_Sum
@[reducible] def lin : List (Nat × CS) := [(0, .v (.list (.int .u8)))]
@[reducible] def lout : List (Nat × CS) := [(2, .v (.int .u32))]
noncomputable def ns : NS := nsOf Go.Proofs.Tryd.f51 lin lout
noncomputable def D (n : Nat) : FuncId → Nat → Option Den := lookD [((77, 0), crc_Update.den n)]
theorem hD (n : Nat) : DenOk Go.Proofs.Tryd.prog Ty.gl (D n) := lookD_ok ⟨crc_Update.sat n, trivial⟩
def rs : List ResultVar := [.tmp 2]
noncomputable def f (n : Nat) (x : CSs.den lin) : Option (CSs.den lout) := run Ty (D n) (mkH [] [] [] [] []) ns (cd Go.Proofs.Tryd.f51) (canon lin x) (retK Ty rs (Go.Func.ntmps Go.Proofs.Tryd.f51) lout id)
@[reducible] noncomputable def den (n : Nat) : Den := ⟨lin, lout, [2], [], CSs.den lout, f n, id⟩
theorem sat (n : Nat) : Sat Go.Proofs.Tryd.prog Ty.gl 51 (den n) := sat_is hTy (hD n) Go.Proofs.Tryd.func51 rfl rfl (den n) [] [] [] [] [] (by kernel_rfl) trivial trivial (rs := rs) (by kernel_rfl) (by kernel_rfl) (by kernel_rfl) (by kernel_rfl) (by kernel_rfl) (fun _ => rfl) (fun _ _ => rfl) id (fun _ => rfl) (by intro x; kernel_rfl)
end crc_Sum
namespace stripe_sized
@[reducible] def lin : List (Nat × CS) := [(0, .v (.int .i64))]
@[reducible] def lout : List (Nat × CS) := [(2, .v .bool)]
noncomputable def ns : NS := nsOf Go.Proofs.Tryd.f54 lin lout
noncomputable def D (n : Nat) : FuncId → Nat → Option Den := lookD []
theorem hD (n : Nat) : DenOk Go.Proofs.Tryd.prog Ty.gl (D n) := lookD_ok trivial
def rs : List ResultVar := [.tmp 2]
noncomputable def f (n : Nat) (x : CSs.den lin) : Option (CSs.den lout) := run Ty (D n) (mkH [] [] [] [] []) ns (cd Go.Proofs.Tryd.f54) (canon lin x) (retK Ty rs (Go.Func.ntmps Go.Proofs.Tryd.f54) lout id)
@[reducible] noncomputable def den (n : Nat) : Den := ⟨lin, lout, [2], [], CSs.den lout, f n, id⟩
theorem sat (n : Nat) : Sat Go.Proofs.Tryd.prog Ty.gl 54 (den n) := sat_is hTy (hD n) Go.Proofs.Tryd.func54 rfl rfl (den n) [] [] [] [] [] (by kernel_rfl) trivial trivial (rs := rs) (by kernel_rfl) (by kernel_rfl) (by kernel_rfl) (by kernel_rfl) (by kernel_rfl) (fun _ => rfl) (fun _ _ => rfl) id (fun _ => rfl) (by intro x; kernel_rfl)
end stripe_sized
namespace stripe_Right
@[reducible] def lin : List (Nat × CS) := [(0, .v (.pair (.int .i64) (.pair (.int .i64) (.pair (.int .i64) (.pair (.int .i64) .unit)))))]
@[reducible] def lout : List (Nat × CS) := [(2, .v .bool)]
noncomputable def ns : NS := nsOf Go.Proofs.Tryd.f26 lin lout
noncomputable def D (n : Nat) : FuncId → Nat → Option Den := lookD [((54, 0), stripe_sized.den n)]
theorem hD (n : Nat) : DenOk Go.Proofs.Tryd.prog Ty.gl (D n) := lookD_ok ⟨stripe_sized.sat n, trivial⟩
def rs : List ResultVar := [.tmp 2]
noncomputable def f (n : Nat) (x : CSs.den lin) : Option (CSs.den lout) := run Ty (D n) (mkH [] [] [] [] []) ns (cd Go.Proofs.Tryd.f26) (canon lin x) (retK Ty rs (Go.Func.ntmps Go.Proofs.Tryd.f26) lout id)
@[reducible] noncomputable def den (n : Nat) : Den := ⟨lin, lout, [2], [], CSs.den lout, f n, id⟩
theorem sat (n : Nat) : Sat Go.Proofs.Tryd.prog Ty.gl 26 (den n) := sat_is hTy (hD n) Go.Proofs.Tryd.func26 rfl rfl (den n) [] [] [] [] [] (by kernel_rfl) trivial trivial (rs := rs) (by kernel_rfl) (by kernel_rfl) (by kernel_rfl) (by kernel_rfl) (by kernel_rfl) (fun _ => rfl) (fun _ _ => rfl) id (fun _ => rfl) (by intro x; kernel_rfl)
end stripe_Right
namespace little_held
@[reducible] def lin : List (Nat × CS) := [(0, .v (.int .i64))]
@[reducible] def lout : List (Nat × CS) := [(2, .v (.int .i64))]
noncomputable def ns : NS := nsOf Go.Proofs.Tryd.f76 lin lout
noncomputable def D (n : Nat) : FuncId → Nat → Option Den := lookD []
theorem hD (n : Nat) : DenOk Go.Proofs.Tryd.prog Ty.gl (D n) := lookD_ok trivial
def rs : List ResultVar := [.tmp 2]
noncomputable def f (n : Nat) (x : CSs.den lin) : Option (CSs.den lout) := run Ty (D n) (mkH [] [] [] [] []) ns (cd Go.Proofs.Tryd.f76) (canon lin x) (retK Ty rs (Go.Func.ntmps Go.Proofs.Tryd.f76) lout id)
@[reducible] noncomputable def den (n : Nat) : Den := ⟨lin, lout, [2], [], CSs.den lout, f n, id⟩
theorem sat (n : Nat) : Sat Go.Proofs.Tryd.prog Ty.gl 76 (den n) := sat_is hTy (hD n) Go.Proofs.Tryd.func76 rfl rfl (den n) [] [] [] [] [] (by kernel_rfl) trivial trivial (rs := rs) (by kernel_rfl) (by kernel_rfl) (by kernel_rfl) (by kernel_rfl) (by kernel_rfl) (fun _ => rfl) (fun _ _ => rfl) id (fun _ => rfl) (by intro x; kernel_rfl)
end little_held
namespace little_Put
@[reducible] def lin : List (Nat × CS) := [(0, .v (.int .u64)), (1, .v (.int .i64))]
@[reducible] def lout : List (Nat × CS) := [(4, .v (.list (.int .u8)))]
noncomputable def ns : NS := nsOf Go.Proofs.Tryd.f60 lin lout
noncomputable def D (n : Nat) : FuncId → Nat → Option Den := lookD [((76, 0), little_held.den n)]
theorem hD (n : Nat) : DenOk Go.Proofs.Tryd.prog Ty.gl (D n) := lookD_ok ⟨little_held.sat n, trivial⟩
@[reducible] def L0 : List (Nat × CS) := [(0, .v (.int .u64)), (5, .own 5 (.int .u8)), (7, .v (.int .i64)), (8, .v (.int .i64))]
@[reducible] def ws0 : List (Out × List (Nat × CS)) := [(.normal, [(5, .own 5 (.int .u8))])]
noncomputable def l0 (n m : Nat) : Nat → CSs.den L0 → Option (wayDen ws0)
  | 0, _ => none
  | k + 1, x => run Ty (D n) (mkH [] [] [] [] []) ns (lb Go.Proofs.Tryd.f60 0) (canon L0 x) (loopK 0 L0 (l0 n m k))
theorem l0_ok (n m : Nat) : HintOk Go.Proofs.Tryd.prog Ty.gl ns (.block 0 (.loop (lb Go.Proofs.Tryd.f60 0))) ⟨L0, ws0, l0 n m m⟩ :=
  loop_is hTy (hD n) [] [] [] [] [] (by kernel_rfl) trivial trivial L0 ws0 (fun _ => rfl) (ways_cons (fun _ => rfl) ways_nil) (l0 n m) (fun _ => rfl) (fun _ _ => rfl) m
def rs : List ResultVar := [.tmp 4]
noncomputable def f (n : Nat) (x : CSs.den lin) : Option (CSs.den lout) := run Ty (D n) (mkH [(0, ⟨L0, ws0, l0 n n n⟩)] [] [] [] []) ns (cd Go.Proofs.Tryd.f60) (canon lin x) (retK Ty rs (Go.Func.ntmps Go.Proofs.Tryd.f60) lout id)
@[reducible] noncomputable def den (n : Nat) : Den := ⟨lin, lout, [4], [], CSs.den lout, f n, id⟩
theorem sat (n : Nat) : Sat Go.Proofs.Tryd.prog Ty.gl 60 (den n) := sat_is hTy (hD n) Go.Proofs.Tryd.func60 rfl rfl (den n) [(0, ⟨L0, ws0, l0 n n n⟩)] [] [] [] [] (by kernel_rfl) ⟨⟨_, by kernel_rfl, l0_ok n n⟩, trivial⟩ trivial (rs := rs) (by kernel_rfl) (by kernel_rfl) (by kernel_rfl) (by kernel_rfl) (by kernel_rfl) (fun _ => rfl) (fun _ _ => rfl) id (fun _ => rfl) (by intro x; kernel_rfl)
end little_Put
namespace slices_Grow_byte_byte
@[reducible] def lin : List (Nat × CS) := [(0, .nil), (1, .v (.int .i64))]
@[reducible] def lout : List (Nat × CS) := [(4, .own 5 (.int .u8))]
noncomputable def ns : NS := nsOf Go.Proofs.Tryd.f80 lin lout
noncomputable def D (n : Nat) : FuncId → Nat → Option Den := lookD []
theorem hD (n : Nat) : DenOk Go.Proofs.Tryd.prog Ty.gl (D n) := lookD_ok trivial
def rs : List ResultVar := [.tmp 4]
noncomputable def f (n : Nat) (x : CSs.den lin) : Option (CSs.den lout) := run (Ty.keepT [25] []) (D n) (mkH [] [] [] [] []) ns (cd Go.Proofs.Tryd.f80) (canon lin x) (retK (Ty.keepT [25] []) rs (Go.Func.ntmps Go.Proofs.Tryd.f80) lout id)
@[reducible] noncomputable def den (n : Nat) : Den := ⟨lin, lout, [4], [none], CSs.den lout, f n, id⟩
theorem sat (n : Nat) : Sat Go.Proofs.Tryd.prog Ty.gl 80 (den n) := sat_is (hTy.keep [25] []) (hD n) Go.Proofs.Tryd.func80 rfl rfl (den n) [] [] [] [] [] (by kernel_rfl) trivial trivial (rs := rs) (by kernel_rfl) (by kernel_rfl) (by kernel_rfl) (by kernel_rfl) (by kernel_rfl) (fun _ => rfl) (fun _ _ => rfl) id (fun _ => rfl) (by intro x; kernel_rfl)
end slices_Grow_byte_byte
namespace slices_Concat_byte_byte
@[reducible] def lin : List (Nat × CS) := [(0, .v (.list (.list (.int .u8))))]
@[reducible] def lout : List (Nat × CS) := [(2, .own 5 (.int .u8))]
noncomputable def ns : NS := nsOf Go.Proofs.Tryd.f59 lin lout
noncomputable def D (n : Nat) : FuncId → Nat → Option Den := lookD [((80, 0), slices_Grow_byte_byte.den n)]
theorem hD (n : Nat) : DenOk Go.Proofs.Tryd.prog Ty.gl (D n) := lookD_ok ⟨slices_Grow_byte_byte.sat n, trivial⟩
@[reducible] def L0 : List (Nat × CS) := [(0, .v (.list (.list (.int .u8)))), (3, .v (.int .i64)), (9, .v (.list (.list (.int .u8)))), (10, .v (.int .i64)), (11, .v (.int .i64))]
@[reducible] def ws0 : List (Out × List (Nat × CS)) := [(.normal, [(0, .v (.list (.list (.int .u8)))), (3, .v (.int .i64))])]
noncomputable def l0 (n m : Nat) : Nat → CSs.den L0 → Option (wayDen ws0)
  | 0, _ => none
  | k + 1, x => run Ty (D n) (mkH [] [] [] [] []) ns (lb Go.Proofs.Tryd.f59 0) (canon L0 x) (loopK 0 L0 (l0 n m k))
theorem l0_ok (n m : Nat) : HintOk Go.Proofs.Tryd.prog Ty.gl ns (.block 0 (.loop (lb Go.Proofs.Tryd.f59 0))) ⟨L0, ws0, l0 n m m⟩ :=
  loop_is hTy (hD n) [] [] [] [] [] (by kernel_rfl) trivial trivial L0 ws0 (fun _ => rfl) (ways_cons (fun _ => rfl) ways_nil) (l0 n m) (fun _ => rfl) (fun _ _ => rfl) m
@[reducible] def L2 : List (Nat × CS) := [(6, .own 5 (.int .u8)), (25, .v (.list (.list (.int .u8)))), (26, .v (.int .i64)), (27, .v (.int .i64))]
@[reducible] def ws2 : List (Out × List (Nat × CS)) := [(.normal, [(6, .own 5 (.int .u8))])]
noncomputable def l2 (n m : Nat) : Nat → CSs.den L2 → Option (wayDen ws2)
  | 0, _ => none
  | k + 1, x => run Ty (D n) (mkH [] [] [] [] []) ns (lb Go.Proofs.Tryd.f59 2) (canon L2 x) (loopK 2 L2 (l2 n m k))
theorem l2_ok (n m : Nat) : HintOk Go.Proofs.Tryd.prog Ty.gl ns (.block 2 (.loop (lb Go.Proofs.Tryd.f59 2))) ⟨L2, ws2, l2 n m m⟩ :=
  loop_is hTy (hD n) [] [] [] [] [] (by kernel_rfl) trivial trivial L2 ws2 (fun _ => rfl) (ways_cons (fun _ => rfl) ways_nil) (l2 n m) (fun _ => rfl) (fun _ _ => rfl) m
def rs : List ResultVar := [.tmp 2]
noncomputable def f (n : Nat) (x : CSs.den lin) : Option (CSs.den lout) := run Ty (D n) (mkH [(0, ⟨L0, ws0, l0 n n n⟩), (2, ⟨L2, ws2, l2 n n n⟩)] [] [] [] []) ns (cd Go.Proofs.Tryd.f59) (canon lin x) (retK Ty rs (Go.Func.ntmps Go.Proofs.Tryd.f59) lout id)
@[reducible] noncomputable def den (n : Nat) : Den := ⟨lin, lout, [2], [none], CSs.den lout, f n, id⟩
theorem sat (n : Nat) : Sat Go.Proofs.Tryd.prog Ty.gl 59 (den n) := sat_is hTy (hD n) Go.Proofs.Tryd.func59 rfl rfl (den n) [(0, ⟨L0, ws0, l0 n n n⟩), (2, ⟨L2, ws2, l2 n n n⟩)] [] [] [] [] (by kernel_rfl) ⟨⟨_, by kernel_rfl, l0_ok n n⟩, ⟨_, by kernel_rfl, l2_ok n n⟩, trivial⟩ trivial (rs := rs) (by kernel_rfl) (by kernel_rfl) (by kernel_rfl) (by kernel_rfl) (by kernel_rfl) (fun _ => rfl) (fun _ _ => rfl) id (fun _ => rfl) (by intro x; kernel_rfl)
end slices_Concat_byte_byte
namespace stripe_Column
@[reducible] def lin : List (Nat × CS) := [(0, .v (.list (.int .u8))), (1, .v (.int .i64))]
@[reducible] def lout : List (Nat × CS) := [(4, .v (.nl (.int .u8))), (5, .v (.int .i64))]
noncomputable def ns : NS := nsOf Go.Proofs.Tryd.f37 lin lout
noncomputable def D (n : Nat) : FuncId → Nat → Option Den := lookD [((54, 0), stripe_sized.den n), ((60, 0), little_Put.den n), ((59, 0), slices_Concat_byte_byte.den n)]
theorem hD (n : Nat) : DenOk Go.Proofs.Tryd.prog Ty.gl (D n) := lookD_ok ⟨stripe_sized.sat n, little_Put.sat n, slices_Concat_byte_byte.sat n, trivial⟩
def rs : List ResultVar := [.tmp 4, .tmp 5]
noncomputable def f (n : Nat) (x : CSs.den lin) : Option (CSs.den lout) := run (Ty.keepT [] [(4, (.int .u8))]) (D n) (mkH [] [(5, ⟨[], [(.mem, 0), (.mem, 1), (.mem, 2), (.mem, 4), (.mem, 5), (.mem, 6), (.mem, 7), (.mem, 8), (.late, 3), (.step, 9), (.sync, 0), (.step, 10), (.step, 11), (.cur, 12), (.mem, 13)]⟩)] [] [] []) ns (cd Go.Proofs.Tryd.f37) (canon lin x) (retK (Ty.keepT [] [(4, (.int .u8))]) rs (Go.Func.ntmps Go.Proofs.Tryd.f37) lout id)
@[reducible] noncomputable def den (n : Nat) : Den := ⟨lin, lout, [4, 5], [], CSs.den lout, f n, id⟩
theorem sat (n : Nat) : Sat Go.Proofs.Tryd.prog Ty.gl 37 (den n) := sat_is (hTy.keep [] [(4, (.int .u8))]) (hD n) Go.Proofs.Tryd.func37 rfl rfl (den n) [] [(5, ⟨[], [(.mem, 0), (.mem, 1), (.mem, 2), (.mem, 4), (.mem, 5), (.mem, 6), (.mem, 7), (.mem, 8), (.late, 3), (.step, 9), (.sync, 0), (.step, 10), (.step, 11), (.cur, 12), (.mem, 13)]⟩)] [] [] [] (by kernel_rfl) trivial trivial (rs := rs) (by kernel_rfl) (by kernel_rfl) (by kernel_rfl) (by kernel_rfl) (by kernel_rfl) (fun _ => rfl) (fun _ _ => rfl) id (fun _ => rfl) (by intro x; kernel_rfl)
end stripe_Column
namespace slices_Clone_byte_byte
@[reducible] def lin : List (Nat × CS) := [(0, .v (.list (.int .u8)))]
@[reducible] def lout : List (Nat × CS) := [(2, .own 5 (.int .u8))]
noncomputable def ns : NS := nsOf Go.Proofs.Tryd.f38 lin lout
noncomputable def D (n : Nat) : FuncId → Nat → Option Den := lookD []
theorem hD (n : Nat) : DenOk Go.Proofs.Tryd.prog Ty.gl (D n) := lookD_ok trivial
def rs : List ResultVar := [.tmp 2]
def st (x : CSs.den lin) : St := (canon lin x).set 0 (.one (.nn (.int .u8) x.1))
def f (n : Nat) (x : CSs.den lin) : Option (CSs.den lout) := if (List.length x.1 : Int) ≤ lim then some (x.1, ()) else none
theorem run_eq (n : Nat) (x : CSs.den lin) : run Ty (D n) (mkH [] [] [] [] []) ns (cd Go.Proofs.Tryd.f38) (st x) (retK Ty rs (Go.Func.ntmps Go.Proofs.Tryd.f38) lout id) = if (0 : Int) + (List.length x.1 : Int) ≤ lim then some (([] : List (Ki.den (.int .u8))) ++ x.1, ()) else none := rfl
@[reducible] noncomputable def den (n : Nat) : Den := ⟨lin, lout, [2], [none], CSs.den lout, f n, id⟩
theorem sat (n : Nat) : Sat Go.Proofs.Tryd.prog Ty.gl 38 (den n) := by
  refine ⟨fun w F own vs E x ra hvl hw hrel hlive hx => ?_, Go.Proofs.Tryd.f38, Go.Proofs.Tryd.func38, rfl, rfl⟩
  have hs : VRv E.w (E.F (callCtx Go.Proofs.Tryd.prog w F own Ty.gl ⟨vs.length, []⟩ noAg)) (.list (.int .u8)) x.1 (vs.toArray.getD 0 undef) := hrel.slots 0
  obtain ⟨A, c, hv, hl, hm, hh⟩ := list_cells hs
  have hfx : (List.length x.1 : Int) ≤ lim ∧ ra = (x.1, ()) := by
    have : (if (List.length x.1 : Int) ≤ lim then some (x.1, ()) else none) = some ra := hx
    split at this
    · rename_i hc; exact ⟨hc, (Option.some.inj this).symm⟩
    · cases this
  obtain ⟨hlim, rfl⟩ := hfx
  cases A with
  | some ad =>
    refine call_of_run hTy (hD n) Go.Proofs.Tryd.func38 rfl (den n) (rs := rs) (by kernel_rfl) (by kernel_rfl) (by kernel_rfl) (by kernel_rfl) (Nat.le_of_ble_eq_true (by kernel_rfl)) (fun _ => (show (0 : Nat) ≤ 1000 by omega)) (fun _ _ => rfl) (c := cd Go.Proofs.Tryd.f38) (H := mkH [] [] [] [] []) (hints_of (by kernel_rfl) trivial trivial) id (fun _ => rfl) hvl hw hrel hlive ⟨st x, fun C' a' h ht hP => ?_, fun id hid hlv => ?_, ?_⟩
    · have h0 := h.slots 0
      exact { h with
        slots := fun t => by
          show SLR C' E (sel t 0 (.one (.nn (.int .u8) x.1)) ((canon lin x).sl t)) _
          rw [sel_eq]
          by_cases h0t : t = 0
          · subst h0t
            rw [if_pos rfl]
            exact ⟨h0, ad, _, c, by rw [ht]; exact hv⟩
          · rw [if_neg h0t]; exact h.slots t
        rows := h.rows
        boxes := h.boxes
        idr := h.idr
        idb := h.idb }
    · exact fresh_canon (x := x) hlive (by show (0 : Nat) ≤ 1000; omega) id hid hlv
    · exact (run_eq n x).trans (by rw [if_pos (by rw [Int.zero_add]; exact hlim), List.nil_append])
  | none =>
    have hx0 : x.1 = [] := by
      rcases hh with ⟨h0, _⟩ | ⟨b, o, cs, h0, _⟩
      · exact h0
      · cases h0
    have hvs : vs = [.slice none 0 c] := by
      match vs, hvl, hv with
      | [v], _, hv =>
        have : v = .slice none x.1.length c := hv
        rw [this, hx0]; rfl
    subst hw
    have hcall : Calls Go.Proofs.Tryd.prog 38 vs.toArray E.w (fun e w' => e = .returned (.slice none 0 0) ∧ w' = E.w) := by
      rw [hvs]
      have heq := fun (w : World) => Lib.run_eql_slice_nil (P := Go.Proofs.Tryd.prog) w 52 5 none 0 c 0 0 Go.Proofs.Tryd.underlying52
      simp only [Option.isNone_none] at heq
      go_enter Go.Proofs.Tryd.func38, Go.Proofs.Tryd.ntmps38
      go_wp2
      go_ret
      exact ⟨rfl, rfl⟩
    refine hcall.mono ?_
    rintro e w' ⟨rfl, rfl⟩
    obtain ⟨us, hus⟩ : ∃ us : List Value, us = List.replicate 50 (.slice none 0 0) := ⟨_, rfl⟩
    refine ⟨_, us, ⟨fun b => none, fun _ => .slice none 0 0, fun _ => 0, E.w, fun j => j = 0⟩, rfl, rfl, by rw [hus]; rfl, ?_, fun id hid => by have : id = 0 := hid; subst this; show 0 < 1; omega, fun j i => ⟨fun h => ?_, fun h => ?_⟩⟩
    · have hgl : ∀ b, E.F (callCtx Go.Proofs.Tryd.prog E.w F own Ty.gl ⟨vs.length, []⟩ noAg) b → Env.F (callCtx Go.Proofs.Tryd.prog E.w F own Ty.gl ⟨us.length, []⟩ noAg) ⟨fun b => none, fun _ => .slice none 0 0, fun _ => 0, E.w, fun j => j = 0⟩ b ∧ E.w.heap[b]? = E.w.heap[b]? := fun b hb => ⟨⟨rfl, hb.2⟩, rfl⟩
      refine {
        slots := fun t => ?_
        rows := fun id r hr => ?_
        boxes := fun id b hb => ?_
        nests := fun id n hn => by
          have h0 := canon_nest hn
          match id, h0 with
          | 0, h0 => simp [canL, csV] at h0
          | id + 1, h0 => simp [canL, csV] at h0
        idn := fun id n hn => by
          have h0 := canon_nest hn
          match id, h0 with
          | 0, h0 => simp [canL, csV] at h0
          | id + 1, h0 => simp [canL, csV] at h0
        ownlt := fun b o ho => by cases ho
        keep := ⟨rfl, rfl, rfl, Nat.le_refl _, fun _ _ _ => rfl⟩
        size := by show (List.toArray us).size = us.length; simp
        arg := fun t ht => by cases (show false = true from ht)
        defers := rfl
        idr := fun id r hr => ?_
        idb := fun id b hb => ?_
        glob := fun g v hv => by
          obtain ⟨e1, e2⟩ := hrel.glob g v hv
          refine ⟨(hgl g e1).1, fun i y hy => ?_⟩
          obtain ⟨ds, f1, f2⟩ := e2 i y hy
          exact ⟨ds, f1.mono hgl, f2⟩ }
      · by_cases ht : t = 2
        · subst ht
          refine ⟨rfl, ?_⟩
          show us.toArray.getD 2 undef = .slice none 0 0
          rw [hus]; rfl
        · show SLR _ _ (match look (canL lout (x.1, ()) 0).1 t with | some s => s | none => .one .undef) _
          have : look (canL lout (x.1, ()) 0).1 t = none := by
            show look [(2, SL.one (.row 0))] t = none
            unfold look
            have hb : Nat.beq 2 t = false := by cases hb : Nat.beq 2 t <;> first | rfl | exact absurd (Nat.eq_of_beq_eq_true hb).symm ht
            rw [hb]; rfl
          rw [this]; trivial
      · have h0 := canon_row hr
        match id, h0 with
        | 0, h0 =>
          have : (⟨5, (.int .u8), x.1, false⟩ : RowC) = r := by have := h0; simp only [canL, csV, List.append_nil, List.getElem?_cons_zero, Option.some.injEq, Ob.row.injEq] at this; exact this
          subst this
          exact .inl ⟨hx0, rfl⟩
        | id + 1, h0 => simp [canL, csV] at h0
      · have h0 := canon_box hb
        match id, h0 with
        | 0, h0 => simp [canL, csV] at h0
        | id + 1, h0 => simp [canL, csV] at h0
      · have h0 := canon_row hr
        match id, h0 with
        | 0, h0 => rfl
        | id + 1, h0 => simp [canL, csV] at h0
      · have h0 := canon_box hb
        match id, h0 with
        | 0, h0 => simp [canL, csV] at h0
        | id + 1, h0 => simp [canL, csV] at h0
    · cases j with
      | zero => cases h
      | succ j => cases h
    · cases j with
      | zero => cases h
      | succ j => cases h
end slices_Clone_byte_byte
namespace stripe_Parity_1
@[reducible] def lin : List (Nat × CS) := [(0, .v (.list (.int .u8))), (1, .box 42 [.v (.list (.list (.int .u8)))])]
@[reducible] def lout : List (Nat × CS) := [(1, .box 42 [.v (.list (.list (.int .u8)))]), (3, .v .bool)]
noncomputable def ns : NS := nsOf Go.Proofs.Tryd.f62 lin lout
noncomputable def D (n : Nat) : FuncId → Nat → Option Den := lookD []
theorem hD (n : Nat) : DenOk Go.Proofs.Tryd.prog Ty.gl (D n) := lookD_ok trivial
def rs : List ResultVar := [.tmp 3]
noncomputable def f (n : Nat) (x : CSs.den lin) : Option (CSs.den lout) := run Ty (D n) (mkH [] [] [] [] []) ns (cd Go.Proofs.Tryd.f62) (canon lin x) (retK Ty rs (Go.Func.ntmps Go.Proofs.Tryd.f62) lout id)
@[reducible] noncomputable def den (n : Nat) : Den := ⟨lin, lout, [3], [some (.inr 0)], CSs.den lout, f n, id⟩
theorem sat (n : Nat) : Sat Go.Proofs.Tryd.prog Ty.gl 62 (den n) := sat_is hTy (hD n) Go.Proofs.Tryd.func62 rfl rfl (den n) [] [] [] [] [] (by kernel_rfl) trivial trivial (rs := rs) (by kernel_rfl) (by kernel_rfl) (by kernel_rfl) (by kernel_rfl) (by kernel_rfl) (fun _ => rfl) (fun _ _ => rfl) id (fun _ => rfl) (by intro x; kernel_rfl)
end stripe_Parity_1
namespace slices_IndexFunc_byte_byte_stripe_Parity_1
@[reducible] def lin : List (Nat × CS) := [(0, .v (.list (.list (.int .u8)))), (1, .fn 62 [.box 42 [.v (.list (.list (.int .u8)))]])]
@[reducible] def lout : List (Nat × CS) := [(1, .fn 62 [.box 42 [.v (.list (.list (.int .u8)))]]), (4, .v (.int .i64))]
noncomputable def ns : NS := nsOf Go.Proofs.Tryd.f81 lin lout
noncomputable def D (n : Nat) : FuncId → Nat → Option Den := lookD [((62, 0), stripe_Parity_1.den n)]
theorem hD (n : Nat) : DenOk Go.Proofs.Tryd.prog Ty.gl (D n) := lookD_ok ⟨stripe_Parity_1.sat n, trivial⟩
@[reducible] def L0 : List (Nat × CS) := [(0, .v (.list (.list (.int .u8)))), (1, .fn 62 [.box 42 [.v (.list (.list (.int .u8)))]]), (7, .v (.int .i64)), (8, .v (.int .i64))]
@[reducible] def ws0 : List (Out × List (Nat × CS)) := [(.ret, [(1, .fn 62 [.box 42 [.v (.list (.list (.int .u8)))]]), (4, .v (.int .i64))]), (.normal, [(1, .fn 62 [.box 42 [.v (.list (.list (.int .u8)))]])])]
noncomputable def l0 (n m : Nat) : Nat → CSs.den L0 → Option (wayDen ws0)
  | 0, _ => none
  | k + 1, x => run Ty (D n) (mkH [] [] [] [] []) ns (lb Go.Proofs.Tryd.f81 0) (canon L0 x) (loopK 0 L0 (l0 n m k))
theorem l0_ok (n m : Nat) : HintOk Go.Proofs.Tryd.prog Ty.gl ns (.block 0 (.loop (lb Go.Proofs.Tryd.f81 0))) ⟨L0, ws0, l0 n m m⟩ :=
  loop_is hTy (hD n) [] [] [] [] [] (by kernel_rfl) trivial trivial L0 ws0 (fun _ => rfl) (ways_cons (fun _ => rfl) (ways_cons (fun _ => rfl) ways_nil)) (l0 n m) (fun _ => rfl) (fun _ _ => rfl) m
def rs : List ResultVar := [.tmp 4]
noncomputable def f (n : Nat) (x : CSs.den lin) : Option (CSs.den lout) := run Ty (D n) (mkH [(0, ⟨L0, ws0, l0 n n n⟩)] [] [] [] []) ns (cd Go.Proofs.Tryd.f81) (canon lin x) (retK Ty rs (Go.Func.ntmps Go.Proofs.Tryd.f81) lout id)
@[reducible] noncomputable def den (n : Nat) : Den := ⟨lin, lout, [4], [some (.inr 0)], CSs.den lout, f n, id⟩
theorem sat (n : Nat) : Sat Go.Proofs.Tryd.prog Ty.gl 81 (den n) := sat_is hTy (hD n) Go.Proofs.Tryd.func81 rfl rfl (den n) [(0, ⟨L0, ws0, l0 n n n⟩)] [] [] [] [] (by kernel_rfl) ⟨⟨_, by kernel_rfl, l0_ok n n⟩, trivial⟩ trivial (rs := rs) (by kernel_rfl) (by kernel_rfl) (by kernel_rfl) (by kernel_rfl) (by kernel_rfl) (fun _ => rfl) (fun _ _ => rfl) id (fun _ => rfl) (by intro x; kernel_rfl)
end slices_IndexFunc_byte_byte_stripe_Parity_1
namespace slices_ContainsFunc_byte_byte_stripe_Parity_1
@[reducible] def lin : List (Nat × CS) := [(0, .v (.list (.list (.int .u8)))), (1, .fn 62 [.box 42 [.v (.list (.list (.int .u8)))]])]
@[reducible] def lout : List (Nat × CS) := [(1, .fn 62 [.box 42 [.v (.list (.list (.int .u8)))]]), (4, .v .bool)]
noncomputable def ns : NS := nsOf Go.Proofs.Tryd.f61 lin lout
noncomputable def D (n : Nat) : FuncId → Nat → Option Den := lookD [((81, 63), slices_IndexFunc_byte_byte_stripe_Parity_1.den n)]
theorem hD (n : Nat) : DenOk Go.Proofs.Tryd.prog Ty.gl (D n) := lookD_ok ⟨slices_IndexFunc_byte_byte_stripe_Parity_1.sat n, trivial⟩
def rs : List ResultVar := [.tmp 4]
noncomputable def f (n : Nat) (x : CSs.den lin) : Option (CSs.den lout) := run Ty (D n) (mkH [] [] [] [] []) ns (cd Go.Proofs.Tryd.f61) (canon lin x) (retK Ty rs (Go.Func.ntmps Go.Proofs.Tryd.f61) lout id)
@[reducible] noncomputable def den (n : Nat) : Den := ⟨lin, lout, [4], [some (.inr 0)], CSs.den lout, f n, id⟩
theorem sat (n : Nat) : Sat Go.Proofs.Tryd.prog Ty.gl 61 (den n) := sat_is hTy (hD n) Go.Proofs.Tryd.func61 rfl rfl (den n) [] [] [] [] [] (by kernel_rfl) trivial trivial (rs := rs) (by kernel_rfl) (by kernel_rfl) (by kernel_rfl) (by kernel_rfl) (by kernel_rfl) (fun _ => rfl) (fun _ _ => rfl) id (fun _ => rfl) (by intro x; kernel_rfl)
end slices_ContainsFunc_byte_byte_stripe_Parity_1
namespace stripe_row
@[reducible] def lin : List (Nat × CS) := [(0, .v (.list (.list (.int .u8)))), (1, .v (.int .i64))]
@[reducible] def lout : List (Nat × CS) := [(4, .own 5 (.int .u8))]
noncomputable def ns : NS := nsOf Go.Proofs.Tryd.f64 lin lout
noncomputable def D (n : Nat) : FuncId → Nat → Option Den := lookD []
theorem hD (n : Nat) : DenOk Go.Proofs.Tryd.prog Ty.gl (D n) := lookD_ok trivial
@[reducible] def L0 : List (Nat × CS) := [(1, .v (.int .i64)), (5, .own 5 (.int .u8)), (8, .v (.list (.list (.int .u8)))), (9, .v (.int .i64)), (10, .v (.int .i64))]
@[reducible] def ws0 : List (Out × List (Nat × CS)) := [(.normal, [(5, .own 5 (.int .u8))])]
noncomputable def l0 (n m : Nat) : Nat → CSs.den L0 → Option (wayDen ws0)
  | 0, _ => none
  | k + 1, x => run Ty (D n) (mkH [] [] [] [] []) ns (lb Go.Proofs.Tryd.f64 0) (canon L0 x) (loopK 0 L0 (l0 n m k))
theorem l0_ok (n m : Nat) : HintOk Go.Proofs.Tryd.prog Ty.gl ns (.block 0 (.loop (lb Go.Proofs.Tryd.f64 0))) ⟨L0, ws0, l0 n m m⟩ :=
  loop_is hTy (hD n) [] [] [] [] [] (by kernel_rfl) trivial trivial L0 ws0 (fun _ => rfl) (ways_cons (fun _ => rfl) ways_nil) (l0 n m) (fun _ => rfl) (fun _ _ => rfl) m
def rs : List ResultVar := [.tmp 4]
noncomputable def f (n : Nat) (x : CSs.den lin) : Option (CSs.den lout) := run Ty (D n) (mkH [(0, ⟨L0, ws0, l0 n n n⟩)] [] [] [] []) ns (cd Go.Proofs.Tryd.f64) (canon lin x) (retK Ty rs (Go.Func.ntmps Go.Proofs.Tryd.f64) lout id)
@[reducible] noncomputable def den (n : Nat) : Den := ⟨lin, lout, [4], [none], CSs.den lout, f n, id⟩
theorem sat (n : Nat) : Sat Go.Proofs.Tryd.prog Ty.gl 64 (den n) := sat_is hTy (hD n) Go.Proofs.Tryd.func64 rfl rfl (den n) [(0, ⟨L0, ws0, l0 n n n⟩)] [] [] [] [] (by kernel_rfl) ⟨⟨_, by kernel_rfl, l0_ok n n⟩, trivial⟩ trivial (rs := rs) (by kernel_rfl) (by kernel_rfl) (by kernel_rfl) (by kernel_rfl) (by kernel_rfl) (fun _ => rfl) (fun _ _ => rfl) id (fun _ => rfl) (by intro x; kernel_rfl)
end stripe_row
namespace systematic_places
@[reducible] def lin : List (Nat × CS) := [(0, .v (.int .i64))]
@[reducible] def lout : List (Nat × CS) := [(2, .own 5 (.int .u8))]
noncomputable def ns : NS := nsOf Go.Proofs.Tryd.f44 lin lout
noncomputable def D (n : Nat) : FuncId → Nat → Option Den := lookD []
theorem hD (n : Nat) : DenOk Go.Proofs.Tryd.prog Ty.gl (D n) := lookD_ok trivial
@[reducible] def L0 : List (Nat × CS) := [(3, .own 5 (.int .u8)), (5, .v (.int .i64)), (6, .v (.int .i64))]
@[reducible] def ws0 : List (Out × List (Nat × CS)) := [(.normal, [(3, .own 5 (.int .u8))])]
noncomputable def l0 (n m : Nat) : Nat → CSs.den L0 → Option (wayDen ws0)
  | 0, _ => none
  | k + 1, x => run Ty (D n) (mkH [] [] [] [] []) ns (lb Go.Proofs.Tryd.f44 0) (canon L0 x) (loopK 0 L0 (l0 n m k))
theorem l0_ok (n m : Nat) : HintOk Go.Proofs.Tryd.prog Ty.gl ns (.block 0 (.loop (lb Go.Proofs.Tryd.f44 0))) ⟨L0, ws0, l0 n m m⟩ :=
  loop_is hTy (hD n) [] [] [] [] [] (by kernel_rfl) trivial trivial L0 ws0 (fun _ => rfl) (ways_cons (fun _ => rfl) ways_nil) (l0 n m) (fun _ => rfl) (fun _ _ => rfl) m
def rs : List ResultVar := [.tmp 2]
noncomputable def f (n : Nat) (x : CSs.den lin) : Option (CSs.den lout) := run Ty (D n) (mkH [(0, ⟨L0, ws0, l0 n n n⟩)] [] [] [] []) ns (cd Go.Proofs.Tryd.f44) (canon lin x) (retK Ty rs (Go.Func.ntmps Go.Proofs.Tryd.f44) lout id)
@[reducible] noncomputable def den (n : Nat) : Den := ⟨lin, lout, [2], [none], CSs.den lout, f n, id⟩
theorem sat (n : Nat) : Sat Go.Proofs.Tryd.prog Ty.gl 44 (den n) := sat_is hTy (hD n) Go.Proofs.Tryd.func44 rfl rfl (den n) [(0, ⟨L0, ws0, l0 n n n⟩)] [] [] [] [] (by kernel_rfl) ⟨⟨_, by kernel_rfl, l0_ok n n⟩, trivial⟩ trivial (rs := rs) (by kernel_rfl) (by kernel_rfl) (by kernel_rfl) (by kernel_rfl) (by kernel_rfl) (fun _ => rfl) (fun _ _ => rfl) id (fun _ => rfl) (by intro x; kernel_rfl)
end systematic_places
namespace poly_twice
@[reducible] def lin : List (Nat × CS) := [(0, .v (.list (.int .u8)))]
@[reducible] def lout : List (Nat × CS) := [(2, .v .bool)]
noncomputable def ns : NS := nsOf Go.Proofs.Tryd.f68 lin lout
noncomputable def D (n : Nat) : FuncId → Nat → Option Den := lookD []
theorem hD (n : Nat) : DenOk Go.Proofs.Tryd.prog Ty.gl (D n) := lookD_ok trivial
@[reducible] def L0 : List (Nat × CS) := [(3, .box 124 [.v (.arr 256 .bool)]), (6, .v (.list (.int .u8))), (7, .v (.int .i64)), (8, .v (.int .i64))]
@[reducible] def ws0 : List (Out × List (Nat × CS)) := [(.ret, [(2, .v .bool)]), (.normal, [])]
noncomputable def l0 (n m : Nat) : Nat → CSs.den L0 → Option (wayDen ws0)
  | 0, _ => none
  | k + 1, x => run Ty (D n) (mkH [] [] [] [] []) ns (lb Go.Proofs.Tryd.f68 0) (canon L0 x) (loopK 0 L0 (l0 n m k))
theorem l0_ok (n m : Nat) : HintOk Go.Proofs.Tryd.prog Ty.gl ns (.block 0 (.loop (lb Go.Proofs.Tryd.f68 0))) ⟨L0, ws0, l0 n m m⟩ :=
  loop_is hTy (hD n) [] [] [] [] [] (by kernel_rfl) trivial trivial L0 ws0 (fun _ => rfl) (ways_cons (fun _ => rfl) (ways_cons (fun _ => rfl) ways_nil)) (l0 n m) (fun _ => rfl) (fun _ _ => rfl) m
def rs : List ResultVar := [.tmp 2]
noncomputable def f (n : Nat) (x : CSs.den lin) : Option (CSs.den lout) := run Ty (D n) (mkH [(0, ⟨L0, ws0, l0 n n n⟩)] [] [] [] []) ns (cd Go.Proofs.Tryd.f68) (canon lin x) (retK Ty rs (Go.Func.ntmps Go.Proofs.Tryd.f68) lout id)
@[reducible] noncomputable def den (n : Nat) : Den := ⟨lin, lout, [2], [], CSs.den lout, f n, id⟩
theorem sat (n : Nat) : Sat Go.Proofs.Tryd.prog Ty.gl 68 (den n) := sat_is hTy (hD n) Go.Proofs.Tryd.func68 rfl rfl (den n) [(0, ⟨L0, ws0, l0 n n n⟩)] [] [] [] [] (by kernel_rfl) ⟨⟨_, by kernel_rfl, l0_ok n n⟩, trivial⟩ trivial (rs := rs) (by kernel_rfl) (by kernel_rfl) (by kernel_rfl) (by kernel_rfl) (by kernel_rfl) (fun _ => rfl) (fun _ _ => rfl) id (fun _ => rfl) (by intro x; kernel_rfl)
end poly_twice
namespace gf_twice
@[reducible] def lin : List (Nat × CS) := [(0, .v (.int .u8))]
@[reducible] def lout : List (Nat × CS) := [(2, .v (.int .u8))]
noncomputable def ns : NS := nsOf Go.Proofs.Tryd.f88 lin lout
noncomputable def D (n : Nat) : FuncId → Nat → Option Den := lookD []
theorem hD (n : Nat) : DenOk Go.Proofs.Tryd.prog Ty.gl (D n) := lookD_ok trivial
def rs : List ResultVar := [.tmp 2]
noncomputable def f (n : Nat) (x : CSs.den lin) : Option (CSs.den lout) := run Ty (D n) (mkH [] [] [] [] []) ns (cd Go.Proofs.Tryd.f88) (canon lin x) (retK Ty rs (Go.Func.ntmps Go.Proofs.Tryd.f88) lout id)
@[reducible] noncomputable def den (n : Nat) : Den := ⟨lin, lout, [2], [], CSs.den lout, f n, id⟩
theorem sat (n : Nat) : Sat Go.Proofs.Tryd.prog Ty.gl 88 (den n) := sat_is hTy (hD n) Go.Proofs.Tryd.func88 rfl rfl (den n) [] [] [] [] [] (by kernel_rfl) trivial trivial (rs := rs) (by kernel_rfl) (by kernel_rfl) (by kernel_rfl) (by kernel_rfl) (by kernel_rfl) (fun _ => rfl) (fun _ _ => rfl) id (fun _ => rfl) (by intro x; kernel_rfl)
end gf_twice
namespace gf_Mul
@[reducible] def lin : List (Nat × CS) := [(0, .v (.int .u8)), (1, .v (.int .u8))]
@[reducible] def lout : List (Nat × CS) := [(4, .v (.int .u8))]
noncomputable def ns : NS := nsOf Go.Proofs.Tryd.f84 lin lout
noncomputable def D (n : Nat) : FuncId → Nat → Option Den := lookD [((88, 0), gf_twice.den n)]
theorem hD (n : Nat) : DenOk Go.Proofs.Tryd.prog Ty.gl (D n) := lookD_ok ⟨gf_twice.sat n, trivial⟩
@[reducible] def L0 : List (Nat × CS) := [(0, .v (.int .u8)), (1, .v (.int .u8)), (5, .v (.int .u8))]
@[reducible] def ws0 : List (Out × List (Nat × CS)) := [(.normal, [(5, .v (.int .u8))])]
noncomputable def l0 (n m : Nat) : Nat → CSs.den L0 → Option (wayDen ws0)
  | 0, _ => none
  | k + 1, x => run Ty (D n) (mkH [] [] [] [] []) ns (lb Go.Proofs.Tryd.f84 0) (canon L0 x) (loopK 0 L0 (l0 n m k))
theorem l0_ok (n m : Nat) : HintOk Go.Proofs.Tryd.prog Ty.gl ns (.block 0 (.loop (lb Go.Proofs.Tryd.f84 0))) ⟨L0, ws0, l0 n m m⟩ :=
  loop_is hTy (hD n) [] [] [] [] [] (by kernel_rfl) trivial trivial L0 ws0 (fun _ => rfl) (ways_cons (fun _ => rfl) ways_nil) (l0 n m) (fun _ => rfl) (fun _ _ => rfl) m
def rs : List ResultVar := [.tmp 4]
noncomputable def f (n : Nat) (x : CSs.den lin) : Option (CSs.den lout) := run Ty (D n) (mkH [(0, ⟨L0, ws0, l0 n n n⟩)] [] [] [] []) ns (cd Go.Proofs.Tryd.f84) (canon lin x) (retK Ty rs (Go.Func.ntmps Go.Proofs.Tryd.f84) lout id)
@[reducible] noncomputable def den (n : Nat) : Den := ⟨lin, lout, [4], [], CSs.den lout, f n, id⟩
theorem sat (n : Nat) : Sat Go.Proofs.Tryd.prog Ty.gl 84 (den n) := sat_is hTy (hD n) Go.Proofs.Tryd.func84 rfl rfl (den n) [(0, ⟨L0, ws0, l0 n n n⟩)] [] [] [] [] (by kernel_rfl) ⟨⟨_, by kernel_rfl, l0_ok n n⟩, trivial⟩ trivial (rs := rs) (by kernel_rfl) (by kernel_rfl) (by kernel_rfl) (by kernel_rfl) (by kernel_rfl) (fun _ => rfl) (fun _ _ => rfl) id (fun _ => rfl) (by intro x; kernel_rfl)
end gf_Mul
namespace poly_Eval
@[reducible] def lin : List (Nat × CS) := [(0, .v (.list (.int .u8))), (1, .v (.int .u8))]
@[reducible] def lout : List (Nat × CS) := [(4, .v (.int .u8))]
noncomputable def ns : NS := nsOf Go.Proofs.Tryd.f70 lin lout
noncomputable def D (n : Nat) : FuncId → Nat → Option Den := lookD [((84, 0), gf_Mul.den n)]
theorem hD (n : Nat) : DenOk Go.Proofs.Tryd.prog Ty.gl (D n) := lookD_ok ⟨gf_Mul.sat n, trivial⟩
@[reducible] def L0 : List (Nat × CS) := [(0, .v (.list (.int .u8))), (1, .v (.int .u8)), (5, .v (.int .u8)), (6, .v (.int .i64))]
@[reducible] def ws0 : List (Out × List (Nat × CS)) := [(.normal, [(5, .v (.int .u8))])]
noncomputable def l0 (n m : Nat) : Nat → CSs.den L0 → Option (wayDen ws0)
  | 0, _ => none
  | k + 1, x => run Ty (D n) (mkH [] [(5, ⟨[], [(.mem, 0), (.mem, 1), (.mem, 3), (.mem, 4), (.mem, 5), (.mem, 6), (.step, 2), (.cur, 7), (.cur, 8)]⟩)] [] [] []) ns (lb Go.Proofs.Tryd.f70 0) (canon L0 x) (loopK 0 L0 (l0 n m k))
theorem l0_ok (n m : Nat) : HintOk Go.Proofs.Tryd.prog Ty.gl ns (.block 0 (.loop (lb Go.Proofs.Tryd.f70 0))) ⟨L0, ws0, l0 n m m⟩ :=
  loop_is hTy (hD n) [] [(5, ⟨[], [(.mem, 0), (.mem, 1), (.mem, 3), (.mem, 4), (.mem, 5), (.mem, 6), (.step, 2), (.cur, 7), (.cur, 8)]⟩)] [] [] [] (by kernel_rfl) trivial trivial L0 ws0 (fun _ => rfl) (ways_cons (fun _ => rfl) ways_nil) (l0 n m) (fun _ => rfl) (fun _ _ => rfl) m
def rs : List ResultVar := [.tmp 4]
noncomputable def f (n : Nat) (x : CSs.den lin) : Option (CSs.den lout) := run Ty (D n) (mkH [(0, ⟨L0, ws0, l0 n n n⟩)] [(5, ⟨[], [(.mem, 0), (.mem, 1), (.mem, 3), (.mem, 4), (.mem, 5), (.mem, 6), (.step, 2), (.cur, 7), (.cur, 8)]⟩)] [] [] []) ns (cd Go.Proofs.Tryd.f70) (canon lin x) (retK Ty rs (Go.Func.ntmps Go.Proofs.Tryd.f70) lout id)
@[reducible] noncomputable def den (n : Nat) : Den := ⟨lin, lout, [4], [], CSs.den lout, f n, id⟩
theorem sat (n : Nat) : Sat Go.Proofs.Tryd.prog Ty.gl 70 (den n) := sat_is hTy (hD n) Go.Proofs.Tryd.func70 rfl rfl (den n) [(0, ⟨L0, ws0, l0 n n n⟩)] [(5, ⟨[], [(.mem, 0), (.mem, 1), (.mem, 3), (.mem, 4), (.mem, 5), (.mem, 6), (.step, 2), (.cur, 7), (.cur, 8)]⟩)] [] [] [] (by kernel_rfl) ⟨⟨_, by kernel_rfl, l0_ok n n⟩, trivial⟩ trivial (rs := rs) (by kernel_rfl) (by kernel_rfl) (by kernel_rfl) (by kernel_rfl) (by kernel_rfl) (fun _ => rfl) (fun _ _ => rfl) id (fun _ => rfl) (by intro x; kernel_rfl)
end poly_Eval
namespace gf_power
@[reducible] def lin : List (Nat × CS) := [(0, .v (.int .u8)), (1, .v (.int .i64))]
@[reducible] def lout : List (Nat × CS) := [(4, .v (.int .u8))]
noncomputable def ns : NS := nsOf Go.Proofs.Tryd.f89 lin lout
noncomputable def D (n : Nat) : FuncId → Nat → Option Den := lookD [((84, 0), gf_Mul.den n)]
theorem hD (n : Nat) : DenOk Go.Proofs.Tryd.prog Ty.gl (D n) := lookD_ok ⟨gf_Mul.sat n, trivial⟩
@[reducible] def L0 : List (Nat × CS) := [(0, .v (.int .u8)), (1, .v (.int .i64)), (5, .v (.int .u8))]
@[reducible] def ws0 : List (Out × List (Nat × CS)) := [(.normal, [(5, .v (.int .u8))])]
noncomputable def l0 (n m : Nat) : Nat → CSs.den L0 → Option (wayDen ws0)
  | 0, _ => none
  | k + 1, x => run Ty (D n) (mkH [] [] [] [] []) ns (lb Go.Proofs.Tryd.f89 0) (canon L0 x) (loopK 0 L0 (l0 n m k))
theorem l0_ok (n m : Nat) : HintOk Go.Proofs.Tryd.prog Ty.gl ns (.block 0 (.loop (lb Go.Proofs.Tryd.f89 0))) ⟨L0, ws0, l0 n m m⟩ :=
  loop_is hTy (hD n) [] [] [] [] [] (by kernel_rfl) trivial trivial L0 ws0 (fun _ => rfl) (ways_cons (fun _ => rfl) ways_nil) (l0 n m) (fun _ => rfl) (fun _ _ => rfl) m
def rs : List ResultVar := [.tmp 4]
noncomputable def f (n : Nat) (x : CSs.den lin) : Option (CSs.den lout) := run Ty (D n) (mkH [(0, ⟨L0, ws0, l0 n n n⟩)] [] [] [] []) ns (cd Go.Proofs.Tryd.f89) (canon lin x) (retK Ty rs (Go.Func.ntmps Go.Proofs.Tryd.f89) lout id)
@[reducible] noncomputable def den (n : Nat) : Den := ⟨lin, lout, [4], [], CSs.den lout, f n, id⟩
theorem sat (n : Nat) : Sat Go.Proofs.Tryd.prog Ty.gl 89 (den n) := sat_is hTy (hD n) Go.Proofs.Tryd.func89 rfl rfl (den n) [(0, ⟨L0, ws0, l0 n n n⟩)] [] [] [] [] (by kernel_rfl) ⟨⟨_, by kernel_rfl, l0_ok n n⟩, trivial⟩ trivial (rs := rs) (by kernel_rfl) (by kernel_rfl) (by kernel_rfl) (by kernel_rfl) (by kernel_rfl) (fun _ => rfl) (fun _ _ => rfl) id (fun _ => rfl) (by intro x; kernel_rfl)
end gf_power
namespace gf_Inv
@[reducible] def lin : List (Nat × CS) := [(0, .v (.int .u8))]
@[reducible] def lout : List (Nat × CS) := [(2, .v (.int .u8))]
noncomputable def ns : NS := nsOf Go.Proofs.Tryd.f85 lin lout
noncomputable def D (n : Nat) : FuncId → Nat → Option Den := lookD [((89, 0), gf_power.den n)]
theorem hD (n : Nat) : DenOk Go.Proofs.Tryd.prog Ty.gl (D n) := lookD_ok ⟨gf_power.sat n, trivial⟩
def rs : List ResultVar := [.tmp 2]
noncomputable def f (n : Nat) (x : CSs.den lin) : Option (CSs.den lout) := run Ty (D n) (mkH [] [] [] [] []) ns (cd Go.Proofs.Tryd.f85) (canon lin x) (retK Ty rs (Go.Func.ntmps Go.Proofs.Tryd.f85) lout id)
@[reducible] noncomputable def den (n : Nat) : Den := ⟨lin, lout, [2], [], CSs.den lout, f n, id⟩
theorem sat (n : Nat) : Sat Go.Proofs.Tryd.prog Ty.gl 85 (den n) := sat_is hTy (hD n) Go.Proofs.Tryd.func85 rfl rfl (den n) [] [] [] [] [] (by kernel_rfl) trivial trivial (rs := rs) (by kernel_rfl) (by kernel_rfl) (by kernel_rfl) (by kernel_rfl) (by kernel_rfl) (fun _ => rfl) (fun _ _ => rfl) id (fun _ => rfl) (by intro x; kernel_rfl)
end gf_Inv
namespace gf_Div
@[reducible] def lin : List (Nat × CS) := [(0, .v (.int .u8)), (1, .v (.int .u8))]
@[reducible] def lout : List (Nat × CS) := [(4, .v (.int .u8)), (5, .v .bool)]
noncomputable def ns : NS := nsOf Go.Proofs.Tryd.f69 lin lout
noncomputable def D (n : Nat) : FuncId → Nat → Option Den := lookD [((85, 0), gf_Inv.den n), ((84, 0), gf_Mul.den n)]
theorem hD (n : Nat) : DenOk Go.Proofs.Tryd.prog Ty.gl (D n) := lookD_ok ⟨gf_Inv.sat n, gf_Mul.sat n, trivial⟩
def rs : List ResultVar := [.tmp 4, .tmp 5]
noncomputable def f (n : Nat) (x : CSs.den lin) : Option (CSs.den lout) := run Ty (D n) (mkH [] [] [] [] []) ns (cd Go.Proofs.Tryd.f69) (canon lin x) (retK Ty rs (Go.Func.ntmps Go.Proofs.Tryd.f69) lout id)
@[reducible] noncomputable def den (n : Nat) : Den := ⟨lin, lout, [4, 5], [], CSs.den lout, f n, id⟩
theorem sat (n : Nat) : Sat Go.Proofs.Tryd.prog Ty.gl 69 (den n) := sat_is hTy (hD n) Go.Proofs.Tryd.func69 rfl rfl (den n) [] [] [] [] [] (by kernel_rfl) trivial trivial (rs := rs) (by kernel_rfl) (by kernel_rfl) (by kernel_rfl) (by kernel_rfl) (by kernel_rfl) (fun _ => rfl) (fun _ _ => rfl) id (fun _ => rfl) (by intro x; kernel_rfl)
end gf_Div
namespace gf_Scale
@[reducible] def lin : List (Nat × CS) := [(0, .v (.list (.int .u8))), (1, .v (.int .u8))]
@[reducible] def lout : List (Nat × CS) := [(4, .own 5 (.int .u8))]
noncomputable def ns : NS := nsOf Go.Proofs.Tryd.f72 lin lout
noncomputable def D (n : Nat) : FuncId → Nat → Option Den := lookD [((84, 0), gf_Mul.den n)]
theorem hD (n : Nat) : DenOk Go.Proofs.Tryd.prog Ty.gl (D n) := lookD_ok ⟨gf_Mul.sat n, trivial⟩
@[reducible] def L0 : List (Nat × CS) := [(1, .v (.int .u8)), (5, .own 5 (.int .u8)), (11, .v (.list (.int .u8))), (12, .v (.int .i64)), (13, .v (.int .i64))]
@[reducible] def ws0 : List (Out × List (Nat × CS)) := [(.normal, [(5, .own 5 (.int .u8))])]
noncomputable def l0 (n m : Nat) : Nat → CSs.den L0 → Option (wayDen ws0)
  | 0, _ => none
  | k + 1, x => run Ty (D n) (mkH [] [] [] [] []) ns (lb Go.Proofs.Tryd.f72 0) (canon L0 x) (loopK 0 L0 (l0 n m k))
theorem l0_ok (n m : Nat) : HintOk Go.Proofs.Tryd.prog Ty.gl ns (.block 0 (.loop (lb Go.Proofs.Tryd.f72 0))) ⟨L0, ws0, l0 n m m⟩ :=
  loop_is hTy (hD n) [] [] [] [] [] (by kernel_rfl) trivial trivial L0 ws0 (fun _ => rfl) (ways_cons (fun _ => rfl) ways_nil) (l0 n m) (fun _ => rfl) (fun _ _ => rfl) m
def rs : List ResultVar := [.tmp 4]
noncomputable def f (n : Nat) (x : CSs.den lin) : Option (CSs.den lout) := run Ty (D n) (mkH [(0, ⟨L0, ws0, l0 n n n⟩)] [] [] [] []) ns (cd Go.Proofs.Tryd.f72) (canon lin x) (retK Ty rs (Go.Func.ntmps Go.Proofs.Tryd.f72) lout id)
@[reducible] noncomputable def den (n : Nat) : Den := ⟨lin, lout, [4], [none], CSs.den lout, f n, id⟩
theorem sat (n : Nat) : Sat Go.Proofs.Tryd.prog Ty.gl 72 (den n) := sat_is hTy (hD n) Go.Proofs.Tryd.func72 rfl rfl (den n) [(0, ⟨L0, ws0, l0 n n n⟩)] [] [] [] [] (by kernel_rfl) ⟨⟨_, by kernel_rfl, l0_ok n n⟩, trivial⟩ trivial (rs := rs) (by kernel_rfl) (by kernel_rfl) (by kernel_rfl) (by kernel_rfl) (by kernel_rfl) (fun _ => rfl) (fun _ _ => rfl) id (fun _ => rfl) (by intro x; kernel_rfl)
end gf_Scale
namespace poly_Degree
@[reducible] def lin : List (Nat × CS) := [(0, .v (.list (.int .u8)))]
@[reducible] def lout : List (Nat × CS) := [(2, .v (.int .i64))]
noncomputable def ns : NS := nsOf Go.Proofs.Tryd.f45 lin lout
noncomputable def D (n : Nat) : FuncId → Nat → Option Den := lookD []
theorem hD (n : Nat) : DenOk Go.Proofs.Tryd.prog Ty.gl (D n) := lookD_ok trivial
@[reducible] def L0 : List (Nat × CS) := [(0, .v (.list (.int .u8))), (3, .v (.int .i64))]
@[reducible] def ws0 : List (Out × List (Nat × CS)) := [(.normal, [(3, .v (.int .i64))])]
noncomputable def l0 (n m : Nat) : Nat → CSs.den L0 → Option (wayDen ws0)
  | 0, _ => none
  | k + 1, x => run Ty (D n) (mkH [] [] [] [] []) ns (lb Go.Proofs.Tryd.f45 0) (canon L0 x) (loopK 0 L0 (l0 n m k))
theorem l0_ok (n m : Nat) : HintOk Go.Proofs.Tryd.prog Ty.gl ns (.block 0 (.loop (lb Go.Proofs.Tryd.f45 0))) ⟨L0, ws0, l0 n m m⟩ :=
  loop_is hTy (hD n) [] [] [] [] [] (by kernel_rfl) trivial trivial L0 ws0 (fun _ => rfl) (ways_cons (fun _ => rfl) ways_nil) (l0 n m) (fun _ => rfl) (fun _ _ => rfl) m
def rs : List ResultVar := [.tmp 2]
noncomputable def f (n : Nat) (x : CSs.den lin) : Option (CSs.den lout) := run Ty (D n) (mkH [(0, ⟨L0, ws0, l0 n n n⟩)] [] [] [] []) ns (cd Go.Proofs.Tryd.f45) (canon lin x) (retK Ty rs (Go.Func.ntmps Go.Proofs.Tryd.f45) lout id)
@[reducible] noncomputable def den (n : Nat) : Den := ⟨lin, lout, [2], [], CSs.den lout, f n, id⟩
theorem sat (n : Nat) : Sat Go.Proofs.Tryd.prog Ty.gl 45 (den n) := sat_is hTy (hD n) Go.Proofs.Tryd.func45 rfl rfl (den n) [(0, ⟨L0, ws0, l0 n n n⟩)] [] [] [] [] (by kernel_rfl) ⟨⟨_, by kernel_rfl, l0_ok n n⟩, trivial⟩ trivial (rs := rs) (by kernel_rfl) (by kernel_rfl) (by kernel_rfl) (by kernel_rfl) (by kernel_rfl) (fun _ => rfl) (fun _ _ => rfl) id (fun _ => rfl) (by intro x; kernel_rfl)
end poly_Degree
namespace poly_Trim
@[reducible] def lin : List (Nat × CS) := [(0, .v (.list (.int .u8)))]
@[reducible] def lout : List (Nat × CS) := [(2, .own 5 (.int .u8))]
noncomputable def ns : NS := nsOf Go.Proofs.Tryd.f86 lin lout
noncomputable def D (n : Nat) : FuncId → Nat → Option Den := lookD [((45, 0), poly_Degree.den n), ((38, 0), slices_Clone_byte_byte.den n)]
theorem hD (n : Nat) : DenOk Go.Proofs.Tryd.prog Ty.gl (D n) := lookD_ok ⟨poly_Degree.sat n, slices_Clone_byte_byte.sat n, trivial⟩
def rs : List ResultVar := [.tmp 2]
noncomputable def f (n : Nat) (x : CSs.den lin) : Option (CSs.den lout) := run Ty (D n) (mkH [] [] [] [] []) ns (cd Go.Proofs.Tryd.f86) (canon lin x) (retK Ty rs (Go.Func.ntmps Go.Proofs.Tryd.f86) lout id)
@[reducible] noncomputable def den (n : Nat) : Den := ⟨lin, lout, [2], [none], CSs.den lout, f n, id⟩
theorem sat (n : Nat) : Sat Go.Proofs.Tryd.prog Ty.gl 86 (den n) := sat_is hTy (hD n) Go.Proofs.Tryd.func86 rfl rfl (den n) [] [] [] [] [] (by kernel_rfl) trivial trivial (rs := rs) (by kernel_rfl) (by kernel_rfl) (by kernel_rfl) (by kernel_rfl) (by kernel_rfl) (fun _ => rfl) (fun _ _ => rfl) id (fun _ => rfl) (by intro x; kernel_rfl)
end poly_Trim
namespace poly_Add
@[reducible] def lin : List (Nat × CS) := [(0, .v (.list (.int .u8))), (1, .v (.list (.int .u8)))]
@[reducible] def lout : List (Nat × CS) := [(4, .own 5 (.int .u8))]
noncomputable def ns : NS := nsOf Go.Proofs.Tryd.f71 lin lout
noncomputable def D (n : Nat) : FuncId → Nat → Option Den := lookD [((86, 0), poly_Trim.den n)]
theorem hD (n : Nat) : DenOk Go.Proofs.Tryd.prog Ty.gl (D n) := lookD_ok ⟨poly_Trim.sat n, trivial⟩
@[reducible] def L0 : List (Nat × CS) := [(5, .own 5 (.int .u8)), (17, .v (.list (.int .u8))), (18, .v (.int .i64)), (19, .v (.int .i64))]
@[reducible] def ws0 : List (Out × List (Nat × CS)) := [(.normal, [(5, .own 5 (.int .u8))])]
noncomputable def l0 (n m : Nat) : Nat → CSs.den L0 → Option (wayDen ws0)
  | 0, _ => none
  | k + 1, x => run Ty (D n) (mkH [] [] [] [] []) ns (lb Go.Proofs.Tryd.f71 0) (canon L0 x) (loopK 0 L0 (l0 n m k))
theorem l0_ok (n m : Nat) : HintOk Go.Proofs.Tryd.prog Ty.gl ns (.block 0 (.loop (lb Go.Proofs.Tryd.f71 0))) ⟨L0, ws0, l0 n m m⟩ :=
  loop_is hTy (hD n) [] [] [] [] [] (by kernel_rfl) trivial trivial L0 ws0 (fun _ => rfl) (ways_cons (fun _ => rfl) ways_nil) (l0 n m) (fun _ => rfl) (fun _ _ => rfl) m
def rs : List ResultVar := [.tmp 4]
noncomputable def f (n : Nat) (x : CSs.den lin) : Option (CSs.den lout) := run Ty (D n) (mkH [(0, ⟨L0, ws0, l0 n n n⟩)] [] [] [] []) ns (cd Go.Proofs.Tryd.f71) (canon lin x) (retK Ty rs (Go.Func.ntmps Go.Proofs.Tryd.f71) lout id)
@[reducible] noncomputable def den (n : Nat) : Den := ⟨lin, lout, [4], [none], CSs.den lout, f n, id⟩
theorem sat (n : Nat) : Sat Go.Proofs.Tryd.prog Ty.gl 71 (den n) := sat_is hTy (hD n) Go.Proofs.Tryd.func71 rfl rfl (den n) [(0, ⟨L0, ws0, l0 n n n⟩)] [] [] [] [] (by kernel_rfl) ⟨⟨_, by kernel_rfl, l0_ok n n⟩, trivial⟩ trivial (rs := rs) (by kernel_rfl) (by kernel_rfl) (by kernel_rfl) (by kernel_rfl) (by kernel_rfl) (fun _ => rfl) (fun _ _ => rfl) id (fun _ => rfl) (by intro x; kernel_rfl)
end poly_Add
namespace poly_Mul
@[reducible] def lin : List (Nat × CS) := [(0, .v (.list (.int .u8))), (1, .v (.list (.int .u8)))]
@[reducible] def lout : List (Nat × CS) := [(4, .own 5 (.int .u8))]
noncomputable def ns : NS := nsOf Go.Proofs.Tryd.f73 lin lout
noncomputable def D (n : Nat) : FuncId → Nat → Option Den := lookD [((84, 0), gf_Mul.den n), ((86, 0), poly_Trim.den n)]
theorem hD (n : Nat) : DenOk Go.Proofs.Tryd.prog Ty.gl (D n) := lookD_ok ⟨gf_Mul.sat n, poly_Trim.sat n, trivial⟩
@[reducible] def L2 : List (Nat × CS) := [(1, .v (.list (.int .u8))), (5, .own 5 (.int .u8)), (6, .v (.int .i64)), (7, .v (.int .u8)), (16, .v (.list (.int .u8))), (17, .v (.int .i64)), (18, .v (.int .i64)), (23, .v (.list (.int .u8))), (24, .v (.int .i64)), (25, .v (.int .i64))]
@[reducible] def ws2 : List (Out × List (Nat × CS)) := [(.normal, [(1, .v (.list (.int .u8))), (5, .own 5 (.int .u8)), (16, .v (.list (.int .u8))), (17, .v (.int .i64)), (18, .v (.int .i64))])]
noncomputable def l2 (n m : Nat) : Nat → CSs.den L2 → Option (wayDen ws2)
  | 0, _ => none
  | k + 1, x => run Ty (D n) (mkH [] [(8, ⟨[], [(.mem, 0), (.mem, 1), (.mem, 2), (.mem, 3), (.mem, 4), (.mem, 6), (.mem, 7), (.late, 8), (.step, 5), (.sync, 0), (.cur, 9), (.mem, 10), (.step, 11)]⟩)] [] [] []) ns (lb Go.Proofs.Tryd.f73 2) (canon L2 x) (loopK 2 L2 (l2 n m k))
theorem l2_ok (n m : Nat) : HintOk Go.Proofs.Tryd.prog Ty.gl ns (.block 2 (.loop (lb Go.Proofs.Tryd.f73 2))) ⟨L2, ws2, l2 n m m⟩ :=
  loop_is hTy (hD n) [] [(8, ⟨[], [(.mem, 0), (.mem, 1), (.mem, 2), (.mem, 3), (.mem, 4), (.mem, 6), (.mem, 7), (.late, 8), (.step, 5), (.sync, 0), (.cur, 9), (.mem, 10), (.step, 11)]⟩)] [] [] [] (by kernel_rfl) trivial trivial L2 ws2 (fun _ => rfl) (ways_cons (fun _ => rfl) ways_nil) (l2 n m) (fun _ => rfl) (fun _ _ => rfl) m
@[reducible] def L0 : List (Nat × CS) := [(1, .v (.list (.int .u8))), (5, .own 5 (.int .u8)), (16, .v (.list (.int .u8))), (17, .v (.int .i64)), (18, .v (.int .i64))]
@[reducible] def ws0 : List (Out × List (Nat × CS)) := [(.normal, [(5, .own 5 (.int .u8))])]
noncomputable def l0 (n m : Nat) : Nat → CSs.den L0 → Option (wayDen ws0)
  | 0, _ => none
  | k + 1, x => run Ty (D n) (mkH [(2, ⟨L2, ws2, l2 n m m⟩)] [(8, ⟨[], [(.mem, 0), (.mem, 1), (.mem, 2), (.mem, 3), (.mem, 4), (.mem, 6), (.mem, 7), (.late, 8), (.step, 5), (.sync, 0), (.cur, 9), (.mem, 10), (.step, 11)]⟩)] [] [] []) ns (lb Go.Proofs.Tryd.f73 0) (canon L0 x) (loopK 0 L0 (l0 n m k))
theorem l0_ok (n m : Nat) : HintOk Go.Proofs.Tryd.prog Ty.gl ns (.block 0 (.loop (lb Go.Proofs.Tryd.f73 0))) ⟨L0, ws0, l0 n m m⟩ :=
  loop_is hTy (hD n) [(2, ⟨L2, ws2, l2 n m m⟩)] [(8, ⟨[], [(.mem, 0), (.mem, 1), (.mem, 2), (.mem, 3), (.mem, 4), (.mem, 6), (.mem, 7), (.late, 8), (.step, 5), (.sync, 0), (.cur, 9), (.mem, 10), (.step, 11)]⟩)] [] [] [] (by kernel_rfl) ⟨⟨_, by kernel_rfl, l2_ok n m⟩, trivial⟩ trivial L0 ws0 (fun _ => rfl) (ways_cons (fun _ => rfl) ways_nil) (l0 n m) (fun _ => rfl) (fun _ _ => rfl) m
def rs : List ResultVar := [.tmp 4]
noncomputable def f (n : Nat) (x : CSs.den lin) : Option (CSs.den lout) := run Ty (D n) (mkH [(0, ⟨L0, ws0, l0 n n n⟩), (2, ⟨L2, ws2, l2 n n n⟩)] [(8, ⟨[], [(.mem, 0), (.mem, 1), (.mem, 2), (.mem, 3), (.mem, 4), (.mem, 6), (.mem, 7), (.late, 8), (.step, 5), (.sync, 0), (.cur, 9), (.mem, 10), (.step, 11)]⟩)] [] [] []) ns (cd Go.Proofs.Tryd.f73) (canon lin x) (retK Ty rs (Go.Func.ntmps Go.Proofs.Tryd.f73) lout id)
@[reducible] noncomputable def den (n : Nat) : Den := ⟨lin, lout, [4], [none], CSs.den lout, f n, id⟩
theorem sat (n : Nat) : Sat Go.Proofs.Tryd.prog Ty.gl 73 (den n) := sat_is hTy (hD n) Go.Proofs.Tryd.func73 rfl rfl (den n) [(0, ⟨L0, ws0, l0 n n n⟩), (2, ⟨L2, ws2, l2 n n n⟩)] [(8, ⟨[], [(.mem, 0), (.mem, 1), (.mem, 2), (.mem, 3), (.mem, 4), (.mem, 6), (.mem, 7), (.late, 8), (.step, 5), (.sync, 0), (.cur, 9), (.mem, 10), (.step, 11)]⟩)] [] [] [] (by kernel_rfl) ⟨⟨_, by kernel_rfl, l0_ok n n⟩, ⟨_, by kernel_rfl, l2_ok n n⟩, trivial⟩ trivial (rs := rs) (by kernel_rfl) (by kernel_rfl) (by kernel_rfl) (by kernel_rfl) (by kernel_rfl) (fun _ => rfl) (fun _ _ => rfl) id (fun _ => rfl) (by intro x; kernel_rfl)
end poly_Mul
namespace poly_Through
@[reducible] def lin : List (Nat × CS) := [(0, .v (.list (.int .u8))), (1, .v (.list (.int .u8)))]
@[reducible] def lout : List (Nat × CS) := [(4, .own 5 (.int .u8)), (5, .v (.int .i64))]
noncomputable def ns : NS := nsOf Go.Proofs.Tryd.f43 lin lout
noncomputable def D (n : Nat) : FuncId → Nat → Option Den := lookD [((68, 0), poly_twice.den n), ((70, 0), poly_Eval.den n), ((69, 0), gf_Div.den n), ((72, 0), gf_Scale.den n), ((71, 0), poly_Add.den n), ((73, 0), poly_Mul.den n)]
theorem hD (n : Nat) : DenOk Go.Proofs.Tryd.prog Ty.gl (D n) := lookD_ok ⟨poly_twice.sat n, poly_Eval.sat n, gf_Div.sat n, gf_Scale.sat n, poly_Add.sat n, poly_Mul.sat n, trivial⟩
@[reducible] def L1 : List (Nat × CS) := [(1, .v (.list (.int .u8))), (6, .own 5 (.int .u8)), (7, .own 5 (.int .u8)), (22, .v (.list (.int .u8))), (23, .v (.int .i64)), (24, .v (.int .i64))]
@[reducible] def ws1 : List (Out × List (Nat × CS)) := [(.normal, [(6, .own 5 (.int .u8))])]
noncomputable def l1 (n m : Nat) : Nat → CSs.den L1 → Option (wayDen ws1)
  | 0, _ => none
  | k + 1, x => run Ty (D n) (mkH [] [(10, ⟨[], [(.mem, 0), (.mem, 1), (.mem, 2), (.mem, 3), (.mem, 4), (.mem, 5), (.mem, 8), (.mem, 9), (.step, 6), (.cur, 7), (.step, 10), (.step, 11), (.cur, 12), (.cur, 13), (.cur, 14), (.cur, 15), (.cur, 16)]⟩)] [] [] []) ns (lb Go.Proofs.Tryd.f43 1) (canon L1 x) (loopK 1 L1 (l1 n m k))
theorem l1_ok (n m : Nat) : HintOk Go.Proofs.Tryd.prog Ty.gl ns (.block 1 (.loop (lb Go.Proofs.Tryd.f43 1))) ⟨L1, ws1, l1 n m m⟩ :=
  loop_is hTy (hD n) [] [(10, ⟨[], [(.mem, 0), (.mem, 1), (.mem, 2), (.mem, 3), (.mem, 4), (.mem, 5), (.mem, 8), (.mem, 9), (.step, 6), (.cur, 7), (.step, 10), (.step, 11), (.cur, 12), (.cur, 13), (.cur, 14), (.cur, 15), (.cur, 16)]⟩)] [] [] [] (by kernel_rfl) trivial trivial L1 ws1 (fun _ => rfl) (ways_cons (fun _ => rfl) ways_nil) (l1 n m) (fun _ => rfl) (fun _ _ => rfl) m
def rs : List ResultVar := [.tmp 4, .tmp 5]
noncomputable def f (n : Nat) (x : CSs.den lin) : Option (CSs.den lout) := run Ty (D n) (mkH [(1, ⟨L1, ws1, l1 n n n⟩)] [(10, ⟨[], [(.mem, 0), (.mem, 1), (.mem, 2), (.mem, 3), (.mem, 4), (.mem, 5), (.mem, 8), (.mem, 9), (.step, 6), (.cur, 7), (.step, 10), (.step, 11), (.cur, 12), (.cur, 13), (.cur, 14), (.cur, 15), (.cur, 16)]⟩)] [] [] []) ns (cd Go.Proofs.Tryd.f43) (canon lin x) (retK Ty rs (Go.Func.ntmps Go.Proofs.Tryd.f43) lout id)
@[reducible] noncomputable def den (n : Nat) : Den := ⟨lin, lout, [4, 5], [none], CSs.den lout, f n, id⟩
theorem sat (n : Nat) : Sat Go.Proofs.Tryd.prog Ty.gl 43 (den n) := sat_is hTy (hD n) Go.Proofs.Tryd.func43 rfl rfl (den n) [(1, ⟨L1, ws1, l1 n n n⟩)] [(10, ⟨[], [(.mem, 0), (.mem, 1), (.mem, 2), (.mem, 3), (.mem, 4), (.mem, 5), (.mem, 8), (.mem, 9), (.step, 6), (.cur, 7), (.step, 10), (.step, 11), (.cur, 12), (.cur, 13), (.cur, 14), (.cur, 15), (.cur, 16)]⟩)] [] [] [] (by kernel_rfl) ⟨⟨_, by kernel_rfl, l1_ok n n⟩, trivial⟩ trivial (rs := rs) (by kernel_rfl) (by kernel_rfl) (by kernel_rfl) (by kernel_rfl) (by kernel_rfl) (fun _ => rfl) (fun _ _ => rfl) id (fun _ => rfl) (by intro x; kernel_rfl)
end poly_Through
namespace systematic_Encode
@[reducible] def lin : List (Nat × CS) := [(0, .v (.list (.int .u8))), (1, .v (.int .i64))]
@[reducible] def lout : List (Nat × CS) := [(4, .own 5 (.int .u8)), (5, .v (.int .i64))]
noncomputable def ns : NS := nsOf Go.Proofs.Tryd.f63 lin lout
noncomputable def D (n : Nat) : FuncId → Nat → Option Den := lookD [((44, 0), systematic_places.den n), ((43, 0), poly_Through.den n), ((70, 0), poly_Eval.den n)]
theorem hD (n : Nat) : DenOk Go.Proofs.Tryd.prog Ty.gl (D n) := lookD_ok ⟨systematic_places.sat n, poly_Through.sat n, poly_Eval.sat n, trivial⟩
@[reducible] def L1 : List (Nat × CS) := [(6, .v (.int .i64)), (7, .own 5 (.int .u8)), (9, .own 5 (.int .u8)), (36, .v (.int .i64)), (37, .v (.int .i64))]
@[reducible] def ws1 : List (Out × List (Nat × CS)) := [(.normal, [(9, .own 5 (.int .u8))])]
noncomputable def l1 (n m : Nat) : Nat → CSs.den L1 → Option (wayDen ws1)
  | 0, _ => none
  | k + 1, x => run Ty (D n) (mkH [] [] [] [] []) ns (lb Go.Proofs.Tryd.f63 1) (canon L1 x) (loopK 1 L1 (l1 n m k))
theorem l1_ok (n m : Nat) : HintOk Go.Proofs.Tryd.prog Ty.gl ns (.block 1 (.loop (lb Go.Proofs.Tryd.f63 1))) ⟨L1, ws1, l1 n m m⟩ :=
  loop_is hTy (hD n) [] [] [] [] [] (by kernel_rfl) trivial trivial L1 ws1 (fun _ => rfl) (ways_cons (fun _ => rfl) ways_nil) (l1 n m) (fun _ => rfl) (fun _ _ => rfl) m
def rs : List ResultVar := [.tmp 4, .tmp 5]
noncomputable def f (n : Nat) (x : CSs.den lin) : Option (CSs.den lout) := run Ty (D n) (mkH [(1, ⟨L1, ws1, l1 n n n⟩)] [] [] [] []) ns (cd Go.Proofs.Tryd.f63) (canon lin x) (retK Ty rs (Go.Func.ntmps Go.Proofs.Tryd.f63) lout id)
@[reducible] noncomputable def den (n : Nat) : Den := ⟨lin, lout, [4, 5], [none], CSs.den lout, f n, id⟩
theorem sat (n : Nat) : Sat Go.Proofs.Tryd.prog Ty.gl 63 (den n) := sat_is hTy (hD n) Go.Proofs.Tryd.func63 rfl rfl (den n) [(1, ⟨L1, ws1, l1 n n n⟩)] [] [] [] [] (by kernel_rfl) ⟨⟨_, by kernel_rfl, l1_ok n n⟩, trivial⟩ trivial (rs := rs) (by kernel_rfl) (by kernel_rfl) (by kernel_rfl) (by kernel_rfl) (by kernel_rfl) (fun _ => rfl) (fun _ _ => rfl) id (fun _ => rfl) (by intro x; kernel_rfl)
end systematic_Encode
end Go.Proofs.YtlioalaehkohlaaDoor.Vm
