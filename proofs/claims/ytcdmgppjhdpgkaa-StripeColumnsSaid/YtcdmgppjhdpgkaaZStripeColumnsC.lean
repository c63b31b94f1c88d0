/- What the statement's proof uses: lemmas, and the program's functions as Lean functions; each theorem states its own conditions. Joined by a program. -/
import Derived.Test.YtcdmgppjhdpgkaaZStripeColumnsB
namespace Go.Proofs.Ytcdmgppjhdpgkaa.P
open Go.RowKit Go.Proofs.YtcdmgppjhdpgkaaW.PrintWords Go.Proofs.YtcdmgppjhdpgkaaW.PrintLast Go.Proofs.YtcdmgppjhdpgkaaW.PrintMore
set_option linter.unusedVariables false
set_option linter.unusedSimpArgs false
theorem footlockerlaw23_alive.mono : ∀ k, LeO (footlockerlaw23_alive.f k ) (footlockerlaw23_alive.f (k + 1) ) := by
 intro  k
 unfold footlockerlaw23_alive.f
 repeat' first
  | (with_reducible exact stripe_Column.mono _ _ _)
  | (with_reducible exact stripe_Parity.mono _ _ _)
  | (with_reducible exact stripe_Volume.mono _ _)
  | (with_reducible exact LeO.refl _)
  | (with_reducible exact LeO.none _)
  | (with_reducible refine LeO.ite ?_ ?_)
  | (with_reducible refine LeO.bind ?_ (fun _ => ?_))
  | exact stripe_Column.mono _ _ _
  | exact stripe_Parity.mono _ _ _
  | exact stripe_Volume.mono _ _
  | exact LeO.none _
  | refine LeO.ite ?_ ?_
  | refine LeO.bind ?_ (fun _ => ?_)
set_option maxHeartbeats 8000000 in
set_option maxRecDepth 100000 in
theorem footlockerlaw23_alive.calls (k : Nat)  (r : Bool) (w : World) (h : footlockerlaw23_alive.f k  = some r) :
 Calls Try.prog 7 #[] w fun e w' => e = .returned (.bool r) ∧ Below w.heap.size w w' := by
 have hu24 := Try.underlying24
 have HB := Aside0.mk (Below.refl w.heap.size w)
 have H : ((stripe_Column.f k (([97, 98] : List Int)) 5).bind fun bt211 => ((stripe_Volume.f k bt211.1).bind fun bt215 => ((stripe_Volume.f k (([9, 0, 0, 0, 0, 0, 0, 0] : List Int))).bind fun bt222 => ((stripe_Parity.f k (([(([5] : List Int)), (([7] : List Int))] : List (List Int))) 1).bind fun bt235 => ((stripe_Parity.f k ([] : List (List Int)) 1).bind fun bt239 => (if (bt235.1.length : Int) = 1 then (if (strOfNums bt211.1).toList = ([2, 0, 0, 0, 0, 0, 0, 0, 97, 98, 0, 0, 0] : List UInt8) then (if bt211.2 = 0 then (if (strOfNums bt215.1).toList = ([97, 98] : List UInt8) then (if bt215.2 = 0 then (if bt222.2 = 23 then (if 0 < (bt235.1.length : Int) then (if (strOfNums (rd_L1 bt235.1 0)).toList = ([1] : List UInt8) then (if bt235.2 = 0 then (if bt239.2 = 1 then ((stripe_Right.f 2 1 5 4).bind fun t245 => (if t245 = true then ((stripe_Long.f 2 1 5 4).bind fun t246 => (if t246 = 13 then ((stripe_Blocks.f 2 1 5 4).bind fun t247 => (if t247 = 4 then ((stripe_Blocks.f 0 0 0 0).bind fun t248 => (some (t248 == 0))) else (none))) else (none))) else (none))) else (none)) else (none)) else (none)) else (none)) else (none)) else (none)) else (none)) else (none)) else (none)) else (none))))))) = some r := h
 clear h
 obtain ⟨y208, hy208⟩ : ∃ y_ : List Int, y_ = (([97, 98] : List Int)) := ⟨_, rfl⟩
 replace H : ((stripe_Column.f k y208 5).bind fun bt211 => ((stripe_Volume.f k bt211.1).bind fun bt215 => ((stripe_Volume.f k (([9, 0, 0, 0, 0, 0, 0, 0] : List Int))).bind fun bt222 => ((stripe_Parity.f k (([(([5] : List Int)), (([7] : List Int))] : List (List Int))) 1).bind fun bt235 => ((stripe_Parity.f k ([] : List (List Int)) 1).bind fun bt239 => (if (bt235.1.length : Int) = 1 then (if (strOfNums bt211.1).toList = ([2, 0, 0, 0, 0, 0, 0, 0, 97, 98, 0, 0, 0] : List UInt8) then (if bt211.2 = 0 then (if (strOfNums bt215.1).toList = ([97, 98] : List UInt8) then (if bt215.2 = 0 then (if bt222.2 = 23 then (if 0 < (bt235.1.length : Int) then (if (strOfNums (rd_L1 bt235.1 0)).toList = ([1] : List UInt8) then (if bt235.2 = 0 then (if bt239.2 = 1 then ((stripe_Right.f 2 1 5 4).bind fun t245 => (if t245 = true then ((stripe_Long.f 2 1 5 4).bind fun t246 => (if t246 = 13 then ((stripe_Blocks.f 2 1 5 4).bind fun t247 => (if t247 = 4 then ((stripe_Blocks.f 0 0 0 0).bind fun t248 => (some (t248 == 0))) else (none))) else (none))) else (none))) else (none)) else (none)) else (none)) else (none)) else (none)) else (none)) else (none)) else (none)) else (none)) else (none))))))) = some r := by first | (rw [hy208]; with_reducible exact H) | (have H2_ := (Option.bind_some _ _).symm.trans H; rw [hy208]; with_reducible exact H2_) | (have H2_ := (Option.bind_some _ _).symm.trans H; with_reducible exact H2_) | with_reducible exact H | (rw [hy208]; exact H) | exact H
 have Ny208 := Aside0.mk hy208
 clear hy208
 replace H := Option.bind_eq_some_iff.mp H
 obtain ⟨⟨t211, t214⟩, A10, H⟩ := H
 replace H : ((stripe_Volume.f k t211).bind fun bt215 => ((stripe_Volume.f k (([9, 0, 0, 0, 0, 0, 0, 0] : List Int))).bind fun bt222 => ((stripe_Parity.f k (([(([5] : List Int)), (([7] : List Int))] : List (List Int))) 1).bind fun bt235 => ((stripe_Parity.f k ([] : List (List Int)) 1).bind fun bt239 => (if (bt235.1.length : Int) = 1 then (if (strOfNums t211).toList = ([2, 0, 0, 0, 0, 0, 0, 0, 97, 98, 0, 0, 0] : List UInt8) then (if t214 = 0 then (if (strOfNums bt215.1).toList = ([97, 98] : List UInt8) then (if bt215.2 = 0 then (if bt222.2 = 23 then (if 0 < (bt235.1.length : Int) then (if (strOfNums (rd_L1 bt235.1 0)).toList = ([1] : List UInt8) then (if bt235.2 = 0 then (if bt239.2 = 1 then ((stripe_Right.f 2 1 5 4).bind fun t245 => (if t245 = true then ((stripe_Long.f 2 1 5 4).bind fun t246 => (if t246 = 13 then ((stripe_Blocks.f 2 1 5 4).bind fun t247 => (if t247 = 4 then ((stripe_Blocks.f 0 0 0 0).bind fun t248 => (some (t248 == 0))) else (none))) else (none))) else (none))) else (none)) else (none)) else (none)) else (none)) else (none)) else (none)) else (none)) else (none)) else (none)) else (none)))))) = some r := H
 have A1 := Aside0.mk A10
 clear A10
 replace H := Option.bind_eq_some_iff.mp H
 obtain ⟨⟨t215, t216⟩, A20, H⟩ := H
 replace H : ((stripe_Volume.f k (([9, 0, 0, 0, 0, 0, 0, 0] : List Int))).bind fun bt222 => ((stripe_Parity.f k (([(([5] : List Int)), (([7] : List Int))] : List (List Int))) 1).bind fun bt235 => ((stripe_Parity.f k ([] : List (List Int)) 1).bind fun bt239 => (if (bt235.1.length : Int) = 1 then (if (strOfNums t211).toList = ([2, 0, 0, 0, 0, 0, 0, 0, 97, 98, 0, 0, 0] : List UInt8) then (if t214 = 0 then (if (strOfNums t215).toList = ([97, 98] : List UInt8) then (if t216 = 0 then (if bt222.2 = 23 then (if 0 < (bt235.1.length : Int) then (if (strOfNums (rd_L1 bt235.1 0)).toList = ([1] : List UInt8) then (if bt235.2 = 0 then (if bt239.2 = 1 then ((stripe_Right.f 2 1 5 4).bind fun t245 => (if t245 = true then ((stripe_Long.f 2 1 5 4).bind fun t246 => (if t246 = 13 then ((stripe_Blocks.f 2 1 5 4).bind fun t247 => (if t247 = 4 then ((stripe_Blocks.f 0 0 0 0).bind fun t248 => (some (t248 == 0))) else (none))) else (none))) else (none))) else (none)) else (none)) else (none)) else (none)) else (none)) else (none)) else (none)) else (none)) else (none)) else (none))))) = some r := H
 have A2 := Aside0.mk A20
 clear A20
 obtain ⟨y219, hy219⟩ : ∃ y_ : List Int, y_ = (([9, 0, 0, 0, 0, 0, 0, 0] : List Int)) := ⟨_, rfl⟩
 replace H : ((stripe_Volume.f k y219).bind fun bt222 => ((stripe_Parity.f k (([(([5] : List Int)), (([7] : List Int))] : List (List Int))) 1).bind fun bt235 => ((stripe_Parity.f k ([] : List (List Int)) 1).bind fun bt239 => (if (bt235.1.length : Int) = 1 then (if (strOfNums t211).toList = ([2, 0, 0, 0, 0, 0, 0, 0, 97, 98, 0, 0, 0] : List UInt8) then (if t214 = 0 then (if (strOfNums t215).toList = ([97, 98] : List UInt8) then (if t216 = 0 then (if bt222.2 = 23 then (if 0 < (bt235.1.length : Int) then (if (strOfNums (rd_L1 bt235.1 0)).toList = ([1] : List UInt8) then (if bt235.2 = 0 then (if bt239.2 = 1 then ((stripe_Right.f 2 1 5 4).bind fun t245 => (if t245 = true then ((stripe_Long.f 2 1 5 4).bind fun t246 => (if t246 = 13 then ((stripe_Blocks.f 2 1 5 4).bind fun t247 => (if t247 = 4 then ((stripe_Blocks.f 0 0 0 0).bind fun t248 => (some (t248 == 0))) else (none))) else (none))) else (none))) else (none)) else (none)) else (none)) else (none)) else (none)) else (none)) else (none)) else (none)) else (none)) else (none))))) = some r := by first | (rw [hy219]; with_reducible exact H) | (have H2_ := (Option.bind_some _ _).symm.trans H; rw [hy219]; with_reducible exact H2_) | (have H2_ := (Option.bind_some _ _).symm.trans H; with_reducible exact H2_) | with_reducible exact H | (rw [hy219]; exact H) | exact H
 have Ny219 := Aside0.mk hy219
 clear hy219
 replace H := Option.bind_eq_some_iff.mp H
 obtain ⟨⟨t222, t223⟩, A30, H⟩ := H
 replace H : ((stripe_Parity.f k (([(([5] : List Int)), (([7] : List Int))] : List (List Int))) 1).bind fun bt235 => ((stripe_Parity.f k ([] : List (List Int)) 1).bind fun bt239 => (if (bt235.1.length : Int) = 1 then (if (strOfNums t211).toList = ([2, 0, 0, 0, 0, 0, 0, 0, 97, 98, 0, 0, 0] : List UInt8) then (if t214 = 0 then (if (strOfNums t215).toList = ([97, 98] : List UInt8) then (if t216 = 0 then (if t223 = 23 then (if 0 < (bt235.1.length : Int) then (if (strOfNums (rd_L1 bt235.1 0)).toList = ([1] : List UInt8) then (if bt235.2 = 0 then (if bt239.2 = 1 then ((stripe_Right.f 2 1 5 4).bind fun t245 => (if t245 = true then ((stripe_Long.f 2 1 5 4).bind fun t246 => (if t246 = 13 then ((stripe_Blocks.f 2 1 5 4).bind fun t247 => (if t247 = 4 then ((stripe_Blocks.f 0 0 0 0).bind fun t248 => (some (t248 == 0))) else (none))) else (none))) else (none))) else (none)) else (none)) else (none)) else (none)) else (none)) else (none)) else (none)) else (none)) else (none)) else (none)))) = some r := H
 have A3 := Aside0.mk A30
 clear A30
 obtain ⟨y226, hy226⟩ : ∃ y_ : List Int, y_ = (([5] : List Int)) := ⟨_, rfl⟩
 replace H : ((stripe_Parity.f k (([y226, (([7] : List Int))] : List (List Int))) 1).bind fun bt235 => ((stripe_Parity.f k ([] : List (List Int)) 1).bind fun bt239 => (if (bt235.1.length : Int) = 1 then (if (strOfNums t211).toList = ([2, 0, 0, 0, 0, 0, 0, 0, 97, 98, 0, 0, 0] : List UInt8) then (if t214 = 0 then (if (strOfNums t215).toList = ([97, 98] : List UInt8) then (if t216 = 0 then (if t223 = 23 then (if 0 < (bt235.1.length : Int) then (if (strOfNums (rd_L1 bt235.1 0)).toList = ([1] : List UInt8) then (if bt235.2 = 0 then (if bt239.2 = 1 then ((stripe_Right.f 2 1 5 4).bind fun t245 => (if t245 = true then ((stripe_Long.f 2 1 5 4).bind fun t246 => (if t246 = 13 then ((stripe_Blocks.f 2 1 5 4).bind fun t247 => (if t247 = 4 then ((stripe_Blocks.f 0 0 0 0).bind fun t248 => (some (t248 == 0))) else (none))) else (none))) else (none))) else (none)) else (none)) else (none)) else (none)) else (none)) else (none)) else (none)) else (none)) else (none)) else (none)))) = some r := by first | (rw [hy226]; with_reducible exact H) | (have H2_ := (Option.bind_some _ _).symm.trans H; rw [hy226]; with_reducible exact H2_) | (have H2_ := (Option.bind_some _ _).symm.trans H; with_reducible exact H2_) | with_reducible exact H | (rw [hy226]; exact H) | exact H
 have Ny226 := Aside0.mk hy226
 clear hy226
 obtain ⟨y229, hy229⟩ : ∃ y_ : List Int, y_ = (([7] : List Int)) := ⟨_, rfl⟩
 replace H : ((stripe_Parity.f k (([y226, y229] : List (List Int))) 1).bind fun bt235 => ((stripe_Parity.f k ([] : List (List Int)) 1).bind fun bt239 => (if (bt235.1.length : Int) = 1 then (if (strOfNums t211).toList = ([2, 0, 0, 0, 0, 0, 0, 0, 97, 98, 0, 0, 0] : List UInt8) then (if t214 = 0 then (if (strOfNums t215).toList = ([97, 98] : List UInt8) then (if t216 = 0 then (if t223 = 23 then (if 0 < (bt235.1.length : Int) then (if (strOfNums (rd_L1 bt235.1 0)).toList = ([1] : List UInt8) then (if bt235.2 = 0 then (if bt239.2 = 1 then ((stripe_Right.f 2 1 5 4).bind fun t245 => (if t245 = true then ((stripe_Long.f 2 1 5 4).bind fun t246 => (if t246 = 13 then ((stripe_Blocks.f 2 1 5 4).bind fun t247 => (if t247 = 4 then ((stripe_Blocks.f 0 0 0 0).bind fun t248 => (some (t248 == 0))) else (none))) else (none))) else (none))) else (none)) else (none)) else (none)) else (none)) else (none)) else (none)) else (none)) else (none)) else (none)) else (none)))) = some r := by first | (rw [hy229]; with_reducible exact H) | (have H2_ := (Option.bind_some _ _).symm.trans H; rw [hy229]; with_reducible exact H2_) | (have H2_ := (Option.bind_some _ _).symm.trans H; with_reducible exact H2_) | with_reducible exact H | (rw [hy229]; exact H) | exact H
 have Ny229 := Aside0.mk hy229
 clear hy229
 obtain ⟨y232, hy232⟩ : ∃ y_ : List (List Int), y_ = (([y226, y229] : List (List Int))) := ⟨_, rfl⟩
 replace H : ((stripe_Parity.f k y232 1).bind fun bt235 => ((stripe_Parity.f k ([] : List (List Int)) 1).bind fun bt239 => (if (bt235.1.length : Int) = 1 then (if (strOfNums t211).toList = ([2, 0, 0, 0, 0, 0, 0, 0, 97, 98, 0, 0, 0] : List UInt8) then (if t214 = 0 then (if (strOfNums t215).toList = ([97, 98] : List UInt8) then (if t216 = 0 then (if t223 = 23 then (if 0 < (bt235.1.length : Int) then (if (strOfNums (rd_L1 bt235.1 0)).toList = ([1] : List UInt8) then (if bt235.2 = 0 then (if bt239.2 = 1 then ((stripe_Right.f 2 1 5 4).bind fun t245 => (if t245 = true then ((stripe_Long.f 2 1 5 4).bind fun t246 => (if t246 = 13 then ((stripe_Blocks.f 2 1 5 4).bind fun t247 => (if t247 = 4 then ((stripe_Blocks.f 0 0 0 0).bind fun t248 => (some (t248 == 0))) else (none))) else (none))) else (none))) else (none)) else (none)) else (none)) else (none)) else (none)) else (none)) else (none)) else (none)) else (none)) else (none)))) = some r := by first | (rw [hy232]; with_reducible exact H) | (have H2_ := (Option.bind_some _ _).symm.trans H; rw [hy232]; with_reducible exact H2_) | (have H2_ := (Option.bind_some _ _).symm.trans H; with_reducible exact H2_) | with_reducible exact H | (rw [hy232]; exact H) | exact H
 have Ny232 := Aside0.mk hy232
 clear hy232
 replace H := Option.bind_eq_some_iff.mp H
 obtain ⟨⟨t235, t236⟩, A40, H⟩ := H
 replace H : ((stripe_Parity.f k ([] : List (List Int)) 1).bind fun bt239 => (if (t235.length : Int) = 1 then (if (strOfNums t211).toList = ([2, 0, 0, 0, 0, 0, 0, 0, 97, 98, 0, 0, 0] : List UInt8) then (if t214 = 0 then (if (strOfNums t215).toList = ([97, 98] : List UInt8) then (if t216 = 0 then (if t223 = 23 then (if 0 < (t235.length : Int) then (if (strOfNums (rd_L1 t235 0)).toList = ([1] : List UInt8) then (if t236 = 0 then (if bt239.2 = 1 then ((stripe_Right.f 2 1 5 4).bind fun t245 => (if t245 = true then ((stripe_Long.f 2 1 5 4).bind fun t246 => (if t246 = 13 then ((stripe_Blocks.f 2 1 5 4).bind fun t247 => (if t247 = 4 then ((stripe_Blocks.f 0 0 0 0).bind fun t248 => (some (t248 == 0))) else (none))) else (none))) else (none))) else (none)) else (none)) else (none)) else (none)) else (none)) else (none)) else (none)) else (none)) else (none)) else (none))) = some r := H
 have A4 := Aside0.mk A40
 clear A40
 replace H := Option.bind_eq_some_iff.mp H
 obtain ⟨⟨t239, t240⟩, A50, H⟩ := H
 replace H : (if (t235.length : Int) = 1 then (if (strOfNums t211).toList = ([2, 0, 0, 0, 0, 0, 0, 0, 97, 98, 0, 0, 0] : List UInt8) then (if t214 = 0 then (if (strOfNums t215).toList = ([97, 98] : List UInt8) then (if t216 = 0 then (if t223 = 23 then (if 0 < (t235.length : Int) then (if (strOfNums (rd_L1 t235 0)).toList = ([1] : List UInt8) then (if t236 = 0 then (if t240 = 1 then ((stripe_Right.f 2 1 5 4).bind fun t245 => (if t245 = true then ((stripe_Long.f 2 1 5 4).bind fun t246 => (if t246 = 13 then ((stripe_Blocks.f 2 1 5 4).bind fun t247 => (if t247 = 4 then ((stripe_Blocks.f 0 0 0 0).bind fun t248 => (some (t248 == 0))) else (none))) else (none))) else (none))) else (none)) else (none)) else (none)) else (none)) else (none)) else (none)) else (none)) else (none)) else (none)) else (none)) = some r := H
 have A5 := Aside0.mk A50
 clear A50
 by_cases c6 : (t235.length : Int) = 1
 ·rw [if_pos c6] at H
  have c6b0 : ((t235.length : Int) == 1) = true := beq_iff_eq.mpr c6
  have c6b1 : ((t235.length : Int) != 1) = false := bne_eq_false_iff_eq.mpr c6
  clear c6
  by_cases c7 : (strOfNums t211).toList = ([2, 0, 0, 0, 0, 0, 0, 0, 97, 98, 0, 0, 0] : List UInt8)
  ·rw [if_pos c7] at H
   have c7b0 : ((strOfNums t211).toList == ([2, 0, 0, 0, 0, 0, 0, 0, 97, 98, 0, 0, 0] : List UInt8)) = true := beq_iff_eq.mpr c7
   have c7b1 : ((strOfNums t211).toList != ([2, 0, 0, 0, 0, 0, 0, 0, 97, 98, 0, 0, 0] : List UInt8)) = false := bne_eq_false_iff_eq.mpr c7
   clear c7
   by_cases c8 : t214 = 0
   ·rw [if_pos c8] at H
    have c8b0 : (t214 == 0) = true := beq_iff_eq.mpr c8
    have c8b1 : (t214 != 0) = false := bne_eq_false_iff_eq.mpr c8
    clear c8
    by_cases c9 : (strOfNums t215).toList = ([97, 98] : List UInt8)
    ·rw [if_pos c9] at H
     have c9b0 : ((strOfNums t215).toList == ([97, 98] : List UInt8)) = true := beq_iff_eq.mpr c9
     have c9b1 : ((strOfNums t215).toList != ([97, 98] : List UInt8)) = false := bne_eq_false_iff_eq.mpr c9
     clear c9
     by_cases c10 : t216 = 0
     ·rw [if_pos c10] at H
      have c10b0 : (t216 == 0) = true := beq_iff_eq.mpr c10
      have c10b1 : (t216 != 0) = false := bne_eq_false_iff_eq.mpr c10
      clear c10
      by_cases c11 : t223 = 23
      ·rw [if_pos c11] at H
       have c11b0 : (t223 == 23) = true := beq_iff_eq.mpr c11
       have c11b1 : (t223 != 23) = false := bne_eq_false_iff_eq.mpr c11
       clear c11
       by_cases c12 : 0 < (t235.length : Int)
       ·rw [if_pos c12] at H
        have c12b0 : decide (0 < (t235.length : Int)) = true := decide_eq_true c12
        have c12b1 : decide (0 < t235.length) = true := decide_eq_true (by omega)
        clear c12
        by_cases c13 : (strOfNums (rd_L1 t235 0)).toList = ([1] : List UInt8)
        ·rw [if_pos c13] at H
         have c13b0 : ((strOfNums (rd_L1 t235 0)).toList == ([1] : List UInt8)) = true := beq_iff_eq.mpr c13
         have c13b1 : ((strOfNums (rd_L1 t235 0)).toList != ([1] : List UInt8)) = false := bne_eq_false_iff_eq.mpr c13
         clear c13
         by_cases c14 : t236 = 0
         ·rw [if_pos c14] at H
          have c14b0 : (t236 == 0) = true := beq_iff_eq.mpr c14
          have c14b1 : (t236 != 0) = false := bne_eq_false_iff_eq.mpr c14
          clear c14
          by_cases c15 : t240 = 1
          ·rw [if_pos c15] at H
           have c15b0 : (t240 == 1) = true := beq_iff_eq.mpr c15
           have c15b1 : (t240 != 1) = false := bne_eq_false_iff_eq.mpr c15
           clear c15
           replace H := Option.bind_eq_some_iff.mp H
           obtain ⟨t245, A160, H⟩ := H
           replace H : (if t245 = true then ((stripe_Long.f 2 1 5 4).bind fun t246 => (if t246 = 13 then ((stripe_Blocks.f 2 1 5 4).bind fun t247 => (if t247 = 4 then ((stripe_Blocks.f 0 0 0 0).bind fun t248 => (some (t248 == 0))) else (none))) else (none))) else (none)) = some r := H
           have A16 := Aside0.mk A160
           clear A160
           by_cases c17 : t245 = true
           ·subst c17
            have H1 : ((stripe_Long.f 2 1 5 4).bind fun t246 => (if t246 = 13 then ((stripe_Blocks.f 2 1 5 4).bind fun t247 => (if t247 = 4 then ((stripe_Blocks.f 0 0 0 0).bind fun t248 => (some (t248 == 0))) else (none))) else (none))) = some r := by rw [if_pos rfl] at H; exact H
            clear H
            have H := H1
            clear H1
            replace H := Option.bind_eq_some_iff.mp H
            obtain ⟨t246, A180, H⟩ := H
            replace H : (if t246 = 13 then ((stripe_Blocks.f 2 1 5 4).bind fun t247 => (if t247 = 4 then ((stripe_Blocks.f 0 0 0 0).bind fun t248 => (some (t248 == 0))) else (none))) else (none)) = some r := H
            have A18 := Aside0.mk A180
            clear A180
            by_cases c19 : t246 = 13
            ·rw [if_pos c19] at H
             have c19b0 : (t246 == 13) = true := beq_iff_eq.mpr c19
             have c19b1 : (t246 != 13) = false := bne_eq_false_iff_eq.mpr c19
             clear c19
             replace H := Option.bind_eq_some_iff.mp H
             obtain ⟨t247, A200, H⟩ := H
             replace H : (if t247 = 4 then ((stripe_Blocks.f 0 0 0 0).bind fun t248 => (some (t248 == 0))) else (none)) = some r := H
             have A20 := Aside0.mk A200
             clear A200
             by_cases c21 : t247 = 4
             ·rw [if_pos c21] at H
              have c21b0 : (t247 == 4) = true := beq_iff_eq.mpr c21
              have c21b1 : (t247 != 4) = false := bne_eq_false_iff_eq.mpr c21
              clear c21
              replace H := Option.bind_eq_some_iff.mp H
              obtain ⟨t248, A220, H⟩ := H
              replace H : (some (t248 == 0)) = some r := H
              have A22 := Aside0.mk A220
              clear A220
              obtain rfl := Option.some.inj H
              go_enter Try.func7, Try.ntmps7
              go_wp2_with (first | ((with_reducible refine gate_dst (N := 13) rfl ?_); refine Kd.R_lit (Kd.int .u8) _ 5 ?hg (N := 13) ?hd (xs := ([97, 98] : List Int)) (inner := [.int .u8 97, .int .u8 98]) (ok := fun _ => True) (okp := fun _ => True) ?hr ?hp (fun _ hk => hk) trivial (Below.refl _ _) (Nat.le_refl _) (by simp) ?_; (case hd => rfl); (case hg => rfl); (case hr => first | (go_simp; done) | (go_simp; rfl)); (case hp => exact (Reps.one (show Kd.M (Kd.int .u8) _ _ _ 97 [.int .u8 97] from rfl) (Reps.one (show Kd.M (Kd.int .u8) _ _ _ 98 [.int .u8 98] from rfl) (Reps.none _ _)))); intro v209 w23 ho24 hb hg_ hnew_; clear hg_ hnew_; (first | rw [← Ny208.out] at ho24 | (simp only [Int.reduceToNat] at ho24; rw [← Ny208.out] at ho24)); obtain ⟨w25, hcv_, ho26, hvb_, hb2_⟩ := Mm.R_frz Try.underlying22 Try.underlying5 ho24 (by rw [Ny208.out]; decide) hb; clear ho24 hb; have hb := hb2_; clear hb2_; have n0_ := Aside0.mk (Kd.V_lower (Kd.V_mono (ok' := fun k_ => True) ho26 (fun k_ hk_ => trivial)) (below_size (by repeat (first | (with_reducible first | exact HB.out | apply below_alloc | apply pw_below_drewN | apply below_drew1) | exact HB.out)))); have n1_ := Aside0.mk (below_step (by repeat (first | (with_reducible first | exact HB.out | apply below_alloc | apply pw_below_drewN | apply below_drew1) | exact HB.out)) hb); clear HB; have HO210 := n0_; have HB := n1_; clear n0_ n1_; clear hb ho26 hvb_; obtain ⟨Ao27, co27, eo27⟩ := Kd.V_slice HO210.out; subst eo27) | ((with_reducible refine gate_callee (f := 8) rfl ?_); refine goesL_ (some 15) rfl rfl Try.func8 (by kernel_rfl) rfl #[.slice Ao27 y208.length co27, .int .i64 5] rfl (by (try simp only [List.map_toArray, List.map_cons, List.map_nil]); first | done | rfl | (simp only [List.length_drop, List.length_take]; rfl)) ?_; (with_reducible refine (stripe_Column.calls k (fun k_ => True) _ _ y208 5 t211 t214 _ ?side1 A1.out).mono ?_); (case side1 => exact HO210.out); rintro e w28 ⟨v212, rfl, ho0, hb⟩; refine ⟨_, rfl, ?_⟩; have n0_ := Aside0.mk (Kd.V_elder' (by (with_reducible repeat (first | apply Kd.V_alloc | apply Kd.V_drewN | apply Kd.V_drew)); exact HO210.out) (Kd.R_base ho0) hb); have n1_ := Aside0.mk (Kd.R_lower (Kd.R_mono (ok' := fun k_ => True) ho0 (fun _ hk_ => trivial)) (below_size (by repeat (first | (with_reducible first | exact HB.out | apply below_alloc | apply pw_below_drewN | apply below_drew1) | exact HB.out)))); have n2_ := Aside0.mk (below_step (by repeat (first | (with_reducible first | exact HB.out | apply below_alloc | apply pw_below_drewN | apply below_drew1) | exact HB.out)) hb); clear HO210; clear HB; have HO210 := n0_; have HO213 := n1_; have HB := n2_; clear n0_ n1_ n2_; (try clear hb); (try clear hb2); (try clear hk); (try clear hi); (try clear ho0); obtain ⟨Ao29, co29, eo29⟩ := Kd.R_slice HO213.out; subst eo29) | ((with_reducible refine gate_callee (f := 10) rfl ?_); refine goesL_ (some 20) rfl rfl Try.func10 (by kernel_rfl) rfl #[.slice Ao29 t211.length co29] rfl (by (try simp only [List.map_toArray, List.map_cons, List.map_nil]); first | done | rfl | (simp only [List.length_drop, List.length_take]; rfl)) ?_; (with_reducible refine (stripe_Volume.calls k _ _ t211 t215 t216 _ ?side1 ?side2 A2.out).mono ?_); (case side1 => repeat (first | exact (Kd.R_reads' HO213.out).2.2 | (with_reducible refine Kd.C_alloc ?_ _) | (with_reducible refine Kd.C_drewN ?_ _) | (with_reducible refine Kd.C_drew ?_))); (case side2 => exact (Kd.R_reads' HO213.out).2.1); rintro e w30 ⟨v217, rfl, ho0, hb⟩; refine ⟨_, rfl, ?_⟩; have n0_ := Aside0.mk (Kd.V_elder' (by (with_reducible repeat (first | apply Kd.V_alloc | apply Kd.V_drewN | apply Kd.V_drew)); exact HO210.out) (Kd.R_base ho0) hb); have n1_ := Aside0.mk (Kd.R_elder' (by (with_reducible repeat (first | apply Kd.R_alloc | apply Kd.R_drewN | apply Kd.R_drew)); exact HO213.out) (Kd.R_base ho0) hb); have n2_ := Aside0.mk (Kd.R_lower (Kd.R_new' ho0 (Kd.R_lt (by (with_reducible repeat (first | apply Kd.R_alloc | apply Kd.R_drewN | apply Kd.R_drew)); exact HO213.out))) (below_size (by repeat (first | (with_reducible first | exact HB.out | apply below_alloc | apply pw_below_drewN | apply below_drew1) | exact HB.out)))); have n3_ := Aside0.mk (below_step (by repeat (first | (with_reducible first | exact HB.out | apply below_alloc | apply pw_below_drewN | apply below_drew1) | exact HB.out)) hb); clear HO210; clear HO213; clear HB; have HO210 := n0_; have HO213 := n1_; have HO218 := n2_; have HB := n3_; clear n0_ n1_ n2_ n3_; (try clear hb); (try clear hb2); (try clear hk); (try clear hi); (try clear ho0)) | ((with_reducible refine gate_dst (N := 24) rfl ?_); refine Kd.R_lit (Kd.int .u8) _ 5 ?hg (N := 24) ?hd (xs := ([9, 0, 0, 0, 0, 0, 0, 0] : List Int)) (inner := [.int .u8 9, .int .u8 0, .int .u8 0, .int .u8 0, .int .u8 0, .int .u8 0, .int .u8 0, .int .u8 0]) (ok := fun _ => True) (okp := fun _ => True) ?hr ?hp (fun _ hk => hk) trivial (Below.refl _ _) (Nat.le_refl _) (by simp) ?_; (case hd => rfl); (case hg => rfl); (case hr => first | (go_simp; done) | (go_simp; rfl)); (case hp => exact (Reps.one (show Kd.M (Kd.int .u8) _ _ _ 9 [.int .u8 9] from rfl) (Reps.one (show Kd.M (Kd.int .u8) _ _ _ 0 [.int .u8 0] from rfl) (Reps.one (show Kd.M (Kd.int .u8) _ _ _ 0 [.int .u8 0] from rfl) (Reps.one (show Kd.M (Kd.int .u8) _ _ _ 0 [.int .u8 0] from rfl) (Reps.one (show Kd.M (Kd.int .u8) _ _ _ 0 [.int .u8 0] from rfl) (Reps.one (show Kd.M (Kd.int .u8) _ _ _ 0 [.int .u8 0] from rfl) (Reps.one (show Kd.M (Kd.int .u8) _ _ _ 0 [.int .u8 0] from rfl) (Reps.one (show Kd.M (Kd.int .u8) _ _ _ 0 [.int .u8 0] from rfl) (Reps.none _ _)))))))))); intro v220 w31 ho32 hb hg_ hnew_; clear hg_ hnew_; (first | rw [← Ny219.out] at ho32 | (simp only [Int.reduceToNat] at ho32; rw [← Ny219.out] at ho32)); have n0_ := Aside0.mk (Kd.V_elder' (by (with_reducible repeat (first | apply Kd.V_alloc | apply Kd.V_drewN | apply Kd.V_drew)); exact HO210.out) (Kd.R_base ho32) hb); have n1_ := Aside0.mk (Kd.R_elder' (by (with_reducible repeat (first | apply Kd.R_alloc | apply Kd.R_drewN | apply Kd.R_drew)); exact HO213.out) (Kd.R_base ho32) hb); have n2_ := Aside0.mk (Kd.R_elder' (by (with_reducible repeat (first | apply Kd.R_alloc | apply Kd.R_drewN | apply Kd.R_drew)); exact HO218.out) (Kd.R_base ho32) hb); have n3_ := Aside0.mk (Kd.R_lower (Kd.R_new' (Kd.R_new' ho32 (Kd.R_lt (by (with_reducible repeat (first | apply Kd.R_alloc | apply Kd.R_drewN | apply Kd.R_drew)); exact HO213.out))) (Kd.R_lt (by (with_reducible repeat (first | apply Kd.R_alloc | apply Kd.R_drewN | apply Kd.R_drew)); exact HO218.out))) (below_size (by repeat (first | (with_reducible first | exact HB.out | apply below_alloc | apply pw_below_drewN | apply below_drew1) | exact HB.out)))); have n4_ := Aside0.mk (below_step (by repeat (first | (with_reducible first | exact HB.out | apply below_alloc | apply pw_below_drewN | apply below_drew1) | exact HB.out)) hb); clear HO210; clear HO213; clear HO218; clear HB; have HO210 := n0_; have HO213 := n1_; have HO218 := n2_; have HO221 := n3_; have HB := n4_; clear n0_ n1_ n2_ n3_ n4_; clear hb ho32; obtain ⟨Ao33, co33, eo33⟩ := Kd.R_slice HO221.out; subst eo33) | ((with_reducible refine gate_callee (f := 10) rfl ?_); refine goesL_ (some 25) rfl rfl Try.func10 (by kernel_rfl) rfl #[.slice Ao33 y219.length co33] rfl (by (try simp only [List.map_toArray, List.map_cons, List.map_nil]); first | done | rfl | (simp only [List.length_drop, List.length_take]; rfl)) ?_; (with_reducible refine (stripe_Volume.calls k _ _ y219 t222 t223 _ ?side1 ?side2 A3.out).mono ?_); (case side1 => repeat (first | exact (Kd.R_reads' HO221.out).2.2 | (with_reducible refine Kd.C_alloc ?_ _) | (with_reducible refine Kd.C_drewN ?_ _) | (with_reducible refine Kd.C_drew ?_))); (case side2 => exact (Kd.R_reads' HO221.out).2.1); rintro e w34 ⟨v224, rfl, ho0, hb⟩; refine ⟨_, rfl, ?_⟩; have n0_ := Aside0.mk (Kd.V_elder' (by (with_reducible repeat (first | apply Kd.V_alloc | apply Kd.V_drewN | apply Kd.V_drew)); exact HO210.out) (Kd.R_base ho0) hb); have n1_ := Aside0.mk (Kd.R_elder' (by (with_reducible repeat (first | apply Kd.R_alloc | apply Kd.R_drewN | apply Kd.R_drew)); exact HO213.out) (Kd.R_base ho0) hb); have n2_ := Aside0.mk (Kd.R_elder' (by (with_reducible repeat (first | apply Kd.R_alloc | apply Kd.R_drewN | apply Kd.R_drew)); exact HO218.out) (Kd.R_base ho0) hb); have n3_ := Aside0.mk (Kd.R_elder' (by (with_reducible repeat (first | apply Kd.R_alloc | apply Kd.R_drewN | apply Kd.R_drew)); exact HO221.out) (Kd.R_base ho0) hb); have n4_ := Aside0.mk (Kd.R_lower (Kd.R_new' (Kd.R_new' (Kd.R_new' ho0 (Kd.R_lt (by (with_reducible repeat (first | apply Kd.R_alloc | apply Kd.R_drewN | apply Kd.R_drew)); exact HO213.out))) (Kd.R_lt (by (with_reducible repeat (first | apply Kd.R_alloc | apply Kd.R_drewN | apply Kd.R_drew)); exact HO218.out))) (Kd.R_lt (by (with_reducible repeat (first | apply Kd.R_alloc | apply Kd.R_drewN | apply Kd.R_drew)); exact HO221.out))) (below_size (by repeat (first | (with_reducible first | exact HB.out | apply below_alloc | apply pw_below_drewN | apply below_drew1) | exact HB.out)))); have n5_ := Aside0.mk (below_step (by repeat (first | (with_reducible first | exact HB.out | apply below_alloc | apply pw_below_drewN | apply below_drew1) | exact HB.out)) hb); clear HO210; clear HO213; clear HO218; clear HO221; clear HB; have HO210 := n0_; have HO213 := n1_; have HO218 := n2_; have HO221 := n3_; have HO225 := n4_; have HB := n5_; clear n0_ n1_ n2_ n3_ n4_ n5_; (try clear hb); (try clear hb2); (try clear hk); (try clear hi); (try clear ho0)) | ((with_reducible refine gate_dst (N := 29) rfl ?_); refine Kd.R_lit (Kd.int .u8) _ 5 ?hg (N := 29) ?hd (xs := ([5] : List Int)) (inner := [.int .u8 5]) (ok := fun _ => True) (okp := fun _ => True) ?hr ?hp (fun _ hk => hk) trivial (Below.refl _ _) (Nat.le_refl _) (by simp) ?_; (case hd => rfl); (case hg => rfl); (case hr => first | (go_simp; done) | (go_simp; rfl)); (case hp => exact (Reps.one (show Kd.M (Kd.int .u8) _ _ _ 5 [.int .u8 5] from rfl) (Reps.none _ _))); intro v227 w35 ho36 hb hg_ hnew_; clear hg_ hnew_; (first | rw [← Ny226.out] at ho36 | (simp only [Int.reduceToNat] at ho36; rw [← Ny226.out] at ho36)); have n0_ := Aside0.mk (Kd.V_elder' (by (with_reducible repeat (first | apply Kd.V_alloc | apply Kd.V_drewN | apply Kd.V_drew)); exact HO210.out) (Kd.R_base ho36) hb); have n1_ := Aside0.mk (Kd.R_elder' (by (with_reducible repeat (first | apply Kd.R_alloc | apply Kd.R_drewN | apply Kd.R_drew)); exact HO213.out) (Kd.R_base ho36) hb); have n2_ := Aside0.mk (Kd.R_elder' (by (with_reducible repeat (first | apply Kd.R_alloc | apply Kd.R_drewN | apply Kd.R_drew)); exact HO218.out) (Kd.R_base ho36) hb); have n3_ := Aside0.mk (Kd.R_elder' (by (with_reducible repeat (first | apply Kd.R_alloc | apply Kd.R_drewN | apply Kd.R_drew)); exact HO221.out) (Kd.R_base ho36) hb); have n4_ := Aside0.mk (Kd.R_elder' (by (with_reducible repeat (first | apply Kd.R_alloc | apply Kd.R_drewN | apply Kd.R_drew)); exact HO225.out) (Kd.R_base ho36) hb); have n5_ := Aside0.mk (Kd.R_lower (Kd.R_new' (Kd.R_new' (Kd.R_new' (Kd.R_new' ho36 (Kd.R_lt (by (with_reducible repeat (first | apply Kd.R_alloc | apply Kd.R_drewN | apply Kd.R_drew)); exact HO213.out))) (Kd.R_lt (by (with_reducible repeat (first | apply Kd.R_alloc | apply Kd.R_drewN | apply Kd.R_drew)); exact HO218.out))) (Kd.R_lt (by (with_reducible repeat (first | apply Kd.R_alloc | apply Kd.R_drewN | apply Kd.R_drew)); exact HO221.out))) (Kd.R_lt (by (with_reducible repeat (first | apply Kd.R_alloc | apply Kd.R_drewN | apply Kd.R_drew)); exact HO225.out))) (below_size (by repeat (first | (with_reducible first | exact HB.out | apply below_alloc | apply pw_below_drewN | apply below_drew1) | exact HB.out)))); have n6_ := Aside0.mk (below_step (by repeat (first | (with_reducible first | exact HB.out | apply below_alloc | apply pw_below_drewN | apply below_drew1) | exact HB.out)) hb); clear HO210; clear HO213; clear HO218; clear HO221; clear HO225; clear HB; have HO210 := n0_; have HO213 := n1_; have HO218 := n2_; have HO221 := n3_; have HO225 := n4_; have HO228 := n5_; have HB := n6_; clear n0_ n1_ n2_ n3_ n4_ n5_ n6_; clear hb ho36) | ((with_reducible refine gate_dst (N := 30) rfl ?_); refine Kd.R_lit (Kd.int .u8) _ 5 ?hg (N := 30) ?hd (xs := ([7] : List Int)) (inner := [.int .u8 7]) (ok := fun _ => True) (okp := fun _ => True) ?hr ?hp (fun _ hk => hk) trivial (Below.refl _ _) (Nat.le_refl _) (by simp) ?_; (case hd => rfl); (case hg => rfl); (case hr => first | (go_simp; done) | (go_simp; rfl)); (case hp => exact (Reps.one (show Kd.M (Kd.int .u8) _ _ _ 7 [.int .u8 7] from rfl) (Reps.none _ _))); intro v230 w37 ho38 hb hg_ hnew_; clear hg_ hnew_; (first | rw [← Ny229.out] at ho38 | (simp only [Int.reduceToNat] at ho38; rw [← Ny229.out] at ho38)); have n0_ := Aside0.mk (Kd.V_elder' (by (with_reducible repeat (first | apply Kd.V_alloc | apply Kd.V_drewN | apply Kd.V_drew)); exact HO210.out) (Kd.R_base ho38) hb); have n1_ := Aside0.mk (Kd.R_elder' (by (with_reducible repeat (first | apply Kd.R_alloc | apply Kd.R_drewN | apply Kd.R_drew)); exact HO213.out) (Kd.R_base ho38) hb); have n2_ := Aside0.mk (Kd.R_elder' (by (with_reducible repeat (first | apply Kd.R_alloc | apply Kd.R_drewN | apply Kd.R_drew)); exact HO218.out) (Kd.R_base ho38) hb); have n3_ := Aside0.mk (Kd.R_elder' (by (with_reducible repeat (first | apply Kd.R_alloc | apply Kd.R_drewN | apply Kd.R_drew)); exact HO221.out) (Kd.R_base ho38) hb); have n4_ := Aside0.mk (Kd.R_elder' (by (with_reducible repeat (first | apply Kd.R_alloc | apply Kd.R_drewN | apply Kd.R_drew)); exact HO225.out) (Kd.R_base ho38) hb); have n5_ := Aside0.mk (Kd.R_elder' (by (with_reducible repeat (first | apply Kd.R_alloc | apply Kd.R_drewN | apply Kd.R_drew)); exact HO228.out) (Kd.R_base ho38) hb); have n6_ := Aside0.mk (Kd.R_lower (Kd.R_new' (Kd.R_new' (Kd.R_new' (Kd.R_new' (Kd.R_new' ho38 (Kd.R_lt (by (with_reducible repeat (first | apply Kd.R_alloc | apply Kd.R_drewN | apply Kd.R_drew)); exact HO213.out))) (Kd.R_lt (by (with_reducible repeat (first | apply Kd.R_alloc | apply Kd.R_drewN | apply Kd.R_drew)); exact HO218.out))) (Kd.R_lt (by (with_reducible repeat (first | apply Kd.R_alloc | apply Kd.R_drewN | apply Kd.R_drew)); exact HO221.out))) (Kd.R_lt (by (with_reducible repeat (first | apply Kd.R_alloc | apply Kd.R_drewN | apply Kd.R_drew)); exact HO225.out))) (Kd.R_lt (by (with_reducible repeat (first | apply Kd.R_alloc | apply Kd.R_drewN | apply Kd.R_drew)); exact HO228.out))) (below_size (by repeat (first | (with_reducible first | exact HB.out | apply below_alloc | apply pw_below_drewN | apply below_drew1) | exact HB.out)))); have n7_ := Aside0.mk (below_step (by repeat (first | (with_reducible first | exact HB.out | apply below_alloc | apply pw_below_drewN | apply below_drew1) | exact HB.out)) hb); clear HO210; clear HO213; clear HO218; clear HO221; clear HO225; clear HO228; clear HB; have HO210 := n0_; have HO213 := n1_; have HO218 := n2_; have HO221 := n3_; have HO225 := n4_; have HO228 := n5_; have HO231 := n6_; have HB := n7_; clear n0_ n1_ n2_ n3_ n4_ n5_ n6_ n7_; clear hb ho38; obtain ⟨Ao39, co39, eo39⟩ := Kd.R_slice HO228.out; subst eo39; obtain ⟨Ao40, co40, eo40⟩ := Kd.R_slice HO231.out; subst eo40) | ((with_reducible refine gate_dst (N := 31) rfl ?_); refine Kd.N_lit (Kd.slice 5 (Kd.int .u8)) _ 22 ?hg (N' := 31) ?hd (xs := ([y226, y229] : List (List Int))) (inner := [.slice Ao39 y226.length co39, .slice Ao40 y229.length co40]) (ok := (fun k_ => some k_ ≠ (.slice Ao29 t211.length co29 : Value).ownBlock ∧ some k_ ≠ (v217 : Value).ownBlock ∧ some k_ ≠ (.slice Ao33 y219.length co33 : Value).ownBlock ∧ some k_ ≠ (v224 : Value).ownBlock)) (okp := (fun k_ => some k_ ≠ (.slice Ao29 t211.length co29 : Value).ownBlock ∧ some k_ ≠ (v217 : Value).ownBlock ∧ some k_ ≠ (.slice Ao33 y219.length co33 : Value).ownBlock ∧ some k_ ≠ (v224 : Value).ownBlock)) ?hr ?hp (fun _ hk => hk) ((show ∀ k_, w37.heap.size ≤ k_ → (fun k_ => some k_ ≠ (.slice Ao29 t211.length co29 : Value).ownBlock ∧ some k_ ≠ (v217 : Value).ownBlock ∧ some k_ ≠ (.slice Ao33 y219.length co33 : Value).ownBlock ∧ some k_ ≠ (v224 : Value).ownBlock) k_ from fun k_ hk => ⟨Kd.fresh' (Kd.R_lt (by (with_reducible repeat (first | apply Kd.R_alloc | apply Kd.R_drewN | apply Kd.R_drew)); exact HO213.out)) k_ hk, Kd.fresh' (Kd.R_lt (by (with_reducible repeat (first | apply Kd.R_alloc | apply Kd.R_drewN | apply Kd.R_drew)); exact HO218.out)) k_ hk, Kd.fresh' (Kd.R_lt (by (with_reducible repeat (first | apply Kd.R_alloc | apply Kd.R_drewN | apply Kd.R_drew)); exact HO221.out)) k_ hk, Kd.fresh' (Kd.R_lt (by (with_reducible repeat (first | apply Kd.R_alloc | apply Kd.R_drewN | apply Kd.R_drew)); exact HO225.out)) k_ hk⟩) _ (Nat.le_refl _)) (Below.refl _ _) (Nat.le_refl _) (by simp) ?_; (case hd => rfl); (case hg => rfl); (case hr => first | (go_simp; done) | (go_simp; rfl)); (case hp => exact (Reps.one (show Kd.FK (Kd.slice 5 (Kd.int .u8)) _ _ y226 [.slice Ao39 y226.length co39] from (Kd.FK_slice_mk (Kd.R_reads' (Kd.R_mono (ok' := (fun k_ => some k_ ≠ (.slice Ao29 t211.length co29 : Value).ownBlock ∧ some k_ ≠ (v217 : Value).ownBlock ∧ some k_ ≠ (.slice Ao33 y219.length co33 : Value).ownBlock ∧ some k_ ≠ (v224 : Value).ownBlock)) (HO228.out) (fun k_ hk => ⟨hk.1.1.1.1.2, ⟨hk.1.1.1.2, ⟨hk.1.1.2, hk.1.2⟩⟩⟩))).2.1 (Kd.R_F (Kd.R_mono (ok' := (fun k_ => some k_ ≠ (.slice Ao29 t211.length co29 : Value).ownBlock ∧ some k_ ≠ (v217 : Value).ownBlock ∧ some k_ ≠ (.slice Ao33 y219.length co33 : Value).ownBlock ∧ some k_ ≠ (v224 : Value).ownBlock)) (HO228.out) (fun k_ hk => ⟨hk.1.1.1.1.2, ⟨hk.1.1.1.2, ⟨hk.1.1.2, hk.1.2⟩⟩⟩))))) (Reps.one (show Kd.FK (Kd.slice 5 (Kd.int .u8)) _ _ y229 [.slice Ao40 y229.length co40] from (Kd.FK_slice_mk (Kd.R_reads' (Kd.R_mono (ok' := (fun k_ => some k_ ≠ (.slice Ao29 t211.length co29 : Value).ownBlock ∧ some k_ ≠ (v217 : Value).ownBlock ∧ some k_ ≠ (.slice Ao33 y219.length co33 : Value).ownBlock ∧ some k_ ≠ (v224 : Value).ownBlock)) (HO231.out) (fun k_ hk => ⟨hk.1.1.1.1.2, ⟨hk.1.1.1.2, ⟨hk.1.1.2, hk.1.2⟩⟩⟩))).2.1 (Kd.R_F (Kd.R_mono (ok' := (fun k_ => some k_ ≠ (.slice Ao29 t211.length co29 : Value).ownBlock ∧ some k_ ≠ (v217 : Value).ownBlock ∧ some k_ ≠ (.slice Ao33 y219.length co33 : Value).ownBlock ∧ some k_ ≠ (v224 : Value).ownBlock)) (HO231.out) (fun k_ hk => ⟨hk.1.1.1.1.2, ⟨hk.1.1.1.2, ⟨hk.1.1.2, hk.1.2⟩⟩⟩))))) (Reps.none _ _)))); intro v233 w41 ho42 hb hg_ hnew_; clear hg_ hnew_; (first | rw [← Ny232.out] at ho42 | (simp only [Int.reduceToNat] at ho42; rw [← Ny232.out] at ho42)); have n0_ := Aside0.mk (Kd.V_elder' (by (with_reducible repeat (first | apply Kd.V_alloc | apply Kd.V_drewN | apply Kd.V_drew)); exact HO210.out) (by first | exact Kd.N_base ho42 | exact Kd.S_base ho42) hb); have n1_ := Aside0.mk (Kd.R_below (by (with_reducible repeat (first | apply Kd.R_alloc | apply Kd.R_drewN | apply Kd.R_drew)); exact HO213.out) hb); have n2_ := Aside0.mk (Kd.R_below (by (with_reducible repeat (first | apply Kd.R_alloc | apply Kd.R_drewN | apply Kd.R_drew)); exact HO218.out) hb); have n3_ := Aside0.mk (Kd.R_below (by (with_reducible repeat (first | apply Kd.R_alloc | apply Kd.R_drewN | apply Kd.R_drew)); exact HO221.out) hb); have n4_ := Aside0.mk (Kd.R_below (by (with_reducible repeat (first | apply Kd.R_alloc | apply Kd.R_drewN | apply Kd.R_drew)); exact HO225.out) hb); have n5_ := Aside0.mk (Kd.N_lower ho42 (below_size (by repeat (first | (with_reducible first | exact HB.out | apply below_alloc | apply pw_below_drewN | apply below_drew1) | exact HB.out)))); have n6_ := Aside0.mk (below_step (by repeat (first | (with_reducible first | exact HB.out | apply below_alloc | apply pw_below_drewN | apply below_drew1) | exact HB.out)) hb); clear HO210; clear HO213; clear HO218; clear HO221; clear HO225; clear HB; clear HO228; clear HO231; have HO210 := n0_; have HO213 := n1_; have HO218 := n2_; have HO221 := n3_; have HO225 := n4_; have HO234 := n5_; have HB := n6_; clear n0_ n1_ n2_ n3_ n4_ n5_ n6_; clear hb ho42; obtain ⟨Ao43, co43, eo43⟩ := Kd.N_slice HO234.out; subst eo43) | ((with_reducible refine gate_callee (f := 18) rfl ?_); refine goesL_ (some 32) rfl rfl Try.func18 (by kernel_rfl) rfl #[.slice Ao43 y232.length co43, .int .i64 1] rfl (by (try simp only [List.map_toArray, List.map_cons, List.map_nil]); first | done | rfl | (simp only [List.length_drop, List.length_take]; rfl)) ?_; (with_reducible refine (stripe_Parity.calls k _ _ y232 1 t235 t236 _ ?side1 ?side2 A4.out).mono ?_); (case side1 => repeat (first | exact (Kd.N_reads' HO234.out).2.2 | (with_reducible refine Kd.C_alloc ?_ _) | (with_reducible refine Kd.C_drewN ?_ _) | (with_reducible refine Kd.C_drew ?_))); (case side2 => exact (Kd.N_reads' HO234.out).2.1); rintro e w44 ⟨v237, rfl, ho0, hb⟩; refine ⟨_, rfl, ?_⟩; have n0_ := Aside0.mk (Kd.V_elder' (by (with_reducible repeat (first | apply Kd.V_alloc | apply Kd.V_drewN | apply Kd.V_drew)); exact HO210.out) (by first | exact Kd.N_base ho0 | exact Kd.S_base ho0) hb); have n1_ := Aside0.mk (Kd.R_below (by (with_reducible repeat (first | apply Kd.R_alloc | apply Kd.R_drewN | apply Kd.R_drew)); exact HO213.out) hb); have n2_ := Aside0.mk (Kd.R_below (by (with_reducible repeat (first | apply Kd.R_alloc | apply Kd.R_drewN | apply Kd.R_drew)); exact HO218.out) hb); have n3_ := Aside0.mk (Kd.R_below (by (with_reducible repeat (first | apply Kd.R_alloc | apply Kd.R_drewN | apply Kd.R_drew)); exact HO221.out) hb); have n4_ := Aside0.mk (Kd.R_below (by (with_reducible repeat (first | apply Kd.R_alloc | apply Kd.R_drewN | apply Kd.R_drew)); exact HO225.out) hb); have n5_ := Aside0.mk (Kd.N_elder' (by (with_reducible repeat (first | apply Kd.N_alloc | apply Kd.N_drewN | apply Kd.N_drew)); exact HO234.out) (by first | exact Kd.N_base ho0 | exact Kd.S_base ho0) hb); have n6_ := Aside0.mk (Kd.N_lower (Kd.N_mono (ok' := fun k_ => some k_ ≠ (.slice Ao29 t211.length co29 : Value).ownBlock ∧ some k_ ≠ (v217 : Value).ownBlock ∧ some k_ ≠ (.slice Ao33 y219.length co33 : Value).ownBlock ∧ some k_ ≠ (v224 : Value).ownBlock ∧ some k_ ≠ (.slice Ao43 y232.length co43 : Value).ownBlock) (Kd.S_N (Kd.S_bound ho0)) (fun k_ hk_ => ⟨(Kd.fresh' (Kd.R_lt (by (with_reducible repeat (first | apply Kd.R_alloc | apply Kd.R_drewN | apply Kd.R_drew)); exact HO213.out)) k_ hk_.2.1), (Kd.fresh' (Kd.R_lt (by (with_reducible repeat (first | apply Kd.R_alloc | apply Kd.R_drewN | apply Kd.R_drew)); exact HO218.out)) k_ hk_.2.1), (Kd.fresh' (Kd.R_lt (by (with_reducible repeat (first | apply Kd.R_alloc | apply Kd.R_drewN | apply Kd.R_drew)); exact HO221.out)) k_ hk_.2.1), (Kd.fresh' (Kd.R_lt (by (with_reducible repeat (first | apply Kd.R_alloc | apply Kd.R_drewN | apply Kd.R_drew)); exact HO225.out)) k_ hk_.2.1), (Kd.fresh' (Kd.N_lt (by (with_reducible repeat (first | apply Kd.N_alloc | apply Kd.N_drewN | apply Kd.N_drew)); exact HO234.out)) k_ hk_.2.1)⟩)) (below_size (by repeat (first | (with_reducible first | exact HB.out | apply below_alloc | apply pw_below_drewN | apply below_drew1) | exact HB.out)))); have n7_ := Aside0.mk (below_step (by repeat (first | (with_reducible first | exact HB.out | apply below_alloc | apply pw_below_drewN | apply below_drew1) | exact HB.out)) hb); clear HO210; clear HO213; clear HO218; clear HO221; clear HO225; clear HO234; clear HB; have HO210 := n0_; have HO213 := n1_; have HO218 := n2_; have HO221 := n3_; have HO225 := n4_; have HO234 := n5_; have HO238 := n6_; have HB := n7_; clear n0_ n1_ n2_ n3_ n4_ n5_ n6_ n7_; (try clear hb); (try clear hb2); (try clear hk); (try clear hi); (try clear ho0)) | ((with_reducible refine gate_callee (f := 18) rfl ?_); refine goesL_ (some 36) rfl rfl Try.func18 (by kernel_rfl) rfl #[.slice none 0 0, .int .i64 1] rfl (by (try simp only [List.map_toArray, List.map_cons, List.map_nil]); first | done | rfl | (simp only [List.length_drop, List.length_take]; rfl)) ?_; (refine (stripe_Parity.calls k _ _ ([] : List (List Int)) 1 t239 t240 _ ?side1 ?side2 A5.out).mono ?_); (case side1 => exact Kd.C_nil _ _); (case side2 => exact Nat.le_refl _); rintro e w45 ⟨v241, rfl, ho0, hb⟩; refine ⟨_, rfl, ?_⟩; have n0_ := Aside0.mk (Kd.V_elder' (by (with_reducible repeat (first | apply Kd.V_alloc | apply Kd.V_drewN | apply Kd.V_drew)); exact HO210.out) (by first | exact Kd.N_base ho0 | exact Kd.S_base ho0) hb); have n1_ := Aside0.mk (Kd.R_below (by (with_reducible repeat (first | apply Kd.R_alloc | apply Kd.R_drewN | apply Kd.R_drew)); exact HO213.out) hb); have n2_ := Aside0.mk (Kd.R_below (by (with_reducible repeat (first | apply Kd.R_alloc | apply Kd.R_drewN | apply Kd.R_drew)); exact HO218.out) hb); have n3_ := Aside0.mk (Kd.R_below (by (with_reducible repeat (first | apply Kd.R_alloc | apply Kd.R_drewN | apply Kd.R_drew)); exact HO221.out) hb); have n4_ := Aside0.mk (Kd.R_below (by (with_reducible repeat (first | apply Kd.R_alloc | apply Kd.R_drewN | apply Kd.R_drew)); exact HO225.out) hb); have n5_ := Aside0.mk (Kd.N_elder' (by (with_reducible repeat (first | apply Kd.N_alloc | apply Kd.N_drewN | apply Kd.N_drew)); exact HO234.out) (by first | exact Kd.N_base ho0 | exact Kd.S_base ho0) hb); have n6_ := Aside0.mk (Kd.N_elder' (by (with_reducible repeat (first | apply Kd.N_alloc | apply Kd.N_drewN | apply Kd.N_drew)); exact HO238.out) (by first | exact Kd.N_base ho0 | exact Kd.S_base ho0) hb); have n7_ := Aside0.mk (Kd.N_lower (Kd.N_mono (ok' := fun k_ => some k_ ≠ (.slice Ao29 t211.length co29 : Value).ownBlock ∧ some k_ ≠ (v217 : Value).ownBlock ∧ some k_ ≠ (.slice Ao33 y219.length co33 : Value).ownBlock ∧ some k_ ≠ (v224 : Value).ownBlock ∧ some k_ ≠ (.slice Ao43 y232.length co43 : Value).ownBlock ∧ some k_ ≠ (v237 : Value).ownBlock) (Kd.S_N (Kd.S_bound ho0)) (fun k_ hk_ => ⟨(Kd.fresh' (Kd.R_lt (by (with_reducible repeat (first | apply Kd.R_alloc | apply Kd.R_drewN | apply Kd.R_drew)); exact HO213.out)) k_ hk_.2.1), (Kd.fresh' (Kd.R_lt (by (with_reducible repeat (first | apply Kd.R_alloc | apply Kd.R_drewN | apply Kd.R_drew)); exact HO218.out)) k_ hk_.2.1), (Kd.fresh' (Kd.R_lt (by (with_reducible repeat (first | apply Kd.R_alloc | apply Kd.R_drewN | apply Kd.R_drew)); exact HO221.out)) k_ hk_.2.1), (Kd.fresh' (Kd.R_lt (by (with_reducible repeat (first | apply Kd.R_alloc | apply Kd.R_drewN | apply Kd.R_drew)); exact HO225.out)) k_ hk_.2.1), (Kd.fresh' (Kd.N_lt (by (with_reducible repeat (first | apply Kd.N_alloc | apply Kd.N_drewN | apply Kd.N_drew)); exact HO234.out)) k_ hk_.2.1), (Kd.fresh' (Kd.N_lt (by (with_reducible repeat (first | apply Kd.N_alloc | apply Kd.N_drewN | apply Kd.N_drew)); exact HO238.out)) k_ hk_.2.1)⟩)) (below_size (by repeat (first | (with_reducible first | exact HB.out | apply below_alloc | apply pw_below_drewN | apply below_drew1) | exact HB.out)))); have n8_ := Aside0.mk (below_step (by repeat (first | (with_reducible first | exact HB.out | apply below_alloc | apply pw_below_drewN | apply below_drew1) | exact HB.out)) hb); clear HO210; clear HO213; clear HO218; clear HO221; clear HO225; clear HO234; clear HO238; clear HB; have HO210 := n0_; have HO213 := n1_; have HO218 := n2_; have HO221 := n3_; have HO225 := n4_; have HO234 := n5_; have HO238 := n6_; have HO242 := n7_; have HB := n8_; clear n0_ n1_ n2_ n3_ n4_ n5_ n6_ n7_ n8_; (try clear hb); (try clear hb2); (try clear hk); (try clear hi); (try clear ho0); obtain ⟨Ao46, co46, eo46⟩ := Kd.N_slice HO238.out; subst eo46) | ((with_reducible refine gate_dst (N := 11) rfl ?_); refine box_event ?hg (N := 11) ?hd (cs := #[.int .i64 0, .int .i64 0, .int .i64 0, .int .i64 0]) (t := 24) ?hr ?_; (case hd => rfl); (case hg => rfl); (case hr => first | (go_simp; done) | (go_simp; rfl)); intro gb243 hg w47 hbox hb; have n0_ := Aside0.mk (Kd.V_below (Kd.V_elderB (by (with_reducible repeat (first | apply Kd.V_alloc | apply Kd.V_drewN | apply Kd.V_drew)); exact HO210.out) gb243 (Nat.le_of_eq hg.symm)) hb); have n1_ := Aside0.mk (Kd.R_below (by (with_reducible repeat (first | apply Kd.R_alloc | apply Kd.R_drewN | apply Kd.R_drew)); exact HO213.out) hb); have n2_ := Aside0.mk (Kd.R_below (by (with_reducible repeat (first | apply Kd.R_alloc | apply Kd.R_drewN | apply Kd.R_drew)); exact HO218.out) hb); have n3_ := Aside0.mk (Kd.R_below (by (with_reducible repeat (first | apply Kd.R_alloc | apply Kd.R_drewN | apply Kd.R_drew)); exact HO221.out) hb); have n4_ := Aside0.mk (Kd.R_below (by (with_reducible repeat (first | apply Kd.R_alloc | apply Kd.R_drewN | apply Kd.R_drew)); exact HO225.out) hb); have n5_ := Aside0.mk (Kd.N_below (Kd.N_elderB (by (with_reducible repeat (first | apply Kd.N_alloc | apply Kd.N_drewN | apply Kd.N_drew)); exact HO234.out) gb243 (Nat.le_of_eq hg.symm)) hb); have n6_ := Aside0.mk (Kd.N_below (Kd.N_elderB (by (with_reducible repeat (first | apply Kd.N_alloc | apply Kd.N_drewN | apply Kd.N_drew)); exact HO238.out) gb243 (Nat.le_of_eq hg.symm)) hb); have n7_ := Aside0.mk (Kd.N_below (Kd.N_elderB (by (with_reducible repeat (first | apply Kd.N_alloc | apply Kd.N_drewN | apply Kd.N_drew)); exact HO242.out) gb243 (Nat.le_of_eq hg.symm)) hb); have n8_ := Aside0.mk (below_step (by repeat (first | (with_reducible first | exact HB.out | apply below_alloc | apply pw_below_drewN | apply below_drew1) | exact HB.out)) hb); have n9_ := Aside0.mk (hbox); have n10_ := Aside0.mk ((by rw [hg]; exact (below_size (by repeat (first | (with_reducible first | exact HB.out | apply below_alloc | apply pw_below_drewN | apply below_drew1) | exact HB.out))) : w.heap.size ≤ gb243)); have n11_ := Aside0.mk ((by rw [hg]; exact (below_size (by repeat (first | (with_reducible first | exact HB.out | apply below_alloc | apply pw_below_drewN | apply below_drew1) | exact HB.out))) : w.heap.size ≤ gb243)); clear HO210; clear HO213; clear HO218; clear HO221; clear HO225; clear HO234; clear HO238; clear HO242; clear HB; have HO210 := n0_; have HO213 := n1_; have HO218 := n2_; have HO221 := n3_; have HO225 := n4_; have HO234 := n5_; have HO238 := n6_; have HO242 := n7_; have HB := n8_; have BK243 := n9_; have GW243 := n10_; have GE243 := n11_; clear n0_ n1_ n2_ n3_ n4_ n5_ n6_ n7_ n8_ n9_ n10_ n11_; clear hb hbox hg; have hcz48_0 : w47.cell? ⟨gb243, 0, none⟩ = some (.int .i64 0) := (blk_cell BK243.out 0).trans rfl; have hcz48_1 : w47.cell? ⟨gb243, 1, none⟩ = some (.int .i64 0) := (blk_cell BK243.out 1).trans rfl; have hcz48_2 : w47.cell? ⟨gb243, 2, none⟩ = some (.int .i64 0) := (blk_cell BK243.out 2).trans rfl; have hcz48_3 : w47.cell? ⟨gb243, 3, none⟩ = some (.int .i64 0) := (blk_cell BK243.out 3).trans rfl; have hfz48_0 := blk_frozen BK243.out 0; have hfz48_1 := blk_frozen BK243.out 1; have hfz48_2 := blk_frozen BK243.out 2; have hfz48_3 := blk_frozen BK243.out 3) | ((with_reducible refine gate_store (t := 24) (p := 11) rfl ?_); refine store_event (t := 24) (p := 11) (v := ?vo_w49) (w1 := ((((w47.setCell ⟨gb243, 0, none⟩ (.int .i64 2)).setCell ⟨gb243, 1, none⟩ (.int .i64 1)).setCell ⟨gb243, 2, none⟩ (.int .i64 5)).setCell ⟨gb243, 3, none⟩ (.int .i64 4))) ?hg ?ho ?hn ?hr ?_; (case ho => rfl); (case hg => rfl); (case hn => rfl); (case hr => first | (go_simp; done) | (go_simp; rfl)); intro w49 hw; have n0_ : Aside0 (Kd.V (Kd.int .u8) 5 w49 w.heap.size (fun k_ => some k_ ≠ (.slice Ao29 t211.length co29 : Value).ownBlock ∧ some k_ ≠ (v217 : Value).ownBlock ∧ some k_ ≠ (.slice Ao33 y219.length co33 : Value).ownBlock ∧ some k_ ≠ (v224 : Value).ownBlock ∧ some k_ ≠ (.slice Ao43 y232.length co43 : Value).ownBlock ∧ some k_ ≠ (.slice Ao46 t235.length co46 : Value).ownBlock ∧ some k_ ≠ (v241 : Value).ownBlock ∧ k_ ≠ gb243) (.slice Ao27 y208.length co27) y208) := ⟨(by rw [hw]; exact (by (with_reducible repeat (first | apply Kd.V_alloc | apply Kd.V_drewN | apply Kd.V_drew)); exact Kd.V_mono (Kd.V_far (p := ⟨gb243, 3, none⟩) (Kd.V_far (p := ⟨gb243, 2, none⟩) (Kd.V_far (p := ⟨gb243, 1, none⟩) (Kd.V_far (p := ⟨gb243, 0, none⟩) (Kd.V_mono HO210.out (fun k_ hk => (⟨hk, hk.2⟩ : _ ∧ k_ ≠ gb243))) (fun _ hk => hk.2) (.int .i64 2)) (fun _ hk => hk.2) (.int .i64 1)) (fun _ hk => hk.2) (.int .i64 5)) (fun _ hk => hk.2) (.int .i64 4)) (fun _ hk => ⟨hk.1.1.1.1.1.1.1.1.1.1.2, ⟨hk.1.1.1.1.1.1.1.1.1.2, ⟨hk.1.1.1.1.1.1.1.1.2, ⟨hk.1.1.1.1.1.1.1.2, ⟨hk.1.1.1.1.2, ⟨hk.1.1.1.2, ⟨hk.1.1.2, hk.1.2⟩⟩⟩⟩⟩⟩⟩)))⟩; have n1_ : Aside0 (Kd.R (Kd.int .u8) 5 w49 w.heap.size (fun k_ => some k_ ≠ (v217 : Value).ownBlock ∧ some k_ ≠ (.slice Ao33 y219.length co33 : Value).ownBlock ∧ some k_ ≠ (v224 : Value).ownBlock) (.slice Ao29 t211.length co29) t211) := ⟨(by rw [hw]; exact (by (with_reducible repeat (first | apply Kd.R_alloc | apply Kd.R_drewN | apply Kd.R_drew)); exact Kd.R_mono (Kd.R_far (p := ⟨gb243, 3, none⟩) (Kd.R_far (p := ⟨gb243, 2, none⟩) (Kd.R_far (p := ⟨gb243, 1, none⟩) (Kd.R_far (p := ⟨gb243, 0, none⟩) (Kd.R_types HO213.out BK243.out (by decide)) (fun _ hk => hk.2) (.int .i64 2)) (fun _ hk => hk.2) (.int .i64 1)) (fun _ hk => hk.2) (.int .i64 5)) (fun _ hk => hk.2) (.int .i64 4)) (fun _ hk => ⟨hk.1.1.1.1.1.2, ⟨hk.1.1.1.1.2, hk.1.1.1.2⟩⟩)))⟩; have n2_ : Aside0 (Kd.R (Kd.int .u8) 5 w49 w.heap.size (fun k_ => some k_ ≠ (.slice Ao29 t211.length co29 : Value).ownBlock ∧ some k_ ≠ (.slice Ao33 y219.length co33 : Value).ownBlock ∧ some k_ ≠ (v224 : Value).ownBlock) v217 t215) := ⟨(by rw [hw]; exact (by (with_reducible repeat (first | apply Kd.R_alloc | apply Kd.R_drewN | apply Kd.R_drew)); exact Kd.R_mono (Kd.R_far (p := ⟨gb243, 3, none⟩) (Kd.R_far (p := ⟨gb243, 2, none⟩) (Kd.R_far (p := ⟨gb243, 1, none⟩) (Kd.R_far (p := ⟨gb243, 0, none⟩) (Kd.R_types HO218.out BK243.out (by decide)) (fun _ hk => hk.2) (.int .i64 2)) (fun _ hk => hk.2) (.int .i64 1)) (fun _ hk => hk.2) (.int .i64 5)) (fun _ hk => hk.2) (.int .i64 4)) (fun _ hk => ⟨hk.1.1.1.1.1.2, ⟨hk.1.1.1.1.2, hk.1.1.1.2⟩⟩)))⟩; have n3_ : Aside0 (Kd.R (Kd.int .u8) 5 w49 w.heap.size (fun k_ => some k_ ≠ (.slice Ao29 t211.length co29 : Value).ownBlock ∧ some k_ ≠ (v217 : Value).ownBlock ∧ some k_ ≠ (v224 : Value).ownBlock) (.slice Ao33 y219.length co33) y219) := ⟨(by rw [hw]; exact (by (with_reducible repeat (first | apply Kd.R_alloc | apply Kd.R_drewN | apply Kd.R_drew)); exact Kd.R_mono (Kd.R_far (p := ⟨gb243, 3, none⟩) (Kd.R_far (p := ⟨gb243, 2, none⟩) (Kd.R_far (p := ⟨gb243, 1, none⟩) (Kd.R_far (p := ⟨gb243, 0, none⟩) (Kd.R_types HO221.out BK243.out (by decide)) (fun _ hk => hk.2) (.int .i64 2)) (fun _ hk => hk.2) (.int .i64 1)) (fun _ hk => hk.2) (.int .i64 5)) (fun _ hk => hk.2) (.int .i64 4)) (fun _ hk => ⟨hk.1.1.1.1.1.2, ⟨hk.1.1.1.1.2, hk.1.1.1.2⟩⟩)))⟩; have n4_ : Aside0 (Kd.R (Kd.int .u8) 5 w49 w.heap.size (fun k_ => some k_ ≠ (.slice Ao29 t211.length co29 : Value).ownBlock ∧ some k_ ≠ (v217 : Value).ownBlock ∧ some k_ ≠ (.slice Ao33 y219.length co33 : Value).ownBlock) v224 t222) := ⟨(by rw [hw]; exact (by (with_reducible repeat (first | apply Kd.R_alloc | apply Kd.R_drewN | apply Kd.R_drew)); exact Kd.R_mono (Kd.R_far (p := ⟨gb243, 3, none⟩) (Kd.R_far (p := ⟨gb243, 2, none⟩) (Kd.R_far (p := ⟨gb243, 1, none⟩) (Kd.R_far (p := ⟨gb243, 0, none⟩) (Kd.R_types HO225.out BK243.out (by decide)) (fun _ hk => hk.2) (.int .i64 2)) (fun _ hk => hk.2) (.int .i64 1)) (fun _ hk => hk.2) (.int .i64 5)) (fun _ hk => hk.2) (.int .i64 4)) (fun _ hk => ⟨hk.1.1.1.1.1.2, ⟨hk.1.1.1.1.2, hk.1.1.1.2⟩⟩)))⟩; have n5_ : Aside0 (Kd.N (Kd.slice 5 (Kd.int .u8)) 22 w49 w.heap.size (fun k_ => some k_ ≠ (.slice Ao29 t211.length co29 : Value).ownBlock ∧ some k_ ≠ (v217 : Value).ownBlock ∧ some k_ ≠ (.slice Ao33 y219.length co33 : Value).ownBlock ∧ some k_ ≠ (v224 : Value).ownBlock ∧ some k_ ≠ (.slice Ao46 t235.length co46 : Value).ownBlock ∧ some k_ ≠ (v241 : Value).ownBlock ∧ k_ ≠ gb243) (.slice Ao43 y232.length co43) y232) := ⟨(by rw [hw]; exact (by (with_reducible repeat (first | apply Kd.N_alloc | apply Kd.N_drewN | apply Kd.N_drew)); exact Kd.N_mono (Kd.N_far (p := ⟨gb243, 3, none⟩) (Kd.N_far (p := ⟨gb243, 2, none⟩) (Kd.N_far (p := ⟨gb243, 1, none⟩) (Kd.N_far (p := ⟨gb243, 0, none⟩) (Kd.N_mono HO234.out (fun k_ hk => (⟨hk, hk.2⟩ : _ ∧ k_ ≠ gb243))) (fun _ hk => hk.2) (.int .i64 2)) (fun _ hk => hk.2) (.int .i64 1)) (fun _ hk => hk.2) (.int .i64 5)) (fun _ hk => hk.2) (.int .i64 4)) (fun _ hk => ⟨hk.1.1.1.1.1, ⟨hk.1.1.1.1.2.1, ⟨hk.1.1.1.1.2.2.1, ⟨hk.1.1.1.1.2.2.2, ⟨hk.1.1.1.2, ⟨hk.1.1.2, hk.1.2⟩⟩⟩⟩⟩⟩)))⟩; have n6_ : Aside0 (Kd.N (Kd.slice 5 (Kd.int .u8)) 22 w49 w.heap.size (fun k_ => some k_ ≠ (.slice Ao29 t211.length co29 : Value).ownBlock ∧ some k_ ≠ (v217 : Value).ownBlock ∧ some k_ ≠ (.slice Ao33 y219.length co33 : Value).ownBlock ∧ some k_ ≠ (v224 : Value).ownBlock ∧ some k_ ≠ (.slice Ao43 y232.length co43 : Value).ownBlock ∧ some k_ ≠ (v241 : Value).ownBlock ∧ k_ ≠ gb243) (.slice Ao46 t235.length co46) t235) := ⟨(by rw [hw]; exact (by (with_reducible repeat (first | apply Kd.N_alloc | apply Kd.N_drewN | apply Kd.N_drew)); exact Kd.N_mono (Kd.N_far (p := ⟨gb243, 3, none⟩) (Kd.N_far (p := ⟨gb243, 2, none⟩) (Kd.N_far (p := ⟨gb243, 1, none⟩) (Kd.N_far (p := ⟨gb243, 0, none⟩) (Kd.N_mono HO238.out (fun k_ hk => (⟨hk, hk.2⟩ : _ ∧ k_ ≠ gb243))) (fun _ hk => hk.2) (.int .i64 2)) (fun _ hk => hk.2) (.int .i64 1)) (fun _ hk => hk.2) (.int .i64 5)) (fun _ hk => hk.2) (.int .i64 4)) (fun _ hk => ⟨hk.1.1.1.1, ⟨hk.1.1.1.2.1, ⟨hk.1.1.1.2.2.1, ⟨hk.1.1.1.2.2.2.1, ⟨hk.1.1.1.2.2.2.2, ⟨hk.1.1.2, hk.1.2⟩⟩⟩⟩⟩⟩)))⟩; have n7_ : Aside0 (Kd.N (Kd.slice 5 (Kd.int .u8)) 22 w49 w.heap.size (fun k_ => some k_ ≠ (.slice Ao29 t211.length co29 : Value).ownBlock ∧ some k_ ≠ (v217 : Value).ownBlock ∧ some k_ ≠ (.slice Ao33 y219.length co33 : Value).ownBlock ∧ some k_ ≠ (v224 : Value).ownBlock ∧ some k_ ≠ (.slice Ao43 y232.length co43 : Value).ownBlock ∧ some k_ ≠ (.slice Ao46 t235.length co46 : Value).ownBlock ∧ k_ ≠ gb243) v241 t239) := ⟨(by rw [hw]; exact (by (with_reducible repeat (first | apply Kd.N_alloc | apply Kd.N_drewN | apply Kd.N_drew)); exact Kd.N_mono (Kd.N_far (p := ⟨gb243, 3, none⟩) (Kd.N_far (p := ⟨gb243, 2, none⟩) (Kd.N_far (p := ⟨gb243, 1, none⟩) (Kd.N_far (p := ⟨gb243, 0, none⟩) (Kd.N_mono HO242.out (fun k_ hk => (⟨hk, hk.2⟩ : _ ∧ k_ ≠ gb243))) (fun _ hk => hk.2) (.int .i64 2)) (fun _ hk => hk.2) (.int .i64 1)) (fun _ hk => hk.2) (.int .i64 5)) (fun _ hk => hk.2) (.int .i64 4)) (fun _ hk => ⟨hk.1.1.1, ⟨hk.1.1.2.1, ⟨hk.1.1.2.2.1, ⟨hk.1.1.2.2.2.1, ⟨hk.1.1.2.2.2.2.1, ⟨hk.1.1.2.2.2.2.2, hk.1.2⟩⟩⟩⟩⟩⟩)))⟩; have n8_ : Aside0 (w49.heap[gb243]? = some (.cells #[.int .i64 2, .int .i64 1, .int .i64 5, .int .i64 4] 24 (0, 0))) := ⟨(by rw [hw]; exact (by (with_reducible repeat (first | refine blk_drewN ?_ _ | refine blk_drew ?_ | refine blk_alloc ?_ _)); refine blk_put (cs := #[.int .i64 2, .int .i64 1, .int .i64 5, .int .i64 0]) ?_ 3 _ rfl; (with_reducible repeat (first | refine blk_drewN ?_ _ | refine blk_drew ?_ | refine blk_alloc ?_ _)); refine blk_put (cs := #[.int .i64 2, .int .i64 1, .int .i64 0, .int .i64 0]) ?_ 2 _ rfl; (with_reducible repeat (first | refine blk_drewN ?_ _ | refine blk_drew ?_ | refine blk_alloc ?_ _)); refine blk_put (cs := #[.int .i64 2, .int .i64 0, .int .i64 0, .int .i64 0]) ?_ 1 _ rfl; (with_reducible repeat (first | refine blk_drewN ?_ _ | refine blk_drew ?_ | refine blk_alloc ?_ _)); refine blk_put (cs := #[.int .i64 0, .int .i64 0, .int .i64 0, .int .i64 0]) ?_ 0 _ rfl; (with_reducible repeat (first | refine blk_drewN ?_ _ | refine blk_drew ?_ | refine blk_alloc ?_ _)); exact BK243.out))⟩; have n9_ : Aside0 (Below w.heap.size w w49) := ⟨(by rw [hw]; exact (by repeat (first | (with_reducible first | exact HB.out | apply below_alloc | apply pw_below_drewN | apply below_drew1 | refine below_set ?_ GE243.out) | exact HB.out)))⟩; clear hw; clear HO210; clear HO213; clear HO218; clear HO221; clear HO225; clear HO234; clear HO238; clear HO242; clear BK243; clear HB; have HO210 := n0_; have HO213 := n1_; have HO218 := n2_; have HO221 := n3_; have HO225 := n4_; have HO234 := n5_; have HO238 := n6_; have HO242 := n7_; have BK243 := n8_; have HB := n9_; clear n0_ n1_ n2_ n3_ n4_ n5_ n6_ n7_ n8_ n9_; have hcv50 := own_string (P := Try.prog) Try.underlying22 Try.underlying5 Try.underlying9 (Kd.own_of_R HO213.out); have hcv51 := own_string (P := Try.prog) Try.underlying22 Try.underlying5 Try.underlying9 (Kd.own_of_R HO218.out); have p244 : 0 ≤ (0 : Int) := (by omega); have q244 : 0 < (t235.length : Int) := of_decide_eq_true (by first | (with_reducible assumption) | assumption); obtain ⟨ad244, A244_0, c244_0, e244, hx244_0, hl244_0, hi244_0⟩ := at_L1 (Kd.N_reads' HO238.out).2.2 0 p244 q244; cases e244; obtain ⟨ce244, hce244, hMe244, hcc244⟩ := Kd.N_get HO238.out [] 0 p244 (by first | exact q244 | exact of_decide_eq_true (by first | (with_reducible assumption) | assumption) | (have e_ := (Kd.N_reads' HO238.out).1; omega)); obtain ⟨ua244_0, uc244_0, rfl, ul244_0, ge244_0⟩ := Kd.FK_slice_open hMe244; have hv244_0 := hcc244 0 _ rfl; rw [Nat.add_zero, show ((Kd.slice 5 (Kd.int .u8))).sz = 1 from rfl, Nat.mul_one] at hv244_0; replace hv244_0 := Option.some.inj (hv244_0.symm.trans hx244_0); injection hv244_0 with hva_ hvn_ hvc_; rw [hva_] at ge244_0; rw [hvc_] at ul244_0; have HL244_0 := Aside0.mk (show Kd.V (Kd.int .u8) 5 _ w.heap.size _ _ (rd_L1 t235 0) from Kd.V_mk ul244_0 ge244_0); clear hva_ hvn_ hvc_ ge244_0 ul244_0; clear hcc244 hce244; have qi244 : (0 < t235.length) = True := eq_true (by omega); (try rw [show ((0 : Int)).toNat = 0 from rfl] at hx244_0); (try rw [Addr.add_zero'] at hx244_0); have HR244_0 := Aside0.mk hi244_0; have HC244_0 := Aside0.mk hl244_0; clear hi244_0 hl244_0; replace p244 := eq_true p244; replace q244 := eq_true q244; have hcv52 := Kd.C_string (P := Try.prog) (A := A244_0) (c := c244_0) Try.underlying22 Try.underlying5 Try.underlying9 (by repeat (first | (with_reducible exact HR244_0.out) | (with_reducible refine Kd.C_alloc ?_ _) | (with_reducible refine Kd.C_drewN ?_ _) | (with_reducible refine Kd.C_drew ?_) | exact HR244_0.out)); have hcz53_0 : w49.cell? ⟨gb243, 0, none⟩ = some (.int .i64 2) := (blk_cell BK243.out 0).trans rfl; have hcz53_1 : w49.cell? ⟨gb243, 1, none⟩ = some (.int .i64 1) := (blk_cell BK243.out 1).trans rfl; have hcz53_2 : w49.cell? ⟨gb243, 2, none⟩ = some (.int .i64 5) := (blk_cell BK243.out 2).trans rfl; have hcz53_3 : w49.cell? ⟨gb243, 3, none⟩ = some (.int .i64 4) := (blk_cell BK243.out 3).trans rfl; have hfz53_0 := blk_frozen BK243.out 0; have hfz53_1 := blk_frozen BK243.out 1; have hfz53_2 := blk_frozen BK243.out 2; have hfz53_3 := blk_frozen BK243.out 3) | (go_at_call 14; (with_reducible refine (stripe_Right.calls 2 1 5 4 true _ A16.out).mono ?_); rintro e w54 ⟨rfl, hb⟩; have n0_ := Aside0.mk (Kd.V_below (by (with_reducible repeat (first | apply Kd.V_alloc | apply Kd.V_drewN | apply Kd.V_drew)); exact HO210.out) hb); have n1_ := Aside0.mk (Kd.R_below (by (with_reducible repeat (first | apply Kd.R_alloc | apply Kd.R_drewN | apply Kd.R_drew)); exact HO213.out) hb); have n2_ := Aside0.mk (Kd.R_below (by (with_reducible repeat (first | apply Kd.R_alloc | apply Kd.R_drewN | apply Kd.R_drew)); exact HO218.out) hb); have n3_ := Aside0.mk (Kd.R_below (by (with_reducible repeat (first | apply Kd.R_alloc | apply Kd.R_drewN | apply Kd.R_drew)); exact HO221.out) hb); have n4_ := Aside0.mk (Kd.R_below (by (with_reducible repeat (first | apply Kd.R_alloc | apply Kd.R_drewN | apply Kd.R_drew)); exact HO225.out) hb); have n5_ := Aside0.mk (Kd.N_below (by (with_reducible repeat (first | apply Kd.N_alloc | apply Kd.N_drewN | apply Kd.N_drew)); exact HO234.out) hb); have n6_ := Aside0.mk (Kd.N_below (by (with_reducible repeat (first | apply Kd.N_alloc | apply Kd.N_drewN | apply Kd.N_drew)); exact HO238.out) hb); have n7_ := Aside0.mk (Kd.N_below (by (with_reducible repeat (first | apply Kd.N_alloc | apply Kd.N_drewN | apply Kd.N_drew)); exact HO242.out) hb); have n8_ := Aside0.mk (Kd.V_below (by (with_reducible repeat (first | apply Kd.V_alloc | apply Kd.V_drewN | apply Kd.V_drew)); exact HL244_0.out) hb); have n9_ := Aside0.mk (blk_below (g := gb243) (o := .cells #[.int .i64 2, .int .i64 1, .int .i64 5, .int .i64 4] 24 (0, 0)) (by (with_reducible repeat (first | refine blk_drewN ?_ _ | refine blk_drew ?_ | refine blk_alloc ?_ _)); exact BK243.out) hb); have n10_ := Aside0.mk (Kd.C_below (by repeat (first | (with_reducible exact HR244_0.out) | (with_reducible refine Kd.C_alloc ?_ _) | (with_reducible refine Kd.C_drewN ?_ _) | (with_reducible refine Kd.C_drew ?_) | exact HR244_0.out)) hb); have n11_ := Aside0.mk (below_step (by repeat (first | (with_reducible first | exact HB.out | apply below_alloc | apply pw_below_drewN | apply below_drew1 | refine below_set ?_ GE243.out) | exact HB.out)) hb); clear HO210; clear HO213; clear HO218; clear HO221; clear HO225; clear HO234; clear HO238; clear HO242; clear HL244_0; clear BK243; clear HR244_0; clear HB; have HO210 := n0_; have HO213 := n1_; have HO218 := n2_; have HO221 := n3_; have HO225 := n4_; have HO234 := n5_; have HO238 := n6_; have HO242 := n7_; have HL244_0 := n8_; have BK243 := n9_; have HR244_0 := n10_; have HB := n11_; clear n0_ n1_ n2_ n3_ n4_ n5_ n6_ n7_ n8_ n9_ n10_ n11_; (try clear hb); (try clear hb2); (try clear hk); (try clear hi); have hcz55_0 : w54.cell? ⟨gb243, 0, none⟩ = some (.int .i64 2) := (blk_cell BK243.out 0).trans rfl; have hcz55_1 : w54.cell? ⟨gb243, 1, none⟩ = some (.int .i64 1) := (blk_cell BK243.out 1).trans rfl; have hcz55_2 : w54.cell? ⟨gb243, 2, none⟩ = some (.int .i64 5) := (blk_cell BK243.out 2).trans rfl; have hcz55_3 : w54.cell? ⟨gb243, 3, none⟩ = some (.int .i64 4) := (blk_cell BK243.out 3).trans rfl; have hfz55_0 := blk_frozen BK243.out 0; have hfz55_1 := blk_frozen BK243.out 1; have hfz55_2 := blk_frozen BK243.out 2; have hfz55_3 := blk_frozen BK243.out 3) | (go_at_call 15; (with_reducible refine (stripe_Long.calls 2 1 5 4 t246 _ A18.out).mono ?_); rintro e w56 ⟨rfl, hb⟩; have n0_ := Aside0.mk (Kd.V_below (by (with_reducible repeat (first | apply Kd.V_alloc | apply Kd.V_drewN | apply Kd.V_drew)); exact HO210.out) hb); have n1_ := Aside0.mk (Kd.R_below (by (with_reducible repeat (first | apply Kd.R_alloc | apply Kd.R_drewN | apply Kd.R_drew)); exact HO213.out) hb); have n2_ := Aside0.mk (Kd.R_below (by (with_reducible repeat (first | apply Kd.R_alloc | apply Kd.R_drewN | apply Kd.R_drew)); exact HO218.out) hb); have n3_ := Aside0.mk (Kd.R_below (by (with_reducible repeat (first | apply Kd.R_alloc | apply Kd.R_drewN | apply Kd.R_drew)); exact HO221.out) hb); have n4_ := Aside0.mk (Kd.R_below (by (with_reducible repeat (first | apply Kd.R_alloc | apply Kd.R_drewN | apply Kd.R_drew)); exact HO225.out) hb); have n5_ := Aside0.mk (Kd.N_below (by (with_reducible repeat (first | apply Kd.N_alloc | apply Kd.N_drewN | apply Kd.N_drew)); exact HO234.out) hb); have n6_ := Aside0.mk (Kd.N_below (by (with_reducible repeat (first | apply Kd.N_alloc | apply Kd.N_drewN | apply Kd.N_drew)); exact HO238.out) hb); have n7_ := Aside0.mk (Kd.N_below (by (with_reducible repeat (first | apply Kd.N_alloc | apply Kd.N_drewN | apply Kd.N_drew)); exact HO242.out) hb); have n8_ := Aside0.mk (Kd.V_below (by (with_reducible repeat (first | apply Kd.V_alloc | apply Kd.V_drewN | apply Kd.V_drew)); exact HL244_0.out) hb); have n9_ := Aside0.mk (blk_below (g := gb243) (o := .cells #[.int .i64 2, .int .i64 1, .int .i64 5, .int .i64 4] 24 (0, 0)) (by (with_reducible repeat (first | refine blk_drewN ?_ _ | refine blk_drew ?_ | refine blk_alloc ?_ _)); exact BK243.out) hb); have n10_ := Aside0.mk (Kd.C_below (by repeat (first | (with_reducible exact HR244_0.out) | (with_reducible refine Kd.C_alloc ?_ _) | (with_reducible refine Kd.C_drewN ?_ _) | (with_reducible refine Kd.C_drew ?_) | exact HR244_0.out)) hb); have n11_ := Aside0.mk (below_step (by repeat (first | (with_reducible first | exact HB.out | apply below_alloc | apply pw_below_drewN | apply below_drew1 | refine below_set ?_ GE243.out) | exact HB.out)) hb); clear HO210; clear HO213; clear HO218; clear HO221; clear HO225; clear HO234; clear HO238; clear HO242; clear HL244_0; clear BK243; clear HR244_0; clear HB; have HO210 := n0_; have HO213 := n1_; have HO218 := n2_; have HO221 := n3_; have HO225 := n4_; have HO234 := n5_; have HO238 := n6_; have HO242 := n7_; have HL244_0 := n8_; have BK243 := n9_; have HR244_0 := n10_; have HB := n11_; clear n0_ n1_ n2_ n3_ n4_ n5_ n6_ n7_ n8_ n9_ n10_ n11_; (try clear hb); (try clear hb2); (try clear hk); (try clear hi); have hcz57_0 : w56.cell? ⟨gb243, 0, none⟩ = some (.int .i64 2) := (blk_cell BK243.out 0).trans rfl; have hcz57_1 : w56.cell? ⟨gb243, 1, none⟩ = some (.int .i64 1) := (blk_cell BK243.out 1).trans rfl; have hcz57_2 : w56.cell? ⟨gb243, 2, none⟩ = some (.int .i64 5) := (blk_cell BK243.out 2).trans rfl; have hcz57_3 : w56.cell? ⟨gb243, 3, none⟩ = some (.int .i64 4) := (blk_cell BK243.out 3).trans rfl; have hfz57_0 := blk_frozen BK243.out 0; have hfz57_1 := blk_frozen BK243.out 1; have hfz57_2 := blk_frozen BK243.out 2; have hfz57_3 := blk_frozen BK243.out 3) | (go_at_call 16; (with_reducible refine (stripe_Blocks.calls 2 1 5 4 t247 _ A20.out).mono ?_); rintro e w58 ⟨rfl, hb⟩; have n0_ := Aside0.mk (Kd.V_below (by (with_reducible repeat (first | apply Kd.V_alloc | apply Kd.V_drewN | apply Kd.V_drew)); exact HO210.out) hb); have n1_ := Aside0.mk (Kd.R_below (by (with_reducible repeat (first | apply Kd.R_alloc | apply Kd.R_drewN | apply Kd.R_drew)); exact HO213.out) hb); have n2_ := Aside0.mk (Kd.R_below (by (with_reducible repeat (first | apply Kd.R_alloc | apply Kd.R_drewN | apply Kd.R_drew)); exact HO218.out) hb); have n3_ := Aside0.mk (Kd.R_below (by (with_reducible repeat (first | apply Kd.R_alloc | apply Kd.R_drewN | apply Kd.R_drew)); exact HO221.out) hb); have n4_ := Aside0.mk (Kd.R_below (by (with_reducible repeat (first | apply Kd.R_alloc | apply Kd.R_drewN | apply Kd.R_drew)); exact HO225.out) hb); have n5_ := Aside0.mk (Kd.N_below (by (with_reducible repeat (first | apply Kd.N_alloc | apply Kd.N_drewN | apply Kd.N_drew)); exact HO234.out) hb); have n6_ := Aside0.mk (Kd.N_below (by (with_reducible repeat (first | apply Kd.N_alloc | apply Kd.N_drewN | apply Kd.N_drew)); exact HO238.out) hb); have n7_ := Aside0.mk (Kd.N_below (by (with_reducible repeat (first | apply Kd.N_alloc | apply Kd.N_drewN | apply Kd.N_drew)); exact HO242.out) hb); have n8_ := Aside0.mk (Kd.V_below (by (with_reducible repeat (first | apply Kd.V_alloc | apply Kd.V_drewN | apply Kd.V_drew)); exact HL244_0.out) hb); have n9_ := Aside0.mk (blk_below (g := gb243) (o := .cells #[.int .i64 2, .int .i64 1, .int .i64 5, .int .i64 4] 24 (0, 0)) (by (with_reducible repeat (first | refine blk_drewN ?_ _ | refine blk_drew ?_ | refine blk_alloc ?_ _)); exact BK243.out) hb); have n10_ := Aside0.mk (Kd.C_below (by repeat (first | (with_reducible exact HR244_0.out) | (with_reducible refine Kd.C_alloc ?_ _) | (with_reducible refine Kd.C_drewN ?_ _) | (with_reducible refine Kd.C_drew ?_) | exact HR244_0.out)) hb); have n11_ := Aside0.mk (below_step (by repeat (first | (with_reducible first | exact HB.out | apply below_alloc | apply pw_below_drewN | apply below_drew1 | refine below_set ?_ GE243.out) | exact HB.out)) hb); clear HO210; clear HO213; clear HO218; clear HO221; clear HO225; clear HO234; clear HO238; clear HO242; clear HL244_0; clear BK243; clear HR244_0; clear HB; have HO210 := n0_; have HO213 := n1_; have HO218 := n2_; have HO221 := n3_; have HO225 := n4_; have HO234 := n5_; have HO238 := n6_; have HO242 := n7_; have HL244_0 := n8_; have BK243 := n9_; have HR244_0 := n10_; have HB := n11_; clear n0_ n1_ n2_ n3_ n4_ n5_ n6_ n7_ n8_ n9_ n10_ n11_; (try clear hb); (try clear hb2); (try clear hk); (try clear hi)) | (go_at_call 16; (with_reducible refine (stripe_Blocks.calls 0 0 0 0 t248 _ A22.out).mono ?_); rintro e w59 ⟨rfl, hb⟩; have n0_ := Aside0.mk (Kd.V_below (by (with_reducible repeat (first | apply Kd.V_alloc | apply Kd.V_drewN | apply Kd.V_drew)); exact HO210.out) hb); have n1_ := Aside0.mk (Kd.R_below (by (with_reducible repeat (first | apply Kd.R_alloc | apply Kd.R_drewN | apply Kd.R_drew)); exact HO213.out) hb); have n2_ := Aside0.mk (Kd.R_below (by (with_reducible repeat (first | apply Kd.R_alloc | apply Kd.R_drewN | apply Kd.R_drew)); exact HO218.out) hb); have n3_ := Aside0.mk (Kd.R_below (by (with_reducible repeat (first | apply Kd.R_alloc | apply Kd.R_drewN | apply Kd.R_drew)); exact HO221.out) hb); have n4_ := Aside0.mk (Kd.R_below (by (with_reducible repeat (first | apply Kd.R_alloc | apply Kd.R_drewN | apply Kd.R_drew)); exact HO225.out) hb); have n5_ := Aside0.mk (Kd.N_below (by (with_reducible repeat (first | apply Kd.N_alloc | apply Kd.N_drewN | apply Kd.N_drew)); exact HO234.out) hb); have n6_ := Aside0.mk (Kd.N_below (by (with_reducible repeat (first | apply Kd.N_alloc | apply Kd.N_drewN | apply Kd.N_drew)); exact HO238.out) hb); have n7_ := Aside0.mk (Kd.N_below (by (with_reducible repeat (first | apply Kd.N_alloc | apply Kd.N_drewN | apply Kd.N_drew)); exact HO242.out) hb); have n8_ := Aside0.mk (Kd.V_below (by (with_reducible repeat (first | apply Kd.V_alloc | apply Kd.V_drewN | apply Kd.V_drew)); exact HL244_0.out) hb); have n9_ := Aside0.mk (blk_below (g := gb243) (o := .cells #[.int .i64 2, .int .i64 1, .int .i64 5, .int .i64 4] 24 (0, 0)) (by (with_reducible repeat (first | refine blk_drewN ?_ _ | refine blk_drew ?_ | refine blk_alloc ?_ _)); exact BK243.out) hb); have n10_ := Aside0.mk (Kd.C_below (by repeat (first | (with_reducible exact HR244_0.out) | (with_reducible refine Kd.C_alloc ?_ _) | (with_reducible refine Kd.C_drewN ?_ _) | (with_reducible refine Kd.C_drew ?_) | exact HR244_0.out)) hb); have n11_ := Aside0.mk (below_step (by repeat (first | (with_reducible first | exact HB.out | apply below_alloc | apply pw_below_drewN | apply below_drew1 | refine below_set ?_ GE243.out) | exact HB.out)) hb); clear HO210; clear HO213; clear HO218; clear HO221; clear HO225; clear HO234; clear HO238; clear HO242; clear HL244_0; clear BK243; clear HR244_0; clear HB; have HO210 := n0_; have HO213 := n1_; have HO218 := n2_; have HO221 := n3_; have HO225 := n4_; have HO234 := n5_; have HO238 := n6_; have HO242 := n7_; have HL244_0 := n8_; have BK243 := n9_; have HR244_0 := n10_; have HB := n11_; clear n0_ n1_ n2_ n3_ n4_ n5_ n6_ n7_ n8_ n9_ n10_ n11_; (try clear hb); (try clear hb2); (try clear hk); (try clear hi)))
              go_ret
              exact ⟨by first | rfl | (simp [errW_none, errW_some] <;> rfl) | (simp [*, errW_none, errW_some] <;> rfl), by repeat (first | (with_reducible first | exact HB.out | apply below_alloc | apply pw_below_drewN | apply below_drew1 | refine below_set ?_ GE243.out) | exact HB.out)⟩
             ·rw [if_neg c21] at H
              exact absurd H (by simp)
            ·rw [if_neg c19] at H
             exact absurd H (by simp)
           ·replace c17 := Bool.eq_false_iff.mpr c17
            subst c17
            have H1 : (none) = some r := by rw [if_neg (show ¬ (false = true) by decide)] at H; exact H
            clear H
            have H := H1
            clear H1
            exact absurd H (by simp)
          ·rw [if_neg c15] at H
           exact absurd H (by simp)
         ·rw [if_neg c14] at H
          exact absurd H (by simp)
        ·rw [if_neg c13] at H
         exact absurd H (by simp)
       ·rw [if_neg c12] at H
        exact absurd H (by simp)
      ·rw [if_neg c11] at H
       exact absurd H (by simp)
     ·rw [if_neg c10] at H
      exact absurd H (by simp)
    ·rw [if_neg c9] at H
     exact absurd H (by simp)
   ·rw [if_neg c8] at H
    exact absurd H (by simp)
  ·rw [if_neg c7] at H
   exact absurd H (by simp)
 ·rw [if_neg c6] at H
  exact absurd H (by simp)
end Go.Proofs.Ytcdmgppjhdpgkaa.P
namespace Go.Proofs.Ytcdmgppjhdpgkaa.P
open Go.RowKit Go.Proofs.YtcdmgppjhdpgkaaW.PrintWords Go.Proofs.YtcdmgppjhdpgkaaW.PrintLast Go.Proofs.YtcdmgppjhdpgkaaW.PrintMore
attribute [local go_sem] max2_int min2_int max_two min_two max_three min_three max_four min_four
set_option linter.unusedVariables false
set_option linter.unusedSimpArgs false
def footlockerref01_Join.l0 : Nat → List (List Int) → List Int → Int → Option (List Int)
 | 0, _, _, _ => none
 | k + 1, x0, x3, x4 => if x4 < (x0.length : Int) then (if 0 ≤ x4 then (if x3.length + (rd_L1 x0 x4).length < 140737488355328 then (footlockerref01_Join.l0 k x0 (x3 ++ (rd_L1 x0 x4)) (wrap64 (x4 + 1))) else (none)) else (none)) else (some x3)
def footlockerref01_Join.f (k : Nat) (l0 : List (List Int)) : Option (List Int) := footlockerref01_Join.l0 k l0 (([] : List Int)) 0
set_option maxHeartbeats 8000000 in
set_option maxRecDepth 100000 in
theorem footlockerref01_Join.calls (k : Nat) (A0 : Option Addr) (c0 : Nat) (l0 : List (List Int)) (r : List Int) (w : World) (hr0 : Kd.C (Kd.slice 5 (Kd.int .u8)) w A0 l0.length l0) (hc0 : l0.length ≤ c0) (h : footlockerref01_Join.f k l0 = some r) :
 Calls Try.prog 25 #[.slice A0 l0.length c0] w fun e w' => ∃ v0_ : Value, e = .returned (v0_) ∧ Kd.R (Kd.int .u8) 5 w' w.heap.size (fun _ => True) v0_ r ∧ Below w.heap.size w w' := by
 have HR0 := Aside0.mk hr0
 have HC0 := Aside0.mk hc0
 clear hr0 hc0
 have HB := Aside0.mk (Below.refl w.heap.size w)
 have H : (footlockerref01_Join.l0 k l0 (([] : List Int)) 0) = some r := h
 clear h
 obtain ⟨y249, hy249⟩ : ∃ y_ : List Int, y_ = (([] : List Int)) := ⟨_, rfl⟩
 replace H : (footlockerref01_Join.l0 k l0 y249 0) = some r := by first | (rw [hy249]; with_reducible exact H) | (have H2_ := (Option.bind_some _ _).symm.trans H; rw [hy249]; with_reducible exact H2_) | (have H2_ := (Option.bind_some _ _).symm.trans H; with_reducible exact H2_) | with_reducible exact H | (rw [hy249]; exact H) | exact H
 have Ny249 := Aside0.mk hy249
 clear hy249
 have H' := Aside0.mk H
 clear H
 go_enter Try.func25, Try.ntmps25
 go_wp2_with (first | ((with_reducible refine gate_dst (N := 5) rfl ?_); refine Kd.R_lit (Kd.int .u8) _ 5 ?hg (N := 5) ?hd (xs := ([] : List Int)) (inner := []) (ok := fun _ => True) (okp := fun _ => True) ?hr ?hp (fun _ hk => hk) trivial (Below.refl _ _) (Nat.le_refl _) (by simp) ?_; (case hd => rfl); (case hg => rfl); (case hr => first | (go_simp; done) | (go_simp; rfl)); (case hp => exact (Reps.none _ _)); intro v250 w2 ho3 hb hg_ hnew_; clear hg_ hnew_; (first | rw [← Ny249.out] at ho3 | (simp only [Int.reduceToNat] at ho3; rw [← Ny249.out] at ho3)); have n0_ := Aside0.mk (Kd.R_lower ho3 (below_size (by repeat (first | (with_reducible first | exact HB.out | apply below_alloc | apply pw_below_drewN | apply below_drew1) | exact HB.out)))); have n1_ := Aside0.mk (below_step (by repeat (first | (with_reducible first | exact HB.out | apply below_alloc | apply pw_below_drewN | apply below_drew1) | exact HB.out)) hb); clear HB; have HO251 := n0_; have HB := n1_; clear n0_ n1_; clear hb ho3))
 go_loopg [3, 4] k (fun kq v3 v4 w' => ∃ (x3_1 : List Int) (x4_1 : Int), v4 = .int .i64 x4_1 ∧ Aside0 (footlockerref01_Join.l0 kq l0 x3_1 x4_1 = some r) ∧ Aside0 (kq ≤ k) ∧ Aside0 (Kd.R (Kd.int .u8) 5 w' w.heap.size (fun _ => True) v3 x3_1) ∧ Aside0 (Below w.heap.size w w'))
 case atStart => exact ⟨(y249), (0), (by first | rfl | (simp; done) | (simp [*]; done)), H', ⟨Nat.le_refl _⟩, ⟨by (with_reducible repeat (first | apply Kd.R_alloc | apply Kd.R_drewN | apply Kd.R_drew)); exact HO251.out⟩, ⟨by repeat (first | (with_reducible first | exact HB.out | apply below_alloc | apply pw_below_drewN | apply below_drew1) | exact HB.out)⟩⟩
 case round =>
  clear H'
  try clear c2
  try clear p2
  obtain ⟨x3_1, x4_1, rfl, HA, HK1, HO_3, HB⟩ := hrel
  cases gk with
  | zero => exact absurd HA.out (by simp [footlockerref01_Join.l0])
  | succ k1 =>
   have H := HA.out
   clear HA
   simp only [footlockerref01_Join.l0] at H
   by_cases c4 : x4_1 < (l0.length : Int)
   ·rw [if_pos c4] at H
    have c4b0 : decide (x4_1 < (l0.length : Int)) = true := decide_eq_true c4
    clear c4
    by_cases c5 : 0 ≤ x4_1
    ·rw [if_pos c5] at H
     have c5b0 : decide (0 ≤ x4_1) = true := decide_eq_true c5
     clear c5
     by_cases c6 : x3_1.length + (rd_L1 l0 x4_1).length < 140737488355328
     ·rw [if_pos c6] at H
      have LMc6 := Aside0.mk c6
      clear c6
      obtain ⟨y253, hy253⟩ : ∃ y_ : List Int, y_ = (x3_1 ++ (rd_L1 l0 x4_1)) := ⟨_, rfl⟩
      replace H : (footlockerref01_Join.l0 k1 l0 y253 (wrap64 (x4_1 + 1))) = some r := by first | (rw [hy253]; with_reducible exact H) | (have H2_ := (Option.bind_some _ _).symm.trans H; rw [hy253]; with_reducible exact H2_) | (have H2_ := (Option.bind_some _ _).symm.trans H; with_reducible exact H2_) | with_reducible exact H | (rw [hy253]; exact H) | exact H
      have Ny253 := Aside0.mk hy253
      clear hy253
      have H' := Aside0.mk H
      clear H
      have p252 : 0 ≤ (x4_1 : Int) := of_decide_eq_true (by first | (with_reducible assumption) | assumption)
      have q252 : x4_1 < (l0.length : Int) := of_decide_eq_true (by first | (with_reducible assumption) | assumption)
      obtain ⟨ad252, A252_0, c252_0, e252, hx252_0, hl252_0, hi252_0⟩ := at_L1 HR0.out x4_1 p252 q252
      cases e252
      replace hx252_0 := (HB.out.cell (World.block_lt_of_cell? w _ hx252_0)).trans hx252_0
      have HR252_0 := Aside0.mk hi252_0
      have HC252_0 := Aside0.mk hl252_0
      clear hi252_0 hl252_0
      replace p252 := eq_true p252
      replace q252 := eq_true q252
      go_wp2_with (first | ((with_reducible refine gate_builtin (b := .append) (xs := #[.tmp 12, .tmp 16]) rfl ?_); at_builtin; refine Kd.R_append_rows (Kd.int .u8) (w0 := w) w.heap.size rfl (.tmp 12) (.tmp 16) 22 5 (.int .u8 0) 1 rfl Try.underlying22 info5 rfl (by decide) (by omega) u3 x3_1 (rd_L1 l0 x4_1) _ _ _ (fun _ => True) (fun _ => False) rfl rfl ?aO ?aR (fun _ _ h => h) (fun _ h => h.elim) ?aF ?aB ?aS ?aL ?_; (case aR => repeat (first | exact (Kd.C_below HR252_0.out HB.out) | (with_reducible refine Kd.C_alloc ?_ _) | (with_reducible refine Kd.C_drewN ?_ _) | (with_reducible refine Kd.C_drew ?_))); (case aB => exact (by repeat (first | (with_reducible first | exact HB.out | apply below_alloc | apply pw_below_drewN | apply below_drew1) | exact HB.out))); (case aF => exact (fun _ _ => trivial)); (case aO => exact (by (with_reducible repeat (first | apply Kd.R_alloc | apply Kd.R_drewN | apply Kd.R_drew)); exact HO_3.out)); (case aS => exact (below_size (by repeat (first | (with_reducible first | exact HB.out | apply below_alloc | apply pw_below_drewN | apply below_drew1) | exact HB.out)))); (case aL => have := LMc6.out; omega); intro v254 w7 ho hb hg hat; rw [← Ny253.out] at ho; have n0_ := Aside0.mk (hb); have n1_ := Aside0.mk (ho); clear HB; clear HO_3; have HB := n0_; have HO255 := n1_; clear n0_ n1_; clear ho hb hg hat))
      go_roundg k1
      case measure => have := HK1.out; omega
      case rel => exact ⟨(y253), (wrap64 (x4_1 + 1)), (by first | rfl | (simp; done) | (simp [*]; done)), H', ⟨by have := HK1.out; omega⟩, ⟨by (with_reducible repeat (first | apply Kd.R_alloc | apply Kd.R_drewN | apply Kd.R_drew)); exact HO255.out⟩, ⟨by repeat (first | (with_reducible first | exact HB.out | apply below_alloc | apply pw_below_drewN | apply below_drew1) | exact HB.out)⟩⟩
     ·rw [if_neg c6] at H
      exact absurd H (by simp)
    ·rw [if_neg c5] at H
     exact absurd H (by simp)
   ·rw [if_neg c4] at H
    have c4b0 : decide (x4_1 < (l0.length : Int)) = false := decide_eq_false c4
    clear c4
    obtain rfl := Option.some.inj H
    go_wp2
    go_ret
    exact ⟨_, by first | rfl | (simp [errW_none, errW_some] <;> rfl) | (simp [*, errW_none, errW_some] <;> rfl), by (with_reducible repeat (first | apply Kd.R_alloc | apply Kd.R_drewN | apply Kd.R_drew)); exact HO_3.out, by repeat (first | (with_reducible first | exact HB.out | apply below_alloc | apply pw_below_drewN | apply below_drew1) | exact HB.out)⟩
def footlockerref07_Put.l0 : Nat → Int → Int → List Int → Int → Option (List Int)
 | 0, _, _, _, _ => none
 | k + 1, x0, x1, x5, x6 => if x6 < x1 then (if x6 < 8 then (if x5.length < 140737488355328 then (footlockerref07_Put.l0 k (IntKind.u64.wrap (Int.tdiv x0 256)) x1 (x5 ++ [(Int.tmod x0 256) % 256]) (wrap64 (x6 + 1))) else (none)) else (some x5)) else (some x5)
def footlockerref07_Put.f (k : Nat) (a0 : Int) (a1 : Int) : Option (List Int) := footlockerref07_Put.l0 k a0 a1 (([] : List Int)) 0
set_option maxHeartbeats 8000000 in
set_option maxRecDepth 100000 in
theorem footlockerref07_Put.calls (k : Nat) (a0 : Int) (a1 : Int) (r : List Int) (w : World) (h : footlockerref07_Put.f k a0 a1 = some r) :
 Calls Try.prog 26 #[.int .u64 a0, .int .i64 a1] w fun e w' => ∃ v0_ : Value, e = .returned (v0_) ∧ Kd.R (Kd.int .u8) 5 w' w.heap.size (fun _ => True) v0_ r ∧ Below w.heap.size w w' := by
 have HB := Aside0.mk (Below.refl w.heap.size w)
 have H : (footlockerref07_Put.l0 k a0 a1 (([] : List Int)) 0) = some r := h
 clear h
 obtain ⟨y256, hy256⟩ : ∃ y_ : List Int, y_ = (([] : List Int)) := ⟨_, rfl⟩
 replace H : (footlockerref07_Put.l0 k a0 a1 y256 0) = some r := by first | (rw [hy256]; with_reducible exact H) | (have H2_ := (Option.bind_some _ _).symm.trans H; rw [hy256]; with_reducible exact H2_) | (have H2_ := (Option.bind_some _ _).symm.trans H; with_reducible exact H2_) | with_reducible exact H | (rw [hy256]; exact H) | exact H
 have Ny256 := Aside0.mk hy256
 clear hy256
 have H' := Aside0.mk H
 clear H
 go_enter Try.func26, Try.ntmps26
 go_wp2_with (first | ((with_reducible refine gate_dst (N := 7) rfl ?_); refine Kd.R_lit (Kd.int .u8) _ 5 ?hg (N := 7) ?hd (xs := ([] : List Int)) (inner := []) (ok := fun _ => True) (okp := fun _ => True) ?hr ?hp (fun _ hk => hk) trivial (Below.refl _ _) (Nat.le_refl _) (by simp) ?_; (case hd => rfl); (case hg => rfl); (case hr => first | (go_simp; done) | (go_simp; rfl)); (case hp => exact (Reps.none _ _)); intro v257 w3 ho4 hb hg_ hnew_; clear hg_ hnew_; (first | rw [← Ny256.out] at ho4 | (simp only [Int.reduceToNat] at ho4; rw [← Ny256.out] at ho4)); have n0_ := Aside0.mk (Kd.R_lower ho4 (below_size (by repeat (first | (with_reducible first | exact HB.out | apply below_alloc | apply pw_below_drewN | apply below_drew1) | exact HB.out)))); have n1_ := Aside0.mk (below_step (by repeat (first | (with_reducible first | exact HB.out | apply below_alloc | apply pw_below_drewN | apply below_drew1) | exact HB.out)) hb); clear HB; have HO258 := n0_; have HB := n1_; clear n0_ n1_; clear hb ho4))
 go_loopg [0, 5, 6] k (fun kq v0 v5 v6 w' => ∃ (x0_1 : Int) (x5_1 : List Int) (x6_1 : Int), v0 = .int .u64 x0_1 ∧ v6 = .int .i64 x6_1 ∧ Aside0 (footlockerref07_Put.l0 kq x0_1 a1 x5_1 x6_1 = some r) ∧ Aside0 (kq ≤ k) ∧ Aside0 (Kd.R (Kd.int .u8) 5 w' w.heap.size (fun _ => True) v5 x5_1) ∧ Aside0 (Below w.heap.size w w'))
 case atStart => exact ⟨(a0), (y256), (0), (by first | rfl | (simp; done) | (simp [*]; done)), (by first | rfl | (simp; done) | (simp [*]; done)), H', ⟨Nat.le_refl _⟩, ⟨by (with_reducible repeat (first | apply Kd.R_alloc | apply Kd.R_drewN | apply Kd.R_drew)); exact HO258.out⟩, ⟨by repeat (first | (with_reducible first | exact HB.out | apply below_alloc | apply pw_below_drewN | apply below_drew1) | exact HB.out)⟩⟩
 case round =>
  clear H'
  try clear c2
  try clear p2
  obtain ⟨x0_1, x5_1, x6_1, rfl, rfl, HA, HK1, HO_5, HB⟩ := hrel
  cases gk with
  | zero => exact absurd HA.out (by simp [footlockerref07_Put.l0])
  | succ k1 =>
   have H := HA.out
   clear HA
   simp only [footlockerref07_Put.l0] at H
   by_cases c5 : x6_1 < a1
   ·rw [if_pos c5] at H
    have c5b0 : decide (x6_1 < a1) = true := decide_eq_true c5
    clear c5
    by_cases c6 : x6_1 < 8
    ·rw [if_pos c6] at H
     have c6b0 : decide (x6_1 < 8) = true := decide_eq_true c6
     clear c6
     by_cases c7 : x5_1.length < 140737488355328
     ·rw [if_pos c7] at H
      have LMc7 := Aside0.mk c7
      clear c7
      obtain ⟨y259, hy259⟩ : ∃ y_ : List Int, y_ = (x5_1 ++ [(Int.tmod x0_1 256) % 256]) := ⟨_, rfl⟩
      replace H : (footlockerref07_Put.l0 k1 (IntKind.u64.wrap (Int.tdiv x0_1 256)) a1 y259 (wrap64 (x6_1 + 1))) = some r := by first | (rw [hy259]; with_reducible exact H) | (have H2_ := (Option.bind_some _ _).symm.trans H; rw [hy259]; with_reducible exact H2_) | (have H2_ := (Option.bind_some _ _).symm.trans H; with_reducible exact H2_) | with_reducible exact H | (rw [hy259]; exact H) | exact H
      have Ny259 := Aside0.mk hy259
      clear hy259
      have H' := Aside0.mk H
      clear H
      go_wp2_with (first | ((with_reducible refine gate_builtin (b := .append) (xs := #[.tmp 17, .tmp 21]) rfl ?_); at_builtin; refine Kd.R_append (Kd.int .u8) (w0 := w) w.heap.size rfl (.tmp 17) (.tmp 21) 22 5 (.int .u8 0) 1 rfl Try.underlying22 info5 rfl (by decide) (by omega) u5 x5_1 ((Int.tmod x0_1 256) % 256) [.int .u8 ((Int.tmod x0_1 256) % 256)] (fun _ => True) (fun _ => False) rfl rfl ?aP (fun _ hk => hk.elim) ?aF ?aO ?aB ?aS ?aL ?_; (case aP => exact rfl); (case aB => exact (by repeat (first | (with_reducible first | exact HB.out | apply below_alloc | apply pw_below_drewN | apply below_drew1) | exact HB.out))); (case aF => exact (fun _ _ => trivial)); (case aO => exact (by (with_reducible repeat (first | apply Kd.R_alloc | apply Kd.R_drewN | apply Kd.R_drew)); exact HO_5.out)); (case aS => exact (below_size (by repeat (first | (with_reducible first | exact HB.out | apply below_alloc | apply pw_below_drewN | apply below_drew1) | exact HB.out)))); (case aL => have := LMc7.out; omega); intro v260 w8 ho hb hg hat; rw [← Ny259.out] at ho; have n0_ := Aside0.mk (hb); have n1_ := Aside0.mk (ho); clear HB; clear HO_5; have HB := n0_; have HO261 := n1_; clear n0_ n1_; clear ho hb hg hat))
      go_roundg k1
      case measure => have := HK1.out; omega
      case rel => exact ⟨(IntKind.u64.wrap (Int.tdiv x0_1 256)), (y259), (wrap64 (x6_1 + 1)), (by first | rfl | (simp; done) | (simp [*]; done)), (by first | rfl | (simp; done) | (simp [*]; done)), H', ⟨by have := HK1.out; omega⟩, ⟨by (with_reducible repeat (first | apply Kd.R_alloc | apply Kd.R_drewN | apply Kd.R_drew)); exact HO261.out⟩, ⟨by repeat (first | (with_reducible first | exact HB.out | apply below_alloc | apply pw_below_drewN | apply below_drew1) | exact HB.out)⟩⟩
     ·rw [if_neg c7] at H
      exact absurd H (by simp)
    ·rw [if_neg c6] at H
     have c6b0 : decide (x6_1 < 8) = false := decide_eq_false c6
     clear c6
     obtain rfl := Option.some.inj H
     go_wp2
     go_ret
     exact ⟨_, by first | rfl | (simp [errW_none, errW_some] <;> rfl) | (simp [*, errW_none, errW_some] <;> rfl), by (with_reducible repeat (first | apply Kd.R_alloc | apply Kd.R_drewN | apply Kd.R_drew)); exact HO_5.out, by repeat (first | (with_reducible first | exact HB.out | apply below_alloc | apply pw_below_drewN | apply below_drew1) | exact HB.out)⟩
   ·rw [if_neg c5] at H
    have c5b0 : decide (x6_1 < a1) = false := decide_eq_false c5
    clear c5
    obtain rfl := Option.some.inj H
    go_wp2
    go_ret
    exact ⟨_, by first | rfl | (simp [errW_none, errW_some] <;> rfl) | (simp [*, errW_none, errW_some] <;> rfl), by (with_reducible repeat (first | apply Kd.R_alloc | apply Kd.R_drewN | apply Kd.R_drew)); exact HO_5.out, by repeat (first | (with_reducible first | exact HB.out | apply below_alloc | apply pw_below_drewN | apply below_drew1) | exact HB.out)⟩
def footlockerref23_Column.j0 : Nat → List Int → Int → Bool → Option (List Int × Int)
 | 0, _, _, _ => none
 | k + 1, x0, x1, x11 => if x11 = true then (some (([] : List Int), 1)) else (if (x0.length : Int) > x1 then (some (([] : List Int), 2)) else ((footlockerref07_Put.f k (IntKind.u64.wrap ((x0.length : Int))) 8).bind fun t262 => (if 0 ≤ (wrap64 (x1 - (x0.length : Int))) then (if (wrap64 (x1 - (x0.length : Int)) : Int).toNat ≤ 281474976710656 then ((footlockerref01_Join.f k (([t262, x0, (List.replicate (wrap64 (x1 - (x0.length : Int)) : Int).toNat 0)] : List (List Int)))).bind fun t271 => (some (t271, 0))) else (none)) else (none))))
def footlockerref23_Column.f (k : Nat) (l0 : List Int) (a1 : Int) : Option (List Int × Int) := if a1 < 5 then (footlockerref23_Column.j0 k l0 a1 true) else (footlockerref23_Column.j0 k l0 a1 (decide (a1 > 16777216)))
def footlockerref23_Column.T5 : Bool × List (List Nat × List Nat) := (true, [([], []), ([0], [0]), ([1], [1]), ([2], [2]), ([], []), ([], []), ([], []), ([6], [6]), ([5, 7], [5, 7]), ([8, 8], [8]), ([3, 4, 9], [3, 4, 9]), ([10, 3], [10]), ([11, 11, 0, 1, 2, 3, 4, 5, 6, 7, 8, 9, 10, 11], [11]), ([12, 0, 1, 2, 3, 4, 5, 6, 7, 8, 9, 10, 11, 12], [])])
def footlockerref23_Column.B5 : List Nat := [0, 1, 3, 7, 0, 0, 0, 64, 224, 480, 1023, 2047, 4095, 8191]
theorem footlockerref23_Column.tab5 : rtab .any (opsOf Try.f9 5) = footlockerref23_Column.T5 := by kernel_rfl
theorem footlockerref23_Column.bits5 : waitsOk footlockerref23_Column.T5.2 footlockerref23_Column.B5 = true := by kernel_rfl
set_option maxHeartbeats 8000000 in
set_option maxRecDepth 100000 in
theorem footlockerref23_Column.calls (k : Nat) (P0_ : Nat → Prop) (A0 : Option Addr) (c0 : Nat) (l0 : List Int) (a1 : Int) (r1 : List Int) (r2 : Int) (w : World) (hs0 : Kd.V (Kd.int .u8) 5 w w.heap.size (fun k_ => P0_ k_) (.slice A0 l0.length c0) l0) (h : footlockerref23_Column.f k l0 a1 = some (r1, r2)) :
 Calls Try.prog 9 #[.slice A0 l0.length c0, .int .i64 a1] w fun e w' => ∃ v0_ : Value, e = .returned (.tuple #[v0_, .int .i64 r2]) ∧ Kd.R (Kd.int .u8) 5 w' w.heap.size (fun k_ => (w.heap.size ≤ k_)) v0_ r1 ∧ Below w.heap.size w w' := by
 have HO0 := Aside0.mk (show Kd.V (Kd.int .u8) 5 w w.heap.size (fun k_ => (P0_ k_ ∨ w.heap.size ≤ k_)) (.slice A0 l0.length c0) l0 from Kd.V_mono hs0 (fun k_ hk => .inl hk))
 have HB := Aside0.mk (Below.refl w.heap.size w)
 have H : (if a1 < 5 then (footlockerref23_Column.j0 k l0 a1 true) else (footlockerref23_Column.j0 k l0 a1 (decide (a1 > 16777216)))) = some (r1, r2) := h
 clear h
 have HC3 := Aside0.mk H
 clear H
 go_enter Try.func9, Try.ntmps9
 go_upto_region 1 with (fail)
 go_cut [11] (fun v11 wc => ∃ (kq : Nat) (x11_2 : Bool), v11 = .bool x11_2 ∧ Aside0 (footlockerref23_Column.j0 kq l0 a1 x11_2 = some (r1, r2)) ∧ Aside0 (kq ≤ k) ∧ Aside0 (Kd.V (Kd.int .u8) 5 wc w.heap.size (fun k_ => (P0_ k_ ∨ w.heap.size ≤ k_)) (.slice A0 l0.length c0) l0) ∧ Aside0 (Below w.heap.size w wc))
 case first =>
  have H := HC3.out
  clear HC3
  by_cases c4 : a1 < 5
  ·rw [if_pos c4] at H
   have c4b0 : decide (a1 < 5) = true := decide_eq_true c4
   clear c4
   (first | rw [c4b0] | (simp only [i64_w, i32_w]; rw [c4b0]) | skip)
   have H' := Aside0.mk H
   clear H
   go_wp2
   go_meet
   case rel => exact ⟨_, (true), (by first | rfl | (simp; done) | (simp [*]; done)), H', ⟨by first | omega | exact Nat.le_refl _⟩, ⟨by (with_reducible repeat (first | apply Kd.V_alloc | apply Kd.V_drewN | apply Kd.V_drew)); exact HO0.out⟩, ⟨by repeat (first | (with_reducible first | exact HB.out | apply below_alloc | apply pw_below_drewN | apply below_drew1) | exact HB.out)⟩⟩
  ·rw [if_neg c4] at H
   have c4b0 : decide (a1 < 5) = false := decide_eq_false c4
   clear c4
   (first | rw [c4b0] | (simp only [i64_w, i32_w]; rw [c4b0]) | skip)
   have H' := Aside0.mk H
   clear H
   go_wp2
   go_meet
   case rel => exact ⟨_, (decide (a1 > 16777216)), (by first | rfl | (simp; done) | (simp [*]; done)), H', ⟨by first | omega | exact Nat.le_refl _⟩, ⟨by (with_reducible repeat (first | apply Kd.V_alloc | apply Kd.V_drewN | apply Kd.V_drew)); exact HO0.out⟩, ⟨by repeat (first | (with_reducible first | exact HB.out | apply below_alloc | apply pw_below_drewN | apply below_drew1) | exact HB.out)⟩⟩
 case rest =>
  clear HC3
  try clear p2
  try clear c4
  try clear c4b0
  obtain ⟨kq, x11_2, rfl, HA, HJ2, HO_0, HB⟩ := hcut
  cases kq with
  | zero => exact absurd HA.out (by simp [footlockerref23_Column.j0])
  | succ kj2 =>
   have H := HA.out
   clear HA
   simp only [footlockerref23_Column.j0] at H
   by_cases c5 : x11_2 = true
   ·subst c5
    have H1 : (some (([] : List Int), 1)) = some (r1, r2) := by rw [if_pos rfl] at H; exact H
    clear H
    have H := H1
    clear H1
    simp only [Option.some.injEq, Prod.mk.injEq] at H
    obtain ⟨rfl, rfl⟩ := H
    go_wp2
    go_ret2
    exact ⟨_, by first | rfl | (simp [errW_none, errW_some] <;> rfl) | (simp [*, errW_none, errW_some] <;> rfl), by first | exact Kd.R_nil _ _ _ _ _ | exact Kd.N_nil _ _ _ _ _ | exact Kd.V_nil _ _ _ _ _ | exact Kd.Q_nil _ _ _ _ _ | exact Kd.S_nil _ _ _ _ _, by repeat (first | (with_reducible first | exact HB.out | apply below_alloc | apply pw_below_drewN | apply below_drew1) | exact HB.out)⟩
   ·replace c5 := Bool.eq_false_iff.mpr c5
    subst c5
    have H1 : (if (l0.length : Int) > a1 then (some (([] : List Int), 2)) else ((footlockerref07_Put.f kj2 (IntKind.u64.wrap ((l0.length : Int))) 8).bind fun t262 => (if 0 ≤ (wrap64 (a1 - (l0.length : Int))) then (if (wrap64 (a1 - (l0.length : Int)) : Int).toNat ≤ 281474976710656 then ((footlockerref01_Join.f kj2 (([t262, l0, (List.replicate (wrap64 (a1 - (l0.length : Int)) : Int).toNat 0)] : List (List Int)))).bind fun t271 => (some (t271, 0))) else (none)) else (none)))) = some (r1, r2) := by rw [if_neg (show ¬ (false = true) by decide)] at H; exact H
    clear H
    have H := H1
    clear H1
    by_cases c6 : (l0.length : Int) > a1
    ·rw [if_pos c6] at H
     have c6b0 : decide (a1 < (l0.length : Int)) = true := decide_eq_true c6
     clear c6
     simp only [Option.some.injEq, Prod.mk.injEq] at H
     obtain ⟨rfl, rfl⟩ := H
     go_wp2
     go_ret2
     exact ⟨_, by first | rfl | (simp [errW_none, errW_some] <;> rfl) | (simp [*, errW_none, errW_some] <;> rfl), by first | exact Kd.R_nil _ _ _ _ _ | exact Kd.N_nil _ _ _ _ _ | exact Kd.V_nil _ _ _ _ _ | exact Kd.Q_nil _ _ _ _ _ | exact Kd.S_nil _ _ _ _ _, by repeat (first | (with_reducible first | exact HB.out | apply below_alloc | apply pw_below_drewN | apply below_drew1) | exact HB.out)⟩
    ·rw [if_neg c6] at H
     have c6b0 : decide (a1 < (l0.length : Int)) = false := decide_eq_false c6
     clear c6
     replace H := Option.bind_eq_some_iff.mp H
     obtain ⟨t262, A70, H⟩ := H
     replace H : (if 0 ≤ (wrap64 (a1 - (l0.length : Int))) then (if (wrap64 (a1 - (l0.length : Int)) : Int).toNat ≤ 281474976710656 then ((footlockerref01_Join.f kj2 (([t262, l0, (List.replicate (wrap64 (a1 - (l0.length : Int)) : Int).toNat 0)] : List (List Int)))).bind fun t271 => (some (t271, 0))) else (none)) else (none)) = some (r1, r2) := H
     have A7 := Aside0.mk A70
     clear A70
     obtain ⟨ji8, hji8⟩ : ∃ j_ : Int, (wrap64 (a1 - (l0.length : Int))) = j_ := ⟨_, rfl⟩
     replace H : (if 0 ≤ (ji8) then (if (ji8 : Int).toNat ≤ 281474976710656 then ((footlockerref01_Join.f kj2 (([t262, l0, (List.replicate (ji8 : Int).toNat 0)] : List (List Int)))).bind fun t271 => (some (t271, 0))) else (none)) else (none)) = some (r1, r2) := by first | (rw [hji8] at H; exact H) | (simp only [hji8] at H ⊢; exact H)
     (try rw [hji8] at A7)
     have hji8w : (IntKind.i64.wrap (a1 - (l0.length : Int))) = ji8 := (i64_w _).trans hji8
     by_cases c9 : 0 ≤ (ji8)
     ·rw [if_pos c9] at H
      have c9b0 := eq_true c9
      have c9b1 : decide (0 ≤ (ji8)) = true := decide_eq_true c9
      clear c9
      by_cases c10 : (ji8 : Int).toNat ≤ 281474976710656
      ·rw [if_pos c10] at H
       have c10b0 := eq_true c10
       have c10b1 : decide ((ji8 : Int).toNat ≤ 281474976710656) = true := decide_eq_true c10
       clear c10
       obtain ⟨y265, hy265⟩ : ∃ y_ : List Int, y_ = (List.replicate (ji8 : Int).toNat 0) := ⟨_, rfl⟩
       replace H : ((footlockerref01_Join.f kj2 (([t262, l0, y265] : List (List Int)))).bind fun t271 => (some (t271, 0))) = some (r1, r2) := by first | (rw [hy265]; with_reducible exact H) | (have H2_ := (Option.bind_some _ _).symm.trans H; rw [hy265]; with_reducible exact H2_) | (have H2_ := (Option.bind_some _ _).symm.trans H; with_reducible exact H2_) | with_reducible exact H | (rw [hy265]; exact H) | exact H
       have Ny265 := Aside0.mk hy265
       clear hy265
       obtain ⟨y268, hy268⟩ : ∃ y_ : List (List Int), y_ = (([t262, l0, y265] : List (List Int))) := ⟨_, rfl⟩
       replace H : ((footlockerref01_Join.f kj2 y268).bind fun t271 => (some (t271, 0))) = some (r1, r2) := by first | (rw [hy268]; with_reducible exact H) | (have H2_ := (Option.bind_some _ _).symm.trans H; rw [hy268]; with_reducible exact H2_) | (have H2_ := (Option.bind_some _ _).symm.trans H; with_reducible exact H2_) | with_reducible exact H | (rw [hy268]; exact H) | exact H
       have Ny268 := Aside0.mk hy268
       clear hy268
       replace H := Option.bind_eq_some_iff.mp H
       obtain ⟨t271, A110, H⟩ := H
       replace H : (some (t271, 0)) = some (r1, r2) := H
       have A11 := Aside0.mk A110
       clear A110
       simp only [Option.some.injEq, Prod.mk.injEq] at H
       obtain ⟨rfl, rfl⟩ := H
       try go_wp2
       have n0_ := Aside0.mk (Kd.V_drew HO_0.out)
       have n1_ := Aside0.mk (below_drew1 HB.out)
       clear HO_0
       clear HB
       have HO_0 := n0_
       have HB := n1_
       clear n0_ n1_
       refine start_ (n := 14) (S := fun w' => True) (ds := []) #[false, false, false, false, false, false, false, false, false, false, false, false, false, false] (by kernel_rfl) rfl rfl trivial (fun hHeld => ?_); refine with_tabW footlockerref23_Column.tab5 footlockerref23_Column.bits5 (fun HT_ HW_ => ?_)
       generalize wc.drew = w12 at HO_0 HB hHeld ⊢
       refine pure_ (i := 0) (N := some 16) (v := ?_) (a' := ?_) #[true, false, false, false, false, false, false, false, false, false, false, false, false, false] rfl rfl (any_of HT_.out (by kernel_rfl)) (fun _ _ _ h => h) (Or.inl ⟨by rfl, ?_⟩) ?_ ?_
       rotate_left
       ·intro w'
        go_simp
        with_reducible rfl
       rotate_left
       ·simp only [Act.put, List.setIfInBounds_toArray, List.set_cons_zero, List.set_cons_succ, i64_w, i32_w]
        rfl
       refine pure_ (i := 1) (N := some 17) (v := ?_) (a' := ?_) #[true, true, false, false, false, false, false, false, false, false, false, false, false, false] rfl rfl (any_of HT_.out (by kernel_rfl)) (fun _ _ _ h => h) (Or.inl ⟨by rfl, ?_⟩) ?_ ?_
       rotate_left
       ·intro w'
        go_simp
        with_reducible rfl
       rotate_left
       ·simp only [Act.put, List.setIfInBounds_toArray, List.set_cons_zero, List.set_cons_succ, i64_w, i32_w]
        rfl
       refine pure_ (i := 2) (N := some 18) (v := ?_) (a' := ?_) #[true, true, true, false, false, false, false, false, false, false, false, false, false, false] rfl rfl (any_of HT_.out (by kernel_rfl)) (fun _ _ _ h => h) (Or.inl ⟨by rfl, ?_⟩) ?_ ?_
       rotate_left
       ·intro w'
        go_simp
        with_reducible rfl
       rotate_left
       ·simp only [Act.put, List.setIfInBounds_toArray, List.set_cons_zero, List.set_cons_succ, i64_w, i32_w]
        rfl
       refine pure_ (i := 4) (N := some 20) (v := ?_) (a' := ?_) #[true, true, true, false, true, false, false, false, false, false, false, false, false, false] rfl rfl (any_of HT_.out (by kernel_rfl)) (fun _ _ _ h => h) (Or.inl ⟨by rfl, ?_⟩) ?_ ?_
       rotate_left
       ·intro w'
        go_simp
        with_reducible rfl
       rotate_left
       ·simp only [Act.put, List.setIfInBounds_toArray, List.set_cons_zero, List.set_cons_succ, i64_w, i32_w]
        rfl
       refine pure_ (i := 5) (N := some 21) (v := ?_) (a' := ?_) #[true, true, true, false, true, true, false, false, false, false, false, false, false, false] rfl rfl (any_of HT_.out (by kernel_rfl)) (fun _ _ _ h => h) (Or.inl ⟨by rfl, ?_⟩) ?_ ?_
       rotate_left
       ·intro w'
        go_simp
        with_reducible rfl
       rotate_left
       ·simp only [Act.put, List.setIfInBounds_toArray, List.set_cons_zero, List.set_cons_succ, i64_w, i32_w]
        rfl
       refine pure_ (i := 6) (N := some 22) (v := ?_) (a' := ?_) #[true, true, true, false, true, true, true, false, false, false, false, false, false, false] rfl rfl (any_of HT_.out (by kernel_rfl)) (fun _ _ _ h => h) (Or.inl ⟨by rfl, ?_⟩) ?_ ?_
       rotate_left
       ·intro w'
        go_simp
        with_reducible rfl
       rotate_left
       ·simp only [Act.put, List.setIfInBounds_toArray, List.set_cons_zero, List.set_cons_succ, i64_w, i32_w]
        rfl
       refine pure_ (i := 7) (N := some 23) (v := ?_) (a' := ?_) #[true, true, true, false, true, true, true, true, false, false, false, false, false, false] rfl rfl (any_of HT_.out (by kernel_rfl)) (fun _ _ _ h => h) (Or.inl ⟨by rfl, ?_⟩) ?_ ?_
       rotate_left
       ·intro w'
        go_simp
        with_reducible rfl
       rotate_left
       ·simp only [Act.put, List.setIfInBounds_toArray, List.set_cons_zero, List.set_cons_succ, i64_w, i32_w]
        rfl
       refine pure_ (i := 8) (N := some 24) (v := ?_) (a' := ?_) #[true, true, true, false, true, true, true, true, true, false, false, false, false, false] rfl rfl (any_of HT_.out (by kernel_rfl)) (fun _ _ _ h => h) (Or.inl ⟨by rfl, ?_⟩) ?_ ?_
       rotate_left
       ·intro w'
        go_simp
        with_reducible rfl
       rotate_left
       ·simp only [Act.put, List.setIfInBounds_toArray, List.set_cons_zero, List.set_cons_succ, i64_w, i32_w]
        rfl
       refine join_ (σ := Value × Value) 4 #[true, true, true, true, true, true, true, true, true, true, false, false, false, false] (fun s_ => [(19, s_.1), (25, s_.2)]) (fun s_ w' => (Kd.R (Kd.int .u8) 5 w' w.heap.size (fun k_ => (w.heap.size ≤ k_) ∧ some k_ ≠ (s_.2 : Value).ownBlock) s_.1 t262) ∧ (Kd.R (Kd.int .u8) 5 w' w.heap.size (fun k_ => (w.heap.size ≤ k_) ∧ some k_ ≠ (s_.1 : Value).ownBlock) s_.2 y265) ∧ (Kd.V (Kd.int .u8) 5 w' w.heap.size (fun k_ => (P0_ k_ ∨ w.heap.size ≤ k_) ∧ some k_ ≠ (s_.1 : Value).ownBlock ∧ some k_ ≠ (s_.2 : Value).ownBlock) (.slice A0 l0.length c0) l0) ∧ (Below w.heap.size w w')) ?_ ?_
       rotate_left
       ·intro hCont
        refine two_ (i := 3) (j := 9) (Ni := some 19) (Nj := some 25) #[true, true, true, true, true, true, true, true, true, false, false, false, false, false] #[true, true, true, false, true, true, true, true, true, true, false, false, false, false] rfl rfl rfl rfl (two_of HT_.out (by kernel_rfl)) (by decide) (by decide) (fun K hK => ?_) (fun K hK => ?_)
        ·skip
         refine goes_ Try.func26 (by kernel_rfl) rfl #[.int .u64 (IntKind.u64.wrap ((l0.length : Int))), .int .i64 8] (by rfl) rfl rfl (by (try simp only [List.map_toArray, List.map_cons, List.map_nil]); first | done | rfl | (simp only [List.length_drop, List.length_take]; rfl)) ?_
         with_reducible refine (footlockerref07_Put.calls kj2 (IntKind.u64.wrap ((l0.length : Int))) 8 t262 _ A7.out).mono ?_
         rintro e w13 ⟨v263, rfl, ho0, hb⟩
         refine ⟨_, rfl, ?_⟩
         have n0_ := Aside0.mk (Kd.V_elder' (by (with_reducible repeat (first | apply Kd.V_alloc | apply Kd.V_drewN | apply Kd.V_drew)); exact HO_0.out) (Kd.R_base ho0) hb)
         have n1_ := Aside0.mk (Kd.R_lower (Kd.R_newM (M := fun k_ => (w.heap.size ≤ k_)) ho0 (below_size (by repeat (first | (with_reducible first | exact HB.out | apply below_alloc | apply pw_below_drewN | apply below_drew1) | exact HB.out))) (fun k_ h_ => h_)) (below_size (by repeat (first | (with_reducible first | exact HB.out | apply below_alloc | apply pw_below_drewN | apply below_drew1) | exact HB.out))))
         have n2_ := Aside0.mk (below_step (by repeat (first | (with_reducible first | exact HB.out | apply below_alloc | apply pw_below_drewN | apply below_drew1) | exact HB.out)) hb)
         clear HO_0
         clear HB
         have HO_0 := n0_
         have HO264 := n1_
         have HB := n2_
         clear n0_ n1_ n2_
         (try clear hb)
         (try clear hb2)
         (try clear hk)
         (try clear hi)
         (try clear ho0)
         refine hK.out _ _ trivial (fun hHeld => ?_)
         clear hK K
         refine norm_ (a' := ?_) ?_ ?_
         rotate_left
         ·show Act.put _ (some 19) _ = _
          simp only [Act.put, List.setIfInBounds_toArray, List.set_cons_zero, List.set_cons_succ, i64_w, i32_w]
          rfl
         refine one_ (i := 9) (N := some 25) #[true, true, true, true, true, true, true, true, true, true, false, false, false, false] rfl rfl (one_of HT_.out (by kernel_rfl)) (by decide) (fun K hK => ?_)
         refine Kd.R_make_step (Kd.int .u8) _ 5 (by rfl) (N := 25) rfl 22 _ _ rfl ji8 rfl rfl Try.underlying22 (.int .u8 0) 1 info5 rfl (by decide) (by omega) 0 (ok := fun _ => True) (okp := fun _ => True) rfl (fun _ hk => hk) trivial (of_decide_eq_true (by first | (with_reducible assumption) | assumption)) (Nat.le_trans (Nat.mul_le_mul_right _ (of_decide_eq_true (by first | (with_reducible assumption) | assumption) : ji8.toNat ≤ 281474976710656)) (by omega)) (Below.refl _ _) (Nat.le_refl _) ?_
         intro v266 w14 ho15 hb hg_ hnew_
         clear hg_ hnew_
         (first | rw [← Ny265.out] at ho15 | (simp only [Int.reduceToNat] at ho15; rw [← Ny265.out] at ho15))
         have n0_ := Aside0.mk (Kd.V_elder' (by (with_reducible repeat (first | apply Kd.V_alloc | apply Kd.V_drewN | apply Kd.V_drew)); exact HO_0.out) (Kd.R_base ho15) hb)
         have n1_ := Aside0.mk (Kd.R_elder' (by (with_reducible repeat (first | apply Kd.R_alloc | apply Kd.R_drewN | apply Kd.R_drew)); exact HO264.out) (Kd.R_base ho15) hb)
         have n2_ := Aside0.mk (Kd.R_lower (Kd.R_new' (Kd.R_newM (M := fun k_ => (w.heap.size ≤ k_)) ho15 (below_size (by repeat (first | (with_reducible first | exact HB.out | apply below_alloc | apply pw_below_drewN | apply below_drew1) | exact HB.out))) (fun k_ h_ => h_)) (Kd.R_lt (by (with_reducible repeat (first | apply Kd.R_alloc | apply Kd.R_drewN | apply Kd.R_drew)); exact HO264.out))) (below_size (by repeat (first | (with_reducible first | exact HB.out | apply below_alloc | apply pw_below_drewN | apply below_drew1) | exact HB.out))))
         have n3_ := Aside0.mk (below_step (by repeat (first | (with_reducible first | exact HB.out | apply below_alloc | apply pw_below_drewN | apply below_drew1) | exact HB.out)) hb)
         clear HO_0
         clear HO264
         clear HB
         have HO_0 := n0_
         have HO264 := n1_
         have HO267 := n2_
         have HB := n3_
         clear n0_ n1_ n2_ n3_
         clear hb ho15
         refine hK.out _ _ trivial (fun hHeld => ?_)
         clear hK K
         refine norm_ (a' := ?_) ?_ ?_
         rotate_left
         ·show Act.put _ (some 25) _ = _
          simp only [Act.put, List.setIfInBounds_toArray, List.set_cons_zero, List.set_cons_succ, i64_w, i32_w]
          rfl
         exact norm_ (by simp only [putAll, Act.put, List.setIfInBounds_toArray, List.set_cons_zero, List.set_cons_succ]) (hCont (v263, v266) _ ⟨(by (with_reducible repeat (first | apply Kd.R_alloc | apply Kd.R_drewN | apply Kd.R_drew)); exact Kd.R_mono HO264.out (fun _ hk => ⟨hk.1.1, hk.2⟩)), (by (with_reducible repeat (first | apply Kd.R_alloc | apply Kd.R_drewN | apply Kd.R_drew)); exact Kd.R_mono HO267.out (fun _ hk => ⟨hk.1.1, hk.2⟩)), (by (with_reducible repeat (first | apply Kd.V_alloc | apply Kd.V_drewN | apply Kd.V_drew)); exact Kd.V_mono HO_0.out (fun _ hk => ⟨hk.1.1, ⟨hk.1.2, hk.2⟩⟩)), (by repeat (first | (with_reducible first | exact HB.out | apply below_alloc | apply pw_below_drewN | apply below_drew1) | exact HB.out))⟩)
        ·skip
         refine Kd.R_make_step (Kd.int .u8) _ 5 (by rfl) (N := 25) rfl 22 _ _ rfl ji8 rfl rfl Try.underlying22 (.int .u8 0) 1 info5 rfl (by decide) (by omega) 0 (ok := fun _ => True) (okp := fun _ => True) rfl (fun _ hk => hk) trivial (of_decide_eq_true (by first | (with_reducible assumption) | assumption)) (Nat.le_trans (Nat.mul_le_mul_right _ (of_decide_eq_true (by first | (with_reducible assumption) | assumption) : ji8.toNat ≤ 281474976710656)) (by omega)) (Below.refl _ _) (Nat.le_refl _) ?_
         intro v266 w13 ho14 hb hg_ hnew_
         clear hg_ hnew_
         (first | rw [← Ny265.out] at ho14 | (simp only [Int.reduceToNat] at ho14; rw [← Ny265.out] at ho14))
         have n0_ := Aside0.mk (Kd.V_elder' (by (with_reducible repeat (first | apply Kd.V_alloc | apply Kd.V_drewN | apply Kd.V_drew)); exact HO_0.out) (Kd.R_base ho14) hb)
         have n1_ := Aside0.mk (Kd.R_lower (Kd.R_newM (M := fun k_ => (w.heap.size ≤ k_)) ho14 (below_size (by repeat (first | (with_reducible first | exact HB.out | apply below_alloc | apply pw_below_drewN | apply below_drew1) | exact HB.out))) (fun k_ h_ => h_)) (below_size (by repeat (first | (with_reducible first | exact HB.out | apply below_alloc | apply pw_below_drewN | apply below_drew1) | exact HB.out))))
         have n2_ := Aside0.mk (below_step (by repeat (first | (with_reducible first | exact HB.out | apply below_alloc | apply pw_below_drewN | apply below_drew1) | exact HB.out)) hb)
         clear HO_0
         clear HB
         have HO_0 := n0_
         have HO267 := n1_
         have HB := n2_
         clear n0_ n1_ n2_
         clear hb ho14
         refine hK.out _ _ trivial (fun hHeld => ?_)
         clear hK K
         refine norm_ (a' := ?_) ?_ ?_
         rotate_left
         ·show Act.put _ (some 25) _ = _
          simp only [Act.put, List.setIfInBounds_toArray, List.set_cons_zero, List.set_cons_succ, i64_w, i32_w]
          rfl
         refine one_ (i := 3) (N := some 19) #[true, true, true, true, true, true, true, true, true, true, false, false, false, false] rfl rfl (one_of HT_.out (by kernel_rfl)) (by decide) (fun K hK => ?_)
         refine goes_ Try.func26 (by kernel_rfl) rfl #[.int .u64 (IntKind.u64.wrap ((l0.length : Int))), .int .i64 8] (by rfl) rfl rfl (by (try simp only [List.map_toArray, List.map_cons, List.map_nil]); first | done | rfl | (simp only [List.length_drop, List.length_take]; rfl)) ?_
         with_reducible refine (footlockerref07_Put.calls kj2 (IntKind.u64.wrap ((l0.length : Int))) 8 t262 _ A7.out).mono ?_
         rintro e w15 ⟨v263, rfl, ho0, hb⟩
         refine ⟨_, rfl, ?_⟩
         have n0_ := Aside0.mk (Kd.V_elder' (by (with_reducible repeat (first | apply Kd.V_alloc | apply Kd.V_drewN | apply Kd.V_drew)); exact HO_0.out) (Kd.R_base ho0) hb)
         have n1_ := Aside0.mk (Kd.R_elder' (by (with_reducible repeat (first | apply Kd.R_alloc | apply Kd.R_drewN | apply Kd.R_drew)); exact HO267.out) (Kd.R_base ho0) hb)
         have n2_ := Aside0.mk (Kd.R_lower (Kd.R_new' (Kd.R_newM (M := fun k_ => (w.heap.size ≤ k_)) ho0 (below_size (by repeat (first | (with_reducible first | exact HB.out | apply below_alloc | apply pw_below_drewN | apply below_drew1) | exact HB.out))) (fun k_ h_ => h_)) (Kd.R_lt (by (with_reducible repeat (first | apply Kd.R_alloc | apply Kd.R_drewN | apply Kd.R_drew)); exact HO267.out))) (below_size (by repeat (first | (with_reducible first | exact HB.out | apply below_alloc | apply pw_below_drewN | apply below_drew1) | exact HB.out))))
         have n3_ := Aside0.mk (below_step (by repeat (first | (with_reducible first | exact HB.out | apply below_alloc | apply pw_below_drewN | apply below_drew1) | exact HB.out)) hb)
         clear HO_0
         clear HO267
         clear HB
         have HO_0 := n0_
         have HO267 := n1_
         have HO264 := n2_
         have HB := n3_
         clear n0_ n1_ n2_ n3_
         (try clear hb)
         (try clear hb2)
         (try clear hk)
         (try clear hi)
         (try clear ho0)
         refine hK.out _ _ trivial (fun hHeld => ?_)
         clear hK K
         refine norm_ (a' := ?_) ?_ ?_
         rotate_left
         ·show Act.put _ (some 19) _ = _
          simp only [Act.put, List.setIfInBounds_toArray, List.set_cons_zero, List.set_cons_succ, i64_w, i32_w]
          rfl
         exact norm_ (by simp only [putAll, Act.put, List.setIfInBounds_toArray, List.set_cons_zero, List.set_cons_succ]) (hCont (v263, v266) _ ⟨(by (with_reducible repeat (first | apply Kd.R_alloc | apply Kd.R_drewN | apply Kd.R_drew)); exact Kd.R_mono HO264.out (fun _ hk => ⟨hk.1.1, hk.2⟩)), (by (with_reducible repeat (first | apply Kd.R_alloc | apply Kd.R_drewN | apply Kd.R_drew)); exact Kd.R_mono HO267.out (fun _ hk => ⟨hk.1.1, hk.2⟩)), (by (with_reducible repeat (first | apply Kd.V_alloc | apply Kd.V_drewN | apply Kd.V_drew)); exact Kd.V_mono HO_0.out (fun _ hk => ⟨hk.1.1, ⟨hk.2, hk.1.2⟩⟩)), (by repeat (first | (with_reducible first | exact HB.out | apply below_alloc | apply pw_below_drewN | apply below_drew1) | exact HB.out))⟩)
       rintro ⟨v263, v266⟩ w16 ⟨h0_, h1_, h2_, h3_⟩
       have n0_ : Aside0 (Kd.R (Kd.int .u8) 5 w16 w.heap.size (fun k_ => (w.heap.size ≤ k_) ∧ some k_ ≠ (v266 : Value).ownBlock) v263 t262) := ⟨h0_⟩
       have n1_ : Aside0 (Kd.R (Kd.int .u8) 5 w16 w.heap.size (fun k_ => (w.heap.size ≤ k_) ∧ some k_ ≠ (v263 : Value).ownBlock) v266 y265) := ⟨h1_⟩
       have n2_ : Aside0 (Kd.V (Kd.int .u8) 5 w16 w.heap.size (fun k_ => (P0_ k_ ∨ w.heap.size ≤ k_) ∧ some k_ ≠ (v263 : Value).ownBlock ∧ some k_ ≠ (v266 : Value).ownBlock) (.slice A0 l0.length c0) l0) := ⟨h2_⟩
       have n3_ : Aside0 (Below w.heap.size w w16) := ⟨h3_⟩
       clear HO_0
       clear HB
       clear h0_ h1_ h2_ h3_
       have HO264 := n0_
       have HO267 := n1_
       have HO_0 := n2_
       have HB := n3_
       clear n0_ n1_ n2_ n3_
       have hHeld := trivial
       obtain ⟨Ao17, co17, eo17⟩ := Kd.R_slice HO264.out
       (first | subst eo17 | (injection eo17 with f1_ f2_ f3_; have f4_ := f1_.symm; have f5_ := f3_.symm; clear f1_ f2_ f3_; subst f4_; subst f5_))
       obtain ⟨Ao18, co18, eo18⟩ := Kd.R_slice HO267.out
       (first | subst eo18 | (injection eo18 with f1_ f2_ f3_; have f4_ := f1_.symm; have f5_ := f3_.symm; clear f1_ f2_ f3_; subst f4_; subst f5_))
       refine norm_ (a' := ?_) ?_ ?_
       rotate_left
       ·simp only [putAll, Act.put, List.setIfInBounds_toArray, List.set_cons_zero, List.set_cons_succ]
        rfl
       refine one_ (i := 10) (N := some 26) #[true, true, true, true, true, true, true, true, true, true, true, false, false, false] rfl rfl (one_of HT_.out (by kernel_rfl)) (by decide) (fun K hK => ?_)
       refine Kd.N_lit_step (Kd.slice 5 (Kd.int .u8)) _ 22 ?hg (N' := 26) ?hd (xs := ([t262, l0, y265] : List (List Int))) (inner := [.slice Ao17 t262.length co17, .slice A0 l0.length c0, .slice Ao18 y265.length co18]) (ok := (fun k_ => (P0_ k_ ∨ w.heap.size ≤ k_))) (okp := (fun k_ => (P0_ k_ ∨ w.heap.size ≤ k_))) ?hr ?hp (fun _ hk => hk) ((show ∀ k_, w16.heap.size ≤ k_ → (fun k_ => (P0_ k_ ∨ w.heap.size ≤ k_)) k_ from fun k_ hk => (.inr (Nat.le_trans (below_size (by repeat (first | (with_reducible first | exact HB.out | apply below_alloc | apply pw_below_drewN | apply below_drew1) | exact HB.out))) hk))) _ (Nat.le_refl _)) (Below.refl _ _) (Nat.le_refl _) (by simp) ?_; (case hd => rfl); (case hg => rfl); (case hr => first | (go_simp; done) | (go_simp; rfl)); (case hp => exact (Reps.one (show Kd.FK (Kd.slice 5 (Kd.int .u8)) _ _ t262 [.slice Ao17 t262.length co17] from (Kd.FK_slice_mk (Kd.R_reads' (Kd.R_mono (ok' := (fun k_ => (P0_ k_ ∨ w.heap.size ≤ k_))) (HO264.out) (fun k_ hk => (.inr (hk.1))))).2.1 (Kd.R_F (Kd.R_mono (ok' := (fun k_ => (P0_ k_ ∨ w.heap.size ≤ k_))) (HO264.out) (fun k_ hk => (.inr (hk.1))))))) (Reps.one (show Kd.FK (Kd.slice 5 (Kd.int .u8)) _ _ l0 [.slice A0 l0.length c0] from (Kd.FK_slice_mk (Kd.V_reads' (Kd.V_mono (ok' := (fun k_ => (P0_ k_ ∨ w.heap.size ≤ k_))) (HO_0.out) (fun k_ hk => hk.1))).2.1 (Kd.V_F (Kd.V_mono (ok' := (fun k_ => (P0_ k_ ∨ w.heap.size ≤ k_))) (HO_0.out) (fun k_ hk => hk.1))))) (Reps.one (show Kd.FK (Kd.slice 5 (Kd.int .u8)) _ _ y265 [.slice Ao18 y265.length co18] from (Kd.FK_slice_mk (Kd.R_reads' (Kd.R_mono (ok' := (fun k_ => (P0_ k_ ∨ w.heap.size ≤ k_))) (HO267.out) (fun k_ hk => (.inr (hk.1))))).2.1 (Kd.R_F (Kd.R_mono (ok' := (fun k_ => (P0_ k_ ∨ w.heap.size ≤ k_))) (HO267.out) (fun k_ hk => (.inr (hk.1))))))) (Reps.none _ _)))))
       intro v269 w19 ho20 hb hg_ hnew_
       clear hg_ hnew_
       (first | rw [← Ny268.out] at ho20 | (simp only [Int.reduceToNat] at ho20; rw [← Ny268.out] at ho20))
       have n0_ := Aside0.mk (Kd.V_elder' (by (with_reducible repeat (first | apply Kd.V_alloc | apply Kd.V_drewN | apply Kd.V_drew)); exact HO_0.out) (by first | exact Kd.N_base ho20 | exact Kd.S_base ho20) hb)
       have n1_ := Aside0.mk (Kd.N_lower ho20 (below_size (by repeat (first | (with_reducible first | exact HB.out | apply below_alloc | apply pw_below_drewN | apply below_drew1) | exact HB.out))))
       have n2_ := Aside0.mk (below_step (by repeat (first | (with_reducible first | exact HB.out | apply below_alloc | apply pw_below_drewN | apply below_drew1) | exact HB.out)) hb)
       clear HO_0
       clear HB
       clear HO264
       clear HO267
       have HO_0 := n0_
       have HO270 := n1_
       have HB := n2_
       clear n0_ n1_ n2_
       clear hb ho20
       obtain ⟨Ao21, co21, eo21⟩ := Kd.N_slice HO270.out
       (first | subst eo21 | (injection eo21 with f1_ f2_ f3_; have f4_ := f1_.symm; have f5_ := f3_.symm; clear f1_ f2_ f3_; subst f4_; subst f5_))
       refine hK.out _ _ trivial (fun hHeld => ?_)
       clear hK K
       refine norm_ (a' := ?_) ?_ ?_
       rotate_left
       ·show Act.put _ (some 26) _ = _
        simp only [Act.put, List.setIfInBounds_toArray, List.set_cons_zero, List.set_cons_succ, i64_w, i32_w]
        rfl
       refine one_ (i := 11) (N := some 27) #[true, true, true, true, true, true, true, true, true, true, true, true, false, false] rfl rfl (one_of HT_.out (by kernel_rfl)) (by decide) (fun K hK => ?_)
       refine goes_ Try.func25 (by kernel_rfl) rfl #[.slice Ao21 y268.length co21] (by rfl) rfl rfl (by (try simp only [List.map_toArray, List.map_cons, List.map_nil]); first | done | rfl | (simp only [List.length_drop, List.length_take]; rfl)) ?_
       with_reducible refine (footlockerref01_Join.calls kj2 _ _ y268 t271 _ ?side1 ?side2 A11.out).mono ?_
       (case side1 => repeat (first | exact (Kd.N_reads' HO270.out).2.2 | (with_reducible refine Kd.C_alloc ?_ _) | (with_reducible refine Kd.C_drewN ?_ _) | (with_reducible refine Kd.C_drew ?_)))
       (case side2 => exact (Kd.N_reads' HO270.out).2.1)
       rintro e w22 ⟨v272, rfl, ho0, hb⟩
       refine ⟨_, rfl, ?_⟩
       have n0_ := Aside0.mk (Kd.V_elder' (by (with_reducible repeat (first | apply Kd.V_alloc | apply Kd.V_drewN | apply Kd.V_drew)); exact HO_0.out) (Kd.R_base ho0) hb)
       have n1_ := Aside0.mk (Kd.N_elder' (by (with_reducible repeat (first | apply Kd.N_alloc | apply Kd.N_drewN | apply Kd.N_drew)); exact HO270.out) (Kd.R_base ho0) hb)
       have n2_ := Aside0.mk (Kd.R_lower (Kd.R_newM (M := fun k_ => (w.heap.size ≤ k_)) ho0 (below_size (by repeat (first | (with_reducible first | exact HB.out | apply below_alloc | apply pw_below_drewN | apply below_drew1) | exact HB.out))) (fun k_ h_ => h_)) (below_size (by repeat (first | (with_reducible first | exact HB.out | apply below_alloc | apply pw_below_drewN | apply below_drew1) | exact HB.out))))
       have n3_ := Aside0.mk (below_step (by repeat (first | (with_reducible first | exact HB.out | apply below_alloc | apply pw_below_drewN | apply below_drew1) | exact HB.out)) hb)
       clear HO_0
       clear HO270
       clear HB
       have HO_0 := n0_
       have HO270 := n1_
       have HO273 := n2_
       have HB := n3_
       clear n0_ n1_ n2_ n3_
       (try clear hb)
       (try clear hb2)
       (try clear hk)
       (try clear hi)
       (try clear ho0)
       refine hK.out _ _ trivial (fun hHeld => ?_)
       clear hK K
       refine norm_ (a' := ?_) ?_ ?_
       rotate_left
       ·show Act.put _ (some 27) _ = _
        simp only [Act.put, List.setIfInBounds_toArray, List.set_cons_zero, List.set_cons_succ, i64_w, i32_w]
        rfl
       refine pure_ (i := 12) (N := some 4) (v := ?_) (a' := ?_) #[true, true, true, true, true, true, true, true, true, true, true, true, true, false] rfl rfl (any_of HT_.out (by kernel_rfl)) (fun _ _ _ h => h) (Or.inl ⟨by rfl, ?_⟩) ?_ ?_
       rotate_left
       ·intro w'
        go_simp
        with_reducible rfl
       rotate_left
       ·simp only [Act.put, List.setIfInBounds_toArray, List.set_cons_zero, List.set_cons_succ, i64_w, i32_w]
        rfl
       refine pure_ (i := 13) (N := some 5) (v := ?_) (a' := ?_) #[true, true, true, true, true, true, true, true, true, true, true, true, true, true] rfl rfl (any_of HT_.out (by kernel_rfl)) (fun _ _ _ h => h) (Or.inl ⟨by rfl, ?_⟩) ?_ ?_
       rotate_left
       ·intro w'
        go_simp
        with_reducible rfl
       rotate_left
       ·simp only [Act.put, List.setIfInBounds_toArray, List.set_cons_zero, List.set_cons_succ, i64_w, i32_w]
        rfl
       refine done_ (done_of HT_.out (by kernel_rfl)) ?_
       try go_wp2
       go_ret2
       exact ⟨_, by first | rfl | (simp [errW_none, errW_some] <;> rfl) | (simp only [← hji8]; first | rfl | (simp [errW_none, errW_some] <;> rfl)) | (simp [*, errW_none, errW_some] <;> rfl), by (with_reducible repeat (first | apply Kd.R_alloc | apply Kd.R_drewN | apply Kd.R_drew)); exact Kd.R_mono HO273.out (fun _ hk => hk.1), by repeat (first | (with_reducible first | exact HB.out | apply below_alloc | apply pw_below_drewN | apply below_drew1) | exact HB.out)⟩
      ·rw [if_neg c10] at H
       exact absurd H (by simp)
     ·rw [if_neg c9] at H
      exact absurd H (by simp)
def footlockerref07_Get.l0 : Nat → List Int → Int → Int → Int → Option (Int)
 | 0, _, _, _, _ => none
 | k + 1, x0, x3, x4, x5 => if x5 < (x0.length : Int) then (if x5 < 8 then (if 0 ≤ x5 then (footlockerref07_Get.l0 k x0 (IntKind.u64.wrap (x3 + (IntKind.u64.wrap ((IntKind.u64.wrap (rd x0 x5)) * x4)))) (IntKind.u64.wrap (x4 * 256)) (wrap64 (x5 + 1))) else (none)) else (some x3)) else (some x3)
def footlockerref07_Get.f (k : Nat) (l0 : List Int) : Option (Int) := footlockerref07_Get.l0 k l0 0 1 0
set_option maxHeartbeats 8000000 in
set_option maxRecDepth 100000 in
theorem footlockerref07_Get.calls (k : Nat) (A0 : Option Addr) (c0 : Nat) (l0 : List Int) (r : Int) (w : World) (hr0 : Kd.C (Kd.int .u8) w A0 l0.length l0) (hc0 : l0.length ≤ c0) (h : footlockerref07_Get.f k l0 = some r) :
 Calls Try.prog 31 #[.slice A0 l0.length c0] w fun e w' => e = .returned (.int .u64 r) ∧ Drawn0 w w' := by
 have HR0 := Aside0.mk hr0
 have HC0 := Aside0.mk hc0
 clear hr0 hc0
 have H : (footlockerref07_Get.l0 k l0 0 1 0) = some r := h
 clear h
 have H' := Aside0.mk H
 clear H
 go_enter Try.func31, Try.ntmps31
 go_wp2
 go_loopg [3, 4, 5] k (fun kq v3 v4 v5 w' => ∃ (x3_1 : Int) (x4_1 : Int) (x5_1 : Int), v3 = .int .u64 x3_1 ∧ v4 = .int .u64 x4_1 ∧ v5 = .int .i64 x5_1 ∧ Aside0 (footlockerref07_Get.l0 kq l0 x3_1 x4_1 x5_1 = some r) ∧ Aside0 (kq ≤ k) ∧ Drawn0 w w')
 case atStart => exact ⟨(0), (1), (0), (by first | rfl | (simp; done) | (simp [*]; done)), (by first | rfl | (simp; done) | (simp [*]; done)), (by first | rfl | (simp; done) | (simp [*]; done)), H', ⟨Nat.le_refl _⟩, by repeat (first | exact Drawn0.refl _ | apply Drawn0.step)⟩
 case round =>
  clear H'
  obtain ⟨x3_1, x4_1, x5_1, rfl, rfl, rfl, HA, HK1, ⟨m1, rfl⟩⟩ := hrel
  cases gk with
  | zero => exact absurd HA.out (by simp [footlockerref07_Get.l0])
  | succ k1 =>
   have H := HA.out
   clear HA
   simp only [footlockerref07_Get.l0] at H
   by_cases c2 : x5_1 < (l0.length : Int)
   ·rw [if_pos c2] at H
    have c2b0 : decide (x5_1 < (l0.length : Int)) = true := decide_eq_true c2
    clear c2
    by_cases c3 : x5_1 < 8
    ·rw [if_pos c3] at H
     have c3b0 : decide (x5_1 < 8) = true := decide_eq_true c3
     clear c3
     by_cases c4 : 0 ≤ x5_1
     ·rw [if_pos c4] at H
      have c4b0 : decide (0 ≤ x5_1) = true := decide_eq_true c4
      clear c4
      have H' := Aside0.mk H
      clear H
      have p274 : 0 ≤ (x5_1 : Int) := of_decide_eq_true (by first | (with_reducible assumption) | assumption)
      have q274 : x5_1 < (l0.length : Int) := of_decide_eq_true (by first | (with_reducible assumption) | assumption)
      obtain ⟨ad274, e274, hx274_0⟩ := Kd.at_int HR0.out x5_1 p274 q274
      cases e274
      replace p274 := eq_true p274
      replace q274 := eq_true q274
      go_wp2
      go_roundg k1
      case measure => have := HK1.out; omega
      case rel => exact ⟨(IntKind.u64.wrap (x3_1 + (IntKind.u64.wrap ((IntKind.u64.wrap (rd l0 x5_1)) * x4_1)))), (IntKind.u64.wrap (x4_1 * 256)), (wrap64 (x5_1 + 1)), (by first | rfl | (simp; done) | (simp [*]; done)), (by first | rfl | (simp; done) | (simp [*]; done)), (by first | rfl | (simp; done) | (simp [*]; done)), H', ⟨by have := HK1.out; omega⟩, by repeat (first | exact Drawn0.refl _ | apply Drawn0.step)⟩
     ·rw [if_neg c4] at H
      exact absurd H (by simp)
    ·rw [if_neg c3] at H
     have c3b0 : decide (x5_1 < 8) = false := decide_eq_false c3
     clear c3
     obtain rfl := Option.some.inj H
     go_wp2
     go_ret
     exact ⟨by first | rfl | (simp; done) | (simp [*]; done), by repeat (first | exact Drawn0.refl _ | apply Drawn0.step)⟩
   ·rw [if_neg c2] at H
    have c2b0 : decide (x5_1 < (l0.length : Int)) = false := decide_eq_false c2
    clear c2
    obtain rfl := Option.some.inj H
    go_wp2
    go_ret
    exact ⟨by first | rfl | (simp; done) | (simp [*]; done), by repeat (first | exact Drawn0.refl _ | apply Drawn0.step)⟩
end Go.Proofs.Ytcdmgppjhdpgkaa.P
namespace Go.Proofs.Ytcdmgppjhdpgkaa.P
open Go.RowKit Go.Proofs.YtcdmgppjhdpgkaaW.PrintWords Go.Proofs.YtcdmgppjhdpgkaaW.PrintLast Go.Proofs.YtcdmgppjhdpgkaaW.PrintMore
attribute [local go_sem] max2_int min2_int max_two min_two max_three min_three max_four min_four
set_option linter.unusedVariables false
set_option linter.unusedSimpArgs false
def footlockerref23_Volume.l0 : Nat → List Int → Int → Int → Option (List Int × Int)
 | 0, _, _, _ => none
 | k + 1, l, e, i => if i < (l.length : Int) then (if 0 ≤ i then (if rd l i = 0 then footlockerref23_Volume.l0 k l e (wrap64 (i + 1)) else some ([], 21)) else none) else (if 8 ≤ e then (if e ≤ (l.length : Int) then some ((l.take e.toNat).drop 8, 0) else none) else none)
def footlockerref23_Volume.f (k : Nat) (l0 : List Int) : Option (List Int × Int) :=
 if (l0.length : Int) < 8 then some ([], 20) else ((footlockerref07_Get.f k (l0.take 8)).bind fun n => if n < 0 then none else if n > ((l0.length - 8 : Nat) : Int) then some ([], 23) else footlockerref23_Volume.l0 k l0 (8 + n) (8 + n))
set_option maxHeartbeats 8000000 in
set_option maxRecDepth 100000 in
theorem footlockerref23_Volume.calls (k : Nat) (P0_ : Nat → Prop) (A0 : Option Addr) (c0 : Nat) (l0 : List Int) (r1 : List Int) (r2 : Int) (w : World) (hs0 : Kd.V (Kd.int .u8) 5 w w.heap.size (fun k_ => P0_ k_) (.slice A0 l0.length c0) l0) (h : footlockerref23_Volume.f k l0 = some (r1, r2)) :
 Calls Try.prog 11 #[.slice A0 l0.length c0] w fun e w' => ∃ v0_ : Value, e = .returned (.tuple #[v0_, .int .i64 r2]) ∧ Kd.V (Kd.int .u8) 5 w' w.heap.size (fun k_ => (P0_ k_ ∨ w.heap.size ≤ k_)) v0_ r1 ∧ Below w.heap.size w w' := by
 have hr0 := (Kd.V_reads' hs0).2.2
 have hc0 := (Kd.V_reads' hs0).2.1
 have HV := Aside0.mk (Kd.V_mono (ok' := fun k_ => (P0_ k_ ∨ w.heap.size ≤ k_)) hs0 (fun k_ hk => .inl hk))
 have HR0 := Aside0.mk hr0
 have HC0 := Aside0.mk hc0
 have HB := Aside0.mk (Below.refl w.heap.size w)
 clear hs0
 unfold footlockerref23_Volume.f at h
 by_cases c1 : (l0.length : Int) < 8
 ·rw [if_pos c1] at h
  have b1 : decide ((l0.length : Int) < 8) = true := decide_eq_true c1
  have b2 : decide (l0.length < 8) = true := decide_eq_true (by omega)
  simp only [Option.some.injEq, Prod.mk.injEq] at h
  obtain ⟨rfl, rfl⟩ := h
  clear c1 hr0 hc0
  go_enter Try.func11, Try.ntmps11
  go_wp2
  go_ret2
  exact ⟨_, rfl, Kd.V_nil _ _ _ _ _, HB.out⟩
 ·rw [if_neg c1] at h
  have b1 : decide ((l0.length : Int) < 8) = false := decide_eq_false c1
  have b2 : decide (l0.length < 8) = false := decide_eq_false (by omega)
  replace h := Option.bind_eq_some_iff.mp h
  obtain ⟨n, hn, h⟩ := h
  by_cases c2 : n < 0
  ·rw [if_pos c2] at h
   exact absurd h (by simp)
  ·rw [if_neg c2] at h
   obtain ⟨m, rfl⟩ : ∃ m : Nat, n = m := ⟨n.toNat, by omega⟩
   have hmax : l0.length ≤ 9223372036854775807 := hr0.2.1
   obtain ⟨h8, hh8⟩ : ∃ l, l = l0.take 8 := ⟨_, rfl⟩
   rw [← hh8] at hn
   have HH8 := Aside0.mk (show Kd.C (Kd.int .u8) w A0 h8.length h8 from by
    have := Kd.C_take hr0 (m := 8) (by omega)
    rwa [← hh8] at this)
   have HHL := Aside0.mk (show h8.length ≤ c0 from by rw [hh8, List.length_take]; omega)
   have HH8L : h8.length = 8 := by rw [hh8, List.length_take]; omega
   obtain ⟨i5, hi5, hi5b⟩ := Option.map_eq_some_iff.1 info5
   have HI := Aside0.mk (show i5.size = 1 from (by simpa using hi5b : _ ∧ _ ∧ _).2.1)
   have hcut1 : ∀ W : World, (Instr.slice 22 (.slice A0 l0.length c0) none (some (.int .i64 8)) none).run Try.prog W = .ok (.slice A0 h8.length c0) W := by
    intro W
    rw [cut_to 22 5 .i64 Try.underlying22 hi5 A0 l0.length c0 8 (by omega) (by omega) hc0 W, HH8L]
    rfl
   obtain ⟨q, hq⟩ : ∃ q : Int, q = ((l0.length - 8 : Nat) : Int) := ⟨_, rfl⟩
   have hq1 : IntKind.i64.wrap ((l0.length : Int) - 8) = q := by rw [IntKind.wrap_i64]; omega
   have hq2 : IntKind.u64.wrap q = q := by rw [IntKind.wrap_u64]; omega
   have HQ := Aside0.mk hq
   rw [← hq] at h
   have HN := Aside0.mk hn
   have HI5 := Aside0.mk hi5
   have HM := Aside0.mk hmax
   have HC1 := Aside0.mk c1
   by_cases c3 : (m : Int) > q
   ·rw [if_pos c3] at h
    have b3 : decide ((m : Int) > q) = true := decide_eq_true c3
    have b4 : decide (q < (m : Int)) = true := decide_eq_true c3
    simp only [Option.some.injEq, Prod.mk.injEq] at h
    obtain ⟨rfl, rfl⟩ := h
    clear hr0 hc0 hn hi5 hi5b hmax hh8 HH8L c1 c2 hq c3
    go_enter Try.func11, Try.ntmps11
    go_wp2_with (first | (go_at_call 31; (with_reducible refine (footlockerref07_Get.calls k A0 c0 h8 (m : Int) _ HH8.out HHL.out HN.out).mono ?_); rintro e w' ⟨rfl, ⟨nd, rfl⟩⟩))
    go_ret2
    exact ⟨_, rfl, Kd.V_nil _ _ _ _ _, pw_below_drewN HB.out _⟩
   ·rw [if_neg c3] at h
    have b3 : decide ((m : Int) > q) = false := decide_eq_false c3
    have b4 : decide (q < (m : Int)) = false := decide_eq_false c3
    obtain ⟨e, he⟩ : ∃ e : Int, 8 + (m : Int) = e := ⟨_, rfl⟩
    have he1 : IntKind.i64.wrap (8 + (m : Int)) = e := by rw [IntKind.wrap_i64]; omega
    have hm1 : IntKind.i64.wrap (m : Int) = (m : Int) := by rw [IntKind.wrap_i64]; omega
    rw [he] at h
    have H' := Aside0.mk h
    have HE := Aside0.mk (show 8 ≤ e ∧ e ≤ (l0.length : Int) by omega)
    clear hr0 hc0 hn hi5 hi5b hmax hh8 HH8L c1 c2 hq c3 h he
    go_enter Try.func11, Try.ntmps11
    go_wp2_with (first | (go_at_call 31; (with_reducible refine (footlockerref07_Get.calls k A0 c0 h8 (m : Int) _ HH8.out HHL.out HN.out).mono ?_); rintro e w' ⟨rfl, ⟨nd, rfl⟩⟩))
    go_loopg [6] k (fun kq v6 w' => ∃ (i : Int), v6 = .int .i64 i ∧ Aside0 (footlockerref23_Volume.l0 kq l0 e i = some (r1, r2)) ∧ Aside0 (kq ≤ k) ∧ Drawn0 w w')
    case atStart => exact ⟨e, rfl, H', ⟨Nat.le_refl _⟩, by repeat (first | exact Drawn0.refl _ | apply Drawn0.step)⟩
    case round =>
     clear H'
     obtain ⟨i, rfl, HA, HK1, ⟨md, rfl⟩⟩ := hrel
     cases gk with
     | zero => exact absurd HA.out (by simp [footlockerref23_Volume.l0])
     | succ k1 =>
      have H := HA.out
      clear HA
      simp only [footlockerref23_Volume.l0] at H
      by_cases t1 : i < (l0.length : Int)
      ·rw [if_pos t1] at H
       have t1b : decide (i < (l0.length : Int)) = true := decide_eq_true t1
       by_cases t2 : 0 ≤ i
       ·rw [if_pos t2] at H
        obtain ⟨ad, e0, hx⟩ := Kd.at_int HR0.out i t2 t1
        cases e0
        have hj : wrap64 (i + 1) = i + 1 := by have := HM.out; unfold wrap64; omega
        replace t2 := eq_true t2
        replace t1 := eq_true t1
        by_cases t3 : rd l0 i = 0
        ·rw [if_pos t3] at H
         have t3b : (rd l0 i != 0) = false := by simp [t3]
         have t3c : (rd l0 i == 0) = true := by simp [t3]
         have H' := Aside0.mk H
         clear H t3
         go_wp2
         go_roundg k1
         case measure => have := HK1.out; omega
         case rel => exact ⟨wrap64 (i + 1), (by first | rfl | (simp; done) | (simp [*]; done)), H', ⟨by have := HK1.out; omega⟩, by repeat (first | exact Drawn0.refl _ | apply Drawn0.step)⟩
        ·rw [if_neg t3] at H
         have t3b : (rd l0 i != 0) = true := by simp [t3]
         have t3c : (rd l0 i == 0) = false := by simp [t3]
         simp only [Option.some.injEq, Prod.mk.injEq] at H
         obtain ⟨rfl, rfl⟩ := H
         clear t3
         go_wp2
         go_ret2
         exact ⟨_, rfl, Kd.V_nil _ _ _ _ _, pw_below_drewN HB.out _⟩
       ·rw [if_neg t2] at H
        exact absurd H (by simp)
      ·rw [if_neg t1] at H
       have t1b : decide (i < (l0.length : Int)) = false := decide_eq_false t1
       rw [if_pos HE.out.1, if_pos HE.out.2] at H
       simp only [Option.some.injEq, Prod.mk.injEq] at H
       obtain ⟨hr, rfl⟩ := H
       have hrl : r1.length = e.toNat - 8 := by rw [← hr, List.length_drop, List.length_take]; have := HE.out; omega
       obtain ⟨A5, hA5⟩ : ∃ A : Option Addr, (if c0 = 8 then A0 else A0.map (·.add (8 * 1))) = A := ⟨_, rfl⟩
       have hcut2 : ∀ W : World, (Instr.slice 22 (.slice A0 l0.length c0) (some (.int .i64 8)) (some (.int .i64 e)) none).run Try.prog W = .ok (.slice A5 r1.length (c0 - 8)) W := by
        intro W
        rw [cut_mid 22 5 .i64 .i64 Try.underlying22 HI5.out 1 HI.out A0 l0.length c0 8 e (by omega) HE.out.1 HE.out.2 HC0.out W, hrl]
        show Result.ok (Value.slice (if c0 = 8 then A0 else A0.map (·.add (8 * 1))) (e.toNat - 8) (c0 - 8)) W = _
        rw [hA5]
       have HF := Aside0.mk (show Kd.V (Kd.int .u8) 5 w w.heap.size (fun k_ => (P0_ k_ ∨ w.heap.size ≤ k_)) (.slice A5 r1.length (c0 - 8)) r1 from by
        have h1 := Kd.V_F HV.out
        have h2 := Kd.F_mid (c := c0) (lo := 8) (hi := e.toNat) h1 (by have := HE.out; omega) (by have := HE.out; omega) HC0.out
        rw [hr] at h2
        have e1 : (Kd.int .u8).sz = 1 := rfl
        rw [e1, hA5] at h2
        exact Kd.V_mk (by rw [hrl]; have := HE.out; have := HC0.out; omega) h2)
       clear hA5 hr hrl t1
       go_wp2
       go_ret2
       exact ⟨_, rfl, Kd.V_drewN HF.out _, pw_below_drewN HB.out _⟩
def footlockerref01_Same.l0 : Nat → List Int → List Int → Int → Option (Bool)
 | 0, _, _, _ => none
 | k + 1, x0, x1, x5 => if x5 < (x0.length : Int) then (if 0 ≤ x5 then (if x5 < (x1.length : Int) then (if (rd x0 x5) = (rd x1 x5) then (footlockerref01_Same.l0 k x0 x1 (wrap64 (x5 + 1))) else (some false)) else (none)) else (none)) else (some true)
def footlockerref01_Same.f (k : Nat) (l0 : List Int) (l1 : List Int) : Option (Bool) := if (l0.length : Int) = (l1.length : Int) then (footlockerref01_Same.l0 k l0 l1 0) else (some false)
set_option maxHeartbeats 8000000 in
set_option maxRecDepth 100000 in
theorem footlockerref01_Same.calls (k : Nat) (A0 : Option Addr) (c0 : Nat) (l0 : List Int) (A1 : Option Addr) (c1 : Nat) (l1 : List Int) (r : Bool) (w : World) (hr0 : Kd.C (Kd.int .u8) w A0 l0.length l0) (hc0 : l0.length ≤ c0) (hr1 : Kd.C (Kd.int .u8) w A1 l1.length l1) (hc1 : l1.length ≤ c1) (h : footlockerref01_Same.f k l0 l1 = some r) :
 Calls Try.prog 12 #[.slice A0 l0.length c0, .slice A1 l1.length c1] w fun e w' => e = .returned (.bool r) ∧ Drawn0 w w' := by
 have HR0 := Aside0.mk hr0
 have HC0 := Aside0.mk hc0
 clear hr0 hc0
 have HR1 := Aside0.mk hr1
 have HC1 := Aside0.mk hc1
 clear hr1 hc1
 have H : (if (l0.length : Int) = (l1.length : Int) then (footlockerref01_Same.l0 k l0 l1 0) else (some false)) = some r := h
 clear h
 by_cases c3 : (l0.length : Int) = (l1.length : Int)
 ·rw [if_pos c3] at H
  have c3b0 : ((l0.length : Int) == (l1.length : Int)) = true := beq_iff_eq.mpr c3
  have c3b1 : ((l0.length : Int) != (l1.length : Int)) = false := bne_eq_false_iff_eq.mpr c3
  have c3b2 : (l0.length == l1.length) = true := by first | simpa using c3 | (simp at c3 ⊢; omega)
  clear c3
  have H' := Aside0.mk H
  clear H
  go_enter Try.func12, Try.ntmps12
  go_wp2
  repeat (go_quiet (fail); try go_wp2)
  go_loopg [5] k (fun kq v5 w' => ∃ (x5_1 : Int), v5 = .int .i64 x5_1 ∧ Aside0 (footlockerref01_Same.l0 kq l0 l1 x5_1 = some r) ∧ Aside0 (kq ≤ k) ∧ Drawn0 w w')
  case atStart => exact ⟨(0), (by first | rfl | (simp; done) | (simp [*]; done)), H', ⟨Nat.le_refl _⟩, by repeat (first | exact Drawn0.refl _ | apply Drawn0.step)⟩
  case round =>
   clear H'
   try clear c1
   try clear p2
   try clear c3
   try clear c3b0
   try clear c3b1
   try clear c3b2
   obtain ⟨x5_1, rfl, HA, HK1, ⟨m1, rfl⟩⟩ := hrel
   cases gk with
   | zero => exact absurd HA.out (by simp [footlockerref01_Same.l0])
   | succ k1 =>
    have H := HA.out
    clear HA
    simp only [footlockerref01_Same.l0] at H
    by_cases c4 : x5_1 < (l0.length : Int)
    ·rw [if_pos c4] at H
     have c4b0 : decide (x5_1 < (l0.length : Int)) = true := decide_eq_true c4
     clear c4
     by_cases c5 : 0 ≤ x5_1
     ·rw [if_pos c5] at H
      have c5b0 : decide (0 ≤ x5_1) = true := decide_eq_true c5
      clear c5
      by_cases c6 : x5_1 < (l1.length : Int)
      ·rw [if_pos c6] at H
       have c6b0 : decide (x5_1 < (l1.length : Int)) = true := decide_eq_true c6
       clear c6
       by_cases c7 : (rd l0 x5_1) = (rd l1 x5_1)
       ·rw [if_pos c7] at H
        have c7b0 : ((rd l0 x5_1) == (rd l1 x5_1)) = true := beq_iff_eq.mpr c7
        have c7b1 : ((rd l0 x5_1) != (rd l1 x5_1)) = false := bne_eq_false_iff_eq.mpr c7
        clear c7
        have H' := Aside0.mk H
        clear H
        have p275 : 0 ≤ (x5_1 : Int) := of_decide_eq_true (by first | (with_reducible assumption) | assumption)
        have q275 : x5_1 < (l0.length : Int) := of_decide_eq_true (by first | (with_reducible assumption) | assumption)
        obtain ⟨ad275, e275, hx275_0⟩ := Kd.at_int HR0.out x5_1 p275 q275
        cases e275
        replace p275 := eq_true p275
        replace q275 := eq_true q275
        have p276 : 0 ≤ (x5_1 : Int) := of_decide_eq_true (by first | (with_reducible assumption) | assumption)
        have q276 : x5_1 < (l1.length : Int) := of_decide_eq_true (by first | (with_reducible assumption) | assumption)
        obtain ⟨ad276, e276, hx276_0⟩ := Kd.at_int HR1.out x5_1 p276 q276
        cases e276
        replace p276 := eq_true p276
        replace q276 := eq_true q276
        go_wp2
        repeat (go_quiet (fail); try go_wp2)
        go_roundg k1
        case measure => have := HK1.out; omega
        case rel => exact ⟨(wrap64 (x5_1 + 1)), (by first | rfl | (simp; done) | (simp [*]; done)), H', ⟨by have := HK1.out; omega⟩, by repeat (first | exact Drawn0.refl _ | apply Drawn0.step)⟩
       ·rw [if_neg c7] at H
        have c7b0 : ((rd l0 x5_1) == (rd l1 x5_1)) = false := beq_eq_false_iff_ne.mpr c7
        have c7b1 : ((rd l0 x5_1) != (rd l1 x5_1)) = true := bne_iff_ne.mpr c7
        obtain rfl := Option.some.inj H
        have p275 : 0 ≤ (x5_1 : Int) := of_decide_eq_true (by first | (with_reducible assumption) | assumption)
        have q275 : x5_1 < (l0.length : Int) := of_decide_eq_true (by first | (with_reducible assumption) | assumption)
        obtain ⟨ad275, e275, hx275_0⟩ := Kd.at_int HR0.out x5_1 p275 q275
        cases e275
        replace p275 := eq_true p275
        replace q275 := eq_true q275
        have p276 : 0 ≤ (x5_1 : Int) := of_decide_eq_true (by first | (with_reducible assumption) | assumption)
        have q276 : x5_1 < (l1.length : Int) := of_decide_eq_true (by first | (with_reducible assumption) | assumption)
        obtain ⟨ad276, e276, hx276_0⟩ := Kd.at_int HR1.out x5_1 p276 q276
        cases e276
        replace p276 := eq_true p276
        replace q276 := eq_true q276
        go_wp2
        repeat (go_quiet (fail); try go_wp2)
        go_ret
        exact ⟨by first | rfl | (simp; done) | (simp [*]; done), by repeat (first | exact Drawn0.refl _ | apply Drawn0.step)⟩
      ·rw [if_neg c6] at H
       exact absurd H (by simp)
     ·rw [if_neg c5] at H
      exact absurd H (by simp)
    ·rw [if_neg c4] at H
     have c4b0 : decide (x5_1 < (l0.length : Int)) = false := decide_eq_false c4
     clear c4
     obtain rfl := Option.some.inj H
     go_wp2
     repeat (go_quiet (fail); try go_wp2)
     go_ret
     exact ⟨by first | rfl | (simp; done) | (simp [*]; done), by repeat (first | exact Drawn0.refl _ | apply Drawn0.step)⟩
 ·rw [if_neg c3] at H
  have c3b0 : ((l0.length : Int) == (l1.length : Int)) = false := beq_eq_false_iff_ne.mpr c3
  have c3b1 : ((l0.length : Int) != (l1.length : Int)) = true := bne_iff_ne.mpr c3
  have c3b2 : (l0.length == l1.length) = false := by first | simpa using c3 | (simp at c3 ⊢; omega)
  obtain rfl := Option.some.inj H
  go_enter Try.func12, Try.ntmps12
  go_wp2
  repeat (go_quiet (fail); try go_wp2)
  go_ret
  exact ⟨by first | rfl | (simp; done) | (simp [*]; done), by repeat (first | exact Drawn0.refl _ | apply Drawn0.step)⟩
def footlockerref23_Right.f (a0_0 : Int) (a0_1 : Int) (a0_2 : Int) (a0_3 : Int) : Option (Bool) := if a0_0 ≥ 1 then (if a0_0 ≤ 255 then (if a0_1 ≥ 0 then (if a0_1 ≤ (wrap64 (255 - a0_0)) then (if a0_2 ≥ 5 then (if a0_2 ≤ 16777216 then (if a0_3 ≥ 1 then (some (decide (a0_3 ≤ 16777216))) else (some false)) else (some false)) else (some false)) else (some false)) else (some false)) else (some false)) else (some false)
set_option maxHeartbeats 8000000 in
set_option maxRecDepth 100000 in
theorem footlockerref23_Right.calls (a0_0 : Int) (a0_1 : Int) (a0_2 : Int) (a0_3 : Int) (r : Bool) (w : World) (h : footlockerref23_Right.f a0_0 a0_1 a0_2 a0_3 = some r) :
 Calls Try.prog 13 #[.agg #[.int .i64 a0_0, .int .i64 a0_1, .int .i64 a0_2, .int .i64 a0_3]] w fun e w' => e = .returned (.bool r) ∧ Below w.heap.size w w' := by
 have hu34 := Try.underlying34
 have HB := Aside0.mk (Below.refl w.heap.size w)
 have H : (if a0_0 ≥ 1 then (if a0_0 ≤ 255 then (if a0_1 ≥ 0 then (if a0_1 ≤ (wrap64 (255 - a0_0)) then (if a0_2 ≥ 5 then (if a0_2 ≤ 16777216 then (if a0_3 ≥ 1 then (some (decide (a0_3 ≤ 16777216))) else (some false)) else (some false)) else (some false)) else (some false)) else (some false)) else (some false)) else (some false)) = some r := h
 clear h
 by_cases c2 : a0_0 ≥ 1
 ·rw [if_pos c2] at H
  have c2b0 : decide (1 ≤ a0_0) = true := decide_eq_true c2
  clear c2
  by_cases c3 : a0_0 ≤ 255
  ·rw [if_pos c3] at H
   have c3b0 : decide (a0_0 ≤ 255) = true := decide_eq_true c3
   clear c3
   by_cases c4 : a0_1 ≥ 0
   ·rw [if_pos c4] at H
    have c4b0 : decide (0 ≤ a0_1) = true := decide_eq_true c4
    clear c4
    by_cases c5 : a0_1 ≤ (wrap64 (255 - a0_0))
    ·rw [if_pos c5] at H
     have c5b0 : decide (a0_1 ≤ (wrap64 (255 - a0_0))) = true := decide_eq_true c5
     clear c5
     by_cases c6 : a0_2 ≥ 5
     ·rw [if_pos c6] at H
      have c6b0 : decide (5 ≤ a0_2) = true := decide_eq_true c6
      clear c6
      by_cases c7 : a0_2 ≤ 16777216
      ·rw [if_pos c7] at H
       have c7b0 : decide (a0_2 ≤ 16777216) = true := decide_eq_true c7
       clear c7
       by_cases c8 : a0_3 ≥ 1
       ·rw [if_pos c8] at H
        have c8b0 : decide (1 ≤ a0_3) = true := decide_eq_true c8
        clear c8
        obtain rfl := Option.some.inj H
        go_enter Try.func13, Try.ntmps13
        go_wp2_with (first | ((with_reducible refine gate_dst (N := 1) rfl ?_); refine box_event ?hg (N := 1) ?hd (cs := #[.int .i64 a0_0, .int .i64 a0_1, .int .i64 a0_2, .int .i64 a0_3]) (t := 34) ?hr ?_; (case hd => rfl); (case hg => rfl); (case hr => first | (go_simp; done) | (go_simp; rfl)); intro gb277 hg w9 hbox hb; have n0_ := Aside0.mk (below_step (by repeat (first | (with_reducible first | exact HB.out | apply below_alloc | apply pw_below_drewN | apply below_drew1) | exact HB.out)) hb); have n1_ := Aside0.mk (hbox); have n2_ := Aside0.mk ((by rw [hg]; exact (below_size (by repeat (first | (with_reducible first | exact HB.out | apply below_alloc | apply pw_below_drewN | apply below_drew1) | exact HB.out))) : w.heap.size ≤ gb277)); have n3_ := Aside0.mk ((by rw [hg]; exact (below_size (by repeat (first | (with_reducible first | exact HB.out | apply below_alloc | apply pw_below_drewN | apply below_drew1) | exact HB.out))) : w.heap.size ≤ gb277)); clear HB; have HB := n0_; have BK277 := n1_; have GW277 := n2_; have GE277 := n3_; clear n0_ n1_ n2_ n3_; clear hb hbox hg; have hcz10_0 : w9.cell? ⟨gb277, 0, none⟩ = some (.int .i64 a0_0) := (blk_cell BK277.out 0).trans rfl; have hcz10_1 : w9.cell? ⟨gb277, 1, none⟩ = some (.int .i64 a0_1) := (blk_cell BK277.out 1).trans rfl; have hcz10_2 : w9.cell? ⟨gb277, 2, none⟩ = some (.int .i64 a0_2) := (blk_cell BK277.out 2).trans rfl; have hcz10_3 : w9.cell? ⟨gb277, 3, none⟩ = some (.int .i64 a0_3) := (blk_cell BK277.out 3).trans rfl; have hfz10_0 := blk_frozen BK277.out 0; have hfz10_1 := blk_frozen BK277.out 1; have hfz10_2 := blk_frozen BK277.out 2; have hfz10_3 := blk_frozen BK277.out 3))
        go_ret
        exact ⟨by first | rfl | (simp [errW_none, errW_some] <;> rfl) | (simp [*, errW_none, errW_some] <;> rfl), by repeat (first | (with_reducible first | exact HB.out | apply below_alloc | apply pw_below_drewN | apply below_drew1 | refine below_set ?_ GE277.out) | exact HB.out)⟩
       ·rw [if_neg c8] at H
        have c8b0 : decide (1 ≤ a0_3) = false := decide_eq_false c8
        clear c8
        obtain rfl := Option.some.inj H
        go_enter Try.func13, Try.ntmps13
        go_wp2_with (first | ((with_reducible refine gate_dst (N := 1) rfl ?_); refine box_event ?hg (N := 1) ?hd (cs := #[.int .i64 a0_0, .int .i64 a0_1, .int .i64 a0_2, .int .i64 a0_3]) (t := 34) ?hr ?_; (case hd => rfl); (case hg => rfl); (case hr => first | (go_simp; done) | (go_simp; rfl)); intro gb277 hg w11 hbox hb; have n0_ := Aside0.mk (below_step (by repeat (first | (with_reducible first | exact HB.out | apply below_alloc | apply pw_below_drewN | apply below_drew1) | exact HB.out)) hb); have n1_ := Aside0.mk (hbox); have n2_ := Aside0.mk ((by rw [hg]; exact (below_size (by repeat (first | (with_reducible first | exact HB.out | apply below_alloc | apply pw_below_drewN | apply below_drew1) | exact HB.out))) : w.heap.size ≤ gb277)); have n3_ := Aside0.mk ((by rw [hg]; exact (below_size (by repeat (first | (with_reducible first | exact HB.out | apply below_alloc | apply pw_below_drewN | apply below_drew1) | exact HB.out))) : w.heap.size ≤ gb277)); clear HB; have HB := n0_; have BK277 := n1_; have GW277 := n2_; have GE277 := n3_; clear n0_ n1_ n2_ n3_; clear hb hbox hg; have hcz12_0 : w11.cell? ⟨gb277, 0, none⟩ = some (.int .i64 a0_0) := (blk_cell BK277.out 0).trans rfl; have hcz12_1 : w11.cell? ⟨gb277, 1, none⟩ = some (.int .i64 a0_1) := (blk_cell BK277.out 1).trans rfl; have hcz12_2 : w11.cell? ⟨gb277, 2, none⟩ = some (.int .i64 a0_2) := (blk_cell BK277.out 2).trans rfl; have hcz12_3 : w11.cell? ⟨gb277, 3, none⟩ = some (.int .i64 a0_3) := (blk_cell BK277.out 3).trans rfl; have hfz12_0 := blk_frozen BK277.out 0; have hfz12_1 := blk_frozen BK277.out 1; have hfz12_2 := blk_frozen BK277.out 2; have hfz12_3 := blk_frozen BK277.out 3))
        go_ret
        exact ⟨by first | rfl | (simp [errW_none, errW_some] <;> rfl) | (simp [*, errW_none, errW_some] <;> rfl), by repeat (first | (with_reducible first | exact HB.out | apply below_alloc | apply pw_below_drewN | apply below_drew1 | refine below_set ?_ GE277.out) | exact HB.out)⟩
      ·rw [if_neg c7] at H
       have c7b0 : decide (a0_2 ≤ 16777216) = false := decide_eq_false c7
       clear c7
       obtain rfl := Option.some.inj H
       go_enter Try.func13, Try.ntmps13
       go_wp2_with (first | ((with_reducible refine gate_dst (N := 1) rfl ?_); refine box_event ?hg (N := 1) ?hd (cs := #[.int .i64 a0_0, .int .i64 a0_1, .int .i64 a0_2, .int .i64 a0_3]) (t := 34) ?hr ?_; (case hd => rfl); (case hg => rfl); (case hr => first | (go_simp; done) | (go_simp; rfl)); intro gb277 hg w13 hbox hb; have n0_ := Aside0.mk (below_step (by repeat (first | (with_reducible first | exact HB.out | apply below_alloc | apply pw_below_drewN | apply below_drew1) | exact HB.out)) hb); have n1_ := Aside0.mk (hbox); have n2_ := Aside0.mk ((by rw [hg]; exact (below_size (by repeat (first | (with_reducible first | exact HB.out | apply below_alloc | apply pw_below_drewN | apply below_drew1) | exact HB.out))) : w.heap.size ≤ gb277)); have n3_ := Aside0.mk ((by rw [hg]; exact (below_size (by repeat (first | (with_reducible first | exact HB.out | apply below_alloc | apply pw_below_drewN | apply below_drew1) | exact HB.out))) : w.heap.size ≤ gb277)); clear HB; have HB := n0_; have BK277 := n1_; have GW277 := n2_; have GE277 := n3_; clear n0_ n1_ n2_ n3_; clear hb hbox hg; have hcz14_0 : w13.cell? ⟨gb277, 0, none⟩ = some (.int .i64 a0_0) := (blk_cell BK277.out 0).trans rfl; have hcz14_1 : w13.cell? ⟨gb277, 1, none⟩ = some (.int .i64 a0_1) := (blk_cell BK277.out 1).trans rfl; have hcz14_2 : w13.cell? ⟨gb277, 2, none⟩ = some (.int .i64 a0_2) := (blk_cell BK277.out 2).trans rfl; have hcz14_3 : w13.cell? ⟨gb277, 3, none⟩ = some (.int .i64 a0_3) := (blk_cell BK277.out 3).trans rfl; have hfz14_0 := blk_frozen BK277.out 0; have hfz14_1 := blk_frozen BK277.out 1; have hfz14_2 := blk_frozen BK277.out 2; have hfz14_3 := blk_frozen BK277.out 3))
       go_ret
       exact ⟨by first | rfl | (simp [errW_none, errW_some] <;> rfl) | (simp [*, errW_none, errW_some] <;> rfl), by repeat (first | (with_reducible first | exact HB.out | apply below_alloc | apply pw_below_drewN | apply below_drew1 | refine below_set ?_ GE277.out) | exact HB.out)⟩
     ·rw [if_neg c6] at H
      have c6b0 : decide (5 ≤ a0_2) = false := decide_eq_false c6
      clear c6
      obtain rfl := Option.some.inj H
      go_enter Try.func13, Try.ntmps13
      go_wp2_with (first | ((with_reducible refine gate_dst (N := 1) rfl ?_); refine box_event ?hg (N := 1) ?hd (cs := #[.int .i64 a0_0, .int .i64 a0_1, .int .i64 a0_2, .int .i64 a0_3]) (t := 34) ?hr ?_; (case hd => rfl); (case hg => rfl); (case hr => first | (go_simp; done) | (go_simp; rfl)); intro gb277 hg w15 hbox hb; have n0_ := Aside0.mk (below_step (by repeat (first | (with_reducible first | exact HB.out | apply below_alloc | apply pw_below_drewN | apply below_drew1) | exact HB.out)) hb); have n1_ := Aside0.mk (hbox); have n2_ := Aside0.mk ((by rw [hg]; exact (below_size (by repeat (first | (with_reducible first | exact HB.out | apply below_alloc | apply pw_below_drewN | apply below_drew1) | exact HB.out))) : w.heap.size ≤ gb277)); have n3_ := Aside0.mk ((by rw [hg]; exact (below_size (by repeat (first | (with_reducible first | exact HB.out | apply below_alloc | apply pw_below_drewN | apply below_drew1) | exact HB.out))) : w.heap.size ≤ gb277)); clear HB; have HB := n0_; have BK277 := n1_; have GW277 := n2_; have GE277 := n3_; clear n0_ n1_ n2_ n3_; clear hb hbox hg; have hcz16_0 : w15.cell? ⟨gb277, 0, none⟩ = some (.int .i64 a0_0) := (blk_cell BK277.out 0).trans rfl; have hcz16_1 : w15.cell? ⟨gb277, 1, none⟩ = some (.int .i64 a0_1) := (blk_cell BK277.out 1).trans rfl; have hcz16_2 : w15.cell? ⟨gb277, 2, none⟩ = some (.int .i64 a0_2) := (blk_cell BK277.out 2).trans rfl; have hcz16_3 : w15.cell? ⟨gb277, 3, none⟩ = some (.int .i64 a0_3) := (blk_cell BK277.out 3).trans rfl; have hfz16_0 := blk_frozen BK277.out 0; have hfz16_1 := blk_frozen BK277.out 1; have hfz16_2 := blk_frozen BK277.out 2; have hfz16_3 := blk_frozen BK277.out 3))
      go_ret
      exact ⟨by first | rfl | (simp [errW_none, errW_some] <;> rfl) | (simp [*, errW_none, errW_some] <;> rfl), by repeat (first | (with_reducible first | exact HB.out | apply below_alloc | apply pw_below_drewN | apply below_drew1 | refine below_set ?_ GE277.out) | exact HB.out)⟩
    ·rw [if_neg c5] at H
     have c5b0 : decide (a0_1 ≤ (wrap64 (255 - a0_0))) = false := decide_eq_false c5
     clear c5
     obtain rfl := Option.some.inj H
     go_enter Try.func13, Try.ntmps13
     go_wp2_with (first | ((with_reducible refine gate_dst (N := 1) rfl ?_); refine box_event ?hg (N := 1) ?hd (cs := #[.int .i64 a0_0, .int .i64 a0_1, .int .i64 a0_2, .int .i64 a0_3]) (t := 34) ?hr ?_; (case hd => rfl); (case hg => rfl); (case hr => first | (go_simp; done) | (go_simp; rfl)); intro gb277 hg w17 hbox hb; have n0_ := Aside0.mk (below_step (by repeat (first | (with_reducible first | exact HB.out | apply below_alloc | apply pw_below_drewN | apply below_drew1) | exact HB.out)) hb); have n1_ := Aside0.mk (hbox); have n2_ := Aside0.mk ((by rw [hg]; exact (below_size (by repeat (first | (with_reducible first | exact HB.out | apply below_alloc | apply pw_below_drewN | apply below_drew1) | exact HB.out))) : w.heap.size ≤ gb277)); have n3_ := Aside0.mk ((by rw [hg]; exact (below_size (by repeat (first | (with_reducible first | exact HB.out | apply below_alloc | apply pw_below_drewN | apply below_drew1) | exact HB.out))) : w.heap.size ≤ gb277)); clear HB; have HB := n0_; have BK277 := n1_; have GW277 := n2_; have GE277 := n3_; clear n0_ n1_ n2_ n3_; clear hb hbox hg; have hcz18_0 : w17.cell? ⟨gb277, 0, none⟩ = some (.int .i64 a0_0) := (blk_cell BK277.out 0).trans rfl; have hcz18_1 : w17.cell? ⟨gb277, 1, none⟩ = some (.int .i64 a0_1) := (blk_cell BK277.out 1).trans rfl; have hcz18_2 : w17.cell? ⟨gb277, 2, none⟩ = some (.int .i64 a0_2) := (blk_cell BK277.out 2).trans rfl; have hcz18_3 : w17.cell? ⟨gb277, 3, none⟩ = some (.int .i64 a0_3) := (blk_cell BK277.out 3).trans rfl; have hfz18_0 := blk_frozen BK277.out 0; have hfz18_1 := blk_frozen BK277.out 1; have hfz18_2 := blk_frozen BK277.out 2; have hfz18_3 := blk_frozen BK277.out 3))
     go_ret
     exact ⟨by first | rfl | (simp [errW_none, errW_some] <;> rfl) | (simp [*, errW_none, errW_some] <;> rfl), by repeat (first | (with_reducible first | exact HB.out | apply below_alloc | apply pw_below_drewN | apply below_drew1 | refine below_set ?_ GE277.out) | exact HB.out)⟩
   ·rw [if_neg c4] at H
    have c4b0 : decide (0 ≤ a0_1) = false := decide_eq_false c4
    clear c4
    obtain rfl := Option.some.inj H
    go_enter Try.func13, Try.ntmps13
    go_wp2_with (first | ((with_reducible refine gate_dst (N := 1) rfl ?_); refine box_event ?hg (N := 1) ?hd (cs := #[.int .i64 a0_0, .int .i64 a0_1, .int .i64 a0_2, .int .i64 a0_3]) (t := 34) ?hr ?_; (case hd => rfl); (case hg => rfl); (case hr => first | (go_simp; done) | (go_simp; rfl)); intro gb277 hg w19 hbox hb; have n0_ := Aside0.mk (below_step (by repeat (first | (with_reducible first | exact HB.out | apply below_alloc | apply pw_below_drewN | apply below_drew1) | exact HB.out)) hb); have n1_ := Aside0.mk (hbox); have n2_ := Aside0.mk ((by rw [hg]; exact (below_size (by repeat (first | (with_reducible first | exact HB.out | apply below_alloc | apply pw_below_drewN | apply below_drew1) | exact HB.out))) : w.heap.size ≤ gb277)); have n3_ := Aside0.mk ((by rw [hg]; exact (below_size (by repeat (first | (with_reducible first | exact HB.out | apply below_alloc | apply pw_below_drewN | apply below_drew1) | exact HB.out))) : w.heap.size ≤ gb277)); clear HB; have HB := n0_; have BK277 := n1_; have GW277 := n2_; have GE277 := n3_; clear n0_ n1_ n2_ n3_; clear hb hbox hg; have hcz20_0 : w19.cell? ⟨gb277, 0, none⟩ = some (.int .i64 a0_0) := (blk_cell BK277.out 0).trans rfl; have hcz20_1 : w19.cell? ⟨gb277, 1, none⟩ = some (.int .i64 a0_1) := (blk_cell BK277.out 1).trans rfl; have hcz20_2 : w19.cell? ⟨gb277, 2, none⟩ = some (.int .i64 a0_2) := (blk_cell BK277.out 2).trans rfl; have hcz20_3 : w19.cell? ⟨gb277, 3, none⟩ = some (.int .i64 a0_3) := (blk_cell BK277.out 3).trans rfl; have hfz20_0 := blk_frozen BK277.out 0; have hfz20_1 := blk_frozen BK277.out 1; have hfz20_2 := blk_frozen BK277.out 2; have hfz20_3 := blk_frozen BK277.out 3))
    go_ret
    exact ⟨by first | rfl | (simp [errW_none, errW_some] <;> rfl) | (simp [*, errW_none, errW_some] <;> rfl), by repeat (first | (with_reducible first | exact HB.out | apply below_alloc | apply pw_below_drewN | apply below_drew1 | refine below_set ?_ GE277.out) | exact HB.out)⟩
  ·rw [if_neg c3] at H
   have c3b0 : decide (a0_0 ≤ 255) = false := decide_eq_false c3
   clear c3
   obtain rfl := Option.some.inj H
   go_enter Try.func13, Try.ntmps13
   go_wp2_with (first | ((with_reducible refine gate_dst (N := 1) rfl ?_); refine box_event ?hg (N := 1) ?hd (cs := #[.int .i64 a0_0, .int .i64 a0_1, .int .i64 a0_2, .int .i64 a0_3]) (t := 34) ?hr ?_; (case hd => rfl); (case hg => rfl); (case hr => first | (go_simp; done) | (go_simp; rfl)); intro gb277 hg w21 hbox hb; have n0_ := Aside0.mk (below_step (by repeat (first | (with_reducible first | exact HB.out | apply below_alloc | apply pw_below_drewN | apply below_drew1) | exact HB.out)) hb); have n1_ := Aside0.mk (hbox); have n2_ := Aside0.mk ((by rw [hg]; exact (below_size (by repeat (first | (with_reducible first | exact HB.out | apply below_alloc | apply pw_below_drewN | apply below_drew1) | exact HB.out))) : w.heap.size ≤ gb277)); have n3_ := Aside0.mk ((by rw [hg]; exact (below_size (by repeat (first | (with_reducible first | exact HB.out | apply below_alloc | apply pw_below_drewN | apply below_drew1) | exact HB.out))) : w.heap.size ≤ gb277)); clear HB; have HB := n0_; have BK277 := n1_; have GW277 := n2_; have GE277 := n3_; clear n0_ n1_ n2_ n3_; clear hb hbox hg; have hcz22_0 : w21.cell? ⟨gb277, 0, none⟩ = some (.int .i64 a0_0) := (blk_cell BK277.out 0).trans rfl; have hcz22_1 : w21.cell? ⟨gb277, 1, none⟩ = some (.int .i64 a0_1) := (blk_cell BK277.out 1).trans rfl; have hcz22_2 : w21.cell? ⟨gb277, 2, none⟩ = some (.int .i64 a0_2) := (blk_cell BK277.out 2).trans rfl; have hcz22_3 : w21.cell? ⟨gb277, 3, none⟩ = some (.int .i64 a0_3) := (blk_cell BK277.out 3).trans rfl; have hfz22_0 := blk_frozen BK277.out 0; have hfz22_1 := blk_frozen BK277.out 1; have hfz22_2 := blk_frozen BK277.out 2; have hfz22_3 := blk_frozen BK277.out 3))
   go_ret
   exact ⟨by first | rfl | (simp [errW_none, errW_some] <;> rfl) | (simp [*, errW_none, errW_some] <;> rfl), by repeat (first | (with_reducible first | exact HB.out | apply below_alloc | apply pw_below_drewN | apply below_drew1 | refine below_set ?_ GE277.out) | exact HB.out)⟩
 ·rw [if_neg c2] at H
  have c2b0 : decide (1 ≤ a0_0) = false := decide_eq_false c2
  clear c2
  obtain rfl := Option.some.inj H
  go_enter Try.func13, Try.ntmps13
  go_wp2_with (first | ((with_reducible refine gate_dst (N := 1) rfl ?_); refine box_event ?hg (N := 1) ?hd (cs := #[.int .i64 a0_0, .int .i64 a0_1, .int .i64 a0_2, .int .i64 a0_3]) (t := 34) ?hr ?_; (case hd => rfl); (case hg => rfl); (case hr => first | (go_simp; done) | (go_simp; rfl)); intro gb277 hg w23 hbox hb; have n0_ := Aside0.mk (below_step (by repeat (first | (with_reducible first | exact HB.out | apply below_alloc | apply pw_below_drewN | apply below_drew1) | exact HB.out)) hb); have n1_ := Aside0.mk (hbox); have n2_ := Aside0.mk ((by rw [hg]; exact (below_size (by repeat (first | (with_reducible first | exact HB.out | apply below_alloc | apply pw_below_drewN | apply below_drew1) | exact HB.out))) : w.heap.size ≤ gb277)); have n3_ := Aside0.mk ((by rw [hg]; exact (below_size (by repeat (first | (with_reducible first | exact HB.out | apply below_alloc | apply pw_below_drewN | apply below_drew1) | exact HB.out))) : w.heap.size ≤ gb277)); clear HB; have HB := n0_; have BK277 := n1_; have GW277 := n2_; have GE277 := n3_; clear n0_ n1_ n2_ n3_; clear hb hbox hg; have hcz24_0 : w23.cell? ⟨gb277, 0, none⟩ = some (.int .i64 a0_0) := (blk_cell BK277.out 0).trans rfl; have hcz24_1 : w23.cell? ⟨gb277, 1, none⟩ = some (.int .i64 a0_1) := (blk_cell BK277.out 1).trans rfl; have hcz24_2 : w23.cell? ⟨gb277, 2, none⟩ = some (.int .i64 a0_2) := (blk_cell BK277.out 2).trans rfl; have hcz24_3 : w23.cell? ⟨gb277, 3, none⟩ = some (.int .i64 a0_3) := (blk_cell BK277.out 3).trans rfl; have hfz24_0 := blk_frozen BK277.out 0; have hfz24_1 := blk_frozen BK277.out 1; have hfz24_2 := blk_frozen BK277.out 2; have hfz24_3 := blk_frozen BK277.out 3))
  go_ret
  exact ⟨by first | rfl | (simp [errW_none, errW_some] <;> rfl) | (simp [*, errW_none, errW_some] <;> rfl), by repeat (first | (with_reducible first | exact HB.out | apply below_alloc | apply pw_below_drewN | apply below_drew1 | refine below_set ?_ GE277.out) | exact HB.out)⟩
def footlockerref23_Blocks.l0 : Nat → Int → Int → Int → Int → Int → Int → Option (Int)
 | 0, _, _, _, _, _, _ => none
 | k + 1, x3, x4, x279000, x279001, x279002, x279003 => if x4 < (wrap64 (8 + x279002)) then (footlockerref23_Blocks.l0 k (wrap64 (x3 + 1)) (wrap64 (x4 + x279003)) x279000 x279001 x279002 x279003) else (some x3)
def footlockerref23_Blocks.f (k : Nat) (a0_0 : Int) (a0_1 : Int) (a0_2 : Int) (a0_3 : Int) : Option (Int) := footlockerref23_Blocks.l0 k 0 0 a0_0 a0_1 a0_2 a0_3
set_option maxHeartbeats 8000000 in
set_option maxRecDepth 100000 in
theorem footlockerref23_Blocks.calls (k : Nat) (a0_0 : Int) (a0_1 : Int) (a0_2 : Int) (a0_3 : Int) (r : Int) (w : World) (h : footlockerref23_Blocks.f k a0_0 a0_1 a0_2 a0_3 = some r) :
 Calls Try.prog 17 #[.agg #[.int .i64 a0_0, .int .i64 a0_1, .int .i64 a0_2, .int .i64 a0_3]] w fun e w' => e = .returned (.int .i64 r) ∧ Below w.heap.size w w' := by
 have hu34 := Try.underlying34
 have HB := Aside0.mk (Below.refl w.heap.size w)
 have H : (footlockerref23_Blocks.l0 k 0 0 a0_0 a0_1 a0_2 a0_3) = some r := h
 clear h
 have H' := Aside0.mk H
 clear H
 go_enter Try.func17, Try.ntmps17
 go_wp2_with (first | ((with_reducible refine gate_dst (N := 1) rfl ?_); refine box_event ?hg (N := 1) ?hd (cs := #[.int .i64 a0_0, .int .i64 a0_1, .int .i64 a0_2, .int .i64 a0_3]) (t := 34) ?hr ?_; (case hd => rfl); (case hg => rfl); (case hr => first | (go_simp; done) | (go_simp; rfl)); intro gb278 hg w2 hbox hb; have n0_ := Aside0.mk (below_step (by repeat (first | (with_reducible first | exact HB.out | apply below_alloc | apply pw_below_drewN | apply below_drew1) | exact HB.out)) hb); have n1_ := Aside0.mk (hbox); have n2_ := Aside0.mk ((by rw [hg]; exact (below_size (by repeat (first | (with_reducible first | exact HB.out | apply below_alloc | apply pw_below_drewN | apply below_drew1) | exact HB.out))) : w.heap.size ≤ gb278)); have n3_ := Aside0.mk ((by rw [hg]; exact (below_size (by repeat (first | (with_reducible first | exact HB.out | apply below_alloc | apply pw_below_drewN | apply below_drew1) | exact HB.out))) : w.heap.size ≤ gb278)); clear HB; have HB := n0_; have BK278 := n1_; have GW278 := n2_; have GE278 := n3_; clear n0_ n1_ n2_ n3_; clear hb hbox hg))
 go_loopg [3, 4] k (fun kq v3 v4 w' => ∃ (x3_1 : Int) (x4_1 : Int), v3 = .int .i64 x3_1 ∧ v4 = .int .i64 x4_1 ∧ Aside0 (footlockerref23_Blocks.l0 kq x3_1 x4_1 a0_0 a0_1 a0_2 a0_3 = some r) ∧ Aside0 (kq ≤ k) ∧ Aside0 (w'.heap[gb278]? = some (.cells #[.int .i64 a0_0, .int .i64 a0_1, .int .i64 a0_2, .int .i64 a0_3] 34 (0, 0))) ∧ Aside0 (Below w.heap.size w w'))
 case atStart => exact ⟨(0), (0), (by first | rfl | (simp; done) | (simp [*]; done)), (by first | rfl | (simp; done) | (simp [*]; done)), H', ⟨Nat.le_refl _⟩, ⟨by (with_reducible repeat (first | refine blk_drewN ?_ _ | refine blk_drew ?_ | refine blk_alloc ?_ _)); exact BK278.out⟩, ⟨by repeat (first | (with_reducible first | exact HB.out | apply below_alloc | apply pw_below_drewN | apply below_drew1 | refine below_set ?_ GE278.out) | exact HB.out)⟩⟩
 case round =>
  clear H'
  try clear c1
  try clear p2
  obtain ⟨x3_1, x4_1, rfl, rfl, HA, HK1, BK278, HB⟩ := hrel
  cases gk with
  | zero => exact absurd HA.out (by simp [footlockerref23_Blocks.l0])
  | succ k1 =>
   have H := HA.out
   clear HA
   simp only [footlockerref23_Blocks.l0] at H
   by_cases c3 : x4_1 < (wrap64 (8 + a0_2))
   ·rw [if_pos c3] at H
    have c3b0 : decide (x4_1 < (wrap64 (8 + a0_2))) = true := decide_eq_true c3
    clear c3
    have H' := Aside0.mk H
    clear H
    have hcz4_0 : wr.cell? ⟨gb278, 0, none⟩ = some (.int .i64 a0_0) := (blk_cell BK278.out 0).trans rfl
    have hcz4_1 : wr.cell? ⟨gb278, 1, none⟩ = some (.int .i64 a0_1) := (blk_cell BK278.out 1).trans rfl
    have hcz4_2 : wr.cell? ⟨gb278, 2, none⟩ = some (.int .i64 a0_2) := (blk_cell BK278.out 2).trans rfl
    have hcz4_3 : wr.cell? ⟨gb278, 3, none⟩ = some (.int .i64 a0_3) := (blk_cell BK278.out 3).trans rfl
    have hfz4_0 := blk_frozen BK278.out 0
    have hfz4_1 := blk_frozen BK278.out 1
    have hfz4_2 := blk_frozen BK278.out 2
    have hfz4_3 := blk_frozen BK278.out 3
    go_wp2
    go_roundg k1
    case measure => have := HK1.out; omega
    case rel => exact ⟨(wrap64 (x3_1 + 1)), (wrap64 (x4_1 + a0_3)), (by first | rfl | (simp; done) | (simp [*]; done)), (by first | rfl | (simp; done) | (simp [*]; done)), H', ⟨by have := HK1.out; omega⟩, ⟨by (with_reducible repeat (first | refine blk_drewN ?_ _ | refine blk_drew ?_ | refine blk_alloc ?_ _)); exact BK278.out⟩, ⟨by repeat (first | (with_reducible first | exact HB.out | apply below_alloc | apply pw_below_drewN | apply below_drew1 | refine below_set ?_ GE278.out) | exact HB.out)⟩⟩
   ·rw [if_neg c3] at H
    have c3b0 : decide (x4_1 < (wrap64 (8 + a0_2))) = false := decide_eq_false c3
    clear c3
    obtain rfl := Option.some.inj H
    have hcz5_0 : wr.cell? ⟨gb278, 0, none⟩ = some (.int .i64 a0_0) := (blk_cell BK278.out 0).trans rfl
    have hcz5_1 : wr.cell? ⟨gb278, 1, none⟩ = some (.int .i64 a0_1) := (blk_cell BK278.out 1).trans rfl
    have hcz5_2 : wr.cell? ⟨gb278, 2, none⟩ = some (.int .i64 a0_2) := (blk_cell BK278.out 2).trans rfl
    have hcz5_3 : wr.cell? ⟨gb278, 3, none⟩ = some (.int .i64 a0_3) := (blk_cell BK278.out 3).trans rfl
    have hfz5_0 := blk_frozen BK278.out 0
    have hfz5_1 := blk_frozen BK278.out 1
    have hfz5_2 := blk_frozen BK278.out 2
    have hfz5_3 := blk_frozen BK278.out 3
    go_wp2
    go_ret
    exact ⟨by first | rfl | (simp [errW_none, errW_some] <;> rfl) | (simp [*, errW_none, errW_some] <;> rfl), by repeat (first | (with_reducible first | exact HB.out | apply below_alloc | apply pw_below_drewN | apply below_drew1 | refine below_set ?_ GE278.out) | exact HB.out)⟩
end Go.Proofs.Ytcdmgppjhdpgkaa.P
namespace Go.Proofs.Ytcdmgppjhdpgkaa.P
open Go.RowKit Go.Proofs.YtcdmgppjhdpgkaaW.PrintWords Go.Proofs.YtcdmgppjhdpgkaaW.PrintLast Go.Proofs.YtcdmgppjhdpgkaaW.PrintMore
attribute [local go_sem] max2_int min2_int max_two min_two max_three min_three max_four min_four
set_option linter.unusedVariables false
set_option linter.unusedSimpArgs false
mutual
def footlockerlaw23_StripeColumns.j0 : Nat → List Int → Int → List Int → Bool → Int → Int → Int → Int → Option (Bool)
 | 0, _, _, _, _, _, _, _, _ => none
 | k + 1, x0, x1, x2, x35, x280000, x280001, x280002, x280003 => if x35 = true then (some true) else ((stripe_Column.f k x0 x1).bind fun bt281 => ((footlockerref23_Column.f k x0 x1).bind fun bt285 => ((stripe_Volume.f k x2).bind fun bt289 => ((footlockerref23_Volume.f k x2).bind fun bt293 => (if bt281.2 = bt285.2 then ((footlockerref01_Same.f k bt281.1 bt285.1).bind fun t297 => (if t297 = true then (if bt289.2 = bt293.2 then ((footlockerref01_Same.f k bt289.1 bt293.1).bind fun t298 => (footlockerlaw23_StripeColumns.j1 k (!t298) x280000 x280001 x280002 x280003)) else (footlockerlaw23_StripeColumns.j1 k true x280000 x280001 x280002 x280003)) else (footlockerlaw23_StripeColumns.j1 k true x280000 x280001 x280002 x280003))) else (footlockerlaw23_StripeColumns.j1 k true x280000 x280001 x280002 x280003))))))
def footlockerlaw23_StripeColumns.j1 : Nat → Bool → Int → Int → Int → Int → Option (Bool)
 | 0, _, _, _, _, _ => none
 | k + 1, x77, x280000, x280001, x280002, x280003 => if x77 = true then (some false) else ((footlockerref23_Right.f x280000 x280001 x280002 x280003).bind fun t300 => (if t300 = true then ((stripe_Right.f x280000 x280001 x280002 x280003).bind fun t304 => (if t304 = true then ((stripe_Long.f x280000 x280001 x280002 x280003).bind fun t305 => (if t305 = (wrap64 (8 + x280002)) then (if x280002 > (wrap64 (1000 * x280003)) then (some true) else ((stripe_Blocks.f x280000 x280001 x280002 x280003).bind fun t306 => ((footlockerref23_Blocks.f k x280000 x280001 x280002 x280003).bind fun t307 => (some (t306 == t307))))) else (some false))) else (some false))) else ((stripe_Right.f x280000 x280001 x280002 x280003).bind fun t301 => (if t301 = true then (some false) else ((stripe_Long.f x280000 x280001 x280002 x280003).bind fun t302 => (if t302 = 0 then ((stripe_Blocks.f x280000 x280001 x280002 x280003).bind fun t303 => (some (t303 == 0))) else (some false)))))))
end
def footlockerlaw23_StripeColumns.f (k : Nat) (l0 : List Int) (a1 : Int) (l2 : List Int) (a3_0 : Int) (a3_1 : Int) (a3_2 : Int) (a3_3 : Int) : Option (Bool) := (footlockerlaw23_alive.f k).bind fun t280 => (if t280 = true then (if (l0.length : Int) > 200 then (footlockerlaw23_StripeColumns.j0 k l0 a1 l2 true a3_0 a3_1 a3_2 a3_3) else (if (l2.length : Int) > 200 then (footlockerlaw23_StripeColumns.j0 k l0 a1 l2 true a3_0 a3_1 a3_2 a3_3) else (if a1 > 300 then (footlockerlaw23_StripeColumns.j0 k l0 a1 l2 (decide (a1 ≤ 16777216)) a3_0 a3_1 a3_2 a3_3) else (footlockerlaw23_StripeColumns.j0 k l0 a1 l2 false a3_0 a3_1 a3_2 a3_3)))) else (some false))
def footlockerlaw23_StripeColumns.T14 : Bool × List (List Nat × List Nat) := (true, [([], []), ([0], [0]), ([1, 1], [1]), ([2], [2]), ([3, 2, 2], [2, 3]), ([2], [2]), ([5, 2], [2, 5]), ([6, 2], [2, 6]), ([4, 7, 2], [2, 4, 7]), ([2, 8], [2, 8]), ([9, 4], [9]), ([10], [10]), ([11, 10], [10, 11]), ([10], [10]), ([13, 10], [10, 13]), ([14, 10], [10, 14]), ([12, 15, 10], [10, 12, 15]), ([16, 10, 10], [10, 16]), ([17], [17]), ([18, 17, 17], [17, 18]), ([17], [17]), ([20, 19, 17], [17, 20]), ([19, 21, 17], [17, 19, 21]), ([17, 22, 10], [10, 17, 22]), ([10, 23], [10, 23]), ([24, 21, 0, 1, 2, 3, 4, 5, 6, 7, 8, 9, 10, 11, 12, 13, 14, 15, 16, 17, 18, 19, 20, 21, 22, 23, 24], [24])])
def footlockerlaw23_StripeColumns.B14 : List Nat := [0, 1, 3, 7, 15, 7, 39, 103, 255, 511, 1023, 2047, 4095, 2047, 10239, 26623, 65535, 131071, 262143, 524287, 262143, 2097151, 4194303, 8388607, 16777215, 33554431]
theorem footlockerlaw23_StripeColumns.tab14 : rtab .any (opsOf Try.f3 14) = footlockerlaw23_StripeColumns.T14 := by kernel_rfl
theorem footlockerlaw23_StripeColumns.bits14 : waitsOk footlockerlaw23_StripeColumns.T14.2 footlockerlaw23_StripeColumns.B14 = true := by kernel_rfl
end Go.Proofs.Ytcdmgppjhdpgkaa.P
