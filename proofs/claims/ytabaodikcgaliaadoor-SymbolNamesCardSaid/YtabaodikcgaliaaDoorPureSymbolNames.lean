/- The law SymbolNames: of all numbers the codes, bits and values are as the document says. No conditions. -/
import Derived.Test.YtabaodikcgaliaaDoorY2
import Derived.Test.YtabaodikcgaliaaDoorPx3
namespace Go.Proofs.YtabaodikcgaliaaDoor.Pure
open Go Go.RowKit Go.Proofs.YtabaodikcgaliaaDoor.P Go.Proofs.YtabaodikcgaliaaDoorW.PrintWords Go.Proofs.YtabaodikcgaliaaDoorW.PrintMore Go.Proofs.YtabaodikcgaliaaDoorW.PrintLast Go.Proofs.YtabaodikcgaliaaDoor.Sy
set_option linter.unusedVariables false
set_option linter.unusedSimpArgs false
theorem order_same : Ev (fun k => footlockerref01_SameInts.f k symOrder symOrder) true :=
  Ev.of (fun k => footlockerref01_SameInts.mono _ _ k) (k := 60) (by decide +kernel)
theorem SymbolNames : footlockerlaw11_SymbolNames.Pure := by
  intro n c hn hc
  refine Ev.rounds (g := fun k => footlockerlaw11_SymbolNames.f k n c) ?_
  obtain ⟨r1, e1, f1⟩ := length_both n
  obtain ⟨r2, e2, f2⟩ := dist_both n
  obtain ⟨r3, e3, f3⟩ := lb_both c
  obtain ⟨r4, e4, f4⟩ := db_both c
  refine Ev.congr (fun k => footlockerlaw11_SymbolNames.f.eq_1 _ _ _) (Ev.bind alive_ev (Ev.pos rfl (Ev.bind e1 (Ev.bind f1 (Ev.bind e2 (Ev.bind f2 ?_))))))
  refine Ev.bind (Sy.Ev.const e3) (Ev.bind f3 (Ev.bind (Sy.Ev.const e4) (Ev.bind f4 ?_)))
  refine Ev.pos rfl (Ev.pos rfl (Ev.pos rfl (Ev.pos rfl (Ev.pos rfl (Ev.pos rfl (Ev.pos rfl (Ev.pos rfl (Ev.pos (by simp) (Ev.pos rfl (Ev.pos rfl (Ev.pos (by simp) ?_)))))))))))
  exact Ev.bind (Sy.Ev.const rfl) (Ev.bind (Sy.Ev.const rfl) (Ev.bind order_same (Ev.now _)))
end Go.Proofs.YtabaodikcgaliaaDoor.Pure
