/- What the statements of the layer of codewords share: the examples, and words that agree. Conditions: as each theorem states them. -/
import Derived.Test.YtmdiggcefmkciaaS1
import Derived.Test.YtmdiggcefmkciaaLB
import Derived.Test.YtmdiggcefmkciaaPx5
namespace Go.Proofs.Ytmdiggcefmkciaa.Al
open Go Go.RowKit Go.Proofs.YtmdiggcefmkciaaW.PrintWords Go.Proofs.YtmdiggcefmkciaaW.PrintMore Go.Proofs.Ytmdiggcefmkciaa.P
set_option linter.unusedVariables false
set_option linter.unusedSimpArgs false
theorem alive_ev : Ev (fun k => footlockerlaw04_alive.f k) true :=
  Ev.of (fun k => footlockerlaw04_alive.mono k) (k := 60) (by decide +kernel)
theorem co_word_lt {d : List G} {k i : Nat} (hd : d.length ≤ 256) (hi : i < d.length) : co (word d k) i = co d i := by
  rw [word, co_vals (by omega), (gen_facts hd).2.2 i hi]
theorem word_take (d : List G) (k : Nat) (hd : d.length ≤ 256) : (word d k).take d.length = d := by
  apply ext_co
  · rw [List.length_take, word_length]; omega
  · intro i hi
    rw [List.length_take, word_length] at hi
    rw [co_take, if_pos (by omega), co_word_lt hd (by omega)]
end Go.Proofs.Ytmdiggcefmkciaa.Al
