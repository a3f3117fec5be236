/- What functions of chapter 11 answer, over plain data. No conditions. -/
import Derived.Test.YtcmekbibgonhbaaRxC
import Derived.Test.YtcmekbibgonhbaaVxO
namespace Go.V
open Go Go.Proofs Go.Shelf
set_option linter.unusedVariables false
theorem lens_ok {f : Font} (h : okFont f) : Lens f := by
  have hl := h.2.2.2.1
  refine ⟨by omega, fun l hl' => ?_⟩
  have h2 := (hl.1 l hl').2.2
  refine ⟨by omega, fun r hr => ?_⟩
  have h3 := h2.1 r hr
  refine ⟨?_, ?_, ?_⟩
  · have := h3.2.1.2; omega
  · have := h3.2.2.1.2; omega
  · have := h3.1.2; omega
theorem RulesMatch_law (a : Ask) (h : okAsk a) : Pure Try.prog 3 [encAsk a] (.bool true) :=
  RulesMatch_pure ruled_pure a (lens_ok h.1) (by have := h.2.2.1.2; omega) (by have := h.2.2.2.2.2; omega)
end Go.V
