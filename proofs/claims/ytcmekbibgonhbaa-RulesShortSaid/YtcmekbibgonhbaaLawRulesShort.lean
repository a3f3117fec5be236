/- The row of RulesShort: for every input that can be read, the law returns true, and the input reads as before. No further conditions. -/
import Derived.Test.YtcmekbibgonhbaaRows
import Derived.Test.YtcmekbibgonhbaaVxO
import Derived.Test.YtcmekbibgonhbaaRxL33
import Derived.WalkKit
import Derived.ProofKit
import Derived.OpenShut
import Derived.ShutString
import Derived.ChangeOld
import Derived.Below
import Derived.Carry
import Derived.SizedLaws
namespace Go.Proofs.Ytcmekbibgonhbaa.rulesShort
open Go Go.V Go.ChangeShapes Go.WideShapes Go.ChangeAt Go.RowKit
set_option linter.unusedVariables false
set_option maxRecDepth 100000
theorem own : ownKnob Try.prog.godebug = none := by kernel_rfl
theorem laidOut : laidOutB Try.prog = true := by kernel_rfl
theorem isAgg : ∀ {W : World} {b : Nat} {v : Value}, Value.okWide Try.prog W .any b 34 v → ∃ cs, v = .agg cs := fun {W b v} h => by
  have hu : Try.prog.underlying 34 = some (.struct (Try.prog.fieldsOf 34)) := by kernel_rfl
  simp only [Value.okWide, hu] at h
  obtain ⟨cs, h1, _⟩ := h
  exact ⟨cs, h1⟩
theorem lifted (os : Os) (started : os.Started) (H : Type) (enc : TypeId × Value → H) :
    ReturnsInHanded {} Try.checked os 7 .any (Rows.rulesShortSpec.pre6 enc Try.prog Try.f7 Rows.rulesShortRow.domain false) (Rows.rulesShortSpec.post enc Try.prog Try.f7 false true false false) := by
  refine returnsInHanded_of_change_sized (C := Try.checked) own started (by kernel_rfl) Try.func7
    (ChangeSpec.witness6 (enc := enc) (C := Try.checked) false ⟨#[], #[.agg #[.int .i64 0, .slice none 0 0, .slice none 0 0, .slice none 0 0, .slice none 0 0, .slice none 0 0, .slice none 0 0, .slice none 0 0, .slice none 0 0, .int .i64 0, .slice none 0 0, .int .i64 0, .slice none 0 0]], []⟩ 8 (by kernel_rfl) (by kernel_rfl) (by kernel_rfl) (by kernel_rfl)) ?_
  intro W base args ds gs before hval0 hW hcnd hsz0 _
  have hval : ∀ (j : Nat) t v, Try.f7.params[j]? = some t → args[j]? = some v → Value.okWide Try.prog W .any base t v := hval0
  have hW' := hW
  obtain ⟨p, q, hA0, hV, rfl, hfz, hnd⟩ := hW
  have hA : DataW.TrodAll enc Try.prog W 0 (fun _ => true) true Try.f7.params.toList args.toList ds p := hA0
  have params : Try.f7.params.toList = [34] := rfl
  rw [params] at hA
  obtain ⟨v0, vs0, d0, ds0, p0, q0, hargs, rfl, rfl, h0, r0⟩ := trodAll_cons hA
  obtain ⟨rfl, rfl, rfl⟩ := trodAll_nil r0
  obtain rfl : args = #[v0] := by cases args; simp_all
  obtain ⟨rfl, rfl⟩ := trodVars_none hV
  obtain ⟨cs0, rfl⟩ := isAgg (hval 0 34 v0 rfl rfl)
  have k0 := h0
  have lt0 : ∀ x ∈ p0, x.block < W.heap.size := by obtain ⟨m, hm⟩ := k0; exact DataW.trod_lt m _ _ _ hm
  obtain ⟨a0, hG0, hR0⟩ : ∃ a : Go.V.Ask, okAsk a ∧ Reps (allC W) (encAsk a).cells cs0 := by
    obtain ⟨fuel, hf⟩ := h0
    obtain ⟨a, h1, h2⟩ := opens_Ask fuel _ _ hf (by
      have hw : (DataW.weightsEach Try.prog [34] [d0]).all (· ≤ reachBytes) = true := hsz0
      exact weightsEach_get (i := 0) rfl rfl hw)
    exact ⟨a, h1, by simpa [Value.cells] using h2⟩
  clear hA0 hval0 hsz0
  have hp := RulesShort_law a0 hG0
  refine (pure_calls hp (W := W) (vs := #[.agg cs0]) (reps1 (.agg _ _ hR0.1 hR0.2))).mono fun e W' ⟨he, bel⟩ => ?_
  subst he
  exact ⟨_, rfl, _, _, _, [], _, [], hW', trodAll_mk1 (shut_bool (by kernel_rfl) _), (trodAll_cons_mk (Below.trod laidOut (by kernel_rfl) (of_decide_eq_true (by kernel_rfl)) k0 bel lt0) trodAll_mk0), rfl, bel.frame _, fun h => by cases h⟩
theorem over : Rows.rulesShortRow.holds Try.pinned (OpenSpec.ofChange Rows.rulesShortSpec) :=
  OpenClaim.holds_of_wide 7 Try.f7 rfl rfl rfl rfl rfl rfl rfl ⟨rfl, rfl, rfl, rfl, rfl⟩ rfl rfl rfl rfl rfl (by kernel_rfl) Try.func7 (by kernel_rfl)
    (of_decide_eq_true (by kernel_rfl)) (by unfold Func.isWrapper; first | (rw [if_pos (by decide +kernel)]; kernel_rfl) | (rw [if_neg (by decide +kernel)]; exact ⟨rfl, rfl⟩))
    (fun os started H enc _ => lifted os started H enc)
theorem proved : Rows.RulesShortSaid := over
#print axioms proved
end Go.Proofs.Ytcmekbibgonhbaa.rulesShort
namespace Go.Proofs.Ytcmekbibgonhbaa
/-- The row, under a short name, for the claim. -/
theorem rulesShort_holds : Rows.RulesShortSaid := rulesShort.proved
end Go.Proofs.Ytcmekbibgonhbaa
