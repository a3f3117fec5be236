/- The row of OctetTexts: for every slice of texts that can be read, the law returns true, and the slice reads as before. -/
import Derived.Test.YtfnbaepioignaaaRows
import Derived.Test.YtfnbaepioignaaaPOcttx8
import Derived.Test.YtfnbaepioignaaaPureOctetTexts
import Derived.Test.YtfnbaepioignaaaOpen
import Derived.WalkKit
import Derived.ProofKit
import Derived.OpenShut
import Derived.ShutString
import Derived.ChangeOld
import Derived.Below
import Derived.SizedLaws
namespace Go.Proofs.Ytfnbaepioignaaa.octetTexts
open Go.ChangeShapes Go.WideShapes Go.ChangeAt Go.RowKit Go.Proofs.YtfnbaepioignaaaW.PrintWords Go.Proofs.YtfnbaepioignaaaW.Open
open Go.ChangeMaps (open_string shut_string)
set_option linter.unusedVariables false
theorem own : ownKnob Try.prog.godebug = none := by kernel_rfl
theorem laidOut : laidOutB Try.prog = true := by kernel_rfl
section
variable {H : Type} {enc : TypeId × Value → H} {w : World} {base : Nat} {spare : Nat → Bool} {held : Bool}
theorem opens48 : Opens enc Try.prog w base spare held 48 (Kd.slice 9 Kd.string) (fun l => (∀ a, a ∈ l → a.size ≤ maxLen) ∧ l.length ≤ maxLen) := Opens.slice Try.underlying48 (by kernel_rfl) (Opens.string Try.underlying9)
end
set_option maxRecDepth 100000 in
theorem lifted (os : Os) (started : os.Started) (H : Type) (enc : TypeId × Value → H) :
    ReturnsInHanded {} Try.checked os 9 .any (Rows.octetTextsSpec.pre6 enc Try.prog Try.f9 Rows.octetTextsRow.domain false) (Rows.octetTextsSpec.post enc Try.prog Try.f9 false true false false) := by
  refine returnsInHanded_of_change_sized (C := Try.checked) own started (by kernel_rfl) Try.func9
    (ChangeSpec.witness6 (enc := enc) (C := Try.checked) false ⟨#[], #[.slice none 0 0], []⟩ 8 (by kernel_rfl) (by kernel_rfl) (by kernel_rfl) (by kernel_rfl)) ?_
  intro W base args ds gs before hval0 hW hcnd hsz0 _
  have hval : ∀ (j : Nat) t v, Try.f9.params[j]? = some t → args[j]? = some v → Value.okWide Try.prog W .any base t v := hval0
  have hW' := hW
  obtain ⟨p, q, hA0, hV, rfl, hfz, hnd⟩ := hW
  have hA : DataW.TrodAll enc Try.prog W 0 (fun _ => true) true Try.f9.params.toList args.toList ds p := hA0
  rw [Try.params9] at hA hval
  obtain ⟨v0, vs0, d0, ds0, p0, q0, hargs, rfl, rfl, h0, r0⟩ := trodAll_cons hA
  obtain ⟨rfl, rfl, rfl⟩ := trodAll_nil r0
  obtain rfl : args = #[v0] := by cases args; simp_all
  obtain ⟨rfl, rfl⟩ := trodVars_none hV
  obtain ⟨a0, len0, cap0, rfl⟩ := okWide_slice Try.underlying48 (hval 0 48 v0 rfl rfl)
  have k0 := h0
  have lt0 : ∀ x ∈ p0, x.block < W.heap.size := by obtain ⟨m, hm⟩ := k0; exact DataW.trod_lt m _ _ _ hm
  obtain ⟨l0, c0, hv0, hc0, hr0⟩ : ∃ (l : List ByteArray) (c : Nat), Value.slice a0 len0 cap0 = .slice a0 l.length c ∧ l.length ≤ c ∧ Kd.C Kd.string W a0 l.length l := by
    obtain ⟨fuel, hf⟩ := h0
    obtain ⟨l, ⟨A, c, hcs, hl, hC⟩, _⟩ := opens48 fuel _ _ hf
    simp [Value.cells] at hcs
    obtain ⟨rfl, rfl, rfl⟩ := hcs
    exact ⟨l, _, rfl, hl, hC⟩
  clear hA0 hval0 hsz0
  obtain ⟨k, hk⟩ := Pure.OctetTexts l0
  rw [hv0] at k0 ⊢
  refine (POctt.fleuronlaw01_OctetTexts.calls k a0 c0 l0 true W hr0 hc0 hk).mono fun e W' ⟨he, bel⟩ => ?_
  subst he
  rw [hv0] at hW'
  exact ⟨_, rfl, _, _, _, [], _, [], hW', trodAll_mk1 (shut_bool Try.underlying4 _), (trodAll_cons_mk (Below.trod laidOut (by kernel_rfl) (of_decide_eq_true (by kernel_rfl)) k0 bel lt0) trodAll_mk0), rfl, bel.frame _, fun h => by cases h⟩
theorem over : Rows.octetTextsRow.holds Try.pinned (OpenSpec.ofChange Rows.octetTextsSpec) :=
  OpenClaim.holds_of_wide 9 Try.f9 rfl rfl rfl rfl rfl rfl rfl ⟨rfl, rfl, rfl, rfl, rfl⟩ rfl rfl rfl rfl rfl (by kernel_rfl) Try.func9 (by kernel_rfl)
    (of_decide_eq_true (by kernel_rfl)) (by unfold Func.isWrapper; first | (rw [if_pos (by decide +kernel)]; kernel_rfl) | (rw [if_neg (by decide +kernel)]; exact ⟨rfl, rfl⟩))
    (fun os started H enc _ => lifted os started H enc)
theorem proved : Rows.OctetTextsSaid := over
#print axioms proved
end Go.Proofs.Ytfnbaepioignaaa.octetTexts
namespace Go.Proofs.Ytfnbaepioignaaa
/-- The row, under a short name, for the claim. -/
theorem octetTexts_holds : Rows.OctetTextsSaid := octetTexts.proved
end Go.Proofs.Ytfnbaepioignaaa
