/- The row of OctetPlays: for every string and every slice of calls that can be read, the law returns true, and both read as before. -/
import Derived.Test.YtfnbaepioignaaaRows
import Derived.Test.YtfnbaepioignaaaPOcttx6
import Derived.Test.YtfnbaepioignaaaPureOctetPlays
import Derived.Test.YtfnbaepioignaaaOpen
import Derived.WalkKit
import Derived.ProofKit
import Derived.OpenShut
import Derived.ShutString
import Derived.ChangeOld
import Derived.Below
import Derived.SizedLaws
namespace Go.Proofs.Ytfnbaepioignaaa.octetPlays
open Go.ChangeShapes Go.WideShapes Go.ChangeAt Go.RowKit Go.Proofs.YtfnbaepioignaaaW.PrintWords Go.Proofs.YtfnbaepioignaaaW.Open
open Go.ChangeMaps (open_string shut_string)
set_option linter.unusedVariables false
theorem own : ownKnob Try.prog.godebug = none := by kernel_rfl
theorem laidOut : laidOutB Try.prog = true := by kernel_rfl
section
variable {H : Type} {enc : TypeId × Value → H} {w : World} {base : Nat} {spare : Nat → Bool} {held : Bool}
theorem opens45 : Opens enc Try.prog w base spare held 45 POctt.k45 (fun _ => True) := by
  have h := Opens.iso (g := fun p : Int × Int => (⟨p.1, p.2⟩ : POctt.S45)) (f := fun x : POctt.S45 => (x.f0, x.f1)) (fun _ => rfl)
    (Opens.struct (enc := enc) (w := w) (base := base) (spare := spare) (held := held) (d := Kd.pair (Kd.int .i64) (Kd.int .i64)) Try.underlying45 (by kernel_rfl)
      (OpensF.cons rfl (by kernel_rfl) (Opens.int Try.underlying3) (OpensF.one rfl (by kernel_rfl) (Opens.int Try.underlying3))))
  intro fuel cs x hx
  obtain ⟨a, h1, _⟩ := h fuel cs x hx
  exact ⟨a, h1, trivial⟩
theorem opens38 : Opens enc Try.prog w base spare held 38 (Kd.slice 45 POctt.k45) (fun l => (∀ a, a ∈ l → True) ∧ l.length ≤ maxLen) := Opens.slice Try.underlying38 (by kernel_rfl) opens45
end
set_option maxRecDepth 100000 in
theorem lifted (os : Os) (started : os.Started) (H : Type) (enc : TypeId × Value → H) :
    ReturnsInHanded {} Try.checked os 8 .any (Rows.octetPlaysSpec.pre6 enc Try.prog Try.f8 Rows.octetPlaysRow.domain false) (Rows.octetPlaysSpec.post enc Try.prog Try.f8 false true false false) := by
  refine returnsInHanded_of_change_sized (C := Try.checked) own started (by kernel_rfl) Try.func8
    (ChangeSpec.witness6 (enc := enc) (C := Try.checked) false ⟨#[], #[.string ByteArray.empty, .slice none 0 0], []⟩ 8 (by kernel_rfl) (by kernel_rfl) (by kernel_rfl) (by kernel_rfl)) ?_
  intro W base args ds gs before hval0 hW hcnd hsz0 _
  have hval : ∀ (j : Nat) t v, Try.f8.params[j]? = some t → args[j]? = some v → Value.okWide Try.prog W .any base t v := hval0
  have hW' := hW
  obtain ⟨p, q, hA0, hV, rfl, hfz, hnd⟩ := hW
  have hA : DataW.TrodAll enc Try.prog W 0 (fun _ => true) true Try.f8.params.toList args.toList ds p := hA0
  rw [Try.params8] at hA hval
  obtain ⟨v0, vs0, d0, ds0, p0, q0, hargs, rfl, rfl, h0, r0⟩ := trodAll_cons hA
  obtain ⟨v1, vs1, d1, ds1, p1, q1, rfl, rfl, rfl, h1, r1⟩ := trodAll_cons r0
  obtain ⟨rfl, rfl, rfl⟩ := trodAll_nil r1
  obtain rfl : args = #[v0, v1] := by cases args; simp_all
  obtain ⟨rfl, rfl⟩ := trodVars_none hV
  obtain ⟨a0, rfl, rfl, rfl, y0⟩ := open_string Try.underlying9 (hval 0 9 v0 rfl rfl) h0
  obtain ⟨a1, len1, cap1, rfl⟩ := okWide_slice Try.underlying38 (hval 1 38 v1 rfl rfl)
  have k1 := h1
  have lt1 : ∀ x ∈ p1, x.block < W.heap.size := by obtain ⟨m, hm⟩ := k1; exact DataW.trod_lt m _ _ _ hm
  obtain ⟨l1, c1, hv1, hc1, hr1⟩ : ∃ (l : List POctt.S45) (c : Nat), Value.slice a1 len1 cap1 = .slice a1 l.length c ∧ l.length ≤ c ∧ Kd.C POctt.k45 W a1 l.length l := by
    obtain ⟨fuel, hf⟩ := h1
    obtain ⟨l, ⟨A, c, hcs, hl, hC⟩, _⟩ := opens38 fuel _ _ hf
    simp [Value.cells] at hcs
    obtain ⟨rfl, rfl, rfl⟩ := hcs
    exact ⟨l, _, rfl, hl, hC⟩
  clear hA0 hval0 hsz0
  obtain ⟨k, hk⟩ := Pure.OctetPlays a0 l1
  rw [hv1] at k1 ⊢
  refine (POctt.fleuronlaw01_OctetPlays.calls k a0 a1 c1 l1 true W hr1 hc1 hk).mono fun e W' ⟨he, bel⟩ => ?_
  subst he
  rw [hv1] at hW'
  exact ⟨_, rfl, _, _, _, [], _, [], hW', trodAll_mk1 (shut_bool Try.underlying4 _), (trodAll_cons_mk (shut_string Try.underlying9 y0) (trodAll_cons_mk (Below.trod laidOut (by kernel_rfl) (of_decide_eq_true (by kernel_rfl)) k1 bel lt1) trodAll_mk0)), rfl, bel.frame _, fun h => by cases h⟩
theorem over : Rows.octetPlaysRow.holds Try.pinned (OpenSpec.ofChange Rows.octetPlaysSpec) :=
  OpenClaim.holds_of_wide 8 Try.f8 rfl rfl rfl rfl rfl rfl rfl ⟨rfl, rfl, rfl, rfl, rfl⟩ rfl rfl rfl rfl rfl (by kernel_rfl) Try.func8 (by kernel_rfl)
    (of_decide_eq_true (by kernel_rfl)) (by unfold Func.isWrapper; first | (rw [if_pos (by decide +kernel)]; kernel_rfl) | (rw [if_neg (by decide +kernel)]; exact ⟨rfl, rfl⟩))
    (fun os started H enc _ => lifted os started H enc)
theorem proved : Rows.OctetPlaysSaid := over
#print axioms proved
end Go.Proofs.Ytfnbaepioignaaa.octetPlays
namespace Go.Proofs.Ytfnbaepioignaaa
/-- The row, under a short name, for the claim. -/
theorem octetPlays_holds : Rows.OctetPlaysSaid := octetPlays.proved
end Go.Proofs.Ytfnbaepioignaaa
