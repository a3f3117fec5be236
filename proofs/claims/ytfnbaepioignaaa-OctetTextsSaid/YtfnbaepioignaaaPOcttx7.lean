-- Written for this claim by a program of this seat (wip/tools: a turned copy of the kit's print). Not trusted: Lean checks it.
import Derived.Test.YtfnbaepioignaaaPOcttx0
import Derived.Test.YtfnbaepioignaaaPOcttx1
namespace Go.Proofs.Ytfnbaepioignaaa.POctt
open Go.RowKit Go.Proofs.YtfnbaepioignaaaW.PrintWords Go.Proofs.YtfnbaepioignaaaW.PrintLast Go.Proofs.YtfnbaepioignaaaW.PrintMore
attribute [local go_sem] max2_int min2_int max_two min_two max_three min_three max_four min_four   -- for this text's walks alone
set_option linter.unusedVariables false
set_option linter.unusedSimpArgs false

/-! ### octet_Text: function 21 -/
def octet_Text.f (k : Nat) (a0 : ByteArray) : Option (ByteArray) := if (a0.size : Int) ≥ 65536 then (some (⟨#[]⟩ : ByteArray)) else ((octet_Put.f k (a0.size : Int) 2).bind fun t386 => (if t386.size + a0.size ≤ 9223372036854775807 then (some (t386 ++ a0)) else (none)))
theorem octet_Text.mono : ∀ a0 k, LeO (octet_Text.f k a0) (octet_Text.f (k + 1) a0) := by
  intro a0 k
  unfold octet_Text.f
  repeat' first
      | (with_reducible exact octet_Put.mono _ _ _)
      | (with_reducible exact LeO.refl _)
      | (with_reducible exact LeO.none _)
      | (with_reducible refine LeO.ite ?_ ?_)
      | (with_reducible refine LeO.bind ?_ (fun _ => ?_))
      | exact octet_Put.mono _ _ _
      | exact LeO.none _
      | refine LeO.ite ?_ ?_
      | refine LeO.bind ?_ (fun _ => ?_)
set_option maxHeartbeats 8000000 in
set_option maxRecDepth 100000 in
theorem octet_Text.calls (k : Nat) (a0 : ByteArray) (r : ByteArray) (w : World) (h : octet_Text.f k a0 = some r) :
    Calls Try.prog 21 #[.string a0] w fun e w' => e = .returned (.string r) ∧ Below w.heap.size w w' := by
  have HB := Aside0.mk (Below.refl w.heap.size w)
  have H : (if (a0.size : Int) ≥ 65536 then (some (⟨#[]⟩ : ByteArray)) else ((octet_Put.f k (a0.size : Int) 2).bind fun t386 => (if t386.size + a0.size ≤ 9223372036854775807 then (some (t386 ++ a0)) else (none)))) = some r := h
  clear h
  by_cases c2 : (a0.size : Int) ≥ 65536
  · rw [if_pos c2] at H
    have c2b0 : decide (65536 ≤ (a0.size : Int)) = true := decide_eq_true c2
    have c2b1 : decide (65536 ≤ a0.size) = true := decide_eq_true (by omega)
    clear c2
    obtain rfl := Option.some.inj H
    go_enter Try.func21, Try.ntmps21
    go_wp2
    go_ret
    exact ⟨by first | rfl | (simp [errW_none, errW_some] <;> rfl) | (simp [*, errW_none, errW_some] <;> rfl), by repeat (first | (with_reducible first | exact HB.out | apply below_alloc | apply pw_below_drewN | apply below_drew1) | exact HB.out)⟩
  · rw [if_neg c2] at H
    have c2b0 : decide (65536 ≤ (a0.size : Int)) = false := decide_eq_false c2
    have c2b1 : decide (65536 ≤ a0.size) = false := decide_eq_false (by omega)
    clear c2
    replace H := Option.bind_eq_some_iff.mp H
    obtain ⟨t386, A30, H⟩ := H
    replace H : (if t386.size + a0.size ≤ 9223372036854775807 then (some (t386 ++ a0)) else (none)) = some r := H
    have A3 := Aside0.mk A30
    clear A30
    by_cases c4 : t386.size + a0.size ≤ 9223372036854775807
    · rw [if_pos c4] at H
      have c4b0 := eq_true c4
      have c4b1 : decide (t386.size + a0.size ≤ 9223372036854775807) = true := decide_eq_true c4
      try have c4b2 : (9223372036854775807 < t386.size + a0.size) = False := eq_false (Nat.not_lt.2 c4)
      obtain rfl := Option.some.inj H
      go_enter Try.func21, Try.ntmps21
      go_wp2_with (first | ((with_reducible refine gate_callee (f := 17) rfl ?_); refine goesL_ (some 8) rfl rfl Try.func17 (by kernel_rfl) rfl #[.int .i64 (a0.size : Int), .int .i64 2] rfl (by (try simp only [List.map_toArray, List.map_cons, List.map_nil]); first | done | rfl | (simp only [List.length_drop, List.length_take]; rfl) | (simp only [ByteArray.size_extract, Nat.sub_zero]; rfl)) ?_; (with_reducible refine (octet_Put.calls k (a0.size : Int) 2 t386 _ A3.out).mono ?_); rintro e w5 ⟨rfl, hb⟩; refine ⟨_, rfl, ?_⟩; have n0_ := Aside0.mk (below_step (by repeat (first | (with_reducible first | exact HB.out | apply below_alloc | apply pw_below_drewN | apply below_drew1) | exact HB.out)) hb); clear HB; have HB := n0_; clear n0_; (try clear hb); (try clear hb2); (try clear hk); (try clear hi)))
      go_ret
      exact ⟨by first | rfl | (simp [errW_none, errW_some] <;> rfl) | (simp [*, errW_none, errW_some] <;> rfl), by repeat (first | (with_reducible first | exact HB.out | apply below_alloc | apply pw_below_drewN | apply below_drew1) | exact HB.out)⟩
    · rw [if_neg c4] at H
      exact absurd H (by simp)

end Go.Proofs.Ytfnbaepioignaaa.POctt
