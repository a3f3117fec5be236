-- Written for this claim by a program of this seat (wip/tools: a turned copy of the kit's print). Not trusted: Lean checks it.
import Derived.Test.YtfnbaepioignaaaPOctx0
import Derived.Test.YtfnbaepioignaaaPOctx1
namespace Go.Proofs.Ytfnbaepioignaaa.POct
open Go.RowKit Go.Proofs.YtfnbaepioignaaaW.PrintWords Go.Proofs.YtfnbaepioignaaaW.PrintLast Go.Proofs.YtfnbaepioignaaaW.PrintMore
attribute [local go_sem] max2_int min2_int max_two min_two max_three min_three max_four min_four   -- for this text's walks alone
set_option linter.unusedVariables false
set_option linter.unusedSimpArgs false

/-! ### fleuronlaw01_OctetSums: function 4 -/
def fleuronlaw01_OctetSums.f (k : Nat) (a0 : ByteArray) (a1 : ByteArray) (a2 : Int) : Option (Bool) := (fleuronlaw01_shown.f k).bind fun t180 => ((fleuronlaw01_few.f a0).bind fun t181 => (if 0 ≤ (wrap64 ((wrap64 ((t181.size : Int) / 4)) * 4)) then (if (wrap64 ((wrap64 ((t181.size : Int) / 4)) * 4)) ≤ (t181.size : Int) then ((fleuronlaw01_few.f a1).bind fun t182 => (if 0 ≤ (wrap64 ((wrap64 ((t182.size : Int) / 4)) * 4)) then (if (wrap64 ((wrap64 ((t182.size : Int) / 4)) * 4)) ≤ (t182.size : Int) then (if 0 ≤ (Int.tmod a2 9) then (if (Int.tmod a2 9) ≤ 8 then (if t180 = true then (if (t181.extract 0 ((wrap64 ((wrap64 ((t181.size : Int) / 4)) * 4)) : Int).toNat).size + (t182.extract 0 ((wrap64 ((wrap64 ((t182.size : Int) / 4)) * 4)) : Int).toNat).size ≤ 9223372036854775807 then ((octet_Sum.f k ((t181.extract 0 ((wrap64 ((wrap64 ((t181.size : Int) / 4)) * 4)) : Int).toNat) ++ (t182.extract 0 ((wrap64 ((wrap64 ((t182.size : Int) / 4)) * 4)) : Int).toNat))).bind fun t183 => ((octet_Sum.f k (t181.extract 0 ((wrap64 ((wrap64 ((t181.size : Int) / 4)) * 4)) : Int).toNat)).bind fun t184 => ((octet_Sum.f k (t182.extract 0 ((wrap64 ((wrap64 ((t182.size : Int) / 4)) * 4)) : Int).toNat)).bind fun t185 => (if t183 = ((t184 + t185) % 4294967296) then ((octet_Sum.f k ((t181.extract 0 ((wrap64 ((wrap64 ((t181.size : Int) / 4)) * 4)) : Int).toNat) ++ (t182.extract 0 ((wrap64 ((wrap64 ((t182.size : Int) / 4)) * 4)) : Int).toNat))).bind fun t186 => (if (t182.extract 0 ((wrap64 ((wrap64 ((t182.size : Int) / 4)) * 4)) : Int).toNat).size + (t181.extract 0 ((wrap64 ((wrap64 ((t181.size : Int) / 4)) * 4)) : Int).toNat).size ≤ 9223372036854775807 then ((octet_Sum.f k ((t182.extract 0 ((wrap64 ((wrap64 ((t182.size : Int) / 4)) * 4)) : Int).toNat) ++ (t181.extract 0 ((wrap64 ((wrap64 ((t181.size : Int) / 4)) * 4)) : Int).toNat))).bind fun t187 => (if t186 = t187 then ((fleuronlaw01_few.f a1).bind fun t188 => (if t188.size + ((⟨#[0, 0, 0, 0, 0, 0, 0, 0]⟩ : ByteArray).extract 0 ((Int.tmod a2 9) : Int).toNat).size ≤ 9223372036854775807 then ((octet_Sum.f k (t188 ++ ((⟨#[0, 0, 0, 0, 0, 0, 0, 0]⟩ : ByteArray).extract 0 ((Int.tmod a2 9) : Int).toNat))).bind fun t189 => ((fleuronlaw01_few.f a1).bind fun t190 => ((octet_Sum.f k t190).bind fun t191 => (if t189 = t191 then ((octet_Sum.f k (⟨#[]⟩ : ByteArray)).bind fun t192 => (some (t192 == 0))) else (some false))))) else (none))) else (some false))) else (none))) else (some false))))) else (none)) else (some false)) else (none)) else (none)) else (none)) else (none))) else (none)) else (none)))
theorem fleuronlaw01_OctetSums.mono : ∀ a0 a1 a2 k, LeO (fleuronlaw01_OctetSums.f k a0 a1 a2) (fleuronlaw01_OctetSums.f (k + 1) a0 a1 a2) := by
  intro a0 a1 a2 k
  unfold fleuronlaw01_OctetSums.f
  repeat' first
      | (with_reducible exact fleuronlaw01_shown.mono _)
      | (with_reducible exact octet_Sum.mono _ _)
      | (with_reducible exact LeO.refl _)
      | (with_reducible exact LeO.none _)
      | (with_reducible refine LeO.ite ?_ ?_)
      | (with_reducible refine LeO.bind ?_ (fun _ => ?_))
      | exact fleuronlaw01_shown.mono _
      | exact octet_Sum.mono _ _
      | exact LeO.none _
      | refine LeO.ite ?_ ?_
      | refine LeO.bind ?_ (fun _ => ?_)
set_option maxHeartbeats 8000000 in
set_option maxRecDepth 100000 in
theorem fleuronlaw01_OctetSums.calls (k : Nat) (a0 : ByteArray) (a1 : ByteArray) (a2 : Int) (r : Bool) (w : World) (h : fleuronlaw01_OctetSums.f k a0 a1 a2 = some r) :
    Calls Try.prog 4 #[.string a0, .string a1, .int .u8 a2] w fun e w' => e = .returned (.bool r) ∧ Below w.heap.size w w' := by
  have HB := Aside0.mk (Below.refl w.heap.size w)
  have H : ((fleuronlaw01_shown.f k).bind fun t180 => ((fleuronlaw01_few.f a0).bind fun t181 => (if 0 ≤ (wrap64 ((wrap64 ((t181.size : Int) / 4)) * 4)) then (if (wrap64 ((wrap64 ((t181.size : Int) / 4)) * 4)) ≤ (t181.size : Int) then ((fleuronlaw01_few.f a1).bind fun t182 => (if 0 ≤ (wrap64 ((wrap64 ((t182.size : Int) / 4)) * 4)) then (if (wrap64 ((wrap64 ((t182.size : Int) / 4)) * 4)) ≤ (t182.size : Int) then (if 0 ≤ (Int.tmod a2 9) then (if (Int.tmod a2 9) ≤ 8 then (if t180 = true then (if (t181.extract 0 ((wrap64 ((wrap64 ((t181.size : Int) / 4)) * 4)) : Int).toNat).size + (t182.extract 0 ((wrap64 ((wrap64 ((t182.size : Int) / 4)) * 4)) : Int).toNat).size ≤ 9223372036854775807 then ((octet_Sum.f k ((t181.extract 0 ((wrap64 ((wrap64 ((t181.size : Int) / 4)) * 4)) : Int).toNat) ++ (t182.extract 0 ((wrap64 ((wrap64 ((t182.size : Int) / 4)) * 4)) : Int).toNat))).bind fun t183 => ((octet_Sum.f k (t181.extract 0 ((wrap64 ((wrap64 ((t181.size : Int) / 4)) * 4)) : Int).toNat)).bind fun t184 => ((octet_Sum.f k (t182.extract 0 ((wrap64 ((wrap64 ((t182.size : Int) / 4)) * 4)) : Int).toNat)).bind fun t185 => (if t183 = ((t184 + t185) % 4294967296) then ((octet_Sum.f k ((t181.extract 0 ((wrap64 ((wrap64 ((t181.size : Int) / 4)) * 4)) : Int).toNat) ++ (t182.extract 0 ((wrap64 ((wrap64 ((t182.size : Int) / 4)) * 4)) : Int).toNat))).bind fun t186 => (if (t182.extract 0 ((wrap64 ((wrap64 ((t182.size : Int) / 4)) * 4)) : Int).toNat).size + (t181.extract 0 ((wrap64 ((wrap64 ((t181.size : Int) / 4)) * 4)) : Int).toNat).size ≤ 9223372036854775807 then ((octet_Sum.f k ((t182.extract 0 ((wrap64 ((wrap64 ((t182.size : Int) / 4)) * 4)) : Int).toNat) ++ (t181.extract 0 ((wrap64 ((wrap64 ((t181.size : Int) / 4)) * 4)) : Int).toNat))).bind fun t187 => (if t186 = t187 then ((fleuronlaw01_few.f a1).bind fun t188 => (if t188.size + ((⟨#[0, 0, 0, 0, 0, 0, 0, 0]⟩ : ByteArray).extract 0 ((Int.tmod a2 9) : Int).toNat).size ≤ 9223372036854775807 then ((octet_Sum.f k (t188 ++ ((⟨#[0, 0, 0, 0, 0, 0, 0, 0]⟩ : ByteArray).extract 0 ((Int.tmod a2 9) : Int).toNat))).bind fun t189 => ((fleuronlaw01_few.f a1).bind fun t190 => ((octet_Sum.f k t190).bind fun t191 => (if t189 = t191 then ((octet_Sum.f k (⟨#[]⟩ : ByteArray)).bind fun t192 => (some (t192 == 0))) else (some false))))) else (none))) else (some false))) else (none))) else (some false))))) else (none)) else (some false)) else (none)) else (none)) else (none)) else (none))) else (none)) else (none)))) = some r := h
  clear h
  replace H := Option.bind_eq_some_iff.mp H
  obtain ⟨t180, A40, H⟩ := H
  replace H : ((fleuronlaw01_few.f a0).bind fun t181 => (if 0 ≤ (wrap64 ((wrap64 ((t181.size : Int) / 4)) * 4)) then (if (wrap64 ((wrap64 ((t181.size : Int) / 4)) * 4)) ≤ (t181.size : Int) then ((fleuronlaw01_few.f a1).bind fun t182 => (if 0 ≤ (wrap64 ((wrap64 ((t182.size : Int) / 4)) * 4)) then (if (wrap64 ((wrap64 ((t182.size : Int) / 4)) * 4)) ≤ (t182.size : Int) then (if 0 ≤ (Int.tmod a2 9) then (if (Int.tmod a2 9) ≤ 8 then (if t180 = true then (if (t181.extract 0 ((wrap64 ((wrap64 ((t181.size : Int) / 4)) * 4)) : Int).toNat).size + (t182.extract 0 ((wrap64 ((wrap64 ((t182.size : Int) / 4)) * 4)) : Int).toNat).size ≤ 9223372036854775807 then ((octet_Sum.f k ((t181.extract 0 ((wrap64 ((wrap64 ((t181.size : Int) / 4)) * 4)) : Int).toNat) ++ (t182.extract 0 ((wrap64 ((wrap64 ((t182.size : Int) / 4)) * 4)) : Int).toNat))).bind fun t183 => ((octet_Sum.f k (t181.extract 0 ((wrap64 ((wrap64 ((t181.size : Int) / 4)) * 4)) : Int).toNat)).bind fun t184 => ((octet_Sum.f k (t182.extract 0 ((wrap64 ((wrap64 ((t182.size : Int) / 4)) * 4)) : Int).toNat)).bind fun t185 => (if t183 = ((t184 + t185) % 4294967296) then ((octet_Sum.f k ((t181.extract 0 ((wrap64 ((wrap64 ((t181.size : Int) / 4)) * 4)) : Int).toNat) ++ (t182.extract 0 ((wrap64 ((wrap64 ((t182.size : Int) / 4)) * 4)) : Int).toNat))).bind fun t186 => (if (t182.extract 0 ((wrap64 ((wrap64 ((t182.size : Int) / 4)) * 4)) : Int).toNat).size + (t181.extract 0 ((wrap64 ((wrap64 ((t181.size : Int) / 4)) * 4)) : Int).toNat).size ≤ 9223372036854775807 then ((octet_Sum.f k ((t182.extract 0 ((wrap64 ((wrap64 ((t182.size : Int) / 4)) * 4)) : Int).toNat) ++ (t181.extract 0 ((wrap64 ((wrap64 ((t181.size : Int) / 4)) * 4)) : Int).toNat))).bind fun t187 => (if t186 = t187 then ((fleuronlaw01_few.f a1).bind fun t188 => (if t188.size + ((⟨#[0, 0, 0, 0, 0, 0, 0, 0]⟩ : ByteArray).extract 0 ((Int.tmod a2 9) : Int).toNat).size ≤ 9223372036854775807 then ((octet_Sum.f k (t188 ++ ((⟨#[0, 0, 0, 0, 0, 0, 0, 0]⟩ : ByteArray).extract 0 ((Int.tmod a2 9) : Int).toNat))).bind fun t189 => ((fleuronlaw01_few.f a1).bind fun t190 => ((octet_Sum.f k t190).bind fun t191 => (if t189 = t191 then ((octet_Sum.f k (⟨#[]⟩ : ByteArray)).bind fun t192 => (some (t192 == 0))) else (some false))))) else (none))) else (some false))) else (none))) else (some false))))) else (none)) else (some false)) else (none)) else (none)) else (none)) else (none))) else (none)) else (none))) = some r := H
  have A4 := Aside0.mk A40
  clear A40
  replace H := Option.bind_eq_some_iff.mp H
  obtain ⟨t181, A50, H⟩ := H
  replace H : (if 0 ≤ (wrap64 ((wrap64 ((t181.size : Int) / 4)) * 4)) then (if (wrap64 ((wrap64 ((t181.size : Int) / 4)) * 4)) ≤ (t181.size : Int) then ((fleuronlaw01_few.f a1).bind fun t182 => (if 0 ≤ (wrap64 ((wrap64 ((t182.size : Int) / 4)) * 4)) then (if (wrap64 ((wrap64 ((t182.size : Int) / 4)) * 4)) ≤ (t182.size : Int) then (if 0 ≤ (Int.tmod a2 9) then (if (Int.tmod a2 9) ≤ 8 then (if t180 = true then (if (t181.extract 0 ((wrap64 ((wrap64 ((t181.size : Int) / 4)) * 4)) : Int).toNat).size + (t182.extract 0 ((wrap64 ((wrap64 ((t182.size : Int) / 4)) * 4)) : Int).toNat).size ≤ 9223372036854775807 then ((octet_Sum.f k ((t181.extract 0 ((wrap64 ((wrap64 ((t181.size : Int) / 4)) * 4)) : Int).toNat) ++ (t182.extract 0 ((wrap64 ((wrap64 ((t182.size : Int) / 4)) * 4)) : Int).toNat))).bind fun t183 => ((octet_Sum.f k (t181.extract 0 ((wrap64 ((wrap64 ((t181.size : Int) / 4)) * 4)) : Int).toNat)).bind fun t184 => ((octet_Sum.f k (t182.extract 0 ((wrap64 ((wrap64 ((t182.size : Int) / 4)) * 4)) : Int).toNat)).bind fun t185 => (if t183 = ((t184 + t185) % 4294967296) then ((octet_Sum.f k ((t181.extract 0 ((wrap64 ((wrap64 ((t181.size : Int) / 4)) * 4)) : Int).toNat) ++ (t182.extract 0 ((wrap64 ((wrap64 ((t182.size : Int) / 4)) * 4)) : Int).toNat))).bind fun t186 => (if (t182.extract 0 ((wrap64 ((wrap64 ((t182.size : Int) / 4)) * 4)) : Int).toNat).size + (t181.extract 0 ((wrap64 ((wrap64 ((t181.size : Int) / 4)) * 4)) : Int).toNat).size ≤ 9223372036854775807 then ((octet_Sum.f k ((t182.extract 0 ((wrap64 ((wrap64 ((t182.size : Int) / 4)) * 4)) : Int).toNat) ++ (t181.extract 0 ((wrap64 ((wrap64 ((t181.size : Int) / 4)) * 4)) : Int).toNat))).bind fun t187 => (if t186 = t187 then ((fleuronlaw01_few.f a1).bind fun t188 => (if t188.size + ((⟨#[0, 0, 0, 0, 0, 0, 0, 0]⟩ : ByteArray).extract 0 ((Int.tmod a2 9) : Int).toNat).size ≤ 9223372036854775807 then ((octet_Sum.f k (t188 ++ ((⟨#[0, 0, 0, 0, 0, 0, 0, 0]⟩ : ByteArray).extract 0 ((Int.tmod a2 9) : Int).toNat))).bind fun t189 => ((fleuronlaw01_few.f a1).bind fun t190 => ((octet_Sum.f k t190).bind fun t191 => (if t189 = t191 then ((octet_Sum.f k (⟨#[]⟩ : ByteArray)).bind fun t192 => (some (t192 == 0))) else (some false))))) else (none))) else (some false))) else (none))) else (some false))))) else (none)) else (some false)) else (none)) else (none)) else (none)) else (none))) else (none)) else (none)) = some r := H
  have A5 := Aside0.mk A50
  clear A50
  obtain ⟨ji6, hji6⟩ : ∃ j_ : Int, (wrap64 ((wrap64 ((t181.size : Int) / 4)) * 4)) = j_ := ⟨_, rfl⟩
  replace H : (if 0 ≤ (ji6) then (if (ji6) ≤ (t181.size : Int) then ((fleuronlaw01_few.f a1).bind fun t182 => (if 0 ≤ (wrap64 ((wrap64 ((t182.size : Int) / 4)) * 4)) then (if (wrap64 ((wrap64 ((t182.size : Int) / 4)) * 4)) ≤ (t182.size : Int) then (if 0 ≤ (Int.tmod a2 9) then (if (Int.tmod a2 9) ≤ 8 then (if t180 = true then (if (t181.extract 0 ((ji6) : Int).toNat).size + (t182.extract 0 ((wrap64 ((wrap64 ((t182.size : Int) / 4)) * 4)) : Int).toNat).size ≤ 9223372036854775807 then ((octet_Sum.f k ((t181.extract 0 ((ji6) : Int).toNat) ++ (t182.extract 0 ((wrap64 ((wrap64 ((t182.size : Int) / 4)) * 4)) : Int).toNat))).bind fun t183 => ((octet_Sum.f k (t181.extract 0 ((ji6) : Int).toNat)).bind fun t184 => ((octet_Sum.f k (t182.extract 0 ((wrap64 ((wrap64 ((t182.size : Int) / 4)) * 4)) : Int).toNat)).bind fun t185 => (if t183 = ((t184 + t185) % 4294967296) then ((octet_Sum.f k ((t181.extract 0 ((ji6) : Int).toNat) ++ (t182.extract 0 ((wrap64 ((wrap64 ((t182.size : Int) / 4)) * 4)) : Int).toNat))).bind fun t186 => (if (t182.extract 0 ((wrap64 ((wrap64 ((t182.size : Int) / 4)) * 4)) : Int).toNat).size + (t181.extract 0 ((ji6) : Int).toNat).size ≤ 9223372036854775807 then ((octet_Sum.f k ((t182.extract 0 ((wrap64 ((wrap64 ((t182.size : Int) / 4)) * 4)) : Int).toNat) ++ (t181.extract 0 ((ji6) : Int).toNat))).bind fun t187 => (if t186 = t187 then ((fleuronlaw01_few.f a1).bind fun t188 => (if t188.size + ((⟨#[0, 0, 0, 0, 0, 0, 0, 0]⟩ : ByteArray).extract 0 ((Int.tmod a2 9) : Int).toNat).size ≤ 9223372036854775807 then ((octet_Sum.f k (t188 ++ ((⟨#[0, 0, 0, 0, 0, 0, 0, 0]⟩ : ByteArray).extract 0 ((Int.tmod a2 9) : Int).toNat))).bind fun t189 => ((fleuronlaw01_few.f a1).bind fun t190 => ((octet_Sum.f k t190).bind fun t191 => (if t189 = t191 then ((octet_Sum.f k (⟨#[]⟩ : ByteArray)).bind fun t192 => (some (t192 == 0))) else (some false))))) else (none))) else (some false))) else (none))) else (some false))))) else (none)) else (some false)) else (none)) else (none)) else (none)) else (none))) else (none)) else (none)) = some r := by first | (rw [hji6] at H; exact H) | (simp only [hji6] at H ⊢; exact H)
  (try rw [hji6] at A4)
  (try rw [hji6] at A5)
  have hji6w : (IntKind.i64.wrap ((wrap64 ((t181.size : Int) / 4)) * 4)) = ji6 := (i64_w _).trans hji6
  by_cases c7 : 0 ≤ (ji6)
  · rw [if_pos c7] at H
    have c7b0 := eq_true c7
    have c7b1 : decide (0 ≤ (ji6)) = true := decide_eq_true c7
    clear c7
    by_cases c8 : (ji6) ≤ (t181.size : Int)
    · rw [if_pos c8] at H
      have c8b0 := eq_true c8
      have c8b1 : decide ((ji6) ≤ (t181.size : Int)) = true := decide_eq_true c8
      clear c8
      replace H := Option.bind_eq_some_iff.mp H
      obtain ⟨t182, A90, H⟩ := H
      replace H : (if 0 ≤ (wrap64 ((wrap64 ((t182.size : Int) / 4)) * 4)) then (if (wrap64 ((wrap64 ((t182.size : Int) / 4)) * 4)) ≤ (t182.size : Int) then (if 0 ≤ (Int.tmod a2 9) then (if (Int.tmod a2 9) ≤ 8 then (if t180 = true then (if (t181.extract 0 ((ji6) : Int).toNat).size + (t182.extract 0 ((wrap64 ((wrap64 ((t182.size : Int) / 4)) * 4)) : Int).toNat).size ≤ 9223372036854775807 then ((octet_Sum.f k ((t181.extract 0 ((ji6) : Int).toNat) ++ (t182.extract 0 ((wrap64 ((wrap64 ((t182.size : Int) / 4)) * 4)) : Int).toNat))).bind fun t183 => ((octet_Sum.f k (t181.extract 0 ((ji6) : Int).toNat)).bind fun t184 => ((octet_Sum.f k (t182.extract 0 ((wrap64 ((wrap64 ((t182.size : Int) / 4)) * 4)) : Int).toNat)).bind fun t185 => (if t183 = ((t184 + t185) % 4294967296) then ((octet_Sum.f k ((t181.extract 0 ((ji6) : Int).toNat) ++ (t182.extract 0 ((wrap64 ((wrap64 ((t182.size : Int) / 4)) * 4)) : Int).toNat))).bind fun t186 => (if (t182.extract 0 ((wrap64 ((wrap64 ((t182.size : Int) / 4)) * 4)) : Int).toNat).size + (t181.extract 0 ((ji6) : Int).toNat).size ≤ 9223372036854775807 then ((octet_Sum.f k ((t182.extract 0 ((wrap64 ((wrap64 ((t182.size : Int) / 4)) * 4)) : Int).toNat) ++ (t181.extract 0 ((ji6) : Int).toNat))).bind fun t187 => (if t186 = t187 then ((fleuronlaw01_few.f a1).bind fun t188 => (if t188.size + ((⟨#[0, 0, 0, 0, 0, 0, 0, 0]⟩ : ByteArray).extract 0 ((Int.tmod a2 9) : Int).toNat).size ≤ 9223372036854775807 then ((octet_Sum.f k (t188 ++ ((⟨#[0, 0, 0, 0, 0, 0, 0, 0]⟩ : ByteArray).extract 0 ((Int.tmod a2 9) : Int).toNat))).bind fun t189 => ((fleuronlaw01_few.f a1).bind fun t190 => ((octet_Sum.f k t190).bind fun t191 => (if t189 = t191 then ((octet_Sum.f k (⟨#[]⟩ : ByteArray)).bind fun t192 => (some (t192 == 0))) else (some false))))) else (none))) else (some false))) else (none))) else (some false))))) else (none)) else (some false)) else (none)) else (none)) else (none)) else (none)) = some r := H
      have A9 := Aside0.mk A90
      clear A90
      obtain ⟨ji10, hji10⟩ : ∃ j_ : Int, (wrap64 ((wrap64 ((t182.size : Int) / 4)) * 4)) = j_ := ⟨_, rfl⟩
      (try rw [hji10] at hji6)
      (try rw [hji10] at hji6w)
      replace H : (if 0 ≤ (ji10) then (if (ji10) ≤ (t182.size : Int) then (if 0 ≤ (Int.tmod a2 9) then (if (Int.tmod a2 9) ≤ 8 then (if t180 = true then (if (t181.extract 0 ((ji6) : Int).toNat).size + (t182.extract 0 ((ji10) : Int).toNat).size ≤ 9223372036854775807 then ((octet_Sum.f k ((t181.extract 0 ((ji6) : Int).toNat) ++ (t182.extract 0 ((ji10) : Int).toNat))).bind fun t183 => ((octet_Sum.f k (t181.extract 0 ((ji6) : Int).toNat)).bind fun t184 => ((octet_Sum.f k (t182.extract 0 ((ji10) : Int).toNat)).bind fun t185 => (if t183 = ((t184 + t185) % 4294967296) then ((octet_Sum.f k ((t181.extract 0 ((ji6) : Int).toNat) ++ (t182.extract 0 ((ji10) : Int).toNat))).bind fun t186 => (if (t182.extract 0 ((ji10) : Int).toNat).size + (t181.extract 0 ((ji6) : Int).toNat).size ≤ 9223372036854775807 then ((octet_Sum.f k ((t182.extract 0 ((ji10) : Int).toNat) ++ (t181.extract 0 ((ji6) : Int).toNat))).bind fun t187 => (if t186 = t187 then ((fleuronlaw01_few.f a1).bind fun t188 => (if t188.size + ((⟨#[0, 0, 0, 0, 0, 0, 0, 0]⟩ : ByteArray).extract 0 ((Int.tmod a2 9) : Int).toNat).size ≤ 9223372036854775807 then ((octet_Sum.f k (t188 ++ ((⟨#[0, 0, 0, 0, 0, 0, 0, 0]⟩ : ByteArray).extract 0 ((Int.tmod a2 9) : Int).toNat))).bind fun t189 => ((fleuronlaw01_few.f a1).bind fun t190 => ((octet_Sum.f k t190).bind fun t191 => (if t189 = t191 then ((octet_Sum.f k (⟨#[]⟩ : ByteArray)).bind fun t192 => (some (t192 == 0))) else (some false))))) else (none))) else (some false))) else (none))) else (some false))))) else (none)) else (some false)) else (none)) else (none)) else (none)) else (none)) = some r := by first | (rw [hji10] at H; exact H) | (simp only [hji10] at H ⊢; exact H)
      (try rw [hji10] at A4)
      (try rw [hji10] at A5)
      (try rw [hji10] at A9)
      have hji10w : (IntKind.i64.wrap ((wrap64 ((t182.size : Int) / 4)) * 4)) = ji10 := (i64_w _).trans hji10
      by_cases c11 : 0 ≤ (ji10)
      · rw [if_pos c11] at H
        have c11b0 := eq_true c11
        have c11b1 : decide (0 ≤ (ji10)) = true := decide_eq_true c11
        clear c11
        by_cases c12 : (ji10) ≤ (t182.size : Int)
        · rw [if_pos c12] at H
          have c12b0 := eq_true c12
          have c12b1 : decide ((ji10) ≤ (t182.size : Int)) = true := decide_eq_true c12
          clear c12
          obtain ⟨ji13, hji13⟩ : ∃ j_ : Int, (Int.tmod a2 9) = j_ := ⟨_, rfl⟩
          (try rw [hji13] at hji6)
          (try rw [hji13] at hji6w)
          (try rw [hji13] at hji10)
          (try rw [hji13] at hji10w)
          replace H : (if 0 ≤ (ji13) then (if (ji13) ≤ 8 then (if t180 = true then (if (t181.extract 0 ((ji6) : Int).toNat).size + (t182.extract 0 ((ji10) : Int).toNat).size ≤ 9223372036854775807 then ((octet_Sum.f k ((t181.extract 0 ((ji6) : Int).toNat) ++ (t182.extract 0 ((ji10) : Int).toNat))).bind fun t183 => ((octet_Sum.f k (t181.extract 0 ((ji6) : Int).toNat)).bind fun t184 => ((octet_Sum.f k (t182.extract 0 ((ji10) : Int).toNat)).bind fun t185 => (if t183 = ((t184 + t185) % 4294967296) then ((octet_Sum.f k ((t181.extract 0 ((ji6) : Int).toNat) ++ (t182.extract 0 ((ji10) : Int).toNat))).bind fun t186 => (if (t182.extract 0 ((ji10) : Int).toNat).size + (t181.extract 0 ((ji6) : Int).toNat).size ≤ 9223372036854775807 then ((octet_Sum.f k ((t182.extract 0 ((ji10) : Int).toNat) ++ (t181.extract 0 ((ji6) : Int).toNat))).bind fun t187 => (if t186 = t187 then ((fleuronlaw01_few.f a1).bind fun t188 => (if t188.size + ((⟨#[0, 0, 0, 0, 0, 0, 0, 0]⟩ : ByteArray).extract 0 ((ji13) : Int).toNat).size ≤ 9223372036854775807 then ((octet_Sum.f k (t188 ++ ((⟨#[0, 0, 0, 0, 0, 0, 0, 0]⟩ : ByteArray).extract 0 ((ji13) : Int).toNat))).bind fun t189 => ((fleuronlaw01_few.f a1).bind fun t190 => ((octet_Sum.f k t190).bind fun t191 => (if t189 = t191 then ((octet_Sum.f k (⟨#[]⟩ : ByteArray)).bind fun t192 => (some (t192 == 0))) else (some false))))) else (none))) else (some false))) else (none))) else (some false))))) else (none)) else (some false)) else (none)) else (none)) = some r := by first | (rw [hji13] at H; exact H) | (simp only [hji13] at H ⊢; exact H)
          (try rw [hji13] at A4)
          (try rw [hji13] at A5)
          (try rw [hji13] at A9)
          by_cases c14 : 0 ≤ (ji13)
          · rw [if_pos c14] at H
            have c14b0 := eq_true c14
            have c14b1 : decide (0 ≤ (ji13)) = true := decide_eq_true c14
            clear c14
            by_cases c15 : (ji13) ≤ 8
            · rw [if_pos c15] at H
              have c15b0 := eq_true c15
              have c15b1 : decide ((ji13) ≤ 8) = true := decide_eq_true c15
              clear c15
              by_cases c16 : t180 = true
              · subst c16
                have H1 : (if (t181.extract 0 ((ji6) : Int).toNat).size + (t182.extract 0 ((ji10) : Int).toNat).size ≤ 9223372036854775807 then ((octet_Sum.f k ((t181.extract 0 ((ji6) : Int).toNat) ++ (t182.extract 0 ((ji10) : Int).toNat))).bind fun t183 => ((octet_Sum.f k (t181.extract 0 ((ji6) : Int).toNat)).bind fun t184 => ((octet_Sum.f k (t182.extract 0 ((ji10) : Int).toNat)).bind fun t185 => (if t183 = ((t184 + t185) % 4294967296) then ((octet_Sum.f k ((t181.extract 0 ((ji6) : Int).toNat) ++ (t182.extract 0 ((ji10) : Int).toNat))).bind fun t186 => (if (t182.extract 0 ((ji10) : Int).toNat).size + (t181.extract 0 ((ji6) : Int).toNat).size ≤ 9223372036854775807 then ((octet_Sum.f k ((t182.extract 0 ((ji10) : Int).toNat) ++ (t181.extract 0 ((ji6) : Int).toNat))).bind fun t187 => (if t186 = t187 then ((fleuronlaw01_few.f a1).bind fun t188 => (if t188.size + ((⟨#[0, 0, 0, 0, 0, 0, 0, 0]⟩ : ByteArray).extract 0 ((ji13) : Int).toNat).size ≤ 9223372036854775807 then ((octet_Sum.f k (t188 ++ ((⟨#[0, 0, 0, 0, 0, 0, 0, 0]⟩ : ByteArray).extract 0 ((ji13) : Int).toNat))).bind fun t189 => ((fleuronlaw01_few.f a1).bind fun t190 => ((octet_Sum.f k t190).bind fun t191 => (if t189 = t191 then ((octet_Sum.f k (⟨#[]⟩ : ByteArray)).bind fun t192 => (some (t192 == 0))) else (some false))))) else (none))) else (some false))) else (none))) else (some false))))) else (none)) = some r := by rw [if_pos rfl] at H; exact H
                clear H
                have H := H1
                clear H1
                by_cases c17 : (t181.extract 0 ((ji6) : Int).toNat).size + (t182.extract 0 ((ji10) : Int).toNat).size ≤ 9223372036854775807
                · rw [if_pos c17] at H
                  have c17b0 := eq_true c17
                  have c17b1 : decide ((t181.extract 0 ((ji6) : Int).toNat).size + (t182.extract 0 ((ji10) : Int).toNat).size ≤ 9223372036854775807) = true := decide_eq_true c17
                  try have c17b2 : (9223372036854775807 < (t181.extract 0 ((ji6) : Int).toNat).size + (t182.extract 0 ((ji10) : Int).toNat).size) = False := eq_false (Nat.not_lt.2 c17)
                  replace H := Option.bind_eq_some_iff.mp H
                  obtain ⟨t183, A180, H⟩ := H
                  replace H : ((octet_Sum.f k (t181.extract 0 ((ji6) : Int).toNat)).bind fun t184 => ((octet_Sum.f k (t182.extract 0 ((ji10) : Int).toNat)).bind fun t185 => (if t183 = ((t184 + t185) % 4294967296) then ((octet_Sum.f k ((t181.extract 0 ((ji6) : Int).toNat) ++ (t182.extract 0 ((ji10) : Int).toNat))).bind fun t186 => (if (t182.extract 0 ((ji10) : Int).toNat).size + (t181.extract 0 ((ji6) : Int).toNat).size ≤ 9223372036854775807 then ((octet_Sum.f k ((t182.extract 0 ((ji10) : Int).toNat) ++ (t181.extract 0 ((ji6) : Int).toNat))).bind fun t187 => (if t186 = t187 then ((fleuronlaw01_few.f a1).bind fun t188 => (if t188.size + ((⟨#[0, 0, 0, 0, 0, 0, 0, 0]⟩ : ByteArray).extract 0 ((ji13) : Int).toNat).size ≤ 9223372036854775807 then ((octet_Sum.f k (t188 ++ ((⟨#[0, 0, 0, 0, 0, 0, 0, 0]⟩ : ByteArray).extract 0 ((ji13) : Int).toNat))).bind fun t189 => ((fleuronlaw01_few.f a1).bind fun t190 => ((octet_Sum.f k t190).bind fun t191 => (if t189 = t191 then ((octet_Sum.f k (⟨#[]⟩ : ByteArray)).bind fun t192 => (some (t192 == 0))) else (some false))))) else (none))) else (some false))) else (none))) else (some false)))) = some r := H
                  have A18 := Aside0.mk A180
                  clear A180
                  replace H := Option.bind_eq_some_iff.mp H
                  obtain ⟨t184, A190, H⟩ := H
                  replace H : ((octet_Sum.f k (t182.extract 0 ((ji10) : Int).toNat)).bind fun t185 => (if t183 = ((t184 + t185) % 4294967296) then ((octet_Sum.f k ((t181.extract 0 ((ji6) : Int).toNat) ++ (t182.extract 0 ((ji10) : Int).toNat))).bind fun t186 => (if (t182.extract 0 ((ji10) : Int).toNat).size + (t181.extract 0 ((ji6) : Int).toNat).size ≤ 9223372036854775807 then ((octet_Sum.f k ((t182.extract 0 ((ji10) : Int).toNat) ++ (t181.extract 0 ((ji6) : Int).toNat))).bind fun t187 => (if t186 = t187 then ((fleuronlaw01_few.f a1).bind fun t188 => (if t188.size + ((⟨#[0, 0, 0, 0, 0, 0, 0, 0]⟩ : ByteArray).extract 0 ((ji13) : Int).toNat).size ≤ 9223372036854775807 then ((octet_Sum.f k (t188 ++ ((⟨#[0, 0, 0, 0, 0, 0, 0, 0]⟩ : ByteArray).extract 0 ((ji13) : Int).toNat))).bind fun t189 => ((fleuronlaw01_few.f a1).bind fun t190 => ((octet_Sum.f k t190).bind fun t191 => (if t189 = t191 then ((octet_Sum.f k (⟨#[]⟩ : ByteArray)).bind fun t192 => (some (t192 == 0))) else (some false))))) else (none))) else (some false))) else (none))) else (some false))) = some r := H
                  have A19 := Aside0.mk A190
                  clear A190
                  replace H := Option.bind_eq_some_iff.mp H
                  obtain ⟨t185, A200, H⟩ := H
                  replace H : (if t183 = ((t184 + t185) % 4294967296) then ((octet_Sum.f k ((t181.extract 0 ((ji6) : Int).toNat) ++ (t182.extract 0 ((ji10) : Int).toNat))).bind fun t186 => (if (t182.extract 0 ((ji10) : Int).toNat).size + (t181.extract 0 ((ji6) : Int).toNat).size ≤ 9223372036854775807 then ((octet_Sum.f k ((t182.extract 0 ((ji10) : Int).toNat) ++ (t181.extract 0 ((ji6) : Int).toNat))).bind fun t187 => (if t186 = t187 then ((fleuronlaw01_few.f a1).bind fun t188 => (if t188.size + ((⟨#[0, 0, 0, 0, 0, 0, 0, 0]⟩ : ByteArray).extract 0 ((ji13) : Int).toNat).size ≤ 9223372036854775807 then ((octet_Sum.f k (t188 ++ ((⟨#[0, 0, 0, 0, 0, 0, 0, 0]⟩ : ByteArray).extract 0 ((ji13) : Int).toNat))).bind fun t189 => ((fleuronlaw01_few.f a1).bind fun t190 => ((octet_Sum.f k t190).bind fun t191 => (if t189 = t191 then ((octet_Sum.f k (⟨#[]⟩ : ByteArray)).bind fun t192 => (some (t192 == 0))) else (some false))))) else (none))) else (some false))) else (none))) else (some false)) = some r := H
                  have A20 := Aside0.mk A200
                  clear A200
                  by_cases c21 : t183 = ((t184 + t185) % 4294967296)
                  · rw [if_pos c21] at H
                    have c21b0 : (t183 == ((t184 + t185) % 4294967296)) = true := beq_iff_eq.mpr c21
                    have c21b1 : (t183 != ((t184 + t185) % 4294967296)) = false := bne_eq_false_iff_eq.mpr c21
                    clear c21
                    replace H := Option.bind_eq_some_iff.mp H
                    obtain ⟨t186, A220, H⟩ := H
                    obtain rfl : t183 = t186 := Option.some.inj (A18.out.symm.trans A220)
                    replace H : (if (t182.extract 0 ((ji10) : Int).toNat).size + (t181.extract 0 ((ji6) : Int).toNat).size ≤ 9223372036854775807 then ((octet_Sum.f k ((t182.extract 0 ((ji10) : Int).toNat) ++ (t181.extract 0 ((ji6) : Int).toNat))).bind fun t187 => (if t183 = t187 then ((fleuronlaw01_few.f a1).bind fun t188 => (if t188.size + ((⟨#[0, 0, 0, 0, 0, 0, 0, 0]⟩ : ByteArray).extract 0 ((ji13) : Int).toNat).size ≤ 9223372036854775807 then ((octet_Sum.f k (t188 ++ ((⟨#[0, 0, 0, 0, 0, 0, 0, 0]⟩ : ByteArray).extract 0 ((ji13) : Int).toNat))).bind fun t189 => ((fleuronlaw01_few.f a1).bind fun t190 => ((octet_Sum.f k t190).bind fun t191 => (if t189 = t191 then ((octet_Sum.f k (⟨#[]⟩ : ByteArray)).bind fun t192 => (some (t192 == 0))) else (some false))))) else (none))) else (some false))) else (none)) = some r := H
                    clear A220
                    by_cases c23 : (t182.extract 0 ((ji10) : Int).toNat).size + (t181.extract 0 ((ji6) : Int).toNat).size ≤ 9223372036854775807
                    · rw [if_pos c23] at H
                      have c23b0 := eq_true c23
                      have c23b1 : decide ((t182.extract 0 ((ji10) : Int).toNat).size + (t181.extract 0 ((ji6) : Int).toNat).size ≤ 9223372036854775807) = true := decide_eq_true c23
                      try have c23b2 : (9223372036854775807 < (t182.extract 0 ((ji10) : Int).toNat).size + (t181.extract 0 ((ji6) : Int).toNat).size) = False := eq_false (Nat.not_lt.2 c23)
                      replace H := Option.bind_eq_some_iff.mp H
                      obtain ⟨t187, A240, H⟩ := H
                      replace H : (if t183 = t187 then ((fleuronlaw01_few.f a1).bind fun t188 => (if t188.size + ((⟨#[0, 0, 0, 0, 0, 0, 0, 0]⟩ : ByteArray).extract 0 ((ji13) : Int).toNat).size ≤ 9223372036854775807 then ((octet_Sum.f k (t188 ++ ((⟨#[0, 0, 0, 0, 0, 0, 0, 0]⟩ : ByteArray).extract 0 ((ji13) : Int).toNat))).bind fun t189 => ((fleuronlaw01_few.f a1).bind fun t190 => ((octet_Sum.f k t190).bind fun t191 => (if t189 = t191 then ((octet_Sum.f k (⟨#[]⟩ : ByteArray)).bind fun t192 => (some (t192 == 0))) else (some false))))) else (none))) else (some false)) = some r := H
                      have A24 := Aside0.mk A240
                      clear A240
                      by_cases c25 : t183 = t187
                      · rw [if_pos c25] at H
                        have c25b0 : (t183 == t187) = true := beq_iff_eq.mpr c25
                        have c25b1 : (t183 != t187) = false := bne_eq_false_iff_eq.mpr c25
                        clear c25
                        replace H := Option.bind_eq_some_iff.mp H
                        obtain ⟨t188, A260, H⟩ := H
                        replace H : (if t188.size + ((⟨#[0, 0, 0, 0, 0, 0, 0, 0]⟩ : ByteArray).extract 0 ((ji13) : Int).toNat).size ≤ 9223372036854775807 then ((octet_Sum.f k (t188 ++ ((⟨#[0, 0, 0, 0, 0, 0, 0, 0]⟩ : ByteArray).extract 0 ((ji13) : Int).toNat))).bind fun t189 => ((fleuronlaw01_few.f a1).bind fun t190 => ((octet_Sum.f k t190).bind fun t191 => (if t189 = t191 then ((octet_Sum.f k (⟨#[]⟩ : ByteArray)).bind fun t192 => (some (t192 == 0))) else (some false))))) else (none)) = some r := H
                        have A26 := Aside0.mk A260
                        clear A260
                        by_cases c27 : t188.size + ((⟨#[0, 0, 0, 0, 0, 0, 0, 0]⟩ : ByteArray).extract 0 ((ji13) : Int).toNat).size ≤ 9223372036854775807
                        · rw [if_pos c27] at H
                          have c27b0 := eq_true c27
                          have c27b1 : decide (t188.size + ((⟨#[0, 0, 0, 0, 0, 0, 0, 0]⟩ : ByteArray).extract 0 ((ji13) : Int).toNat).size ≤ 9223372036854775807) = true := decide_eq_true c27
                          try have c27b2 : (9223372036854775807 < t188.size + ((⟨#[0, 0, 0, 0, 0, 0, 0, 0]⟩ : ByteArray).extract 0 ((ji13) : Int).toNat).size) = False := eq_false (Nat.not_lt.2 c27)
                          replace H := Option.bind_eq_some_iff.mp H
                          obtain ⟨t189, A280, H⟩ := H
                          replace H : ((fleuronlaw01_few.f a1).bind fun t190 => ((octet_Sum.f k t190).bind fun t191 => (if t189 = t191 then ((octet_Sum.f k (⟨#[]⟩ : ByteArray)).bind fun t192 => (some (t192 == 0))) else (some false)))) = some r := H
                          have A28 := Aside0.mk A280
                          clear A280
                          replace H := Option.bind_eq_some_iff.mp H
                          obtain ⟨t190, A290, H⟩ := H
                          obtain rfl : t188 = t190 := Option.some.inj (A26.out.symm.trans A290)
                          replace H : ((octet_Sum.f k t188).bind fun t191 => (if t189 = t191 then ((octet_Sum.f k (⟨#[]⟩ : ByteArray)).bind fun t192 => (some (t192 == 0))) else (some false))) = some r := H
                          clear A290
                          replace H := Option.bind_eq_some_iff.mp H
                          obtain ⟨t191, A300, H⟩ := H
                          replace H : (if t189 = t191 then ((octet_Sum.f k (⟨#[]⟩ : ByteArray)).bind fun t192 => (some (t192 == 0))) else (some false)) = some r := H
                          have A30 := Aside0.mk A300
                          clear A300
                          by_cases c31 : t189 = t191
                          · rw [if_pos c31] at H
                            have c31b0 : (t189 == t191) = true := beq_iff_eq.mpr c31
                            have c31b1 : (t189 != t191) = false := bne_eq_false_iff_eq.mpr c31
                            clear c31
                            replace H := Option.bind_eq_some_iff.mp H
                            obtain ⟨t192, A320, H⟩ := H
                            replace H : (some (t192 == 0)) = some r := H
                            have A32 := Aside0.mk A320
                            clear A320
                            obtain rfl := Option.some.inj H
                            go_enter Try.func4, Try.ntmps4
                            go_wp2_with (first | ((with_reducible refine gate_callee (f := 12) rfl ?_); refine goesL_ (some 11) rfl rfl Try.func12 (by kernel_rfl) rfl #[] rfl (by (try simp only [List.map_toArray, List.map_cons, List.map_nil]); first | done | rfl | (simp only [List.length_drop, List.length_take]; rfl)) ?_; (with_reducible refine (fleuronlaw01_shown.calls k  true _ A4.out).mono ?_); rintro e w33 ⟨rfl, hb⟩; refine ⟨_, rfl, ?_⟩; have n0_ := Aside0.mk (below_step (by repeat (first | (with_reducible first | exact HB.out | apply below_alloc | apply pw_below_drewN | apply below_drew1) | exact HB.out)) hb); clear HB; have HB := n0_; clear n0_; (try clear hb); (try clear hb2); (try clear hk); (try clear hi)) | ((with_reducible refine gate_callee (f := 18) rfl ?_); refine goesL_ (some 13) rfl rfl Try.func18 (by kernel_rfl) rfl #[.string a0] rfl (by (try simp only [List.map_toArray, List.map_cons, List.map_nil]); first | done | rfl | (simp only [List.length_drop, List.length_take]; rfl)) ?_; (with_reducible refine (fleuronlaw01_few.calls a0 t181 _ A5.out).mono ?_); rintro e w34 ⟨rfl, hb⟩; refine ⟨_, rfl, ?_⟩; have n0_ := Aside0.mk (below_step (by repeat (first | (with_reducible first | exact HB.out | apply below_alloc | apply pw_below_drewN | apply below_drew1) | exact HB.out)) hb); clear HB; have HB := n0_; clear n0_; (try clear hb); (try clear hb2); (try clear hk); (try clear hi)) | ((with_reducible refine gate_callee (f := 18) rfl ?_); refine goesL_ (some 21) rfl rfl Try.func18 (by kernel_rfl) rfl #[.string a1] rfl (by (try simp only [List.map_toArray, List.map_cons, List.map_nil]); first | done | rfl | (simp only [List.length_drop, List.length_take]; rfl)) ?_; (with_reducible refine (fleuronlaw01_few.calls a1 t182 _ A9.out).mono ?_); rintro e w35 ⟨rfl, hb⟩; refine ⟨_, rfl, ?_⟩; have n0_ := Aside0.mk (below_step (by repeat (first | (with_reducible first | exact HB.out | apply below_alloc | apply pw_below_drewN | apply below_drew1) | exact HB.out)) hb); clear HB; have HB := n0_; clear n0_; (try clear hb); (try clear hb2); (try clear hk); (try clear hi)) | (go_at_call 19; (with_reducible refine (octet_Sum.calls k ((t181.extract 0 ((ji6) : Int).toNat) ++ (t182.extract 0 ((ji10) : Int).toNat)) t183 _ A18.out).mono ?_); rintro e w36 ⟨rfl, hb⟩; have n0_ := Aside0.mk (below_step (by repeat (first | (with_reducible first | exact HB.out | apply below_alloc | apply pw_below_drewN | apply below_drew1) | exact HB.out)) hb); clear HB; have HB := n0_; clear n0_; (try clear hb); (try clear hb2); (try clear hk); (try clear hi)) | (go_at_call 19; (with_reducible refine (octet_Sum.calls k (t181.extract 0 ((ji6) : Int).toNat) t184 _ A19.out).mono ?_); rintro e w37 ⟨rfl, hb⟩; have n0_ := Aside0.mk (below_step (by repeat (first | (with_reducible first | exact HB.out | apply below_alloc | apply pw_below_drewN | apply below_drew1) | exact HB.out)) hb); clear HB; have HB := n0_; clear n0_; (try clear hb); (try clear hb2); (try clear hk); (try clear hi)) | (go_at_call 19; (with_reducible refine (octet_Sum.calls k (t182.extract 0 ((ji10) : Int).toNat) t185 _ A20.out).mono ?_); rintro e w38 ⟨rfl, hb⟩; have n0_ := Aside0.mk (below_step (by repeat (first | (with_reducible first | exact HB.out | apply below_alloc | apply pw_below_drewN | apply below_drew1) | exact HB.out)) hb); clear HB; have HB := n0_; clear n0_; (try clear hb); (try clear hb2); (try clear hk); (try clear hi)) | (go_at_call 19; (with_reducible refine (octet_Sum.calls k ((t181.extract 0 ((ji6) : Int).toNat) ++ (t182.extract 0 ((ji10) : Int).toNat)) t183 _ A18.out).mono ?_); rintro e w39 ⟨rfl, hb⟩; have n0_ := Aside0.mk (below_step (by repeat (first | (with_reducible first | exact HB.out | apply below_alloc | apply pw_below_drewN | apply below_drew1) | exact HB.out)) hb); clear HB; have HB := n0_; clear n0_; (try clear hb); (try clear hb2); (try clear hk); (try clear hi)) | (go_at_call 19; (with_reducible refine (octet_Sum.calls k ((t182.extract 0 ((ji10) : Int).toNat) ++ (t181.extract 0 ((ji6) : Int).toNat)) t187 _ A24.out).mono ?_); rintro e w40 ⟨rfl, hb⟩; have n0_ := Aside0.mk (below_step (by repeat (first | (with_reducible first | exact HB.out | apply below_alloc | apply pw_below_drewN | apply below_drew1) | exact HB.out)) hb); clear HB; have HB := n0_; clear n0_; (try clear hb); (try clear hb2); (try clear hk); (try clear hi)) | (go_at_call 18; (with_reducible refine (fleuronlaw01_few.calls a1 t188 _ A26.out).mono ?_); rintro e w41 ⟨rfl, hb⟩; have n0_ := Aside0.mk (below_step (by repeat (first | (with_reducible first | exact HB.out | apply below_alloc | apply pw_below_drewN | apply below_drew1) | exact HB.out)) hb); clear HB; have HB := n0_; clear n0_; (try clear hb); (try clear hb2); (try clear hk); (try clear hi)) | (go_at_call 19; (with_reducible refine (octet_Sum.calls k (t188 ++ ((⟨#[0, 0, 0, 0, 0, 0, 0, 0]⟩ : ByteArray).extract 0 ((ji13) : Int).toNat)) t189 _ A28.out).mono ?_); rintro e w42 ⟨rfl, hb⟩; have n0_ := Aside0.mk (below_step (by repeat (first | (with_reducible first | exact HB.out | apply below_alloc | apply pw_below_drewN | apply below_drew1) | exact HB.out)) hb); clear HB; have HB := n0_; clear n0_; (try clear hb); (try clear hb2); (try clear hk); (try clear hi)) | (go_at_call 18; (with_reducible refine (fleuronlaw01_few.calls a1 t188 _ A26.out).mono ?_); rintro e w43 ⟨rfl, hb⟩; have n0_ := Aside0.mk (below_step (by repeat (first | (with_reducible first | exact HB.out | apply below_alloc | apply pw_below_drewN | apply below_drew1) | exact HB.out)) hb); clear HB; have HB := n0_; clear n0_; (try clear hb); (try clear hb2); (try clear hk); (try clear hi)) | (go_at_call 19; (with_reducible refine (octet_Sum.calls k t188 t191 _ A30.out).mono ?_); rintro e w44 ⟨rfl, hb⟩; have n0_ := Aside0.mk (below_step (by repeat (first | (with_reducible first | exact HB.out | apply below_alloc | apply pw_below_drewN | apply below_drew1) | exact HB.out)) hb); clear HB; have HB := n0_; clear n0_; (try clear hb); (try clear hb2); (try clear hk); (try clear hi)) | (go_at_call 19; (with_reducible refine (octet_Sum.calls k (⟨#[]⟩ : ByteArray) t192 _ A32.out).mono ?_); rintro e w45 ⟨rfl, hb⟩; have n0_ := Aside0.mk (below_step (by repeat (first | (with_reducible first | exact HB.out | apply below_alloc | apply pw_below_drewN | apply below_drew1) | exact HB.out)) hb); clear HB; have HB := n0_; clear n0_; (try clear hb); (try clear hb2); (try clear hk); (try clear hi)))
                            go_ret
                            exact ⟨by first | rfl | (simp [errW_none, errW_some] <;> rfl) | (simp only [← hji6, ← hji10, ← hji13]; first | rfl | (simp [errW_none, errW_some] <;> rfl)) | (simp [*, errW_none, errW_some] <;> rfl), by repeat (first | (with_reducible first | exact HB.out | apply below_alloc | apply pw_below_drewN | apply below_drew1) | exact HB.out)⟩
                          · rw [if_neg c31] at H
                            have c31b0 : (t189 == t191) = false := beq_eq_false_iff_ne.mpr c31
                            have c31b1 : (t189 != t191) = true := bne_iff_ne.mpr c31
                            obtain rfl := Option.some.inj H
                            go_enter Try.func4, Try.ntmps4
                            go_wp2_with (first | ((with_reducible refine gate_callee (f := 12) rfl ?_); refine goesL_ (some 11) rfl rfl Try.func12 (by kernel_rfl) rfl #[] rfl (by (try simp only [List.map_toArray, List.map_cons, List.map_nil]); first | done | rfl | (simp only [List.length_drop, List.length_take]; rfl)) ?_; (with_reducible refine (fleuronlaw01_shown.calls k  true _ A4.out).mono ?_); rintro e w46 ⟨rfl, hb⟩; refine ⟨_, rfl, ?_⟩; have n0_ := Aside0.mk (below_step (by repeat (first | (with_reducible first | exact HB.out | apply below_alloc | apply pw_below_drewN | apply below_drew1) | exact HB.out)) hb); clear HB; have HB := n0_; clear n0_; (try clear hb); (try clear hb2); (try clear hk); (try clear hi)) | ((with_reducible refine gate_callee (f := 18) rfl ?_); refine goesL_ (some 13) rfl rfl Try.func18 (by kernel_rfl) rfl #[.string a0] rfl (by (try simp only [List.map_toArray, List.map_cons, List.map_nil]); first | done | rfl | (simp only [List.length_drop, List.length_take]; rfl)) ?_; (with_reducible refine (fleuronlaw01_few.calls a0 t181 _ A5.out).mono ?_); rintro e w47 ⟨rfl, hb⟩; refine ⟨_, rfl, ?_⟩; have n0_ := Aside0.mk (below_step (by repeat (first | (with_reducible first | exact HB.out | apply below_alloc | apply pw_below_drewN | apply below_drew1) | exact HB.out)) hb); clear HB; have HB := n0_; clear n0_; (try clear hb); (try clear hb2); (try clear hk); (try clear hi)) | ((with_reducible refine gate_callee (f := 18) rfl ?_); refine goesL_ (some 21) rfl rfl Try.func18 (by kernel_rfl) rfl #[.string a1] rfl (by (try simp only [List.map_toArray, List.map_cons, List.map_nil]); first | done | rfl | (simp only [List.length_drop, List.length_take]; rfl)) ?_; (with_reducible refine (fleuronlaw01_few.calls a1 t182 _ A9.out).mono ?_); rintro e w48 ⟨rfl, hb⟩; refine ⟨_, rfl, ?_⟩; have n0_ := Aside0.mk (below_step (by repeat (first | (with_reducible first | exact HB.out | apply below_alloc | apply pw_below_drewN | apply below_drew1) | exact HB.out)) hb); clear HB; have HB := n0_; clear n0_; (try clear hb); (try clear hb2); (try clear hk); (try clear hi)) | (go_at_call 19; (with_reducible refine (octet_Sum.calls k ((t181.extract 0 ((ji6) : Int).toNat) ++ (t182.extract 0 ((ji10) : Int).toNat)) t183 _ A18.out).mono ?_); rintro e w49 ⟨rfl, hb⟩; have n0_ := Aside0.mk (below_step (by repeat (first | (with_reducible first | exact HB.out | apply below_alloc | apply pw_below_drewN | apply below_drew1) | exact HB.out)) hb); clear HB; have HB := n0_; clear n0_; (try clear hb); (try clear hb2); (try clear hk); (try clear hi)) | (go_at_call 19; (with_reducible refine (octet_Sum.calls k (t181.extract 0 ((ji6) : Int).toNat) t184 _ A19.out).mono ?_); rintro e w50 ⟨rfl, hb⟩; have n0_ := Aside0.mk (below_step (by repeat (first | (with_reducible first | exact HB.out | apply below_alloc | apply pw_below_drewN | apply below_drew1) | exact HB.out)) hb); clear HB; have HB := n0_; clear n0_; (try clear hb); (try clear hb2); (try clear hk); (try clear hi)) | (go_at_call 19; (with_reducible refine (octet_Sum.calls k (t182.extract 0 ((ji10) : Int).toNat) t185 _ A20.out).mono ?_); rintro e w51 ⟨rfl, hb⟩; have n0_ := Aside0.mk (below_step (by repeat (first | (with_reducible first | exact HB.out | apply below_alloc | apply pw_below_drewN | apply below_drew1) | exact HB.out)) hb); clear HB; have HB := n0_; clear n0_; (try clear hb); (try clear hb2); (try clear hk); (try clear hi)) | (go_at_call 19; (with_reducible refine (octet_Sum.calls k ((t181.extract 0 ((ji6) : Int).toNat) ++ (t182.extract 0 ((ji10) : Int).toNat)) t183 _ A18.out).mono ?_); rintro e w52 ⟨rfl, hb⟩; have n0_ := Aside0.mk (below_step (by repeat (first | (with_reducible first | exact HB.out | apply below_alloc | apply pw_below_drewN | apply below_drew1) | exact HB.out)) hb); clear HB; have HB := n0_; clear n0_; (try clear hb); (try clear hb2); (try clear hk); (try clear hi)) | (go_at_call 19; (with_reducible refine (octet_Sum.calls k ((t182.extract 0 ((ji10) : Int).toNat) ++ (t181.extract 0 ((ji6) : Int).toNat)) t187 _ A24.out).mono ?_); rintro e w53 ⟨rfl, hb⟩; have n0_ := Aside0.mk (below_step (by repeat (first | (with_reducible first | exact HB.out | apply below_alloc | apply pw_below_drewN | apply below_drew1) | exact HB.out)) hb); clear HB; have HB := n0_; clear n0_; (try clear hb); (try clear hb2); (try clear hk); (try clear hi)) | (go_at_call 18; (with_reducible refine (fleuronlaw01_few.calls a1 t188 _ A26.out).mono ?_); rintro e w54 ⟨rfl, hb⟩; have n0_ := Aside0.mk (below_step (by repeat (first | (with_reducible first | exact HB.out | apply below_alloc | apply pw_below_drewN | apply below_drew1) | exact HB.out)) hb); clear HB; have HB := n0_; clear n0_; (try clear hb); (try clear hb2); (try clear hk); (try clear hi)) | (go_at_call 19; (with_reducible refine (octet_Sum.calls k (t188 ++ ((⟨#[0, 0, 0, 0, 0, 0, 0, 0]⟩ : ByteArray).extract 0 ((ji13) : Int).toNat)) t189 _ A28.out).mono ?_); rintro e w55 ⟨rfl, hb⟩; have n0_ := Aside0.mk (below_step (by repeat (first | (with_reducible first | exact HB.out | apply below_alloc | apply pw_below_drewN | apply below_drew1) | exact HB.out)) hb); clear HB; have HB := n0_; clear n0_; (try clear hb); (try clear hb2); (try clear hk); (try clear hi)) | (go_at_call 18; (with_reducible refine (fleuronlaw01_few.calls a1 t188 _ A26.out).mono ?_); rintro e w56 ⟨rfl, hb⟩; have n0_ := Aside0.mk (below_step (by repeat (first | (with_reducible first | exact HB.out | apply below_alloc | apply pw_below_drewN | apply below_drew1) | exact HB.out)) hb); clear HB; have HB := n0_; clear n0_; (try clear hb); (try clear hb2); (try clear hk); (try clear hi)) | (go_at_call 19; (with_reducible refine (octet_Sum.calls k t188 t191 _ A30.out).mono ?_); rintro e w57 ⟨rfl, hb⟩; have n0_ := Aside0.mk (below_step (by repeat (first | (with_reducible first | exact HB.out | apply below_alloc | apply pw_below_drewN | apply below_drew1) | exact HB.out)) hb); clear HB; have HB := n0_; clear n0_; (try clear hb); (try clear hb2); (try clear hk); (try clear hi)))
                            go_ret
                            exact ⟨by first | rfl | (simp [errW_none, errW_some] <;> rfl) | (simp only [← hji6, ← hji10, ← hji13]; first | rfl | (simp [errW_none, errW_some] <;> rfl)) | (simp [*, errW_none, errW_some] <;> rfl), by repeat (first | (with_reducible first | exact HB.out | apply below_alloc | apply pw_below_drewN | apply below_drew1) | exact HB.out)⟩
                        · rw [if_neg c27] at H
                          exact absurd H (by simp)
                      · rw [if_neg c25] at H
                        have c25b0 : (t183 == t187) = false := beq_eq_false_iff_ne.mpr c25
                        have c25b1 : (t183 != t187) = true := bne_iff_ne.mpr c25
                        obtain rfl := Option.some.inj H
                        go_enter Try.func4, Try.ntmps4
                        go_wp2_with (first | ((with_reducible refine gate_callee (f := 12) rfl ?_); refine goesL_ (some 11) rfl rfl Try.func12 (by kernel_rfl) rfl #[] rfl (by (try simp only [List.map_toArray, List.map_cons, List.map_nil]); first | done | rfl | (simp only [List.length_drop, List.length_take]; rfl)) ?_; (with_reducible refine (fleuronlaw01_shown.calls k  true _ A4.out).mono ?_); rintro e w58 ⟨rfl, hb⟩; refine ⟨_, rfl, ?_⟩; have n0_ := Aside0.mk (below_step (by repeat (first | (with_reducible first | exact HB.out | apply below_alloc | apply pw_below_drewN | apply below_drew1) | exact HB.out)) hb); clear HB; have HB := n0_; clear n0_; (try clear hb); (try clear hb2); (try clear hk); (try clear hi)) | ((with_reducible refine gate_callee (f := 18) rfl ?_); refine goesL_ (some 13) rfl rfl Try.func18 (by kernel_rfl) rfl #[.string a0] rfl (by (try simp only [List.map_toArray, List.map_cons, List.map_nil]); first | done | rfl | (simp only [List.length_drop, List.length_take]; rfl)) ?_; (with_reducible refine (fleuronlaw01_few.calls a0 t181 _ A5.out).mono ?_); rintro e w59 ⟨rfl, hb⟩; refine ⟨_, rfl, ?_⟩; have n0_ := Aside0.mk (below_step (by repeat (first | (with_reducible first | exact HB.out | apply below_alloc | apply pw_below_drewN | apply below_drew1) | exact HB.out)) hb); clear HB; have HB := n0_; clear n0_; (try clear hb); (try clear hb2); (try clear hk); (try clear hi)) | ((with_reducible refine gate_callee (f := 18) rfl ?_); refine goesL_ (some 21) rfl rfl Try.func18 (by kernel_rfl) rfl #[.string a1] rfl (by (try simp only [List.map_toArray, List.map_cons, List.map_nil]); first | done | rfl | (simp only [List.length_drop, List.length_take]; rfl)) ?_; (with_reducible refine (fleuronlaw01_few.calls a1 t182 _ A9.out).mono ?_); rintro e w60 ⟨rfl, hb⟩; refine ⟨_, rfl, ?_⟩; have n0_ := Aside0.mk (below_step (by repeat (first | (with_reducible first | exact HB.out | apply below_alloc | apply pw_below_drewN | apply below_drew1) | exact HB.out)) hb); clear HB; have HB := n0_; clear n0_; (try clear hb); (try clear hb2); (try clear hk); (try clear hi)) | (go_at_call 19; (with_reducible refine (octet_Sum.calls k ((t181.extract 0 ((ji6) : Int).toNat) ++ (t182.extract 0 ((ji10) : Int).toNat)) t183 _ A18.out).mono ?_); rintro e w61 ⟨rfl, hb⟩; have n0_ := Aside0.mk (below_step (by repeat (first | (with_reducible first | exact HB.out | apply below_alloc | apply pw_below_drewN | apply below_drew1) | exact HB.out)) hb); clear HB; have HB := n0_; clear n0_; (try clear hb); (try clear hb2); (try clear hk); (try clear hi)) | (go_at_call 19; (with_reducible refine (octet_Sum.calls k (t181.extract 0 ((ji6) : Int).toNat) t184 _ A19.out).mono ?_); rintro e w62 ⟨rfl, hb⟩; have n0_ := Aside0.mk (below_step (by repeat (first | (with_reducible first | exact HB.out | apply below_alloc | apply pw_below_drewN | apply below_drew1) | exact HB.out)) hb); clear HB; have HB := n0_; clear n0_; (try clear hb); (try clear hb2); (try clear hk); (try clear hi)) | (go_at_call 19; (with_reducible refine (octet_Sum.calls k (t182.extract 0 ((ji10) : Int).toNat) t185 _ A20.out).mono ?_); rintro e w63 ⟨rfl, hb⟩; have n0_ := Aside0.mk (below_step (by repeat (first | (with_reducible first | exact HB.out | apply below_alloc | apply pw_below_drewN | apply below_drew1) | exact HB.out)) hb); clear HB; have HB := n0_; clear n0_; (try clear hb); (try clear hb2); (try clear hk); (try clear hi)) | (go_at_call 19; (with_reducible refine (octet_Sum.calls k ((t181.extract 0 ((ji6) : Int).toNat) ++ (t182.extract 0 ((ji10) : Int).toNat)) t183 _ A18.out).mono ?_); rintro e w64 ⟨rfl, hb⟩; have n0_ := Aside0.mk (below_step (by repeat (first | (with_reducible first | exact HB.out | apply below_alloc | apply pw_below_drewN | apply below_drew1) | exact HB.out)) hb); clear HB; have HB := n0_; clear n0_; (try clear hb); (try clear hb2); (try clear hk); (try clear hi)) | (go_at_call 19; (with_reducible refine (octet_Sum.calls k ((t182.extract 0 ((ji10) : Int).toNat) ++ (t181.extract 0 ((ji6) : Int).toNat)) t187 _ A24.out).mono ?_); rintro e w65 ⟨rfl, hb⟩; have n0_ := Aside0.mk (below_step (by repeat (first | (with_reducible first | exact HB.out | apply below_alloc | apply pw_below_drewN | apply below_drew1) | exact HB.out)) hb); clear HB; have HB := n0_; clear n0_; (try clear hb); (try clear hb2); (try clear hk); (try clear hi)))
                        go_ret
                        exact ⟨by first | rfl | (simp [errW_none, errW_some] <;> rfl) | (simp only [← hji6, ← hji10, ← hji13]; first | rfl | (simp [errW_none, errW_some] <;> rfl)) | (simp [*, errW_none, errW_some] <;> rfl), by repeat (first | (with_reducible first | exact HB.out | apply below_alloc | apply pw_below_drewN | apply below_drew1) | exact HB.out)⟩
                    · rw [if_neg c23] at H
                      exact absurd H (by simp)
                  · rw [if_neg c21] at H
                    have c21b0 : (t183 == ((t184 + t185) % 4294967296)) = false := beq_eq_false_iff_ne.mpr c21
                    have c21b1 : (t183 != ((t184 + t185) % 4294967296)) = true := bne_iff_ne.mpr c21
                    obtain rfl := Option.some.inj H
                    go_enter Try.func4, Try.ntmps4
                    go_wp2_with (first | ((with_reducible refine gate_callee (f := 12) rfl ?_); refine goesL_ (some 11) rfl rfl Try.func12 (by kernel_rfl) rfl #[] rfl (by (try simp only [List.map_toArray, List.map_cons, List.map_nil]); first | done | rfl | (simp only [List.length_drop, List.length_take]; rfl)) ?_; (with_reducible refine (fleuronlaw01_shown.calls k  true _ A4.out).mono ?_); rintro e w66 ⟨rfl, hb⟩; refine ⟨_, rfl, ?_⟩; have n0_ := Aside0.mk (below_step (by repeat (first | (with_reducible first | exact HB.out | apply below_alloc | apply pw_below_drewN | apply below_drew1) | exact HB.out)) hb); clear HB; have HB := n0_; clear n0_; (try clear hb); (try clear hb2); (try clear hk); (try clear hi)) | ((with_reducible refine gate_callee (f := 18) rfl ?_); refine goesL_ (some 13) rfl rfl Try.func18 (by kernel_rfl) rfl #[.string a0] rfl (by (try simp only [List.map_toArray, List.map_cons, List.map_nil]); first | done | rfl | (simp only [List.length_drop, List.length_take]; rfl)) ?_; (with_reducible refine (fleuronlaw01_few.calls a0 t181 _ A5.out).mono ?_); rintro e w67 ⟨rfl, hb⟩; refine ⟨_, rfl, ?_⟩; have n0_ := Aside0.mk (below_step (by repeat (first | (with_reducible first | exact HB.out | apply below_alloc | apply pw_below_drewN | apply below_drew1) | exact HB.out)) hb); clear HB; have HB := n0_; clear n0_; (try clear hb); (try clear hb2); (try clear hk); (try clear hi)) | ((with_reducible refine gate_callee (f := 18) rfl ?_); refine goesL_ (some 21) rfl rfl Try.func18 (by kernel_rfl) rfl #[.string a1] rfl (by (try simp only [List.map_toArray, List.map_cons, List.map_nil]); first | done | rfl | (simp only [List.length_drop, List.length_take]; rfl)) ?_; (with_reducible refine (fleuronlaw01_few.calls a1 t182 _ A9.out).mono ?_); rintro e w68 ⟨rfl, hb⟩; refine ⟨_, rfl, ?_⟩; have n0_ := Aside0.mk (below_step (by repeat (first | (with_reducible first | exact HB.out | apply below_alloc | apply pw_below_drewN | apply below_drew1) | exact HB.out)) hb); clear HB; have HB := n0_; clear n0_; (try clear hb); (try clear hb2); (try clear hk); (try clear hi)) | (go_at_call 19; (with_reducible refine (octet_Sum.calls k ((t181.extract 0 ((ji6) : Int).toNat) ++ (t182.extract 0 ((ji10) : Int).toNat)) t183 _ A18.out).mono ?_); rintro e w69 ⟨rfl, hb⟩; have n0_ := Aside0.mk (below_step (by repeat (first | (with_reducible first | exact HB.out | apply below_alloc | apply pw_below_drewN | apply below_drew1) | exact HB.out)) hb); clear HB; have HB := n0_; clear n0_; (try clear hb); (try clear hb2); (try clear hk); (try clear hi)) | (go_at_call 19; (with_reducible refine (octet_Sum.calls k (t181.extract 0 ((ji6) : Int).toNat) t184 _ A19.out).mono ?_); rintro e w70 ⟨rfl, hb⟩; have n0_ := Aside0.mk (below_step (by repeat (first | (with_reducible first | exact HB.out | apply below_alloc | apply pw_below_drewN | apply below_drew1) | exact HB.out)) hb); clear HB; have HB := n0_; clear n0_; (try clear hb); (try clear hb2); (try clear hk); (try clear hi)) | (go_at_call 19; (with_reducible refine (octet_Sum.calls k (t182.extract 0 ((ji10) : Int).toNat) t185 _ A20.out).mono ?_); rintro e w71 ⟨rfl, hb⟩; have n0_ := Aside0.mk (below_step (by repeat (first | (with_reducible first | exact HB.out | apply below_alloc | apply pw_below_drewN | apply below_drew1) | exact HB.out)) hb); clear HB; have HB := n0_; clear n0_; (try clear hb); (try clear hb2); (try clear hk); (try clear hi)))
                    go_ret
                    exact ⟨by first | rfl | (simp [errW_none, errW_some] <;> rfl) | (simp only [← hji6, ← hji10, ← hji13]; first | rfl | (simp [errW_none, errW_some] <;> rfl)) | (simp [*, errW_none, errW_some] <;> rfl), by repeat (first | (with_reducible first | exact HB.out | apply below_alloc | apply pw_below_drewN | apply below_drew1) | exact HB.out)⟩
                · rw [if_neg c17] at H
                  exact absurd H (by simp)
              · replace c16 := Bool.eq_false_iff.mpr c16
                subst c16
                have H1 : (some false) = some r := by rw [if_neg (show ¬ (false = true) by decide)] at H; exact H
                clear H
                have H := H1
                clear H1
                obtain rfl := Option.some.inj H
                go_enter Try.func4, Try.ntmps4
                go_wp2_with (first | ((with_reducible refine gate_callee (f := 12) rfl ?_); refine goesL_ (some 11) rfl rfl Try.func12 (by kernel_rfl) rfl #[] rfl (by (try simp only [List.map_toArray, List.map_cons, List.map_nil]); first | done | rfl | (simp only [List.length_drop, List.length_take]; rfl)) ?_; (with_reducible refine (fleuronlaw01_shown.calls k  false _ A4.out).mono ?_); rintro e w72 ⟨rfl, hb⟩; refine ⟨_, rfl, ?_⟩; have n0_ := Aside0.mk (below_step (by repeat (first | (with_reducible first | exact HB.out | apply below_alloc | apply pw_below_drewN | apply below_drew1) | exact HB.out)) hb); clear HB; have HB := n0_; clear n0_; (try clear hb); (try clear hb2); (try clear hk); (try clear hi)) | ((with_reducible refine gate_callee (f := 18) rfl ?_); refine goesL_ (some 13) rfl rfl Try.func18 (by kernel_rfl) rfl #[.string a0] rfl (by (try simp only [List.map_toArray, List.map_cons, List.map_nil]); first | done | rfl | (simp only [List.length_drop, List.length_take]; rfl)) ?_; (with_reducible refine (fleuronlaw01_few.calls a0 t181 _ A5.out).mono ?_); rintro e w73 ⟨rfl, hb⟩; refine ⟨_, rfl, ?_⟩; have n0_ := Aside0.mk (below_step (by repeat (first | (with_reducible first | exact HB.out | apply below_alloc | apply pw_below_drewN | apply below_drew1) | exact HB.out)) hb); clear HB; have HB := n0_; clear n0_; (try clear hb); (try clear hb2); (try clear hk); (try clear hi)) | ((with_reducible refine gate_callee (f := 18) rfl ?_); refine goesL_ (some 21) rfl rfl Try.func18 (by kernel_rfl) rfl #[.string a1] rfl (by (try simp only [List.map_toArray, List.map_cons, List.map_nil]); first | done | rfl | (simp only [List.length_drop, List.length_take]; rfl)) ?_; (with_reducible refine (fleuronlaw01_few.calls a1 t182 _ A9.out).mono ?_); rintro e w74 ⟨rfl, hb⟩; refine ⟨_, rfl, ?_⟩; have n0_ := Aside0.mk (below_step (by repeat (first | (with_reducible first | exact HB.out | apply below_alloc | apply pw_below_drewN | apply below_drew1) | exact HB.out)) hb); clear HB; have HB := n0_; clear n0_; (try clear hb); (try clear hb2); (try clear hk); (try clear hi)))
                go_ret
                exact ⟨by first | rfl | (simp [errW_none, errW_some] <;> rfl) | (simp only [← hji6, ← hji10, ← hji13]; first | rfl | (simp [errW_none, errW_some] <;> rfl)) | (simp [*, errW_none, errW_some] <;> rfl), by repeat (first | (with_reducible first | exact HB.out | apply below_alloc | apply pw_below_drewN | apply below_drew1) | exact HB.out)⟩
            · rw [if_neg c15] at H
              exact absurd H (by simp)
          · rw [if_neg c14] at H
            exact absurd H (by simp)
        · rw [if_neg c12] at H
          exact absurd H (by simp)
      · rw [if_neg c11] at H
        exact absurd H (by simp)
    · rw [if_neg c8] at H
      exact absurd H (by simp)
  · rw [if_neg c7] at H
    exact absurd H (by simp)

/-- THE ONE PURE STATEMENT of fleuronlaw01_OctetSums: yours. -/
def fleuronlaw01_OctetSums.Pure : Prop := ∀ (a0 : ByteArray) (a1 : ByteArray) (a2 : Int), a0.size ≤ 140737488351232 → a1.size ≤ 140737488351232 → (Lit.int .u8 a2).wf = true → ∃ k, fleuronlaw01_OctetSums.f k a0 a1 a2 = some true
theorem fleuronlaw01_OctetSums.walk (P : fleuronlaw01_OctetSums.Pure) (a0 : ByteArray) (a1 : ByteArray) (a2 : Int) (w : World) (w0 : a0.size ≤ 140737488351232) (w1 : a1.size ≤ 140737488351232) (w2 : (Lit.int .u8 a2).wf = true) :
    Calls Try.prog 4 #[.string a0, .string a1, .int .u8 a2] w fun e w' => e = .returned (.bool true) ∧ Below w.heap.size w w' := by
  obtain ⟨k, h⟩ := P a0 a1 a2 w0 w1 w2
  refine (fleuronlaw01_OctetSums.calls k a0 a1 a2 true w h).mono ?_
  rintro e w' ⟨rfl, hd⟩
  exact ⟨rfl, hd⟩

-- NOT PRINTED: function 5 (fleuronlaw01_OctetSees)

/-! ### fleuronref01_Put: function 20 -/
mutual
def fleuronref01_Put.j0 : Nat → Int → Int → Bool → Option (ByteArray)
  | 0, _, _, _ => none
  | k + 1, x0, x1, x12 => if x12 = true then (some (⟨#[]⟩ : ByteArray)) else (fleuronref01_Put.l0 k x0 (([] : List Int)) (wrap64 (x1 - 1)))
def fleuronref01_Put.l0 : Nat → Int → List Int → Int → Option (ByteArray)
  | 0, _, _, _ => none
  | k + 1, x0, x5, x6 => if x6 ≥ 0 then (if 0 ≤ (wrap64 (8 * x6)) then (if x5.length < 140737488355328 then (fleuronref01_Put.l0 k x0 (x5 ++ [(shr .u64 (IntKind.u64.wrap (x0)) (wrap64 (8 * x6))) % 256]) (wrap64 (x6 - 1))) else (none)) else (none)) else (some (strOfNums x5))
end
def fleuronref01_Put.f (k : Nat) (a0 : Int) (a1 : Int) : Option (ByteArray) := if a1 < 0 then (fleuronref01_Put.j0 k a0 a1 true) else (fleuronref01_Put.j0 k a0 a1 (decide (a1 > 8)))
theorem fleuronref01_Put.mono_l : ∀ k, (∀ y0 y1 y2, LeO (fleuronref01_Put.j0 k y0 y1 y2) (fleuronref01_Put.j0 (k + 1) y0 y1 y2)) ∧ (∀ y0 y1 y2, LeO (fleuronref01_Put.l0 k y0 y1 y2) (fleuronref01_Put.l0 (k + 1) y0 y1 y2))
  | 0 => ⟨fun _ _ _ r h => by simp [fleuronref01_Put.j0] at h, fun _ _ _ r h => by simp [fleuronref01_Put.l0] at h⟩
  | k + 1 => by
    obtain ⟨ih0, ih1⟩ := fleuronref01_Put.mono_l k
    refine ⟨?_, ?_⟩
    · intro y0 y1 y2
      unfold fleuronref01_Put.j0
      repeat' first
      | (with_reducible exact ih0 _ _ _)
      | (with_reducible exact ih1 _ _ _)
      | (with_reducible exact LeO.refl _)
      | (with_reducible exact LeO.none _)
      | (with_reducible refine LeO.ite ?_ ?_)
      | (with_reducible refine LeO.bind ?_ (fun _ => ?_))
      | exact ih0 _ _ _
      | exact ih1 _ _ _
      | exact LeO.none _
      | refine LeO.ite ?_ ?_
      | refine LeO.bind ?_ (fun _ => ?_)
    · intro y0 y1 y2
      unfold fleuronref01_Put.l0
      repeat' first
      | (with_reducible exact ih0 _ _ _)
      | (with_reducible exact ih1 _ _ _)
      | (with_reducible exact LeO.refl _)
      | (with_reducible exact LeO.none _)
      | (with_reducible refine LeO.ite ?_ ?_)
      | (with_reducible refine LeO.bind ?_ (fun _ => ?_))
      | exact ih0 _ _ _
      | exact ih1 _ _ _
      | exact LeO.none _
      | refine LeO.ite ?_ ?_
      | refine LeO.bind ?_ (fun _ => ?_)
theorem fleuronref01_Put.mono : ∀ a0 a1 k, LeO (fleuronref01_Put.f k a0 a1) (fleuronref01_Put.f (k + 1) a0 a1) := by
  intro a0 a1 k
  obtain ⟨ih0, ih1⟩ := fleuronref01_Put.mono_l k
  unfold fleuronref01_Put.f
  repeat' first
      | (with_reducible exact ih0 _ _ _)
      | (with_reducible exact ih1 _ _ _)
      | (with_reducible exact LeO.refl _)
      | (with_reducible exact LeO.none _)
      | (with_reducible refine LeO.ite ?_ ?_)
      | (with_reducible refine LeO.bind ?_ (fun _ => ?_))
      | exact ih0 _ _ _
      | exact ih1 _ _ _
      | exact LeO.none _
      | refine LeO.ite ?_ ?_
      | refine LeO.bind ?_ (fun _ => ?_)
set_option maxHeartbeats 8000000 in
set_option maxRecDepth 100000 in
theorem fleuronref01_Put.calls (k : Nat) (a0 : Int) (a1 : Int) (r : ByteArray) (w : World) (h : fleuronref01_Put.f k a0 a1 = some r) :
    Calls Try.prog 20 #[.int .i64 a0, .int .i64 a1] w fun e w' => e = .returned (.string r) ∧ Below w.heap.size w w' := by
  have HB := Aside0.mk (Below.refl w.heap.size w)
  have H : (if a1 < 0 then (fleuronref01_Put.j0 k a0 a1 true) else (fleuronref01_Put.j0 k a0 a1 (decide (a1 > 8)))) = some r := h
  clear h
  have HC3 := Aside0.mk H
  clear H
  go_enter Try.func20, Try.ntmps20
  go_upto_region 1 with (fail)
  go_cut [12] (fun v12 wc => ∃ (kq : Nat) (x12_2 : Bool), v12 = .bool x12_2 ∧ Aside0 (fleuronref01_Put.j0 kq a0 a1 x12_2 = some r) ∧ Aside0 (kq ≤ k) ∧ Aside0 (Below w.heap.size w wc))
  case first =>
    have H := HC3.out
    clear HC3
    by_cases c4 : a1 < 0
    · rw [if_pos c4] at H
      have c4b0 : decide (a1 < 0) = true := decide_eq_true c4
      clear c4
      (first | rw [c4b0] | (simp only [i64_w, i32_w]; rw [c4b0]) | skip)
      have H' := Aside0.mk H
      clear H
      go_wp2
      go_meet
      case rel => exact ⟨_, (true), (by first | rfl | (simp; done) | (simp [*]; done)), H', ⟨by first | omega | exact Nat.le_refl _⟩, ⟨by repeat (first | (with_reducible first | exact HB.out | apply below_alloc | apply pw_below_drewN | apply below_drew1) | exact HB.out)⟩⟩
    · rw [if_neg c4] at H
      have c4b0 : decide (a1 < 0) = false := decide_eq_false c4
      clear c4
      (first | rw [c4b0] | (simp only [i64_w, i32_w]; rw [c4b0]) | skip)
      have H' := Aside0.mk H
      clear H
      go_wp2
      go_meet
      case rel => exact ⟨_, (decide (a1 > 8)), (by first | rfl | (simp; done) | (simp [*]; done)), H', ⟨by first | omega | exact Nat.le_refl _⟩, ⟨by repeat (first | (with_reducible first | exact HB.out | apply below_alloc | apply pw_below_drewN | apply below_drew1) | exact HB.out)⟩⟩
  case rest =>
    clear HC3
    try clear c2
    try clear p2
    try clear c4
    try clear c4b0
    obtain ⟨kq, x12_2, rfl, HA, HJ2, HB⟩ := hcut
    cases kq with
    | zero => exact absurd HA.out (by simp [fleuronref01_Put.j0])
    | succ kj2 =>
      have H := HA.out
      clear HA
      simp only [fleuronref01_Put.j0] at H
      by_cases c5 : x12_2 = true
      · subst c5
        have H1 : (some (⟨#[]⟩ : ByteArray)) = some r := by rw [if_pos rfl] at H; exact H
        clear H
        have H := H1
        clear H1
        obtain rfl := Option.some.inj H
        go_wp2
        go_ret
        exact ⟨by first | rfl | (simp [errW_none, errW_some] <;> rfl) | (simp [*, errW_none, errW_some] <;> rfl), by repeat (first | (with_reducible first | exact HB.out | apply below_alloc | apply pw_below_drewN | apply below_drew1) | exact HB.out)⟩
      · replace c5 := Bool.eq_false_iff.mpr c5
        subst c5
        have H1 : (fleuronref01_Put.l0 kj2 a0 (([] : List Int)) (wrap64 (a1 - 1))) = some r := by rw [if_neg (show ¬ (false = true) by decide)] at H; exact H
        clear H
        have H := H1
        clear H1
        obtain ⟨y195, hy195⟩ : ∃ y_ : List Int, y_ = (([] : List Int)) := ⟨_, rfl⟩
        replace H : (fleuronref01_Put.l0 kj2 a0 y195 (wrap64 (a1 - 1))) = some r := by first | (rw [hy195]; with_reducible exact H) | (have H2_ := (Option.bind_some _ _).symm.trans H; rw [hy195]; with_reducible exact H2_) | (have H2_ := (Option.bind_some _ _).symm.trans H; with_reducible exact H2_) | with_reducible exact H | (rw [hy195]; exact H) | exact H
        have Ny195 := Aside0.mk hy195
        clear hy195
        have H' := Aside0.mk H
        clear H
        go_wp2_with (first | ((with_reducible refine gate_dst (N := 13) rfl ?_); refine Kd.R_lit (Kd.int .u8) _ 5 ?hg (N := 13) ?hd (xs := ([] : List Int)) (inner := []) (ok := fun _ => True) (okp := fun _ => True) ?hr ?hp (fun _ hk => hk) trivial (Below.refl _ _) (Nat.le_refl _) (by simp) ?_; (case hd => rfl); (case hg => rfl); (case hr => first | (go_simp; done) | (go_simp; rfl)); (case hp => exact (Reps.none _ _)); intro v196 w6 ho7 hb hg_ hnew_; clear hg_ hnew_; (first | rw [← Ny195.out] at ho7 | (simp only [Int.reduceToNat] at ho7; rw [← Ny195.out] at ho7)); have n0_ := Aside0.mk (Kd.R_lower ho7 (below_size (by repeat (first | (with_reducible first | exact HB.out | apply below_alloc | apply pw_below_drewN | apply below_drew1) | exact HB.out)))); have n1_ := Aside0.mk (below_step (by repeat (first | (with_reducible first | exact HB.out | apply below_alloc | apply pw_below_drewN | apply below_drew1) | exact HB.out)) hb); clear HB; have HO197 := n0_; have HB := n1_; clear n0_ n1_; clear hb ho7))
        go_loopg [5, 6] kj2 (fun kq v5 v6 w' => ∃ (x5_2 : List Int) (x6_2 : Int), v6 = .int .i64 x6_2 ∧ Aside0 (fleuronref01_Put.l0 kq a0 x5_2 x6_2 = some r) ∧ Aside0 (kq ≤ kj2) ∧ Aside0 (Kd.R (Kd.int .u8) 5 w' w.heap.size (fun _ => True) v5 x5_2) ∧ Aside0 (Below w.heap.size w w'))
        case atStart => exact ⟨(y195), (wrap64 (a1 - 1)), (by first | rfl | (simp; done) | (simp [*]; done)), H', ⟨Nat.le_refl _⟩, ⟨by (with_reducible repeat (first | apply Kd.R_alloc | apply Kd.R_drewN | apply Kd.R_drew)); exact HO197.out⟩, ⟨by repeat (first | (with_reducible first | exact HB.out | apply below_alloc | apply pw_below_drewN | apply below_drew1) | exact HB.out)⟩⟩
        case round =>
          clear H'
          try clear c2
          try clear p2
          try clear c4
          try clear c4b0
          try clear c5
          try clear p6
          try clear p2
          obtain ⟨x5_2, x6_2, rfl, HA, HK2, HO_5, HB⟩ := hrel
          cases gk with
          | zero => exact absurd HA.out (by simp [fleuronref01_Put.l0])
          | succ k2 =>
            have H := HA.out
            clear HA
            simp only [fleuronref01_Put.l0] at H
            by_cases c8 : x6_2 ≥ 0
            · rw [if_pos c8] at H
              have c8b0 : decide (0 ≤ x6_2) = true := decide_eq_true c8
              clear c8
              obtain ⟨ji9, hji9⟩ : ∃ j_ : Int, (wrap64 (8 * x6_2)) = j_ := ⟨_, rfl⟩
              replace H : (if 0 ≤ (ji9) then (if x5_2.length < 140737488355328 then (fleuronref01_Put.l0 k2 a0 (x5_2 ++ [(shr .u64 (IntKind.u64.wrap (a0)) (ji9)) % 256]) (wrap64 (x6_2 - 1))) else (none)) else (none)) = some r := by first | (rw [hji9] at H; exact H) | (simp only [hji9] at H ⊢; exact H)
              have hji9w : (IntKind.i64.wrap (8 * x6_2)) = ji9 := (i64_w _).trans hji9
              by_cases c10 : 0 ≤ (ji9)
              · rw [if_pos c10] at H
                have c10b0 := eq_true c10
                have c10b1 : decide (0 ≤ (ji9)) = true := decide_eq_true c10
                clear c10
                obtain ⟨ji11, hji11⟩ : ∃ j_ : Int, (shr .u64 (IntKind.u64.wrap (a0)) (ji9)) = j_ := ⟨_, rfl⟩
                (try rw [hji11] at hji9)
                (try rw [hji11] at hji9w)
                replace H : (if x5_2.length < 140737488355328 then (fleuronref01_Put.l0 k2 a0 (x5_2 ++ [(ji11) % 256]) (wrap64 (x6_2 - 1))) else (none)) = some r := by first | (rw [hji11] at H; exact H) | (simp only [hji11] at H ⊢; exact H)
                have hji11_ : ((IntKind.u64.wrap (a0)) / 2 ^ min (ji9).toNat 64) = ji11 := hji11
                have hji11z : (ji9) ≤ 64 → ((IntKind.u64.wrap (a0)) / 2 ^ (ji9).toNat) = ji11 := shr_small hji11
                by_cases c12 : x5_2.length < 140737488355328
                · rw [if_pos c12] at H
                  have LMc12 := Aside0.mk c12
                  clear c12
                  obtain ⟨y198, hy198⟩ : ∃ y_ : List Int, y_ = (x5_2 ++ [(ji11) % 256]) := ⟨_, rfl⟩
                  replace H : (fleuronref01_Put.l0 k2 a0 y198 (wrap64 (x6_2 - 1))) = some r := by first | (rw [hy198]; with_reducible exact H) | (have H2_ := (Option.bind_some _ _).symm.trans H; rw [hy198]; with_reducible exact H2_) | (have H2_ := (Option.bind_some _ _).symm.trans H; with_reducible exact H2_) | with_reducible exact H | (rw [hy198]; exact H) | exact H
                  have Ny198 := Aside0.mk hy198
                  clear hy198
                  have H' := Aside0.mk H
                  clear H
                  go_wp2_with (first | ((with_reducible refine gate_builtin (b := .append) (xs := #[.tmp 20, .tmp 27]) rfl ?_); at_builtin; refine Kd.R_append (Kd.int .u8) (w0 := w) w.heap.size rfl (.tmp 20) (.tmp 27) 33 5 (.int .u8 0) 1 rfl Try.underlying33 info5 rfl (by decide) (by omega) u5 x5_2 ((ji11) % 256) [.int .u8 ((ji11) % 256)] (fun _ => True) (fun _ => False) rfl rfl ?aP (fun _ hk => hk.elim) ?aF ?aO ?aB ?aS ?aL ?_; (case aP => exact rfl); (case aB => exact (by repeat (first | (with_reducible first | exact HB.out | apply below_alloc | apply pw_below_drewN | apply below_drew1) | exact HB.out))); (case aF => exact (fun _ _ => trivial)); (case aO => exact (by (with_reducible repeat (first | apply Kd.R_alloc | apply Kd.R_drewN | apply Kd.R_drew)); exact HO_5.out)); (case aS => exact (below_size (by repeat (first | (with_reducible first | exact HB.out | apply below_alloc | apply pw_below_drewN | apply below_drew1) | exact HB.out)))); (case aL => have := LMc12.out; omega); intro v199 w13 ho hb hg hat; rw [← Ny198.out] at ho; have n0_ := Aside0.mk (hb); have n1_ := Aside0.mk (ho); clear HB; clear HO_5; have HB := n0_; have HO200 := n1_; clear n0_ n1_; clear ho hb hg hat))
                  go_roundg k2
                  case measure => have := HJ2.out; have := HK2.out; omega
                  case rel => exact ⟨(y198), (wrap64 (x6_2 - 1)), (by first | rfl | (simp; done) | (simp [*]; done)), H', ⟨by have := HJ2.out; have := HK2.out; omega⟩, ⟨by (with_reducible repeat (first | apply Kd.R_alloc | apply Kd.R_drewN | apply Kd.R_drew)); exact HO200.out⟩, ⟨by repeat (first | (with_reducible first | exact HB.out | apply below_alloc | apply pw_below_drewN | apply below_drew1) | exact HB.out)⟩⟩
                · rw [if_neg c12] at H
                  exact absurd H (by simp)
              · rw [if_neg c10] at H
                exact absurd H (by simp)
            · rw [if_neg c8] at H
              have c8b0 : decide (0 ≤ x6_2) = false := decide_eq_false c8
              clear c8
              obtain rfl := Option.some.inj H
              have hcv14 := own_string (P := Try.prog) Try.underlying33 Try.underlying5 Try.underlying9 (Kd.own_of_R HO_5.out)
              go_wp2
              go_ret
              exact ⟨by first | rfl | (simp [errW_none, errW_some] <;> rfl) | (simp [*, errW_none, errW_some] <;> rfl), by repeat (first | (with_reducible first | exact HB.out | apply below_alloc | apply pw_below_drewN | apply below_drew1) | exact HB.out)⟩

/-! ### octet_Text: function 21 -/
def octet_Text.f (k : Nat) (a0 : ByteArray) : Option (ByteArray) := if (a0.size : Int) ≥ 65536 then (some (⟨#[]⟩ : ByteArray)) else ((octet_Put.f k (a0.size : Int) 2).bind fun t201 => (if t201.size + a0.size ≤ 9223372036854775807 then (some (t201 ++ a0)) else (none)))
theorem octet_Text.mono : ∀ a0 k, LeO (octet_Text.f k a0) (octet_Text.f (k + 1) a0) := by
  intro a0 k
  unfold octet_Text.f
  repeat' first
      | (with_reducible exact octet_Put.mono _ _ _)
      | (with_reducible exact LeO.refl _)
      | (with_reducible exact LeO.none _)
      | (with_reducible refine LeO.ite ?_ ?_)
      | (with_reducible refine LeO.bind ?_ (fun _ => ?_))
      | exact octet_Put.mono _ _ _
      | exact LeO.none _
      | refine LeO.ite ?_ ?_
      | refine LeO.bind ?_ (fun _ => ?_)
set_option maxHeartbeats 8000000 in
set_option maxRecDepth 100000 in
theorem octet_Text.calls (k : Nat) (a0 : ByteArray) (r : ByteArray) (w : World) (h : octet_Text.f k a0 = some r) :
    Calls Try.prog 21 #[.string a0] w fun e w' => e = .returned (.string r) ∧ Below w.heap.size w w' := by
  have HB := Aside0.mk (Below.refl w.heap.size w)
  have H : (if (a0.size : Int) ≥ 65536 then (some (⟨#[]⟩ : ByteArray)) else ((octet_Put.f k (a0.size : Int) 2).bind fun t201 => (if t201.size + a0.size ≤ 9223372036854775807 then (some (t201 ++ a0)) else (none)))) = some r := h
  clear h
  by_cases c2 : (a0.size : Int) ≥ 65536
  · rw [if_pos c2] at H
    have c2b0 : decide (65536 ≤ (a0.size : Int)) = true := decide_eq_true c2
    have c2b1 : decide (65536 ≤ a0.size) = true := decide_eq_true (by omega)
    clear c2
    obtain rfl := Option.some.inj H
    go_enter Try.func21, Try.ntmps21
    go_wp2
    go_ret
    exact ⟨by first | rfl | (simp [errW_none, errW_some] <;> rfl) | (simp [*, errW_none, errW_some] <;> rfl), by repeat (first | (with_reducible first | exact HB.out | apply below_alloc | apply pw_below_drewN | apply below_drew1) | exact HB.out)⟩
  · rw [if_neg c2] at H
    have c2b0 : decide (65536 ≤ (a0.size : Int)) = false := decide_eq_false c2
    have c2b1 : decide (65536 ≤ a0.size) = false := decide_eq_false (by omega)
    clear c2
    replace H := Option.bind_eq_some_iff.mp H
    obtain ⟨t201, A30, H⟩ := H
    replace H : (if t201.size + a0.size ≤ 9223372036854775807 then (some (t201 ++ a0)) else (none)) = some r := H
    have A3 := Aside0.mk A30
    clear A30
    by_cases c4 : t201.size + a0.size ≤ 9223372036854775807
    · rw [if_pos c4] at H
      have c4b0 := eq_true c4
      have c4b1 : decide (t201.size + a0.size ≤ 9223372036854775807) = true := decide_eq_true c4
      try have c4b2 : (9223372036854775807 < t201.size + a0.size) = False := eq_false (Nat.not_lt.2 c4)
      obtain rfl := Option.some.inj H
      go_enter Try.func21, Try.ntmps21
      go_wp2_with (first | ((with_reducible refine gate_callee (f := 17) rfl ?_); refine goesL_ (some 8) rfl rfl Try.func17 (by kernel_rfl) rfl #[.int .i64 (a0.size : Int), .int .i64 2] rfl (by (try simp only [List.map_toArray, List.map_cons, List.map_nil]); first | done | rfl | (simp only [List.length_drop, List.length_take]; rfl)) ?_; (with_reducible refine (octet_Put.calls k (a0.size : Int) 2 t201 _ A3.out).mono ?_); rintro e w5 ⟨rfl, hb⟩; refine ⟨_, rfl, ?_⟩; have n0_ := Aside0.mk (below_step (by repeat (first | (with_reducible first | exact HB.out | apply below_alloc | apply pw_below_drewN | apply below_drew1) | exact HB.out)) hb); clear HB; have HB := n0_; clear n0_; (try clear hb); (try clear hb2); (try clear hk); (try clear hi)))
      go_ret
      exact ⟨by first | rfl | (simp [errW_none, errW_some] <;> rfl) | (simp [*, errW_none, errW_some] <;> rfl), by repeat (first | (with_reducible first | exact HB.out | apply below_alloc | apply pw_below_drewN | apply below_drew1) | exact HB.out)⟩
    · rw [if_neg c4] at H
      exact absurd H (by simp)

/-! ### fleuronref01_Text: function 22 -/
def fleuronref01_Text.f (k : Nat) (a0 : ByteArray) : Option (ByteArray) := if (a0.size : Int) > 65535 then (some (⟨#[]⟩ : ByteArray)) else ((fleuronref01_Put.f k (a0.size : Int) 2).bind fun t202 => (if t202.size + a0.size ≤ 9223372036854775807 then (some (t202 ++ a0)) else (none)))
theorem fleuronref01_Text.mono : ∀ a0 k, LeO (fleuronref01_Text.f k a0) (fleuronref01_Text.f (k + 1) a0) := by
  intro a0 k
  unfold fleuronref01_Text.f
  repeat' first
      | (with_reducible exact fleuronref01_Put.mono _ _ _)
      | (with_reducible exact LeO.refl _)
      | (with_reducible exact LeO.none _)
      | (with_reducible refine LeO.ite ?_ ?_)
      | (with_reducible refine LeO.bind ?_ (fun _ => ?_))
      | exact fleuronref01_Put.mono _ _ _
      | exact LeO.none _
      | refine LeO.ite ?_ ?_
      | refine LeO.bind ?_ (fun _ => ?_)
set_option maxHeartbeats 8000000 in
set_option maxRecDepth 100000 in
theorem fleuronref01_Text.calls (k : Nat) (a0 : ByteArray) (r : ByteArray) (w : World) (h : fleuronref01_Text.f k a0 = some r) :
    Calls Try.prog 22 #[.string a0] w fun e w' => e = .returned (.string r) ∧ Below w.heap.size w w' := by
  have HB := Aside0.mk (Below.refl w.heap.size w)
  have H : (if (a0.size : Int) > 65535 then (some (⟨#[]⟩ : ByteArray)) else ((fleuronref01_Put.f k (a0.size : Int) 2).bind fun t202 => (if t202.size + a0.size ≤ 9223372036854775807 then (some (t202 ++ a0)) else (none)))) = some r := h
  clear h
  by_cases c2 : (a0.size : Int) > 65535
  · rw [if_pos c2] at H
    have c2b0 : decide (65535 < (a0.size : Int)) = true := decide_eq_true c2
    have c2b1 : decide (65535 < a0.size) = true := decide_eq_true (by omega)
    clear c2
    obtain rfl := Option.some.inj H
    go_enter Try.func22, Try.ntmps22
    go_wp2
    go_ret
    exact ⟨by first | rfl | (simp [errW_none, errW_some] <;> rfl) | (simp [*, errW_none, errW_some] <;> rfl), by repeat (first | (with_reducible first | exact HB.out | apply below_alloc | apply pw_below_drewN | apply below_drew1) | exact HB.out)⟩
  · rw [if_neg c2] at H
    have c2b0 : decide (65535 < (a0.size : Int)) = false := decide_eq_false c2
    have c2b1 : decide (65535 < a0.size) = false := decide_eq_false (by omega)
    clear c2
    replace H := Option.bind_eq_some_iff.mp H
    obtain ⟨t202, A30, H⟩ := H
    replace H : (if t202.size + a0.size ≤ 9223372036854775807 then (some (t202 ++ a0)) else (none)) = some r := H
    have A3 := Aside0.mk A30
    clear A30
    by_cases c4 : t202.size + a0.size ≤ 9223372036854775807
    · rw [if_pos c4] at H
      have c4b0 := eq_true c4
      have c4b1 : decide (t202.size + a0.size ≤ 9223372036854775807) = true := decide_eq_true c4
      try have c4b2 : (9223372036854775807 < t202.size + a0.size) = False := eq_false (Nat.not_lt.2 c4)
      obtain rfl := Option.some.inj H
      go_enter Try.func22, Try.ntmps22
      go_wp2_with (first | ((with_reducible refine gate_callee (f := 20) rfl ?_); refine goesL_ (some 8) rfl rfl Try.func20 (by kernel_rfl) rfl #[.int .i64 (a0.size : Int), .int .i64 2] rfl (by (try simp only [List.map_toArray, List.map_cons, List.map_nil]); first | done | rfl | (simp only [List.length_drop, List.length_take]; rfl)) ?_; (with_reducible refine (fleuronref01_Put.calls k (a0.size : Int) 2 t202 _ A3.out).mono ?_); rintro e w5 ⟨rfl, hb⟩; refine ⟨_, rfl, ?_⟩; have n0_ := Aside0.mk (below_step (by repeat (first | (with_reducible first | exact HB.out | apply below_alloc | apply pw_below_drewN | apply below_drew1) | exact HB.out)) hb); clear HB; have HB := n0_; clear n0_; (try clear hb); (try clear hb2); (try clear hk); (try clear hi)))
      go_ret
      exact ⟨by first | rfl | (simp [errW_none, errW_some] <;> rfl) | (simp [*, errW_none, errW_some] <;> rfl), by repeat (first | (with_reducible first | exact HB.out | apply below_alloc | apply pw_below_drewN | apply below_drew1) | exact HB.out)⟩
    · rw [if_neg c4] at H
      exact absurd H (by simp)

/-! ### fleuronref01_Sum: function 23 -/
def fleuronref01_Sum.l0 : Nat → ByteArray → Int → Int → Option (Int)
  | 0, _, _, _ => none
  | k + 1, x0, x3, x4 => if x4 < (x0.size : Int) then (if 0 ≤ x4 then (if 0 ≤ (wrap64 (24 - (wrap64 (8 * (Int.tmod x4 4))))) then (fleuronref01_Sum.l0 k x0 ((x3 + (shl .u32 ((bt x0 x4) % 4294967296) (wrap64 (24 - (wrap64 (8 * (Int.tmod x4 4))))))) % 4294967296) (wrap64 (x4 + 1))) else (none)) else (none)) else (some x3)
def fleuronref01_Sum.f (k : Nat) (a0 : ByteArray) : Option (Int) := fleuronref01_Sum.l0 k a0 0 0
theorem fleuronref01_Sum.mono_l : ∀ k, (∀ y0 y1 y2, LeO (fleuronref01_Sum.l0 k y0 y1 y2) (fleuronref01_Sum.l0 (k + 1) y0 y1 y2))
  | 0 => fun _ _ _ r h => by simp [fleuronref01_Sum.l0] at h
  | k + 1 => by
    have ih0 := fleuronref01_Sum.mono_l k
    · intro y0 y1 y2
      unfold fleuronref01_Sum.l0
      repeat' first
      | (with_reducible exact ih0 _ _ _)
      | (with_reducible exact LeO.refl _)
      | (with_reducible exact LeO.none _)
      | (with_reducible refine LeO.ite ?_ ?_)
      | (with_reducible refine LeO.bind ?_ (fun _ => ?_))
      | exact ih0 _ _ _
      | exact LeO.none _
      | refine LeO.ite ?_ ?_
      | refine LeO.bind ?_ (fun _ => ?_)
theorem fleuronref01_Sum.mono : ∀ a0 k, LeO (fleuronref01_Sum.f k a0) (fleuronref01_Sum.f (k + 1) a0) := by
  intro a0 k
  have ih0 := fleuronref01_Sum.mono_l k
  unfold fleuronref01_Sum.f
  repeat' first
      | (with_reducible exact ih0 _ _ _)
      | (with_reducible exact LeO.refl _)
      | (with_reducible exact LeO.none _)
      | (with_reducible refine LeO.ite ?_ ?_)
      | (with_reducible refine LeO.bind ?_ (fun _ => ?_))
      | exact ih0 _ _ _
      | exact LeO.none _
      | refine LeO.ite ?_ ?_
      | refine LeO.bind ?_ (fun _ => ?_)
set_option maxHeartbeats 8000000 in
set_option maxRecDepth 100000 in
theorem fleuronref01_Sum.calls (k : Nat) (a0 : ByteArray) (r : Int) (w : World) (h : fleuronref01_Sum.f k a0 = some r) :
    Calls Try.prog 23 #[.string a0] w fun e w' => e = .returned (.int .u32 r) ∧ Drawn0 w w' := by
  have H : (fleuronref01_Sum.l0 k a0 0 0) = some r := h
  clear h
  have H' := Aside0.mk H
  clear H
  go_enter Try.func23, Try.ntmps23
  go_wp2
  go_loopg [3, 4] k (fun kq v3 v4 w' => ∃ (x3_1 : Int) (x4_1 : Int), v3 = .int .u32 x3_1 ∧ v4 = .int .i64 x4_1 ∧ Aside0 (fleuronref01_Sum.l0 kq a0 x3_1 x4_1 = some r) ∧ Aside0 (kq ≤ k) ∧ Drawn0 w w')
  case atStart => exact ⟨(0), (0), (by first | rfl | (simp; done) | (simp [*]; done)), (by first | rfl | (simp; done) | (simp [*]; done)), H', ⟨Nat.le_refl _⟩, by repeat (first | exact Drawn0.refl _ | apply Drawn0.step)⟩
  case round =>
    clear H'
    obtain ⟨x3_1, x4_1, rfl, rfl, HA, HK1, ⟨m1, rfl⟩⟩ := hrel
    cases gk with
    | zero => exact absurd HA.out (by simp [fleuronref01_Sum.l0])
    | succ k1 =>
      have H := HA.out
      clear HA
      simp only [fleuronref01_Sum.l0] at H
      by_cases c2 : x4_1 < (a0.size : Int)
      · rw [if_pos c2] at H
        have c2b0 : decide (x4_1 < (a0.size : Int)) = true := decide_eq_true c2
        clear c2
        by_cases c3 : 0 ≤ x4_1
        · rw [if_pos c3] at H
          have c3b0 : decide (0 ≤ x4_1) = true := decide_eq_true c3
          clear c3
          obtain ⟨ji5, hji5⟩ : ∃ j_ : Int, (wrap64 (24 - (wrap64 (8 * (Int.tmod x4_1 4))))) = j_ := ⟨_, rfl⟩
          replace H : (if 0 ≤ (ji5) then (fleuronref01_Sum.l0 k1 a0 ((x3_1 + (shl .u32 ((bt a0 x4_1) % 4294967296) (ji5))) % 4294967296) (wrap64 (x4_1 + 1))) else (none)) = some r := by first | (rw [hji5] at H; exact H) | (simp only [hji5] at H ⊢; exact H)
          have hji5w : (IntKind.i64.wrap (24 - (wrap64 (8 * (Int.tmod x4_1 4))))) = ji5 := (i64_w _).trans hji5
          by_cases c6 : 0 ≤ (ji5)
          · rw [if_pos c6] at H
            have c6b0 := eq_true c6
            have c6b1 : decide (0 ≤ (ji5)) = true := decide_eq_true c6
            clear c6
            obtain ⟨ji7, hji7⟩ : ∃ j_ : Int, (shl .u32 ((bt a0 x4_1) % 4294967296) (ji5)) = j_ := ⟨_, rfl⟩
            (try rw [hji7] at hji5)
            (try rw [hji7] at hji5w)
            replace H : (fleuronref01_Sum.l0 k1 a0 ((x3_1 + (ji7)) % 4294967296) (wrap64 (x4_1 + 1))) = some r := by first | (rw [hji7] at H; exact H) | (simp only [hji7] at H ⊢; exact H)
            have hji7_ : (IntKind.u32.wrap (((bt a0 x4_1) % 4294967296) * 2 ^ min (ji5).toNat 32)) = ji7 := hji7
            have hji7z : (ji5) ≤ 32 → (IntKind.u32.wrap (((bt a0 x4_1) % 4294967296) * 2 ^ (ji5).toNat)) = ji7 := shl_small hji7
            have H' := Aside0.mk H
            clear H
            have p4 : 0 ≤ (x4_1 : Int) := of_decide_eq_true (by first | (with_reducible assumption) | assumption)
            have q4 : x4_1 < (a0.size : Int) := of_decide_eq_true (by first | (with_reducible assumption) | assumption)
            have hx4 := bt_at a0 x4_1
            replace p4 := eq_true p4
            replace q4 := eq_true q4
            go_wp2
            go_roundg k1
            case measure => have := HK1.out; omega
            case rel => exact ⟨((x3_1 + (ji7)) % 4294967296), (wrap64 (x4_1 + 1)), (by first | rfl | (simp; done) | (simp only [← hji7] <;> (first | rfl | simp)) | (simp [*]; done)), (by first | rfl | (simp; done) | (simp [*]; done)), H', ⟨by have := HK1.out; omega⟩, by repeat (first | exact Drawn0.refl _ | apply Drawn0.step)⟩
          · rw [if_neg c6] at H
            exact absurd H (by simp)
        · rw [if_neg c3] at H
          exact absurd H (by simp)
      · rw [if_neg c2] at H
        have c2b0 : decide (x4_1 < (a0.size : Int)) = false := decide_eq_false c2
        clear c2
        obtain rfl := Option.some.inj H
        go_wp2
        go_ret
        exact ⟨by first | rfl | (simp; done) | (simp [*]; done), by repeat (first | exact Drawn0.refl _ | apply Drawn0.step)⟩

/-! ### fleuronlaw01_OctetAll: function 6 -/
def fleuronlaw01_OctetAll.l0 : Nat → Int → Int → ByteArray → Bool → Int → Option (Bool)
  | 0, _, _, _, _, _ => none
  | k + 1, x0, x1, x2, x7, x8 => if x8 < 10 then ((octet_Put.f k x0 x8).bind fun t204 => ((fleuronref01_Put.f k x0 x8).bind fun t205 => (if t204.toList = t205.toList then (fleuronlaw01_OctetAll.l0 k x0 x1 x2 x7 (wrap64 (x8 + 1))) else (some false)))) else (if x7 = true then ((octet_Put.f k x0 x1).bind fun t206 => ((fleuronref01_Put.f k x0 x1).bind fun t207 => (if t206.toList = t207.toList then ((fleuronlaw01_few.f x2).bind fun t208 => ((octet_Text.f k t208).bind fun t209 => ((fleuronlaw01_few.f x2).bind fun t210 => ((fleuronref01_Text.f k t210).bind fun t211 => (if t209.toList = t211.toList then ((fleuronlaw01_few.f x2).bind fun t212 => ((octet_Sum.f k t212).bind fun t213 => ((fleuronlaw01_few.f x2).bind fun t214 => ((fleuronref01_Sum.f k t214).bind fun t215 => (some (t213 == t215)))))) else (some false)))))) else (some false)))) else (some false))
def fleuronlaw01_OctetAll.f (k : Nat) (a0 : Int) (a1 : Int) (a2 : ByteArray) : Option (Bool) := (fleuronlaw01_shown.f k).bind fun t203 => (fleuronlaw01_OctetAll.l0 k a0 a1 a2 t203 (-1))
theorem fleuronlaw01_OctetAll.mono_l : ∀ k, (∀ y0 y1 y2 y3 y4, LeO (fleuronlaw01_OctetAll.l0 k y0 y1 y2 y3 y4) (fleuronlaw01_OctetAll.l0 (k + 1) y0 y1 y2 y3 y4))
  | 0 => fun _ _ _ _ _ r h => by simp [fleuronlaw01_OctetAll.l0] at h
  | k + 1 => by
    have ih0 := fleuronlaw01_OctetAll.mono_l k
    · intro y0 y1 y2 y3 y4
      unfold fleuronlaw01_OctetAll.l0
      repeat' first
      | (with_reducible exact ih0 _ _ _ _ _)
      | (with_reducible exact fleuronlaw01_shown.mono _)
      | (with_reducible exact fleuronref01_Put.mono _ _ _)
      | (with_reducible exact fleuronref01_Sum.mono _ _)
      | (with_reducible exact fleuronref01_Text.mono _ _)
      | (with_reducible exact octet_Put.mono _ _ _)
      | (with_reducible exact octet_Sum.mono _ _)
      | (with_reducible exact octet_Text.mono _ _)
      | (with_reducible exact LeO.refl _)
      | (with_reducible exact LeO.none _)
      | (with_reducible refine LeO.ite ?_ ?_)
      | (with_reducible refine LeO.bind ?_ (fun _ => ?_))
      | exact ih0 _ _ _ _ _
      | exact fleuronlaw01_shown.mono _
      | exact fleuronref01_Put.mono _ _ _
      | exact fleuronref01_Sum.mono _ _
      | exact fleuronref01_Text.mono _ _
      | exact octet_Put.mono _ _ _
      | exact octet_Sum.mono _ _
      | exact octet_Text.mono _ _
      | exact LeO.none _
      | refine LeO.ite ?_ ?_
      | refine LeO.bind ?_ (fun _ => ?_)
theorem fleuronlaw01_OctetAll.mono : ∀ a0 a1 a2 k, LeO (fleuronlaw01_OctetAll.f k a0 a1 a2) (fleuronlaw01_OctetAll.f (k + 1) a0 a1 a2) := by
  intro a0 a1 a2 k
  have ih0 := fleuronlaw01_OctetAll.mono_l k
  unfold fleuronlaw01_OctetAll.f
  repeat' first
      | (with_reducible exact ih0 _ _ _ _ _)
      | (with_reducible exact fleuronlaw01_shown.mono _)
      | (with_reducible exact fleuronref01_Put.mono _ _ _)
      | (with_reducible exact fleuronref01_Sum.mono _ _)
      | (with_reducible exact fleuronref01_Text.mono _ _)
      | (with_reducible exact octet_Put.mono _ _ _)
      | (with_reducible exact octet_Sum.mono _ _)
      | (with_reducible exact octet_Text.mono _ _)
      | (with_reducible exact LeO.refl _)
      | (with_reducible exact LeO.none _)
      | (with_reducible refine LeO.ite ?_ ?_)
      | (with_reducible refine LeO.bind ?_ (fun _ => ?_))
      | exact ih0 _ _ _ _ _
      | exact fleuronlaw01_shown.mono _
      | exact fleuronref01_Put.mono _ _ _
      | exact fleuronref01_Sum.mono _ _
      | exact fleuronref01_Text.mono _ _
      | exact octet_Put.mono _ _ _
      | exact octet_Sum.mono _ _
      | exact octet_Text.mono _ _
      | exact LeO.none _
      | refine LeO.ite ?_ ?_
      | refine LeO.bind ?_ (fun _ => ?_)
set_option maxHeartbeats 8000000 in
set_option maxRecDepth 100000 in
theorem fleuronlaw01_OctetAll.calls (k : Nat) (a0 : Int) (a1 : Int) (a2 : ByteArray) (r : Bool) (w : World) (h : fleuronlaw01_OctetAll.f k a0 a1 a2 = some r) :
    Calls Try.prog 6 #[.int .i64 a0, .int .i64 a1, .string a2] w fun e w' => e = .returned (.bool r) ∧ Below w.heap.size w w' := by
  have HB := Aside0.mk (Below.refl w.heap.size w)
  have H : ((fleuronlaw01_shown.f k).bind fun t203 => (fleuronlaw01_OctetAll.l0 k a0 a1 a2 t203 (-1))) = some r := h
  clear h
  replace H := Option.bind_eq_some_iff.mp H
  obtain ⟨t203, A40, H⟩ := H
  replace H : (fleuronlaw01_OctetAll.l0 k a0 a1 a2 t203 (-1)) = some r := H
  have A4 := Aside0.mk A40
  clear A40
  have H' := Aside0.mk H
  clear H
  go_enter Try.func6, Try.ntmps6
  go_wp2_with (first | ((with_reducible refine gate_callee (f := 12) rfl ?_); refine goesL_ (some 9) rfl rfl Try.func12 (by kernel_rfl) rfl #[] rfl (by (try simp only [List.map_toArray, List.map_cons, List.map_nil]); first | done | rfl | (simp only [List.length_drop, List.length_take]; rfl)) ?_; (with_reducible refine (fleuronlaw01_shown.calls k  t203 _ A4.out).mono ?_); rintro e w5 ⟨rfl, hb⟩; refine ⟨_, rfl, ?_⟩; have n0_ := Aside0.mk (below_step (by repeat (first | (with_reducible first | exact HB.out | apply below_alloc | apply pw_below_drewN | apply below_drew1) | exact HB.out)) hb); clear HB; have HB := n0_; clear n0_; (try clear hb); (try clear hb2); (try clear hk); (try clear hi)))
  go_loopg [8] k (fun kq v8 w' => ∃ (x8_1 : Int), v8 = .int .i64 x8_1 ∧ Aside0 (fleuronlaw01_OctetAll.l0 kq a0 a1 a2 t203 x8_1 = some r) ∧ Aside0 (kq ≤ k) ∧ Aside0 (Below w.heap.size w w'))
  case atStart => exact ⟨((-1)), (by first | rfl | (simp; done) | (simp [*]; done)), H', ⟨Nat.le_refl _⟩, ⟨by repeat (first | (with_reducible first | exact HB.out | apply below_alloc | apply pw_below_drewN | apply below_drew1) | exact HB.out)⟩⟩
  case round =>
    clear H'
    try clear c1
    try clear p2
    obtain ⟨x8_1, rfl, HA, HK1, HB⟩ := hrel
    cases gk with
    | zero => exact absurd HA.out (by simp [fleuronlaw01_OctetAll.l0])
    | succ k1 =>
      have H := HA.out
      clear HA
      simp only [fleuronlaw01_OctetAll.l0] at H
      by_cases c6 : x8_1 < 10
      · rw [if_pos c6] at H
        have c6b0 : decide (x8_1 < 10) = true := decide_eq_true c6
        clear c6
        replace H := Option.bind_eq_some_iff.mp H
        obtain ⟨t204, A70, H⟩ := H
        replace H : ((fleuronref01_Put.f k1 a0 x8_1).bind fun t205 => (if t204.toList = t205.toList then (fleuronlaw01_OctetAll.l0 k1 a0 a1 a2 t203 (wrap64 (x8_1 + 1))) else (some false))) = some r := H
        have A7 := Aside0.mk A70
        clear A70
        replace H := Option.bind_eq_some_iff.mp H
        obtain ⟨t205, A80, H⟩ := H
        replace H : (if t204.toList = t205.toList then (fleuronlaw01_OctetAll.l0 k1 a0 a1 a2 t203 (wrap64 (x8_1 + 1))) else (some false)) = some r := H
        have A8 := Aside0.mk A80
        clear A80
        by_cases c9 : t204.toList = t205.toList
        · rw [if_pos c9] at H
          have c9b0 : (t204.toList == t205.toList) = true := beq_iff_eq.mpr c9
          have c9b1 : (t204.toList != t205.toList) = false := bne_eq_false_iff_eq.mpr c9
          clear c9
          have H' := Aside0.mk H
          clear H
          go_wp2_with (first | ((with_reducible refine gate_callee (f := 17) rfl ?_); refine goesL_ (some 16) rfl rfl Try.func17 (by kernel_rfl) rfl #[.int .i64 a0, .int .i64 x8_1] rfl (by (try simp only [List.map_toArray, List.map_cons, List.map_nil]); first | done | rfl | (simp only [List.length_drop, List.length_take]; rfl)) ?_; (with_reducible refine (octet_Put.calls k1 a0 x8_1 t204 _ A7.out).mono ?_); rintro e w10 ⟨rfl, hb⟩; refine ⟨_, rfl, ?_⟩; have n0_ := Aside0.mk (below_step (by repeat (first | (with_reducible first | exact HB.out | apply below_alloc | apply pw_below_drewN | apply below_drew1) | exact HB.out)) hb); clear HB; have HB := n0_; clear n0_; (try clear hb); (try clear hb2); (try clear hk); (try clear hi)) | ((with_reducible refine gate_callee (f := 20) rfl ?_); refine goesL_ (some 19) rfl rfl Try.func20 (by kernel_rfl) rfl #[.int .i64 a0, .int .i64 x8_1] rfl (by (try simp only [List.map_toArray, List.map_cons, List.map_nil]); first | done | rfl | (simp only [List.length_drop, List.length_take]; rfl)) ?_; (with_reducible refine (fleuronref01_Put.calls k1 a0 x8_1 t205 _ A8.out).mono ?_); rintro e w11 ⟨rfl, hb⟩; refine ⟨_, rfl, ?_⟩; have n0_ := Aside0.mk (below_step (by repeat (first | (with_reducible first | exact HB.out | apply below_alloc | apply pw_below_drewN | apply below_drew1) | exact HB.out)) hb); clear HB; have HB := n0_; clear n0_; (try clear hb); (try clear hb2); (try clear hk); (try clear hi)))
          go_roundg k1
          case measure => have := HK1.out; omega
          case rel => exact ⟨(wrap64 (x8_1 + 1)), (by first | rfl | (simp; done) | (simp [*]; done)), H', ⟨by have := HK1.out; omega⟩, ⟨by repeat (first | (with_reducible first | exact HB.out | apply below_alloc | apply pw_below_drewN | apply below_drew1) | exact HB.out)⟩⟩
        · rw [if_neg c9] at H
          have c9b0 : (t204.toList == t205.toList) = false := beq_eq_false_iff_ne.mpr c9
          have c9b1 : (t204.toList != t205.toList) = true := bne_iff_ne.mpr c9
          obtain rfl := Option.some.inj H
          go_wp2_with (first | ((with_reducible refine gate_callee (f := 17) rfl ?_); refine goesL_ (some 16) rfl rfl Try.func17 (by kernel_rfl) rfl #[.int .i64 a0, .int .i64 x8_1] rfl (by (try simp only [List.map_toArray, List.map_cons, List.map_nil]); first | done | rfl | (simp only [List.length_drop, List.length_take]; rfl)) ?_; (with_reducible refine (octet_Put.calls k1 a0 x8_1 t204 _ A7.out).mono ?_); rintro e w12 ⟨rfl, hb⟩; refine ⟨_, rfl, ?_⟩; have n0_ := Aside0.mk (below_step (by repeat (first | (with_reducible first | exact HB.out | apply below_alloc | apply pw_below_drewN | apply below_drew1) | exact HB.out)) hb); clear HB; have HB := n0_; clear n0_; (try clear hb); (try clear hb2); (try clear hk); (try clear hi)) | ((with_reducible refine gate_callee (f := 20) rfl ?_); refine goesL_ (some 19) rfl rfl Try.func20 (by kernel_rfl) rfl #[.int .i64 a0, .int .i64 x8_1] rfl (by (try simp only [List.map_toArray, List.map_cons, List.map_nil]); first | done | rfl | (simp only [List.length_drop, List.length_take]; rfl)) ?_; (with_reducible refine (fleuronref01_Put.calls k1 a0 x8_1 t205 _ A8.out).mono ?_); rintro e w13 ⟨rfl, hb⟩; refine ⟨_, rfl, ?_⟩; have n0_ := Aside0.mk (below_step (by repeat (first | (with_reducible first | exact HB.out | apply below_alloc | apply pw_below_drewN | apply below_drew1) | exact HB.out)) hb); clear HB; have HB := n0_; clear n0_; (try clear hb); (try clear hb2); (try clear hk); (try clear hi)))
          go_ret
          exact ⟨by first | rfl | (simp [errW_none, errW_some] <;> rfl) | (simp [*, errW_none, errW_some] <;> rfl), by repeat (first | (with_reducible first | exact HB.out | apply below_alloc | apply pw_below_drewN | apply below_drew1) | exact HB.out)⟩
      · rw [if_neg c6] at H
        have c6b0 : decide (x8_1 < 10) = false := decide_eq_false c6
        clear c6
        by_cases c14 : t203 = true
        · subst c14
          have H1 : ((octet_Put.f k1 a0 a1).bind fun t206 => ((fleuronref01_Put.f k1 a0 a1).bind fun t207 => (if t206.toList = t207.toList then ((fleuronlaw01_few.f a2).bind fun t208 => ((octet_Text.f k1 t208).bind fun t209 => ((fleuronlaw01_few.f a2).bind fun t210 => ((fleuronref01_Text.f k1 t210).bind fun t211 => (if t209.toList = t211.toList then ((fleuronlaw01_few.f a2).bind fun t212 => ((octet_Sum.f k1 t212).bind fun t213 => ((fleuronlaw01_few.f a2).bind fun t214 => ((fleuronref01_Sum.f k1 t214).bind fun t215 => (some (t213 == t215)))))) else (some false)))))) else (some false)))) = some r := by rw [if_pos rfl] at H; exact H
          clear H
          have H := H1
          clear H1
          replace H := Option.bind_eq_some_iff.mp H
          obtain ⟨t206, A150, H⟩ := H
          replace H : ((fleuronref01_Put.f k1 a0 a1).bind fun t207 => (if t206.toList = t207.toList then ((fleuronlaw01_few.f a2).bind fun t208 => ((octet_Text.f k1 t208).bind fun t209 => ((fleuronlaw01_few.f a2).bind fun t210 => ((fleuronref01_Text.f k1 t210).bind fun t211 => (if t209.toList = t211.toList then ((fleuronlaw01_few.f a2).bind fun t212 => ((octet_Sum.f k1 t212).bind fun t213 => ((fleuronlaw01_few.f a2).bind fun t214 => ((fleuronref01_Sum.f k1 t214).bind fun t215 => (some (t213 == t215)))))) else (some false)))))) else (some false))) = some r := H
          have A15 := Aside0.mk A150
          clear A150
          replace H := Option.bind_eq_some_iff.mp H
          obtain ⟨t207, A160, H⟩ := H
          replace H : (if t206.toList = t207.toList then ((fleuronlaw01_few.f a2).bind fun t208 => ((octet_Text.f k1 t208).bind fun t209 => ((fleuronlaw01_few.f a2).bind fun t210 => ((fleuronref01_Text.f k1 t210).bind fun t211 => (if t209.toList = t211.toList then ((fleuronlaw01_few.f a2).bind fun t212 => ((octet_Sum.f k1 t212).bind fun t213 => ((fleuronlaw01_few.f a2).bind fun t214 => ((fleuronref01_Sum.f k1 t214).bind fun t215 => (some (t213 == t215)))))) else (some false)))))) else (some false)) = some r := H
          have A16 := Aside0.mk A160
          clear A160
          by_cases c17 : t206.toList = t207.toList
          · rw [if_pos c17] at H
            have c17b0 : (t206.toList == t207.toList) = true := beq_iff_eq.mpr c17
            have c17b1 : (t206.toList != t207.toList) = false := bne_eq_false_iff_eq.mpr c17
            clear c17
            replace H := Option.bind_eq_some_iff.mp H
            obtain ⟨t208, A180, H⟩ := H
            replace H : ((octet_Text.f k1 t208).bind fun t209 => ((fleuronlaw01_few.f a2).bind fun t210 => ((fleuronref01_Text.f k1 t210).bind fun t211 => (if t209.toList = t211.toList then ((fleuronlaw01_few.f a2).bind fun t212 => ((octet_Sum.f k1 t212).bind fun t213 => ((fleuronlaw01_few.f a2).bind fun t214 => ((fleuronref01_Sum.f k1 t214).bind fun t215 => (some (t213 == t215)))))) else (some false))))) = some r := H
            have A18 := Aside0.mk A180
            clear A180
            replace H := Option.bind_eq_some_iff.mp H
            obtain ⟨t209, A190, H⟩ := H
            replace H : ((fleuronlaw01_few.f a2).bind fun t210 => ((fleuronref01_Text.f k1 t210).bind fun t211 => (if t209.toList = t211.toList then ((fleuronlaw01_few.f a2).bind fun t212 => ((octet_Sum.f k1 t212).bind fun t213 => ((fleuronlaw01_few.f a2).bind fun t214 => ((fleuronref01_Sum.f k1 t214).bind fun t215 => (some (t213 == t215)))))) else (some false)))) = some r := H
            have A19 := Aside0.mk A190
            clear A190
            replace H := Option.bind_eq_some_iff.mp H
            obtain ⟨t210, A200, H⟩ := H
            obtain rfl : t208 = t210 := Option.some.inj (A18.out.symm.trans A200)
            replace H : ((fleuronref01_Text.f k1 t208).bind fun t211 => (if t209.toList = t211.toList then ((fleuronlaw01_few.f a2).bind fun t212 => ((octet_Sum.f k1 t212).bind fun t213 => ((fleuronlaw01_few.f a2).bind fun t214 => ((fleuronref01_Sum.f k1 t214).bind fun t215 => (some (t213 == t215)))))) else (some false))) = some r := H
            clear A200
            replace H := Option.bind_eq_some_iff.mp H
            obtain ⟨t211, A210, H⟩ := H
            replace H : (if t209.toList = t211.toList then ((fleuronlaw01_few.f a2).bind fun t212 => ((octet_Sum.f k1 t212).bind fun t213 => ((fleuronlaw01_few.f a2).bind fun t214 => ((fleuronref01_Sum.f k1 t214).bind fun t215 => (some (t213 == t215)))))) else (some false)) = some r := H
            have A21 := Aside0.mk A210
            clear A210
            by_cases c22 : t209.toList = t211.toList
            · rw [if_pos c22] at H
              have c22b0 : (t209.toList == t211.toList) = true := beq_iff_eq.mpr c22
              have c22b1 : (t209.toList != t211.toList) = false := bne_eq_false_iff_eq.mpr c22
              clear c22
              replace H := Option.bind_eq_some_iff.mp H
              obtain ⟨t212, A230, H⟩ := H
              obtain rfl : t208 = t212 := Option.some.inj (A18.out.symm.trans A230)
              replace H : ((octet_Sum.f k1 t208).bind fun t213 => ((fleuronlaw01_few.f a2).bind fun t214 => ((fleuronref01_Sum.f k1 t214).bind fun t215 => (some (t213 == t215))))) = some r := H
              clear A230
              replace H := Option.bind_eq_some_iff.mp H
              obtain ⟨t213, A240, H⟩ := H
              replace H : ((fleuronlaw01_few.f a2).bind fun t214 => ((fleuronref01_Sum.f k1 t214).bind fun t215 => (some (t213 == t215)))) = some r := H
              have A24 := Aside0.mk A240
              clear A240
              replace H := Option.bind_eq_some_iff.mp H
              obtain ⟨t214, A250, H⟩ := H
              obtain rfl : t208 = t214 := Option.some.inj (A18.out.symm.trans A250)
              replace H : ((fleuronref01_Sum.f k1 t208).bind fun t215 => (some (t213 == t215))) = some r := H
              clear A250
              replace H := Option.bind_eq_some_iff.mp H
              obtain ⟨t215, A260, H⟩ := H
              replace H : (some (t213 == t215)) = some r := H
              have A26 := Aside0.mk A260
              clear A260
              obtain rfl := Option.some.inj H
              go_wp2_with (first | (go_at_call 17; (with_reducible refine (octet_Put.calls k1 a0 a1 t206 _ A15.out).mono ?_); rintro e w27 ⟨rfl, hb⟩; have n0_ := Aside0.mk (below_step (by repeat (first | (with_reducible first | exact HB.out | apply below_alloc | apply pw_below_drewN | apply below_drew1) | exact HB.out)) hb); clear HB; have HB := n0_; clear n0_; (try clear hb); (try clear hb2); (try clear hk); (try clear hi)) | (go_at_call 20; (with_reducible refine (fleuronref01_Put.calls k1 a0 a1 t207 _ A16.out).mono ?_); rintro e w28 ⟨rfl, hb⟩; have n0_ := Aside0.mk (below_step (by repeat (first | (with_reducible first | exact HB.out | apply below_alloc | apply pw_below_drewN | apply below_drew1) | exact HB.out)) hb); clear HB; have HB := n0_; clear n0_; (try clear hb); (try clear hb2); (try clear hk); (try clear hi)) | (go_at_call 18; (with_reducible refine (fleuronlaw01_few.calls a2 t208 _ A18.out).mono ?_); rintro e w29 ⟨rfl, hb⟩; have n0_ := Aside0.mk (below_step (by repeat (first | (with_reducible first | exact HB.out | apply below_alloc | apply pw_below_drewN | apply below_drew1) | exact HB.out)) hb); clear HB; have HB := n0_; clear n0_; (try clear hb); (try clear hb2); (try clear hk); (try clear hi)) | (go_at_call 21; (with_reducible refine (octet_Text.calls k1 t208 t209 _ A19.out).mono ?_); rintro e w30 ⟨rfl, hb⟩; have n0_ := Aside0.mk (below_step (by repeat (first | (with_reducible first | exact HB.out | apply below_alloc | apply pw_below_drewN | apply below_drew1) | exact HB.out)) hb); clear HB; have HB := n0_; clear n0_; (try clear hb); (try clear hb2); (try clear hk); (try clear hi)) | (go_at_call 18; (with_reducible refine (fleuronlaw01_few.calls a2 t208 _ A18.out).mono ?_); rintro e w31 ⟨rfl, hb⟩; have n0_ := Aside0.mk (below_step (by repeat (first | (with_reducible first | exact HB.out | apply below_alloc | apply pw_below_drewN | apply below_drew1) | exact HB.out)) hb); clear HB; have HB := n0_; clear n0_; (try clear hb); (try clear hb2); (try clear hk); (try clear hi)) | (go_at_call 22; (with_reducible refine (fleuronref01_Text.calls k1 t208 t211 _ A21.out).mono ?_); rintro e w32 ⟨rfl, hb⟩; have n0_ := Aside0.mk (below_step (by repeat (first | (with_reducible first | exact HB.out | apply below_alloc | apply pw_below_drewN | apply below_drew1) | exact HB.out)) hb); clear HB; have HB := n0_; clear n0_; (try clear hb); (try clear hb2); (try clear hk); (try clear hi)) | (go_at_call 18; (with_reducible refine (fleuronlaw01_few.calls a2 t208 _ A18.out).mono ?_); rintro e w33 ⟨rfl, hb⟩; have n0_ := Aside0.mk (below_step (by repeat (first | (with_reducible first | exact HB.out | apply below_alloc | apply pw_below_drewN | apply below_drew1) | exact HB.out)) hb); clear HB; have HB := n0_; clear n0_; (try clear hb); (try clear hb2); (try clear hk); (try clear hi)) | (go_at_call 19; (with_reducible refine (octet_Sum.calls k1 t208 t213 _ A24.out).mono ?_); rintro e w34 ⟨rfl, hb⟩; have n0_ := Aside0.mk (below_step (by repeat (first | (with_reducible first | exact HB.out | apply below_alloc | apply pw_below_drewN | apply below_drew1) | exact HB.out)) hb); clear HB; have HB := n0_; clear n0_; (try clear hb); (try clear hb2); (try clear hk); (try clear hi)) | (go_at_call 18; (with_reducible refine (fleuronlaw01_few.calls a2 t208 _ A18.out).mono ?_); rintro e w35 ⟨rfl, hb⟩; have n0_ := Aside0.mk (below_step (by repeat (first | (with_reducible first | exact HB.out | apply below_alloc | apply pw_below_drewN | apply below_drew1) | exact HB.out)) hb); clear HB; have HB := n0_; clear n0_; (try clear hb); (try clear hb2); (try clear hk); (try clear hi)) | (go_at_call 23; (with_reducible refine (fleuronref01_Sum.calls k1 t208 t215 _ A26.out).mono ?_); rintro e w' ⟨rfl, ⟨nd, rfl⟩⟩))
              go_ret
              exact ⟨by first | rfl | (simp [errW_none, errW_some] <;> rfl) | (simp [*, errW_none, errW_some] <;> rfl), by repeat (first | (with_reducible first | exact HB.out | apply below_alloc | apply pw_below_drewN | apply below_drew1) | exact HB.out)⟩
            · rw [if_neg c22] at H
              have c22b0 : (t209.toList == t211.toList) = false := beq_eq_false_iff_ne.mpr c22
              have c22b1 : (t209.toList != t211.toList) = true := bne_iff_ne.mpr c22
              obtain rfl := Option.some.inj H
              go_wp2_with (first | (go_at_call 17; (with_reducible refine (octet_Put.calls k1 a0 a1 t206 _ A15.out).mono ?_); rintro e w36 ⟨rfl, hb⟩; have n0_ := Aside0.mk (below_step (by repeat (first | (with_reducible first | exact HB.out | apply below_alloc | apply pw_below_drewN | apply below_drew1) | exact HB.out)) hb); clear HB; have HB := n0_; clear n0_; (try clear hb); (try clear hb2); (try clear hk); (try clear hi)) | (go_at_call 20; (with_reducible refine (fleuronref01_Put.calls k1 a0 a1 t207 _ A16.out).mono ?_); rintro e w37 ⟨rfl, hb⟩; have n0_ := Aside0.mk (below_step (by repeat (first | (with_reducible first | exact HB.out | apply below_alloc | apply pw_below_drewN | apply below_drew1) | exact HB.out)) hb); clear HB; have HB := n0_; clear n0_; (try clear hb); (try clear hb2); (try clear hk); (try clear hi)) | (go_at_call 18; (with_reducible refine (fleuronlaw01_few.calls a2 t208 _ A18.out).mono ?_); rintro e w38 ⟨rfl, hb⟩; have n0_ := Aside0.mk (below_step (by repeat (first | (with_reducible first | exact HB.out | apply below_alloc | apply pw_below_drewN | apply below_drew1) | exact HB.out)) hb); clear HB; have HB := n0_; clear n0_; (try clear hb); (try clear hb2); (try clear hk); (try clear hi)) | (go_at_call 21; (with_reducible refine (octet_Text.calls k1 t208 t209 _ A19.out).mono ?_); rintro e w39 ⟨rfl, hb⟩; have n0_ := Aside0.mk (below_step (by repeat (first | (with_reducible first | exact HB.out | apply below_alloc | apply pw_below_drewN | apply below_drew1) | exact HB.out)) hb); clear HB; have HB := n0_; clear n0_; (try clear hb); (try clear hb2); (try clear hk); (try clear hi)) | (go_at_call 18; (with_reducible refine (fleuronlaw01_few.calls a2 t208 _ A18.out).mono ?_); rintro e w40 ⟨rfl, hb⟩; have n0_ := Aside0.mk (below_step (by repeat (first | (with_reducible first | exact HB.out | apply below_alloc | apply pw_below_drewN | apply below_drew1) | exact HB.out)) hb); clear HB; have HB := n0_; clear n0_; (try clear hb); (try clear hb2); (try clear hk); (try clear hi)) | (go_at_call 22; (with_reducible refine (fleuronref01_Text.calls k1 t208 t211 _ A21.out).mono ?_); rintro e w41 ⟨rfl, hb⟩; have n0_ := Aside0.mk (below_step (by repeat (first | (with_reducible first | exact HB.out | apply below_alloc | apply pw_below_drewN | apply below_drew1) | exact HB.out)) hb); clear HB; have HB := n0_; clear n0_; (try clear hb); (try clear hb2); (try clear hk); (try clear hi)))
              go_ret
              exact ⟨by first | rfl | (simp [errW_none, errW_some] <;> rfl) | (simp [*, errW_none, errW_some] <;> rfl), by repeat (first | (with_reducible first | exact HB.out | apply below_alloc | apply pw_below_drewN | apply below_drew1) | exact HB.out)⟩
          · rw [if_neg c17] at H
            have c17b0 : (t206.toList == t207.toList) = false := beq_eq_false_iff_ne.mpr c17
            have c17b1 : (t206.toList != t207.toList) = true := bne_iff_ne.mpr c17
            obtain rfl := Option.some.inj H
            go_wp2_with (first | (go_at_call 17; (with_reducible refine (octet_Put.calls k1 a0 a1 t206 _ A15.out).mono ?_); rintro e w42 ⟨rfl, hb⟩; have n0_ := Aside0.mk (below_step (by repeat (first | (with_reducible first | exact HB.out | apply below_alloc | apply pw_below_drewN | apply below_drew1) | exact HB.out)) hb); clear HB; have HB := n0_; clear n0_; (try clear hb); (try clear hb2); (try clear hk); (try clear hi)) | (go_at_call 20; (with_reducible refine (fleuronref01_Put.calls k1 a0 a1 t207 _ A16.out).mono ?_); rintro e w43 ⟨rfl, hb⟩; have n0_ := Aside0.mk (below_step (by repeat (first | (with_reducible first | exact HB.out | apply below_alloc | apply pw_below_drewN | apply below_drew1) | exact HB.out)) hb); clear HB; have HB := n0_; clear n0_; (try clear hb); (try clear hb2); (try clear hk); (try clear hi)))
            go_ret
            exact ⟨by first | rfl | (simp [errW_none, errW_some] <;> rfl) | (simp [*, errW_none, errW_some] <;> rfl), by repeat (first | (with_reducible first | exact HB.out | apply below_alloc | apply pw_below_drewN | apply below_drew1) | exact HB.out)⟩
        · replace c14 := Bool.eq_false_iff.mpr c14
          subst c14
          have H1 : (some false) = some r := by rw [if_neg (show ¬ (false = true) by decide)] at H; exact H
          clear H
          have H := H1
          clear H1
          obtain rfl := Option.some.inj H
          go_wp2
          go_ret
          exact ⟨by first | rfl | (simp [errW_none, errW_some] <;> rfl) | (simp [*, errW_none, errW_some] <;> rfl), by repeat (first | (with_reducible first | exact HB.out | apply below_alloc | apply pw_below_drewN | apply below_drew1) | exact HB.out)⟩

/-- THE ONE PURE STATEMENT of fleuronlaw01_OctetAll: yours. -/
def fleuronlaw01_OctetAll.Pure : Prop := ∀ (a0 : Int) (a1 : Int) (a2 : ByteArray), (Lit.int .i64 a0).wf = true → (Lit.int .i64 a1).wf = true → a2.size ≤ 140737488351232 → ∃ k, fleuronlaw01_OctetAll.f k a0 a1 a2 = some true
theorem fleuronlaw01_OctetAll.walk (P : fleuronlaw01_OctetAll.Pure) (a0 : Int) (a1 : Int) (a2 : ByteArray) (w : World) (w0 : (Lit.int .i64 a0).wf = true) (w1 : (Lit.int .i64 a1).wf = true) (w2 : a2.size ≤ 140737488351232) :
    Calls Try.prog 6 #[.int .i64 a0, .int .i64 a1, .string a2] w fun e w' => e = .returned (.bool true) ∧ Below w.heap.size w w' := by
  obtain ⟨k, h⟩ := P a0 a1 a2 w0 w1 w2
  refine (fleuronlaw01_OctetAll.calls k a0 a1 a2 true w h).mono ?_
  rintro e w' ⟨rfl, hd⟩
  exact ⟨rfl, hd⟩

end Go.Proofs.Ytfnbaepioignaaa.POct
