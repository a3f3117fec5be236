/- A reader that failed (in any of six ways) tells nothing ever after, and stays where it was: for any bytes (200 of them), however many are taken ahead. No condition. -/
import Derived.Test.YtfnbaepioignaaaPOctx4
import Derived.Test.YtfnbaepioignaaaOctB
namespace Go.Proofs.Ytfnbaepioignaaa.Pure
open Go.RowKit Go.Proofs.Ytfnbaepioignaaa.POct Go.Proofs.YtfnbaepioignaaaW.PrintWords Go.Proofs.YtfnbaepioignaaaW.PrintLast Go.Proofs.YtfnbaepioignaaaW.PrintMore
open Go.Proofs.Ytfnbaepioignaaa.OctA
set_option linter.unusedVariables false

theorem at_ff (s : ByteArray) (p : Int) (b : Bool) : octet_Reader_At.f s p b = some (p, s, p, b) := rfl
theorem empty_list : (⟨#[]⟩ : ByteArray).toList = ([] : List UInt8) := by rw [Lib.toList_data]
theorem fails_j2 (k : Nat) (s : ByteArray) (p : Int) (h0 : 0 ≤ p) (h1 : p ≤ s.size) (hs : Small s) :
    fleuronlaw01_OctetFails.j2 (k + 1) p true (s.size - p) s p true = some true := by
  simp only [fleuronlaw01_OctetFails.j2]
  rw [if_pos trivial, failed_ff]
  simp only [obind]
  rw [if_pos trivial, at_ff]
  simp only [obind]
  rw [if_pos trivial, left_ff s p true h0 h1 hs]
  simp only [obind]
  rw [if_pos trivial, take_bad s p true 0 h0 h1 hs (.inl rfl)]
  simp only [obind]
  rw [if_pos empty_list, num_bad s p true 0 h0 h1 hs (.inl rfl)]
  simp only [obind]
  rw [if_pos trivial, int_bad s p true 1 h0 h1 hs (.inl rfl)]
  simp only [obind]
  rw [if_pos trivial, text_bad s p true h0 h1 hs (.inl rfl)]
  simp only [obind]
  rw [if_pos empty_list, num_bad s p true 1 h0 h1 hs (.inl rfl)]
  simp only [obind]
  rw [if_pos trivial, take_bad s p true _ h0 h1 hs (.inl rfl)]
  simp only [obind]
  rw [if_pos empty_list, at_ff]
  simp only [obind, beq_self_eq_true]
theorem fails_j1 (k : Nat) (s : ByteArray) (p way : Int) (h0 : 0 ≤ p) (h1 : p ≤ s.size) (hs : Small s) (h2 : s.size ≤ 200) :
    fleuronlaw01_OctetFails.j1 (k + 2) way p true s p false = some true := by
  have hs' := hs
  unfold Small at hs'
  rw [show k + 2 = (k + 1) + 1 from rfl]
  simp only [fleuronlaw01_OctetFails.j1]
  rw [left_ff s p false h0 h1 hs]
  simp only [obind]
  have hw : wrap64 ((s.size : Int) - p + 1) = s.size - p + 1 := by unfold wrap64; omega
  have e := fails_j2 k s p h0 h1 hs
  rw [hw, take_bad s p false _ h0 h1 hs (by right; right; omega), take_bad s p false (-1) h0 h1 hs (by right; left; omega), num_bad s p false 9 h0 h1 hs (by omega),
    int_bad s p false (-1) h0 h1 hs (by omega), take_bad s p false 4611686018427387904 h0 h1 hs (by right; right; omega), num_bad s p false (-9223372036854775808) h0 h1 hs (by omega)]
  simp only [obind, e]
  repeat (first | rfl | split)
theorem OctetFails : fleuronlaw01_OctetFails.Pure := by
  intro s ahead way _ ha _
  obtain ⟨k, hk⟩ : ∃ k : Nat, 1000 ≤ k := ⟨1000, Nat.le_refl _⟩
  obtain ⟨k, rfl⟩ : ∃ m, k = m + 3 := ⟨k - 3, by omega⟩
  refine ⟨k + 3, ?_⟩
  unfold fleuronlaw01_OctetFails.f
  have sf := few_size s
  have hS : Small (fewS s) := by unfold Small; omega
  rw [shown_f (k + 3) (by omega), few_f s]
  simp only [obind]
  have e : octet_Read.f (fewS s) = some (fewS s, 0, false) := rfl
  rw [e]
  simp only [obind]
  rw [if_pos trivial, show k + 3 = (k + 2) + 1 from rfl]
  simp only [fleuronlaw01_OctetFails.j0]
  rw [if_neg (by decide), few_f s]
  simp only [obind]
  generalize fewS s = f at *
  have hb := bounds_u8 ha
  have hw1 : wrap64 ahead = ahead := by unfold wrap64; omega
  have hw2 : wrap64 ((f.size : Int) + 1) = f.size + 1 := by unfold wrap64; omega
  have ht : Int.tmod ahead ((f.size : Int) + 1) = ahead % (f.size + 1) := Int.tmod_eq_emod_of_nonneg hb.1
  rw [hw1, hw2, ht, if_neg (by omega)]
  have hm0 := Int.emod_nonneg ahead (by omega : ((f.size : Int) + 1) ≠ 0)
  have hm1 := Int.emod_lt_of_pos ahead (by omega : (0 : Int) < (f.size : Int) + 1)
  generalize ahead % ((f.size : Int) + 1) = q at *
  rw [take_ok f 0 q (by omega) (by omega) hS hm0 (by omega)]
  simp only [obind]
  rw [if_pos hm0, if_pos (by omega), if_pos (by rw [Int.zero_add]; rfl), failed_ff]
  simp only [obind, Int.zero_add]
  exact fails_j1 k f q way (by omega) (by omega) hS sf
end Go.Proofs.Ytfnbaepioignaaa.Pure
