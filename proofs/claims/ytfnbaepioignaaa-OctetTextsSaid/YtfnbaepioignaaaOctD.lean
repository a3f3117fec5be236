/- Plain laws on the reader of layer 1: what Int and Text come to, where they fail and where they do not. No condition. -/
import Derived.Test.YtfnbaepioignaaaPOcttx4
import Derived.Test.YtfnbaepioignaaaOctC
import Derived.OpenShut
namespace Go.Proofs.Ytfnbaepioignaaa.OctC
open Go.RowKit Go.Proofs.Ytfnbaepioignaaa.POctt Go.Proofs.YtfnbaepioignaaaW.PrintWords Go.Proofs.YtfnbaepioignaaaW.PrintLast Go.Proofs.YtfnbaepioignaaaW.PrintMore
set_option linter.unusedVariables false

def sgn (m : Nat) (v : Int) : Int := if m = 0 ∨ 2 * v < 256 ^ m then v else v - 256 ^ m
theorem seen_val (m : Nat) (v : Int) (hm : m ≤ 8) (h0 : 0 ≤ v) (h1 : v < 256 ^ m) : seenInt m (wrap64 v) = sgn m v ∧ -9223372036854775808 ≤ sgn m v ∧ sgn m v ≤ 9223372036854775807 := by
  unfold seenInt sgn
  rcases m with _ | _ | _ | _ | _ | _ | _ | _ | _ | m
  all_goals first
    | (exfalso; omega)
    | (simp at h1 ⊢; unfold wrap64; first | omega | (split <;> omega))
theorem int_bad (s : ByteArray) (p : Int) (b : Bool) (n : Int) (h0 : 0 ≤ p) (h1 : p ≤ s.size) (hs : Small s) (h : b = true ∨ n < 0 ∨ 8 < n ∨ s.size - p < n) :
    octet_Reader_Int.f s p b n = some (0, s, p, true) := by
  unfold octet_Reader_Int.f
  by_cases h2 : n < 0
  · rw [if_pos h2]
  · rw [if_neg h2]
    by_cases h3 : 8 < n
    · rw [if_pos h3]
    · rw [if_neg h3, take_bad s p b n h0 h1 hs (by rcases h with h | h | h | h <;> simp_all)]
      simp only [obind]
      have e : beNum (bytesOf (⟨#[]⟩ : ByteArray)) = 0 := rfl
      rw [e, if_pos (by show (0 : Nat) ≤ 8; omega)]
      have : seenInt n 0 = 0 := by unfold seenInt wrap64; simp
      rw [this]
theorem int_ok (s : ByteArray) (p n : Int) (h0 : 0 ≤ p) (h1 : p ≤ s.size) (hs : Small s) (hn : 0 ≤ n) (h8 : n ≤ 8) (h : n ≤ s.size - p) :
    octet_Reader_Int.f s p false n = some (sgn n.toNat (val (sub s p n)), s, p + n, false) := by
  unfold octet_Reader_Int.f
  rw [if_neg (by omega), if_neg (by omega), take_ok s p n h0 h1 hs hn h]
  simp only [obind]
  have hl := sub_length s p n h0 hn h
  have hv := val_lt _ (byt_sub s p n)
  rw [hl] at hv
  rw [if_pos, bytesOf_sub s p n h0 hn, beNum_val _ (byt_sub s p n)]
  · obtain ⟨m, rfl⟩ := Int.eq_ofNat_of_zero_le hn
    rw [(seen_val m _ (by omega) (val_nonneg _ (byt_sub s p m)) hv).1]
    rfl
  · rw [← bytesOf_length, bytesOf_sub s p n h0 hn, hl]
    omega
theorem text_bad (s : ByteArray) (p : Int) (b : Bool) (h0 : 0 ≤ p) (h1 : p ≤ s.size) (hs : Small s) (h : b = true ∨ s.size - p < 2 ∨ s.size - p - 2 < val (sub s p 2)) :
    octet_Reader_Text.f s p b = some (⟨#[]⟩, s, p, true) := by
  unfold octet_Reader_Text.f
  by_cases h2 : b = true ∨ s.size - p < 2
  · rw [num_bad s p b 2 h0 h1 hs (by rcases h2 with h | h <;> simp_all)]
    simp only [obind]
    rw [take_bad s p true 0 h0 h1 hs (.inl rfl)]
    simp only [obind]
    rw [if_pos trivial]
  · have hb : b = false := by cases b <;> simp_all
    subst hb
    have hp : ¬ (s.size - p < 2) := fun h => h2 (.inr h)
    have hv := val_lt _ (byt_sub s p 2)
    rw [sub_length s p 2 h0 (by omega) (by omega)] at hv
    have hv' : val (sub s p 2) < 65536 := hv
    have hv0 := val_nonneg _ (byt_sub s p 2)
    rw [num_ok s p 2 h0 h1 hs (by omega) (by omega) (by omega)]
    simp only [obind]
    have hw : wrap64 (val (sub s p 2)) = val (sub s p 2) := by unfold wrap64; omega
    rw [hw, take_bad s (p + 2) false _ (by omega) (by omega) hs (by right; right; rcases h with h | h | h <;> simp_all <;> omega)]
    simp only [obind]
    rw [if_pos trivial]
theorem text_ok (s : ByteArray) (p : Int) (h0 : 0 ≤ p) (h1 : p ≤ s.size) (hs : Small s) (h2 : 2 ≤ s.size - p) (h : val (sub s p 2) ≤ s.size - p - 2) :
    octet_Reader_Text.f s p false = some (s.extract (p + 2).toNat (p + 2 + val (sub s p 2)).toNat, s, p + 2 + val (sub s p 2), false) := by
  unfold octet_Reader_Text.f
  have hv := val_lt _ (byt_sub s p 2)
  rw [sub_length s p 2 h0 (by omega) (by omega)] at hv
  have hv' : val (sub s p 2) < 65536 := hv
  have hv0 := val_nonneg _ (byt_sub s p 2)
  rw [num_ok s p 2 h0 h1 hs (by omega) (by omega) (by omega)]
  simp only [obind]
  have hw : wrap64 (val (sub s p 2)) = val (sub s p 2) := by unfold wrap64; omega
  rw [hw, take_ok s (p + 2) _ (by omega) (by omega) hs hv0 (by omega)]
  simp only [obind]
  rw [if_neg (by decide)]
end Go.Proofs.Ytfnbaepioignaaa.OctC
