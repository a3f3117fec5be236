/- A nil reader, and one of nothing, tell nothing; and a text of 65535 bytes (or up to 7 fewer) has its length ahead, and one of more comes to nothing. No condition. -/
import Derived.Test.YtfnbaepioignaaaPOctnx3
import Derived.Test.YtfnbaepioignaaaOctN
import Derived.OpenShut
namespace Go.Proofs.Ytfnbaepioignaaa.Pure
open Go.RowKit Go.Proofs.Ytfnbaepioignaaa.POctn Go.Proofs.YtfnbaepioignaaaW.PrintWords Go.Proofs.YtfnbaepioignaaaW.PrintLast Go.Proofs.YtfnbaepioignaaaW.PrintMore
open Go.Proofs.Ytfnbaepioignaaa.OctN
set_option linter.unusedVariables false

theorem nil_long (a0 : Int) (h : 0 ≤ a0 ∧ a0 ≤ 255) : ∃ N : Nat, wrap64 (65528 + wrap64 (Int.tmod a0 15)) = (N : Int) ∧ 65528 ≤ N ∧ N ≤ 65542 := by
  rw [Int.tmod_eq_emod_of_nonneg h.1]
  refine ⟨(65528 + a0 % 15).toNat, ?_, ?_, ?_⟩
  · unfold wrap64; omega
  · omega
  · omega
theorem put_two (n : Int) : (put n 2).size = 2 := by
  have : put n 2 = strOfNums (be n 2) := rfl
  rw [this, strOfNums_size, be_length]
theorem nil_j0 (k : Nat) (hk : 20 ≤ k) (a0 : Int) (h : 0 ≤ a0 ∧ a0 ≤ 255) : fleuronlaw01_OctetNil.j0 (k + 1) a0 true false = some true := by
  simp only [fleuronlaw01_OctetNil.j0]
  obtain ⟨N, hN, hlo, hhi⟩ := nil_long a0 h
  rw [if_neg (by decide), hN, if_pos (by omega), if_pos (by rw [Int.toNat_natCast]; omega), Int.toNat_natCast]
  obtain ⟨u, hu⟩ : ∃ u, u = strOfNums (List.replicate N 0) := ⟨_, rfl⟩
  have hus : u.size = N := by rw [hu, strOfNums_size, List.length_replicate]
  rw [← hu]
  clear hu
  by_cases hbig : (N : Int) > 65535
  · have e : octet_Text.f k u = some ⟨#[]⟩ := by
      unfold octet_Text.f
      rw [if_pos (by omega)]
    rw [e]
    simp only [obind]
    rw [if_pos hbig, if_pos trivial]
    have hem : (⟨#[]⟩ : ByteArray).toList = ([] : List UInt8) := by rw [Lib.toList_data]
    rw [hem]
    rfl
  · have hp := put_two u.size
    have e : octet_Text.f k u = some (put u.size 2 ++ u) := by
      unfold octet_Text.f
      rw [if_neg (by omega), put_f _ 2 k (by omega)]
      simp only [obind]
      rw [if_pos (by omega)]
    rw [e]
    simp only [obind]
    have hsz : (put u.size 2 ++ u).size = 2 + N := by rw [← bytesOf_length, bytesOf_append, List.length_append, bytesOf_length, bytesOf_length, hp, hus]
    have hw : wrap64 ((N : Int) + 2) = N + 2 := by unfold wrap64; omega
    have hx : (put u.size 2 ++ u).extract 0 2 = put u.size 2 := by
      apply bytesOf_inj
      rw [bytesOf_extract, bytesOf_append, List.drop_zero, Nat.sub_zero, List.take_append_of_le_length (by rw [bytesOf_length, hp]; exact Nat.le_refl _), List.take_of_length_le (by rw [bytesOf_length, hp]; exact Nat.le_refl _)]
    rw [if_neg hbig, if_pos trivial, hsz, hw, if_pos (by omega), if_pos (by omega), if_pos (by omega), put_f _ 2 k (by omega)]
    simp only [obind]
    rw [hx, hus, beq_self_eq_true]
theorem OctetNil (a0 dd n : Int) (h : (Lit.int .u8 a0).wf = true) : ∃ k, fleuronlaw01_OctetNil.f k a0 dd n = some true := by
  obtain ⟨k, hk⟩ : ∃ k : Nat, 1000 ≤ k := ⟨1000, Nat.le_refl _⟩
  obtain ⟨k, rfl⟩ : ∃ m, k = m + 1 := ⟨k - 1, by omega⟩
  refine ⟨k + 1, ?_⟩
  have hb := bounds_u8 h
  have hS : Small (⟨#[]⟩ : ByteArray) := by unfold Small; show (0 : Nat) ≤ 4611686018427387904; omega
  have hem : (⟨#[]⟩ : ByteArray).toList = ([] : List UInt8) := by rw [Lib.toList_data]
  unfold fleuronlaw01_OctetNil.f
  rw [shown_f (k + 1) (by omega), show fleuronlaw01_one_nil.f dd n = some (0, ⟨#[]⟩) from rfl]
  simp only [obind]
  rw [if_pos trivial, if_pos hem, show octet_Reader_Failed_nil.f = some true from rfl]
  simp only [obind]
  rw [if_pos trivial, show octet_Reader_At_nil.f = some 0 from rfl]
  simp only [obind]
  rw [if_pos trivial, show octet_Reader_Left_nil.f = some 0 from rfl]
  simp only [obind]
  have hz : ((⟨#[]⟩ : ByteArray).size : Int) = 0 := rfl
  rw [if_pos trivial, left_ff ⟨#[]⟩ 0 false (by omega) (by omega) hS]
  simp only [obind]
  rw [if_pos (by rw [hz]; rfl), show octet_Reader_At.f ⟨#[]⟩ 0 false = some (0, ⟨#[]⟩, 0, false) from rfl]
  simp only [obind]
  rw [if_pos trivial, failed_ff]
  simp only [obind]
  rw [if_neg (by decide), num_bad ⟨#[]⟩ 0 false 1 (by omega) (by omega) hS (by right; right; right; rw [hz]; omega)]
  simp only [obind]
  rw [if_pos trivial, failed_ff]
  simp only [obind]
  exact nil_j0 k (by omega) a0 hb
end Go.Proofs.Ytfnbaepioignaaa.Pure
