/- Put, Text and Sum come to just the bytes and the sum that the document's own words give: for any number, any size, and any text (200 bytes of it). No condition. -/
import Derived.Test.YtfnbaepioignaaaPOctx2
import Derived.Test.YtfnbaepioignaaaPOctx3
import Derived.Test.YtfnbaepioignaaaOctA
import Derived.OpenShut
namespace Go.Proofs.Ytfnbaepioignaaa.Pure
open Go.RowKit Go.Proofs.Ytfnbaepioignaaa.POct Go.Proofs.YtfnbaepioignaaaW.PrintWords Go.Proofs.YtfnbaepioignaaaW.PrintLast Go.Proofs.YtfnbaepioignaaaW.PrintMore
open Go.Proofs.Ytfnbaepioignaaa.OctA

theorem refput_lit (n : Int) (k m : Nat) (h : m ≤ 8) : fleuronref01_Put.f (k + 12) n m = some (strOfNums (be n m)) := by
  have hb : IntKind.u64.bits = 64 := rfl
  have hw : IntKind.u64.wrap n = n % 18446744073709551616 := IntKind.wrap_u64 n
  rcases m with _ | _ | _ | _ | _ | _ | _ | _ | _ | m
  all_goals first
    | (exfalso; omega)
    | (simp [fleuronref01_Put.f, fleuronref01_Put.j0, fleuronref01_Put.l0, wrap64, shr, hb, hw, be]; done)
    | (simp [fleuronref01_Put.f, fleuronref01_Put.j0, fleuronref01_Put.l0, wrap64, shr, hb, hw, be]; apply congrArg; simp only [List.cons.injEq, and_true]; omega)
theorem refput_f (n size : Int) (k : Nat) (hk : 12 ≤ k) : fleuronref01_Put.f k n size = some (put n size) := by
  obtain ⟨k, rfl⟩ : ∃ m, k = m + 12 := ⟨k - 12, by omega⟩
  unfold put
  by_cases h : size < 0 ∨ 8 < size
  · rw [if_pos h]
    unfold fleuronref01_Put.f
    rcases h with h | h
    · rw [if_pos h]; simp [fleuronref01_Put.j0]
    · rw [if_neg (by omega), decide_eq_true (by omega : size > 8)]; simp [fleuronref01_Put.j0]
  · rw [if_neg h]
    obtain ⟨m, rfl⟩ := Int.eq_ofNat_of_zero_le (by omega : 0 ≤ size)
    rw [refput_lit n k m (by omega)]
    rfl
def psum : List Int → Nat → Int
  | [], _ => 0
  | a :: r, i => a * 2 ^ (24 - 8 * (i % 4)) + psum r (i + 1)
theorem psum_wsum (m : Nat) : ∀ l : List Int, psum l (4 * m) = wsum l := by
  intro l
  induction l using wsum.induct generalizing m with
  | case1 => rfl
  | case2 a => simp [psum, wsum]
  | case3 a b => simp [psum, wsum, Nat.add_mod]; omega
  | case4 a b c => simp [psum, wsum, Nat.add_mod]; omega
  | case5 a b c d r ih =>
    have e := ih (m + 1)
    simp only [psum, wsum, ← e]
    have h1 : (4 * m + 1) % 4 = 1 := by omega
    have h2 : (4 * m + 1 + 1) % 4 = 2 := by omega
    have h3 : (4 * m + 1 + 1 + 1) % 4 = 3 := by omega
    have h0 : (4 * m) % 4 = 0 := by omega
    rw [h0, h1, h2, h3, (by omega : 4 * m + 1 + 1 + 1 + 1 = 4 * (m + 1))]
    simp
    omega
theorem refsum_l0 (s : ByteArray) (hs : Small s) (d : Nat) : ∀ (k : Nat) (x : Int) (i : Nat), i ≤ s.size → s.size - i = d → d < k → 0 ≤ x → x < 4294967296 →
    fleuronref01_Sum.l0 k s x i = some ((x + psum ((bytesOf s).drop i) i) % 4294967296) := by
  unfold Small at hs
  induction d with
  | zero =>
    intro k x i h1 hd hk hx hx1
    obtain ⟨k, rfl⟩ : ∃ m, k = m + 1 := ⟨k - 1, by omega⟩
    simp only [fleuronref01_Sum.l0]
    rw [if_neg (by omega), List.drop_of_length_le (by rw [bytesOf_length]; omega)]
    simp only [psum]
    rw [(by omega : (x + 0) % 4294967296 = x)]
  | succ d ih =>
    intro k x i h1 hd hk hx hx1
    obtain ⟨k, rfl⟩ : ∃ m, k = m + 1 := ⟨k - 1, by omega⟩
    simp only [fleuronref01_Sum.l0]
    have ht : Int.tmod (i : Int) 4 = ((i % 4 : Nat) : Int) := by rw [Int.tmod_eq_emod_of_nonneg (by omega)]; omega
    have hw : wrap64 (24 - wrap64 (8 * ((i % 4 : Nat) : Int))) = 24 - 8 * ((i % 4 : Nat) : Int) := by unfold wrap64; omega
    have hi : wrap64 ((i : Int) + 1) = ((i + 1 : Nat) : Int) := by unfold wrap64; omega
    have hbt := bt_range s i
    rw [if_pos (by omega), if_pos (by omega), ht, hw, if_pos (by omega), hi, ih k _ (i + 1) (by omega) (by omega) (by omega) (by omega) (by omega)]
    have hd2 : (bytesOf s).drop i = bt s i :: (bytesOf s).drop (i + 1) := by
      rw [List.drop_eq_getElem_cons (by rw [bytesOf_length]; omega)]
      congr 1
      rw [← rd_bytesOf]
      unfold rd
      simp [bytesOf_length, (by omega : i < s.size)]
    rw [hd2]
    simp only [psum]
    unfold shl
    rw [IntKind.wrap_u32]
    have hm : min (24 - 8 * ((i % 4 : Nat) : Int)).toNat IntKind.u32.bits = 24 - 8 * (i % 4) := by
      show min _ 32 = _
      omega
    rw [hm, (by omega : bt s i % 4294967296 = bt s i)]
    congr 1
    generalize bt s i * 2 ^ (24 - 8 * (i % 4)) = u
    omega
theorem refsum_f (s : ByteArray) (hs : Small s) (k : Nat) (hk : s.size + 1 ≤ k) : fleuronref01_Sum.f k s = some (wsum (bytesOf s) % 4294967296) := by
  unfold fleuronref01_Sum.f
  have := refsum_l0 s hs s.size k 0 0 (by omega) (by omega) (by omega) (by omega) (by omega)
  rw [show ((0 : Nat) : Int) = 0 from rfl] at this
  rw [this, List.drop_zero]
  have e := psum_wsum 0 (bytesOf s)
  rw [Nat.mul_zero] at e
  rw [e, Int.zero_add]
theorem put_two_size (n : Int) : (put n 2).size = 2 := by
  have : put n 2 = strOfNums (be n 2) := rfl
  rw [this, strOfNums_size, be_length]

theorem all_l0 (n size : Int) (s : ByteArray) (d : Nat) : ∀ (k : Nat) (i : Int), -1 ≤ i → i ≤ 10 → (10 - i).toNat = d → 300 + d ≤ k → fleuronlaw01_OctetAll.l0 k n size s true i = some true := by
  induction d with
  | zero =>
    intro k i h0 h1 hd hk
    obtain ⟨k, rfl⟩ : ∃ m, k = m + 1 := ⟨k - 1, by omega⟩
    simp only [fleuronlaw01_OctetAll.l0]
    have sf := few_size s
    have hS : Small (fewS s) := by unfold Small; omega
    rw [if_neg (by omega), if_pos trivial, put_f n size k (by omega), refput_f n size k (by omega)]
    simp only [obind]
    rw [if_pos trivial, few_f s]
    simp only [obind]
    generalize fewS s = f at *
    have e1 : octet_Text.f k f = some (put f.size 2 ++ f) := by
      unfold octet_Text.f
      rw [if_neg (by omega), put_f _ 2 k (by omega)]
      simp only [obind]
      rw [if_pos (by rw [put_two_size]; omega)]
    have e2 : fleuronref01_Text.f k f = some (put f.size 2 ++ f) := by
      unfold fleuronref01_Text.f
      rw [if_neg (by omega), refput_f _ 2 k (by omega)]
      simp only [obind]
      rw [if_pos (by rw [put_two_size]; omega)]
    rw [e1, e2]
    simp only [obind]
    rw [if_pos trivial, sum_f f hS k (by omega), refsum_f f hS k (by omega)]
    simp only [obind]
    rw [beq_self_eq_true]
  | succ d ih =>
    intro k i h0 h1 hd hk
    obtain ⟨k, rfl⟩ : ∃ m, k = m + 1 := ⟨k - 1, by omega⟩
    simp only [fleuronlaw01_OctetAll.l0]
    have hi : wrap64 (i + 1) = i + 1 := by unfold wrap64; omega
    rw [if_pos (by omega), put_f n i k (by omega), refput_f n i k (by omega)]
    simp only [obind]
    rw [if_pos trivial, hi]
    exact ih k (i + 1) (by omega) (by omega) (by omega) (by omega)

theorem OctetAll : fleuronlaw01_OctetAll.Pure := by
  intro n size s _ _ _
  obtain ⟨k, hk⟩ : ∃ k : Nat, 1000 ≤ k := ⟨1000, Nat.le_refl _⟩
  refine ⟨k, ?_⟩
  unfold fleuronlaw01_OctetAll.f
  rw [shown_f k (by omega)]
  simp only [obind]
  exact all_l0 n size s 11 k (-1) (by omega) (by omega) (by omega) (by omega)
end Go.Proofs.Ytfnbaepioignaaa.Pure
