/- Sums of bytes in fours add up, in whatever order the parts stand, and bytes 0 behind them change nothing: for any two strings and any number of zero bytes (0 to 8). No condition. -/
import Derived.Test.YtfnbaepioignaaaPOctx2
import Derived.Test.YtfnbaepioignaaaOctA
import Derived.OpenShut
namespace Go.Proofs.Ytfnbaepioignaaa.Pure
open Go.RowKit Go.Proofs.Ytfnbaepioignaaa.POct Go.Proofs.YtfnbaepioignaaaW.PrintWords Go.Proofs.YtfnbaepioignaaaW.PrintLast
open Go.Proofs.Ytfnbaepioignaaa.OctA

theorem wsum_app (n : Nat) : ∀ (l m : List Int), l.length = 4 * n → wsum (l ++ m) = wsum l + wsum m := by
  induction n with
  | zero =>
    intro l m h
    match l, h with
    | [], _ => simp [wsum]
  | succ n ih =>
    intro l m h
    match l, h with
    | a :: b :: c :: d :: r, h =>
      simp only [List.cons_append, wsum]
      rw [ih r m (by simp at h; omega)]
      omega
theorem wsum_zero : ∀ n : Nat, wsum (List.replicate n 0) = 0
  | 0 => rfl
  | 1 => rfl
  | 2 => rfl
  | 3 => rfl
  | n + 4 => by simp only [List.replicate_succ, wsum]; rw [wsum_zero n]; rfl
theorem wsum_zeros (l : List Int) (n : Nat) : wsum (l ++ List.replicate n 0) = wsum l := by
  match l with
  | [] => simp [wsum, wsum_zero]
  | [a] =>
    match n with
    | 0 => rfl
    | 1 => simp [wsum, List.replicate_succ]; omega
    | 2 => simp [wsum, List.replicate_succ]; omega
    | n + 3 => simp [wsum, List.replicate_succ, wsum_zero]; omega
  | [a, b] =>
    match n with
    | 0 => rfl
    | 1 => simp [wsum, List.replicate_succ]; omega
    | n + 2 => simp [wsum, List.replicate_succ, wsum_zero]; omega
  | [a, b, c] =>
    match n with
    | 0 => rfl
    | n + 1 => simp [wsum, List.replicate_succ, wsum_zero]
  | a :: b :: c :: d :: r =>
    simp only [List.cons_append, wsum]
    rw [wsum_zeros r n]

theorem small_of {s : ByteArray} {n : Nat} (h : s.size ≤ n) (hn : n ≤ 1000000) : Small s := by unfold Small; omega
theorem OctetSums : fleuronlaw01_OctetSums.Pure := by
  intro a b n ha hb hn
  obtain ⟨k, hk⟩ : ∃ k : Nat, 1000 ≤ k := ⟨1000, Nat.le_refl _⟩
  refine ⟨k, ?_⟩
  unfold fleuronlaw01_OctetSums.f
  rw [shown_f k (by omega), few_f a]
  simp only [obind]
  have sa := few_size a
  have sb := few_size b
  generalize fewS a = x at *
  have w1 : ∀ s : ByteArray, s.size ≤ 200 → wrap64 (wrap64 ((s.size : Int) / 4) * 4) = (s.size / 4 * 4 : Nat) := by intro s h; unfold wrap64; omega
  rw [w1 x sa, if_pos (by omega), if_pos (by omega), few_f b]
  simp only [obind]
  generalize fewS b = y at *
  rw [w1 y sb, if_pos (by omega), if_pos (by omega)]
  simp only [Int.toNat_natCast]
  have hn0 := bounds_u8 hn
  have ht : Int.tmod n 9 = n % 9 := Int.tmod_eq_emod_of_nonneg hn0.1
  rw [ht, if_pos (by omega), if_pos (by omega), if_pos trivial]
  have lx : (bytesOf (x.extract 0 (x.size / 4 * 4))).length = 4 * (x.size / 4) := by
    rw [bytesOf_extract, List.length_take, List.length_drop, bytesOf_length]; omega
  have ly : (bytesOf (y.extract 0 (y.size / 4 * 4))).length = 4 * (y.size / 4) := by
    rw [bytesOf_extract, List.length_take, List.length_drop, bytesOf_length]; omega
  generalize x.extract 0 (x.size / 4 * 4) = X at *
  generalize y.extract 0 (y.size / 4 * 4) = Y at *
  have sX : X.size ≤ 200 := by rw [← bytesOf_length, lx]; omega
  have sY : Y.size ≤ 200 := by rw [← bytesOf_length, ly]; omega
  have sXY : (X ++ Y).size ≤ 400 := by rw [← bytesOf_length, bytesOf_append, List.length_append, lx, ly]; omega
  have sYX : (Y ++ X).size ≤ 400 := by rw [← bytesOf_length, bytesOf_append, List.length_append, lx, ly]; omega
  have hz : bytesOf ((⟨#[0, 0, 0, 0, 0, 0, 0, 0]⟩ : ByteArray).extract 0 (n % 9).toNat) = List.replicate (n % 9).toNat 0 := by
    rw [bytesOf_extract]
    have : bytesOf (⟨#[0, 0, 0, 0, 0, 0, 0, 0]⟩ : ByteArray) = List.replicate 8 0 := by decide
    rw [this, List.drop_zero, List.take_replicate]
    congr 1
    omega
  generalize ((⟨#[0, 0, 0, 0, 0, 0, 0, 0]⟩ : ByteArray).extract 0 (n % 9).toNat) = Z at *
  have sZ : Z.size ≤ 8 := by rw [← bytesOf_length, hz, List.length_replicate]; omega
  have syZ : (y ++ Z).size ≤ 400 := by rw [← bytesOf_length, bytesOf_append, List.length_append, bytesOf_length, bytesOf_length]; omega
  rw [if_pos (by omega), sum_f _ (small_of sXY (by omega)) k (by omega), sum_f _ (small_of sX (by omega)) k (by omega), sum_f _ (small_of sY (by omega)) k (by omega), sum_f _ (small_of sYX (by omega)) k (by omega)]
  simp only [obind]
  have e1 : wsum (bytesOf (X ++ Y)) = wsum (bytesOf X) + wsum (bytesOf Y) := by rw [bytesOf_append, wsum_app _ _ _ lx]
  have e2 : wsum (bytesOf (Y ++ X)) = wsum (bytesOf Y) + wsum (bytesOf X) := by rw [bytesOf_append, wsum_app _ _ _ ly]
  have e3 : wsum (bytesOf (y ++ Z)) = wsum (bytesOf y) := by rw [bytesOf_append, hz, wsum_zeros]
  rw [if_pos (by omega), if_pos (by omega), if_pos (by omega), if_pos (by omega), sum_f _ (small_of syZ (by omega)) k (by omega), sum_f _ (small_of sb (by omega)) k (by omega)]
  simp only [obind]
  have hS : Small (⟨#[]⟩ : ByteArray) := by unfold Small; show (0 : Nat) ≤ 4611686018427387904; omega
  rw [if_pos (by rw [e3]), sum_f _ hS k (by show 1 ≤ k; omega)]
  simp [bytesOf, wsum]
end Go.Proofs.Ytfnbaepioignaaa.Pure
