/- A number of so many bytes is that of its first ones, times 256 for each of the others, and that of these; and bytes are taken one by one as all at once: for any bytes (7 of them) and any place where they are cut. No condition. -/
import Derived.Test.YtfnbaepioignaaaPOcttx2
import Derived.Test.YtfnbaepioignaaaOctC
import Derived.OpenShut
namespace Go.Proofs.Ytfnbaepioignaaa.Pure
open Go.RowKit Go.Proofs.Ytfnbaepioignaaa.POctt Go.Proofs.YtfnbaepioignaaaW.PrintWords Go.Proofs.YtfnbaepioignaaaW.PrintLast Go.Proofs.YtfnbaepioignaaaW.PrintMore
open Go.Proofs.Ytfnbaepioignaaa.OctC
set_option linter.unusedVariables false

theorem sub_all (s : ByteArray) : sub s 0 s.size = bytesOf s := by
  unfold sub
  rw [show (0 : Int).toNat = 0 from rfl, List.drop_zero, List.take_of_length_le]
  rw [bytesOf_length]; omega
theorem sub_split (s : ByteArray) (q : Int) (h0 : 0 ≤ q) (h1 : q ≤ s.size) : bytesOf s = sub s 0 q ++ sub s q (s.size - q) := by
  have e := drop_sub s 0 q (by omega) h0
  rw [show (0 : Int).toNat = 0 from rfl, List.drop_zero, Int.zero_add] at e
  rw [e]
  congr 1
  unfold sub
  rw [List.take_of_length_le]
  rw [List.length_drop, bytesOf_length]; omega
theorem pow256 (m : Nat) : (2 : Int) ^ (8 * m) = 256 ^ m := by
  rw [Int.pow_mul]; rfl
theorem pow_le7 (m : Nat) (h : m ≤ 7) : (256 : Int) ^ m ≤ 72057594037927936 := by
  rcases m with _ | _ | _ | _ | _ | _ | _ | _ | m
  all_goals first | (exfalso; omega) | (simp; done) | (simp; omega)
theorem parts_l0 (s : ByteArray) (h7 : s.size ≤ 7) (q : Int) (hq0 : 0 ≤ q) (hq1 : q ≤ s.size) (d : Nat) : ∀ (k : Nat) (i : Nat), i ≤ s.size → s.size - i = d → d + 20 ≤ k →
    fleuronlaw01_OctetParts.l0 k s q (val (bytesOf s)) (val (sub s 0 q)) (val (sub s q (s.size - q))) (s.extract 0 i) i s s.size false s i false = some true := by
  have hS : Small s := by unfold Small; omega
  induction d with
  | zero =>
    intro k i h1 hd hk
    obtain ⟨k, rfl⟩ : ∃ m, k = m + 1 := ⟨k - 1, by omega⟩
    simp only [fleuronlaw01_OctetParts.l0]
    have hw : wrap64 (8 * wrap64 ((s.size : Int) - q)) = 8 * (s.size - q) := by unfold wrap64; omega
    have hi : i = s.size := by omega
    subst hi
    have hx : s.extract 0 s.size = s := by
      apply bytesOf_inj
      rw [bytesOf_extract, List.drop_zero, List.take_of_length_le]
      rw [bytesOf_length]; omega
    rw [if_neg (by omega), hw, if_pos (by omega), hx]
    have hb := sub_split s q hq0 hq1
    have hl := sub_length s q (s.size - q) hq0 (by omega) (by omega)
    have hl0 := sub_length s 0 q (by omega) hq0 (by omega)
    have ha := val_append (sub s 0 q) (sub s q (s.size - q))
    rw [← hb, hl] at ha
    have v0 := val_nonneg _ (byt_sub s 0 q)
    have v1 := val_nonneg _ (byt_sub s q (s.size - q))
    have vl := val_lt _ (byt_bytesOf s)
    have hbl := bytesOf_length s
    rw [hbl] at vl
    have vmax := pow_le7 s.size h7
    have hpos : 0 ≤ val (sub s 0 q) * 256 ^ (s.size - q : Int).toNat := Int.mul_nonneg v0 (Int.le_of_lt (Int.pow_pos (by decide)))
    have hsh : shl .i64 (val (sub s 0 q)) (8 * (s.size - q)) = val (sub s 0 q) * 256 ^ (s.size - q : Int).toNat := by
      unfold shl
      have hm : min (8 * ((s.size : Int) - q)).toNat IntKind.i64.bits = 8 * (s.size - q : Int).toNat := by show min _ 64 = _; omega
      rw [hm, pow256, IntKind.wrap_i64]
      generalize val (sub s 0 q) * 256 ^ (s.size - q : Int).toNat = u at *
      omega
    rw [hsh]
    have e2 : wrap64 (val (sub s 0 q) * 256 ^ (s.size - q : Int).toNat + val (sub s q (s.size - q))) = val (bytesOf s) := by
      rw [← ha]; unfold wrap64; omega
    rw [e2, if_pos rfl, if_pos rfl, show octet_Reader_Failed.f s (s.size : Int) false = some (false, s, (s.size : Int), false) from rfl]
    simp only [obind]
    rw [if_neg (by decide), put_f _ _ k (by omega)]
    simp only [obind]
    have hp : put (val (bytesOf s)) s.size = s := by
      unfold put
      rw [if_neg (by omega), Int.toNat_natCast, ← hbl, be_val _ (byt_bytesOf s), strOfNums_bytesOf]
    rw [hp, beq_self_eq_true]
  | succ d ih =>
    intro k i h1 hd hk
    obtain ⟨k, rfl⟩ : ∃ m, k = m + 1 := ⟨k - 1, by omega⟩
    simp only [fleuronlaw01_OctetParts.l0]
    rw [if_pos (by omega), take_ok s i 1 (by omega) (by omega) hS (by omega) (by omega)]
    simp only [obind]
    have hcat : s.extract 0 i ++ s.extract (i : Int).toNat ((i : Int) + 1).toNat = s.extract 0 (i + 1) := by
      apply bytesOf_inj
      rw [bytesOf_append, bytesOf_extract, bytesOf_extract, bytesOf_extract, List.drop_zero, Int.toNat_natCast, (by omega : ((i : Int) + 1).toNat - i = 1), Nat.sub_zero, Nat.sub_zero, List.take_add]
    have hsz : (s.extract 0 i).size + (s.extract (i : Int).toNat ((i : Int) + 1).toNat).size ≤ 9223372036854775807 := by
      simp only [ByteArray.size_extract]; omega
    have hi : wrap64 ((i : Int) + 1) = ((i + 1 : Nat) : Int) := by unfold wrap64; omega
    rw [if_pos hsz, hcat, hi]
    have e := ih k (i + 1) (by omega) (by omega) (by omega)
    rw [show ((i : Int) + 1) = ((i + 1 : Nat) : Int) by omega]
    exact e

theorem OctetParts : fleuronlaw01_OctetParts.Pure := by
  intro s at_ _ ha
  obtain ⟨k, hk⟩ : ∃ k : Nat, 1000 ≤ k := ⟨1000, Nat.le_refl _⟩
  obtain ⟨k, rfl⟩ : ∃ m, k = m + 1 := ⟨k - 1, by omega⟩
  refine ⟨k + 1, ?_⟩
  unfold fleuronlaw01_OctetParts.f
  have hb := bounds_u8 ha
  have hm : mn (s.size : Int) 7 = (min s.size 7 : Nat) := by unfold mn; omega
  rw [shown_f (k + 1) (by omega), hm]
  simp only [obind, Int.toNat_natCast]
  have sf : (s.extract 0 (min s.size 7)).size ≤ 7 := by simp only [ByteArray.size_extract]; omega
  rw [if_pos (by omega), if_pos (by omega)]
  generalize s.extract 0 (min s.size 7) = f at *
  have hS : Small f := by unfold Small; omega
  have hw1 : wrap64 at_ = at_ := by unfold wrap64; omega
  have hw2 : wrap64 ((f.size : Int) + 1) = f.size + 1 := by unfold wrap64; omega
  have ht : Int.tmod at_ ((f.size : Int) + 1) = at_ % (f.size + 1) := Int.tmod_eq_emod_of_nonneg hb.1
  rw [hw1, hw2, ht, if_neg (by omega)]
  have hm0 := Int.emod_nonneg at_ (by omega : ((f.size : Int) + 1) ≠ 0)
  have hm1 := Int.emod_lt_of_pos at_ (by omega : (0 : Int) < (f.size : Int) + 1)
  generalize at_ % ((f.size : Int) + 1) = q at *
  have e : octet_Read.f f = some (f, 0, false) := rfl
  rw [e]
  simp only [obind]
  rw [if_pos trivial]
  simp only [fleuronlaw01_OctetParts.j0]
  have hw3 : wrap64 ((f.size : Int) - q) = f.size - q := by unfold wrap64; omega
  rw [if_neg (by decide), num_ok f 0 f.size (by omega) (by omega) hS (by omega) (by omega) (by omega), num_ok f 0 q (by omega) (by omega) hS hm0 (by omega) (by omega), hw3]
  simp only [obind, Int.zero_add]
  rw [num_ok f q (f.size - q) hm0 (by omega) hS (by omega) (by omega) (by omega)]
  simp only [obind]
  rw [sub_all]
  have vb : ∀ (l : List Int), Byt l → l.length ≤ 7 → wrap64 (val l) = val l := by
    intro l hl h7
    have v0 := val_nonneg l hl
    have vl := val_lt l hl
    have vmax := pow_le7 l.length h7
    unfold wrap64; omega
  rw [vb _ (byt_bytesOf f) (by rw [bytesOf_length]; exact sf), vb _ (byt_sub f 0 q) (by rw [sub_length f 0 q (by omega) hm0 (by omega)]; omega), vb _ (byt_sub f q _) (by rw [sub_length f q _ hm0 (by omega) (by omega)]; omega)]
  have z := parts_l0 f sf q hm0 (by omega) f.size k 0 (by omega) (by omega) (by omega)
  have hx : f.extract 0 0 = (⟨#[]⟩ : ByteArray) := by
    apply bytesOf_inj
    rw [bytesOf_extract]
    simp [bytesOf]
  rw [hx] at z
  rw [show q + ((f.size : Int) - q) = f.size by omega]
  exact z
end Go.Proofs.Ytfnbaepioignaaa.Pure
