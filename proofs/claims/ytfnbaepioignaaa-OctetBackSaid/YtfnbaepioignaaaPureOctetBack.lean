/- What was put is read: a number that fits with its sign, and without it if it is not below 0; and of one that does not fit what is left of it comes back: for any number, and any bytes behind (200 of them). No condition. -/
import Derived.Test.YtfnbaepioignaaaPOcttx3
import Derived.Test.YtfnbaepioignaaaOctD
namespace Go.Proofs.Ytfnbaepioignaaa.Pure
open Go.RowKit Go.Proofs.Ytfnbaepioignaaa.POctt Go.Proofs.YtfnbaepioignaaaW.PrintWords Go.Proofs.YtfnbaepioignaaaW.PrintLast Go.Proofs.YtfnbaepioignaaaW.PrintMore
open Go.Proofs.Ytfnbaepioignaaa.OctC
set_option linter.unusedVariables false

theorem be_mod (x : Int) (m : Nat) : be x m = be (x % 256 ^ m) m := by
  have h1 := be_val (be x m) (byt_be x m)
  rw [be_length, val_be] at h1
  exact h1.symm
theorem be_congr {x y : Int} {m : Nat} (h : x % 256 ^ m = y % 256 ^ m) : be x m = be y m := by rw [be_mod x, h, ← be_mod y]
theorem put_nat (x : Int) (m : Nat) (h : m ≤ 8) : put x m = strOfNums (be x m) := by
  unfold put
  rw [if_neg (by omega), Int.toNat_natCast]
theorem mod_sgn (n : Int) (m : Nat) (h : m ≤ 8) : sgn m (n % 256 ^ m) % 256 ^ m = n % 256 ^ m := by
  unfold sgn
  rcases m with _ | _ | _ | _ | _ | _ | _ | _ | _ | m
  all_goals first
    | (exfalso; omega)
    | (simp; done)
    | (simp; split <;> omega)
theorem mod_wrap (n : Int) (m : Nat) (h : m ≤ 8) : wrap64 (n % 256 ^ m) % 256 ^ m = n % 256 ^ m := by
  unfold wrap64
  rcases m with _ | _ | _ | _ | _ | _ | _ | _ | _ | m
  all_goals first
    | (exfalso; omega)
    | (simp; done)
    | (simp; omega)
theorem w81 (m : Nat) (h : m ≤ 8) (hp : (m : Int) > 0) : wrap64 (wrap64 (8 * (m : Int)) - 1) = 8 * m - 1 := by unfold wrap64; omega
theorem w80 (m : Nat) (h : m ≤ 8) : wrap64 (8 * (m : Int)) = 8 * m := by unfold wrap64; omega
theorem w1 (m : Nat) (h : m ≤ 1000) : wrap64 ((m : Int) + 1) = (m : Int) + 1 := by unfold wrap64; omega
theorem back_j2 (k : Nat) (hk : 20 ≤ k) (n : Int) (t f : ByteArray) (hf : fewS t = f) (hfs : f.size ≤ 200) (m : Nat) (hm : m ≤ 8) (b : ByteArray) (hb : put n m = b) (x10 x11 : Int) (x12 x13 : Bool)
    (e1 : put x10 m = b) (e2 : put x11 m = b) (f1 : x12 = true → x10 = n) (f2 : x13 = true → x11 = n) (s : ByteArray) (hs : s = b ++ f) (hbs : b.size = m) :
    fleuronlaw01_OctetBack.j2 (k + 1) n t true m b x10 x11 x12 x13 s m false s m false = fleuronlaw01_OctetBack.l0 k n t true ((m : Int) + 1) := by
  have hss : s.size = m + f.size := by rw [hs, ← bytesOf_length, bytesOf_append, List.length_append, bytesOf_length, bytesOf_length, hbs]
  have hS : Small s := by unfold Small; omega
  have hx : s.extract (m : Int).toNat ((m : Int) + (f.size : Int)).toNat = f := by
    apply bytesOf_inj
    rw [bytesOf_extract, hs, bytesOf_append, Int.toNat_natCast, (by omega : ((m : Int) + (f.size : Int)).toNat - m = f.size), List.drop_append_of_le_length (by rw [bytesOf_length]; omega), List.drop_of_length_le (by rw [bytesOf_length]; omega), List.nil_append,
      List.take_of_length_le (by rw [bytesOf_length]; exact Nat.le_refl _)]
  have hlf : ((s.size : Int) - m) = f.size := by omega
  have hw := w1 m (by omega)
  simp only [fleuronlaw01_OctetBack.j2]
  rw [put_f _ _ k (by omega), put_f _ _ k (by omega)]
  simp only [obind]
  rw [e1, e2, show octet_Reader_At.f s (m : Int) false = some ((m : Int), s, (m : Int), false) from rfl]
  simp only [obind]
  rw [left_ff s _ false (by omega) (by omega) hS, few_f, hf]
  simp only [obind]
  rw [hlf, failed_ff]
  simp only [obind]
  rw [take_ok s m f.size (by omega) (by omega) hS (by omega) (by omega), hx, hw]
  simp only [obind]
  by_cases c12 : x12 = true
  · rw [if_pos c12, if_pos (f1 c12)]
    by_cases c13 : x13 = true
    · rw [if_pos c13, if_pos (f2 c13)]
      simp
    · rw [if_neg c13]
      simp
  · rw [if_neg c12]
    by_cases c13 : x13 = true
    · rw [if_pos c13, if_pos (f2 c13)]
      simp
    · rw [if_neg c13]
      simp
theorem shl_one (y : Int) (h0 : 0 ≤ y) (h1 : y ≤ 62) : shl .i64 1 y = 2 ^ y.toNat := by
  unfold shl
  rw [(by show min y.toNat 64 = y.toNat; omega : min y.toNat IntKind.i64.bits = y.toNat), IntKind.wrap_i64, Int.one_mul]
  have hp : (2 : Nat) ^ y.toNat ≤ 2 ^ 62 := Nat.pow_le_pow_right (by omega) (by omega)
  obtain ⟨u, hu⟩ : ∃ u : Nat, 2 ^ y.toNat = u := ⟨_, rfl⟩
  have hq : (2 : Int) ^ y.toNat = (u : Int) := by rw [← hu]; simp
  rw [hq]
  rw [hu] at hp
  omega
theorem shl_mone (y : Int) (h0 : 0 ≤ y) (h1 : y ≤ 62) : shl .i64 (-1) y = -(2 ^ y.toNat) := by
  unfold shl
  rw [(by show min y.toNat 64 = y.toNat; omega : min y.toNat IntKind.i64.bits = y.toNat), IntKind.wrap_i64, Int.neg_mul, Int.one_mul]
  have hp : (2 : Nat) ^ y.toNat ≤ 2 ^ 62 := Nat.pow_le_pow_right (by omega) (by omega)
  obtain ⟨u, hu⟩ : ∃ u : Nat, 2 ^ y.toNat = u := ⟨_, rfl⟩
  have hq : (2 : Int) ^ y.toNat = (u : Int) := by rw [← hu]; simp
  rw [hq]
  rw [hu] at hp
  omega
theorem fits_sgn (n : Int) (m : Nat) (h1 : 1 ≤ m) (h7 : m ≤ 7) (ha : -(2 ^ (8 * m - 1)) ≤ n) (hb : n < 2 ^ (8 * m - 1)) : sgn m (n % 256 ^ m) = n := by
  unfold sgn
  rcases m with _ | _ | _ | _ | _ | _ | _ | _ | m
  all_goals first
    | (exfalso; omega)
    | (simp at ha hb ⊢; split <;> omega)
theorem zero_sgn (m : Nat) (h : m ≤ 8) : sgn m ((0 : Int) % 256 ^ m) = 0 := by
  unfold sgn
  rw [Int.zero_emod]
  have : (0 : Int) < 256 ^ m := Int.pow_pos (by decide)
  rw [if_pos (by right; omega)]
theorem eight_sgn (n : Int) (ha : -9223372036854775808 ≤ n) (hb : n ≤ 9223372036854775807) : sgn 8 (n % 256 ^ 8) = n ∧ wrap64 (n % 256 ^ 8) = n := by
  unfold sgn wrap64
  simp
  constructor
  · split <;> omega
  · omega
theorem below_wrap (n : Int) (m : Nat) (h7 : m ≤ 7) (h0 : 0 ≤ n) (hb : n < 2 ^ (8 * m)) : wrap64 (n % 256 ^ m) = n := by
  unfold wrap64
  rcases m with _ | _ | _ | _ | _ | _ | _ | _ | m
  all_goals first
    | (exfalso; omega)
    | (simp at hb ⊢; omega)
theorem back_j1 (k : Nat) (hk : 22 ≤ k) (n : Int) (hn0 : -9223372036854775808 ≤ n) (hn1 : n ≤ 9223372036854775807) (t f : ByteArray) (hf : fewS t = f) (hfs : f.size ≤ 200) (m : Nat) (hm : m ≤ 8) (b : ByteArray) (hb : put n m = b) (x12 : Bool)
    (f1 : x12 = true → sgn m (n % 256 ^ m) = n) (s : ByteArray) (hs : s = b ++ f) (hbs : b.size = m) :
    fleuronlaw01_OctetBack.j1 (k + 2) n t true m b (sgn m (n % 256 ^ m)) (wrap64 (n % 256 ^ m)) x12 s m false s m false = fleuronlaw01_OctetBack.l0 k n t true ((m : Int) + 1) := by
  have e1 : put (sgn m (n % 256 ^ m)) m = b := by rw [put_nat _ _ hm, ← hb, put_nat _ _ hm, be_congr (mod_sgn n m hm)]
  have e2 : put (wrap64 (n % 256 ^ m)) m = b := by rw [put_nat _ _ hm, ← hb, put_nat _ _ hm, be_congr (mod_wrap n m hm)]
  rw [show k + 2 = (k + 1) + 1 from rfl]
  simp only [fleuronlaw01_OctetBack.j1]
  by_cases h8 : (m : Int) = 8
  · obtain rfl : m = 8 := by omega
    rw [if_pos h8]
    exact back_j2 k (by omega) n t f hf hfs 8 hm b hb _ _ x12 true e1 e2 f1 (fun _ => (eight_sgn n hn0 hn1).2) s hs hbs
  · rw [if_neg h8]
    by_cases h0 : n ≥ 0
    · have hw := w80 m hm
      rw [if_pos h0, hw, if_pos (by omega), shl_one _ (by omega) (by omega)]
      refine back_j2 k (by omega) n t f hf hfs m hm b hb _ _ x12 _ e1 e2 f1 (fun hd => ?_) s hs hbs
      have hd' := of_decide_eq_true hd
      rw [(by omega : (8 * (m : Int)).toNat = 8 * m)] at hd'
      exact below_wrap n m (by omega) h0 hd'
    · rw [if_neg h0]
      exact back_j2 k (by omega) n t f hf hfs m hm b hb _ _ x12 false e1 e2 f1 (fun hd => by cases hd) s hs hbs
theorem back_l0 (n : Int) (hn0 : -9223372036854775808 ≤ n) (hn1 : n ≤ 9223372036854775807) (t : ByteArray) (d : Nat) : ∀ (k m : Nat), m ≤ 9 → 9 - m = d → 3 * d + 40 ≤ k → fleuronlaw01_OctetBack.l0 k n t true m = some true := by
  induction d with
  | zero =>
    intro k m h1 hd hk
    obtain ⟨k, rfl⟩ : ∃ q, k = q + 1 := ⟨k - 1, by omega⟩
    simp only [fleuronlaw01_OctetBack.l0]
    rw [if_neg (by omega)]
  | succ d ih =>
    intro k m h1 hd hk
    obtain ⟨k, rfl⟩ : ∃ q, k = q + 3 := ⟨k - 3, by omega⟩
    rw [show k + 3 = (k + 2) + 1 from rfl]
    simp only [fleuronlaw01_OctetBack.l0]
    have hm : m ≤ 8 := by omega
    have fs := few_size t
    obtain ⟨f, hf⟩ : ∃ f, fewS t = f := ⟨_, rfl⟩
    rw [hf] at fs
    obtain ⟨b, hb⟩ : ∃ b, put n m = b := ⟨_, rfl⟩
    have hbb : bytesOf b = be n m := by rw [← hb, put_nat _ _ hm, bytesOf_strOfNums _ (byt_be n m)]
    have hbs : b.size = m := by rw [← bytesOf_length, hbb, be_length]
    obtain ⟨s, hs⟩ : ∃ s, s = b ++ f := ⟨_, rfl⟩
    have hss : s.size = m + f.size := by rw [hs, ← bytesOf_length, bytesOf_append, List.length_append, bytesOf_length, bytesOf_length, hbs]
    have hS : Small s := by unfold Small; omega
    have hsub : sub s 0 m = be n m := by
      unfold sub
      rw [show (0 : Int).toNat = 0 from rfl, List.drop_zero, Int.toNat_natCast, hs, bytesOf_append, hbb, List.take_append_of_le_length (by rw [be_length]; exact Nat.le_refl _), List.take_of_length_le (by rw [be_length]; exact Nat.le_refl _)]
    rw [if_pos (by omega), put_f n m (k + 2) (by omega), few_f, hb, hf]
    simp only [obind]
    rw [if_pos (by omega), ← hs, show octet_Read.f s = some (s, 0, false) from rfl]
    simp only [obind]
    rw [if_pos (by omega), if_pos (by omega), int_ok s 0 m (by omega) (by omega) hS (by omega) (by omega) (by omega), num_ok s 0 m (by omega) (by omega) hS (by omega) (by omega) (by omega)]
    simp only [obind]
    rw [hsub, val_be, Int.toNat_natCast, Int.zero_add]
    have key : ∀ x12 : Bool, (x12 = true → sgn m (n % 256 ^ m) = n) → fleuronlaw01_OctetBack.j1 (k + 2) n t true m b (sgn m (n % 256 ^ m)) (wrap64 (n % 256 ^ m)) x12 s m false s m false = some true := by
      intro x12 f1
      rw [back_j1 k (by omega) n hn0 hn1 t f hf fs m hm b hb x12 f1 s hs hbs]
      exact ih k (m + 1) (by omega) (by omega) (by omega)
    have kz : fleuronlaw01_OctetBack.j1 (k + 2) n t true m b (sgn m (n % 256 ^ m)) (wrap64 (n % 256 ^ m)) (n == 0) s m false s m false = some true :=
      key _ (fun h => by have : n = 0 := by simpa using h
                         subst this
                         exact zero_sgn m hm)
    by_cases h8 : (m : Int) = 8
    · obtain rfl : m = 8 := by omega
      rw [if_pos h8]
      exact key true (fun _ => (eight_sgn n hn0 hn1).1)
    · rw [if_neg h8]
      by_cases hp : (m : Int) > 0
      · have hx : mx (m : Int) 1 = m := by unfold mx; omega
        have hw := w81 m hm hp
        rw [if_pos hp, hx, hw, if_pos (by omega), shl_mone _ (by omega) (by omega), shl_one _ (by omega) (by omega), (by omega : (8 * (m : Int) - 1).toNat = 8 * m - 1)]
        by_cases ha : n ≥ -(2 ^ (8 * m - 1))
        · rw [if_pos ha]
          by_cases hc : n < 2 ^ (8 * m - 1)
          · rw [if_pos hc]
            exact key true (fun _ => fits_sgn n m (by omega) (by omega) ha hc)
          · rw [if_neg hc]
            exact kz
        · rw [if_neg ha]
          exact kz
      · rw [if_neg hp]
        exact kz
theorem OctetBack : fleuronlaw01_OctetBack.Pure := by
  intro n s hn _
  have hb := bounds_i64 hn
  obtain ⟨k, hk⟩ : ∃ k : Nat, 1000 ≤ k := ⟨1000, Nat.le_refl _⟩
  refine ⟨k, ?_⟩
  unfold fleuronlaw01_OctetBack.f
  rw [shown_f k (by omega)]
  simp only [obind]
  exact back_l0 n hb.1 hb.2 s 9 k 0 (by omega) (by omega) (by omega)
end Go.Proofs.Ytfnbaepioignaaa.Pure
