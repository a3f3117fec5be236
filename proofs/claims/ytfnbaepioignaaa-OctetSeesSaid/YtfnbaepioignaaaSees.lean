/- With one byte another one a sum is another one: for any bytes (200 of them), any place, any turn. No condition. -/
import Derived.Test.YtfnbaepioignaaaPOcttx2
import Derived.Test.YtfnbaepioignaaaOctC
import Derived.OpenShut
namespace Go.Proofs.Ytfnbaepioignaaa.Sees
open Go.RowKit Go.Proofs.Ytfnbaepioignaaa.POctt Go.Proofs.YtfnbaepioignaaaW.PrintWords Go.Proofs.YtfnbaepioignaaaW.PrintLast Go.Proofs.YtfnbaepioignaaaW.PrintMore
open Go.Proofs.Ytfnbaepioignaaa.OctC
set_option linter.unusedVariables false
set_option linter.unusedSimpArgs false

/-! plain -/
theorem wsum_set (m : Nat) : ∀ (l : List Int) (i : Nat) (v : Int), l.length ≤ m → i < l.length → wsum (l.set i v) = wsum l + (v - l.getD i 0) * 2 ^ (24 - 8 * (i % 4)) := by
  induction m using Nat.strongRecOn with
  | _ m ih =>
    intro l i v hm hi
    match l, hi with
    | [a], hi =>
      simp at hi; subst hi; simp [wsum]; omega
    | [a, b], hi =>
      rcases i with _ | _ | i
      · simp [wsum]; omega
      · simp [wsum]; omega
      · simp at hi; omega
    | [a, b, c], hi =>
      rcases i with _ | _ | _ | i
      · simp [wsum]; omega
      · simp [wsum]; omega
      · simp [wsum]; omega
      · simp at hi; omega
    | a :: b :: c :: d :: r, hi =>
      rcases i with _ | _ | _ | _ | i
      · simp [wsum]; omega
      · simp [wsum]; omega
      · simp [wsum]; omega
      · simp [wsum]; omega
      · have e := ih (m - 4) (by simp at hm; omega) r i v (by simp at hm; omega) (by simp at hi; omega)
        simp only [List.set_cons_succ, wsum, e]
        have : (i + 1 + 1 + 1 + 1) % 4 = i % 4 := by omega
        rw [this]
        simp only [List.getD_cons_succ]
        omega
theorem xor_zero_iff (x y : Int) (hx : 0 ≤ x ∧ x ≤ 255) (hy : 0 ≤ y ∧ y ≤ 255) : (bits .xor .u8 x y = x ↔ y = 0) ∧ 0 ≤ bits .xor .u8 x y ∧ bits .xor .u8 x y ≤ 255 := by
  obtain ⟨a, rfl⟩ := Int.eq_ofNat_of_zero_le hx.1
  obtain ⟨b, rfl⟩ := Int.eq_ofNat_of_zero_le hy.1
  have ha : a < 2 ^ 8 := by omega
  have hb : b < 2 ^ 8 := by omega
  have hlt : a ^^^ b < 2 ^ 8 := Nat.xor_lt_two_pow ha hb
  have e : bits .xor .u8 (a : Int) (b : Int) = ((a ^^^ b : Nat) : Int) := by
    show IntKind.u8.wrap ((BitVec.ofInt 8 (a : Int) ^^^ BitVec.ofInt 8 (b : Int)).toNat : Int) = _
    rw [BitVec.toNat_xor, BitVec.ofInt_natCast, BitVec.ofInt_natCast, BitVec.toNat_ofNat, BitVec.toNat_ofNat, Nat.mod_eq_of_lt ha, Nat.mod_eq_of_lt hb, IntKind.wrap_u8]
    omega
  rw [e]
  refine ⟨?_, by omega, by omega⟩
  constructor
  · intro h
    have h' : a ^^^ b = a := by omega
    have : a ^^^ (a ^^^ b) = a ^^^ a := by rw [h']
    rw [← Nat.xor_assoc, Nat.xor_self, Nat.zero_xor] at this
    rw [this]; rfl
  · intro h
    have : b = 0 := by omega
    subst this
    simp
theorem sees (f : ByteArray) (hf : f.size ≤ 200) (i : Nat) (hi : i < f.size) (y : Int) (hy : 0 ≤ y ∧ y ≤ 255) (v : Int) (hv : v = bits .xor .u8 (rd (bytesOf f) i) y) :
    ((wsum ((bytesOf f).set i v) % 4294967296 == wsum (bytesOf f) % 4294967296) == (y == 0)) = true := by
  have hr := bt_range f i
  rw [← rd_bytesOf] at hr
  obtain ⟨h1, h2, h3⟩ := xor_zero_iff _ y hr hy
  rw [← hv] at h1 h2 h3
  rw [wsum_set _ (bytesOf f) i v (Nat.le_refl _) (by rw [bytesOf_length]; exact hi)]
  have hg : (bytesOf f).getD i 0 = rd (bytesOf f) i := by unfold rd; rw [Int.toNat_natCast]
  rw [hg]
  generalize rd (bytesOf f) i = x at *
  generalize wsum (bytesOf f) = u at *
  have hp : (2 : Int) ^ (24 - 8 * (i % 4)) = 16777216 ∨ (2 : Int) ^ (24 - 8 * (i % 4)) = 65536 ∨ (2 : Int) ^ (24 - 8 * (i % 4)) = 256 ∨ (2 : Int) ^ (24 - 8 * (i % 4)) = 1 := by
    have : i % 4 = 0 ∨ i % 4 = 1 ∨ i % 4 = 2 ∨ i % 4 = 3 := by omega
    rcases this with h | h | h | h <;> rw [h] <;> simp
  have key : (u + (v - x) * 2 ^ (24 - 8 * (i % 4))) % 4294967296 = u % 4294967296 ↔ v = x := by
    rcases hp with h | h | h | h <;> rw [h] <;> constructor <;> intro h' <;> first | omega | (rw [h']; omega)
  have hb : ((u + (v - x) * 2 ^ (24 - 8 * (i % 4))) % 4294967296 == u % 4294967296) = (y == 0) := by
    rw [Bool.eq_iff_iff, beq_iff_eq, beq_iff_eq, key, h1]
  rw [hb, beq_self_eq_true]

/-! memory -/
theorem frozen_new (W : World) (s : ByteArray) (j : Nat) (hj : j < s.size) : (Lib.bytesWorld W 5 s).frozen? ⟨W.heap.size, j, none⟩ = false := by
  have h := Lib.bytesWorld_at_new W 5 s
  have hc := Lib.bytesWorld_cell W 5 s j hj
  unfold World.cell? at hc
  simp only [h] at hc
  have hlt : j < (Lib.bytesCells W 5 s).size := by
    rcases Nat.lt_or_ge j (Lib.bytesCells W 5 s).size with h' | h'
    · exact h'
    · simp [Array.getElem?_eq_none h'] at hc
  unfold World.frozen?
  simp only [h]
  simp
  omega
theorem reads_set {W : World} {B : Nat} {n : Nat} {xs : List Int} (h : ReadsInt W .u8 (some ⟨B, 0, none⟩) n xs) (i : Nat) (hi : i < n) (v : Int) :
    ReadsInt (W.setCell ⟨B, i, none⟩ (.int .u8 v)) .u8 (some ⟨B, 0, none⟩) n (xs.set i v) := by
  refine ⟨by rw [List.length_set]; exact h.1, h.2.1, fun hp => ⟨_, rfl, fun j hj => ?_⟩⟩
  obtain ⟨ad, e, hc⟩ := h.2.2 hp
  cases e
  have hj' := hc j hj
  rw [add_plain] at hj' ⊢
  have hl := h.1
  by_cases hji : j = i
  · subst hji
    have : (xs.set j v).getD j 0 = v := by simp [List.getD_eq_getElem?_getD, (by omega : j < xs.length)]
    rw [this]
    exact World.cell?_setCell_same _ _ _ hj'
  · have : (xs.set i v).getD j 0 = xs.getD j 0 := by simp [List.getD_eq_getElem?_getD, List.getElem?_set_ne (Ne.symm hji)]
    rw [this, ← hj']
    exact World.cell?_setCell_other _ _ _ _ (by simp only [ne_eq, Addr.mk.injEq, true_and, and_true]; exact fun e => hji e.symm)
/-! the walk -/
set_option maxHeartbeats 2000000 in
set_option maxRecDepth 100000 in
theorem sees_calls (s f : ByteArray) (a1 a2 : Int) (h1 : 0 ≤ a1) (h1' : a1 ≤ 255) (h2 : 0 ≤ a2) (h2' : a2 ≤ 255) (hf : fewS s = f) (hfs : f.size ≤ 200) (w : World) :
    Calls Try.prog 5 #[.string s, .int .u8 a1, .int .u8 a2] w fun e w' => e = .returned (.bool true) ∧ Below w.heap.size w w' := by
  obtain ⟨k, hk⟩ : ∃ k : Nat, 1000 ≤ k := ⟨1000, Nat.le_refl _⟩
  have A1 := Aside0.mk (shown_f k (by omega))
  have A2 := Aside0.mk (few_f s)
  rw [hf] at A2
  have hS : Small f := by unfold Small; omega
  have A3 := Aside0.mk (sum_f f hS k (by omega))
  have kb := fun W => print_bytes (P := Try.prog) 9 33 5 Try.underlying9 Try.underlying33 Try.underlying5 f W
  have HK := Aside0.mk hk
  clear hk hS
  have HF := Aside0.mk hf
  clear hf
  by_cases h0 : f.size = 0
  · go_enter Try.func5, Try.ntmps5
    go_wp2_with fail
    refine (fleuronlaw01_shown.calls k true w A1.out).mono ?_
    rintro e w1 ⟨rfl, hb1⟩
    have HB1 := Aside0.mk hb1
    clear hb1
    go_wp2_with fail
    refine (fleuronlaw01_few.calls s f w1 A2.out).mono ?_
    rintro e w2 ⟨rfl, hb2⟩
    have HB2 := Aside0.mk (HB1.out.trans (hb2.mono HB1.out.size))
    clear hb2
    have h0b : ((f.size : Int) == 0) = true := by rw [h0]; rfl
    go_wp2
    go_ret
    exact ⟨rfl, bytes_below HB2.out HB2.out.size 5 f⟩
  · have h0b : ((f.size : Int) == 0) = false := beq_eq_false_iff_ne.2 (by omega)
    obtain ⟨i, hi⟩ : ∃ i : Nat, a1 % f.size = i := Int.eq_ofNat_of_zero_le (Int.emod_nonneg _ (by omega))
    have hil : i < f.size := by have := Int.emod_lt_of_pos a1 (by omega : (0 : Int) < f.size); omega
    have ht : Aside0 (Int.tmod a1 f.size = i) := ⟨by rw [Int.tmod_eq_emod_of_nonneg h1, hi]⟩
    have hrr := bt_range f i
    rw [← rd_bytesOf] at hrr
    obtain ⟨v, hv⟩ : ∃ v, v = bits .xor .u8 (rd (bytesOf f) i) a2 := ⟨_, rfl⟩
    have hv' := Aside0.mk hv
    have hxr := xor_zero_iff (rd (bytesOf f) i) a2 hrr ⟨h2, h2'⟩
    rw [← hv] at hxr
    have HX := Aside0.mk hxr
    have hby : Byt ((bytesOf f).set i v) := by
      intro z hz
      rcases List.mem_or_eq_of_mem_set hz with h | h
      · exact byt_bytesOf f z h
      · rw [h]; have := hxr.2; omega
    have A4 := Aside0.mk (sum_f (strOfNums ((bytesOf f).set i v)) (by unfold Small; rw [strOfNums_size, List.length_set, bytesOf_length]; omega) k (by rw [strOfNums_size, List.length_set, bytesOf_length]; have := HK.out; omega))
    rw [bytesOf_strOfNums _ hby] at A4
    have HE := Aside0.mk (sees f hfs i hil a2 ⟨h2, h2'⟩ v hv)
    clear hxr hby hrr hv
    go_enter Try.func5, Try.ntmps5
    go_wp2_with fail
    refine (fleuronlaw01_shown.calls k true w A1.out).mono ?_
    rintro e w1 ⟨rfl, hb1⟩
    have HB1 := Aside0.mk hb1
    clear hb1
    go_wp2_with fail
    refine (fleuronlaw01_few.calls s f w1 A2.out).mono ?_
    rintro e w2 ⟨rfl, hb2⟩
    have HB2 := Aside0.mk (HB1.out.trans (hb2.mono HB1.out.size))
    clear hb2
    have HC := Aside0.mk (bytes_below HB2.out HB2.out.size 5 f)
    have hcv := string_of_reads (P := Try.prog) (w := Lib.bytesWorld w2 5 f) (c := grownCap w2 f.size 0 5) Try.underlying33 Try.underlying5 Try.underlying9 (bytes_reads w2 5 f (by omega))
    rw [strOfNums_bytesOf] at hcv
    go_wp2_with fail
    refine (octet_Sum.calls k f _ _ A3.out).mono ?_
    rintro e w3 ⟨rfl, hb3⟩
    have HB3 := Aside0.mk (HC.out.trans (hb3.mono HC.out.size))
    have hR2 := bytes_reads w2 5 f (by omega)
    have hR3 := hR2.below hb3
    have hc3 : w3.cell? ⟨w2.heap.size, i, none⟩ = some (.int .u8 (rd (bytesOf f) i)) := by
      obtain ⟨ad, e, hc⟩ := hR3.at_ (i : Int) (by omega) (by omega)
      cases e
      rw [add_plain] at hc
      exact hc
    have hf3 : w3.frozen? ⟨w2.heap.size, i, none⟩ = false := by
      rw [hb3.frozen (p := ⟨w2.heap.size, i, none⟩) (by rw [Lib.bytesWorld_size]; simp)]
      exact frozen_new w2 f i hil
    have hcv3 := string_of_reads (P := Try.prog) (c := grownCap w2 f.size 0 5) Try.underlying33 Try.underlying5 Try.underlying9 (reads_set hR3 i hil v)
    have hsz3 : w.heap.size ≤ w2.heap.size := HB2.out.size
    have HG := Aside0.mk (Nat.le_of_lt (World.block_lt_of_cell? _ _ hc3))
    clear hb3 hR2 hR3
    have hv2 := hv'.out.symm
    go_wp2_with fail
    refine (octet_Sum.calls k _ _ _ A4.out).mono ?_
    rintro e w5 ⟨rfl, hb5⟩
    have HB5 := Aside0.mk ((below_set HB3.out hsz3 : Below w.heap.size w (w3.setCell ⟨w2.heap.size, i, none⟩ (.int .u8 v))).trans (hb5.mono (below_set HB3.out hsz3 : Below w.heap.size w (w3.setCell ⟨w2.heap.size, i, none⟩ (.int .u8 v))).size))
    clear hb5
    have hE := HE.out
    go_wp2
    go_ret
    exact ⟨by first | rfl | simp [hE], HB5.out⟩
theorem OctetSees (s : ByteArray) (a1 a2 : Int) (w : World) (h1 : (Lit.int .u8 a1).wf = true) (h2 : (Lit.int .u8 a2).wf = true) :
    Calls Try.prog 5 #[.string s, .int .u8 a1, .int .u8 a2] w fun e w' => e = .returned (.bool true) ∧ Below w.heap.size w w' :=
  sees_calls s (fewS s) a1 a2 (bounds_u8 h1).1 (bounds_u8 h1).2 (bounds_u8 h2).1 (bounds_u8 h2).2 rfl (few_size s) w
end Go.Proofs.Ytfnbaepioignaaa.Sees
