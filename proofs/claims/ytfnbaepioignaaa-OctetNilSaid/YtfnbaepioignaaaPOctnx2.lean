-- Written for this claim by a program of this seat (wip/tools: a turned copy of the kit's print). Not trusted: Lean checks it.
import Derived.Test.YtfnbaepioignaaaPOctnx0
import Derived.Test.YtfnbaepioignaaaPOctnx1
namespace Go.Proofs.Ytfnbaepioignaaa.POctn
open Go.RowKit Go.Proofs.YtfnbaepioignaaaW.PrintWords Go.Proofs.YtfnbaepioignaaaW.PrintLast Go.Proofs.YtfnbaepioignaaaW.PrintMore
attribute [local go_sem] max2_int min2_int max_two min_two max_three min_three max_four min_four   -- for this text's walks alone
set_option linter.unusedVariables false
set_option linter.unusedSimpArgs false

/-! ### octet_Text: function 21 -/
def octet_Text.f (k : Nat) (a0 : ByteArray) : Option (ByteArray) := if (a0.size : Int) ≥ 65536 then (some (⟨#[]⟩ : ByteArray)) else ((octet_Put.f k (a0.size : Int) 2).bind fun t146 => (if t146.size + a0.size ≤ 9223372036854775807 then (some (t146 ++ a0)) else (none)))
theorem octet_Text.mono : ∀ a0 k, LeO (octet_Text.f k a0) (octet_Text.f (k + 1) a0) := by
  intro a0 k
  unfold octet_Text.f
  repeat' first
      | (with_reducible exact octet_Put.mono _ _ _)
      | (with_reducible exact LeO.refl _)
      | (with_reducible exact LeO.none _)
      | (with_reducible refine LeO.ite ?_ ?_)
      | (with_reducible refine LeO.bind ?_ (fun _ => ?_))
      | exact octet_Put.mono _ _ _
      | exact LeO.none _
      | refine LeO.ite ?_ ?_
      | refine LeO.bind ?_ (fun _ => ?_)
set_option maxHeartbeats 8000000 in
set_option maxRecDepth 100000 in
theorem octet_Text.calls (k : Nat) (a0 : ByteArray) (r : ByteArray) (w : World) (h : octet_Text.f k a0 = some r) :
    Calls Try.prog 21 #[.string a0] w fun e w' => e = .returned (.string r) ∧ Below w.heap.size w w' := by
  have HB := Aside0.mk (Below.refl w.heap.size w)
  have H : (if (a0.size : Int) ≥ 65536 then (some (⟨#[]⟩ : ByteArray)) else ((octet_Put.f k (a0.size : Int) 2).bind fun t146 => (if t146.size + a0.size ≤ 9223372036854775807 then (some (t146 ++ a0)) else (none)))) = some r := h
  clear h
  by_cases c2 : (a0.size : Int) ≥ 65536
  · rw [if_pos c2] at H
    have c2b0 : decide (65536 ≤ (a0.size : Int)) = true := decide_eq_true c2
    have c2b1 : decide (65536 ≤ a0.size) = true := decide_eq_true (by omega)
    clear c2
    obtain rfl := Option.some.inj H
    go_enter Try.func21, Try.ntmps21
    go_wp2
    go_ret
    exact ⟨by first | rfl | (simp [errW_none, errW_some] <;> rfl) | (simp [*, errW_none, errW_some] <;> rfl), by repeat (first | (with_reducible first | exact HB.out | apply below_alloc | apply pw_below_drewN | apply below_drew1) | exact HB.out)⟩
  · rw [if_neg c2] at H
    have c2b0 : decide (65536 ≤ (a0.size : Int)) = false := decide_eq_false c2
    have c2b1 : decide (65536 ≤ a0.size) = false := decide_eq_false (by omega)
    clear c2
    replace H := Option.bind_eq_some_iff.mp H
    obtain ⟨t146, A30, H⟩ := H
    replace H : (if t146.size + a0.size ≤ 9223372036854775807 then (some (t146 ++ a0)) else (none)) = some r := H
    have A3 := Aside0.mk A30
    clear A30
    by_cases c4 : t146.size + a0.size ≤ 9223372036854775807
    · rw [if_pos c4] at H
      have c4b0 := eq_true c4
      have c4b1 : decide (t146.size + a0.size ≤ 9223372036854775807) = true := decide_eq_true c4
      try have c4b2 : (9223372036854775807 < t146.size + a0.size) = False := eq_false (Nat.not_lt.2 c4)
      obtain rfl := Option.some.inj H
      go_enter Try.func21, Try.ntmps21
      go_wp2_with (first | ((with_reducible refine gate_callee (f := 17) rfl ?_); refine goesL_ (some 8) rfl rfl Try.func17 (by kernel_rfl) rfl #[.int .i64 (a0.size : Int), .int .i64 2] rfl (by (try simp only [List.map_toArray, List.map_cons, List.map_nil]); first | done | rfl | (simp only [List.length_drop, List.length_take]; rfl) | (simp only [ByteArray.size_extract, Nat.sub_zero]; rfl)) ?_; (with_reducible refine (octet_Put.calls k (a0.size : Int) 2 t146 _ A3.out).mono ?_); rintro e w5 ⟨rfl, hb⟩; refine ⟨_, rfl, ?_⟩; have n0_ := Aside0.mk (below_step (by repeat (first | (with_reducible first | exact HB.out | apply below_alloc | apply pw_below_drewN | apply below_drew1) | exact HB.out)) hb); clear HB; have HB := n0_; clear n0_; (try clear hb); (try clear hb2); (try clear hk); (try clear hi)))
      go_ret
      exact ⟨by first | rfl | (simp [errW_none, errW_some] <;> rfl) | (simp [*, errW_none, errW_some] <;> rfl), by repeat (first | (with_reducible first | exact HB.out | apply below_alloc | apply pw_below_drewN | apply below_drew1) | exact HB.out)⟩
    · rw [if_neg c4] at H
      exact absurd H (by simp)

/-! ### octet_Reader_At: function 25 -/
def octet_Reader_At.f (s0_0 : ByteArray) (s0_1 : Int) (s0_2 : Bool) : Option (Int × ByteArray × Int × Bool) := some (s0_1, s0_0, s0_1, s0_2)
set_option maxHeartbeats 8000000 in
set_option maxRecDepth 100000 in
theorem octet_Reader_At.calls (g : Nat) (s0_0 : ByteArray) (s0_1 : Int) (s0_2 : Bool) (r1 : Int) (r2 : ByteArray) (r3 : Int) (r4 : Bool) (w0 w : World) (hI : IsS52 w0 w g s0_0 s0_1 s0_2) (hB : Below w0.heap.size w0 w) (h : octet_Reader_At.f s0_0 s0_1 s0_2 = some (r1, r2, r3, r4)) :
    Calls Try.prog 25 #[.pointer (some ⟨g, 0, none⟩)] w fun e w' => e = .returned (.int .i64 r1) ∧ IsS52 w0 w' g r2 r3 r4 ∧ Below w0.heap.size w0 w' ∧ KeepBut w w' g none := by
  have HI0 := Aside0.mk hI
  have HK := Aside0.mk (KeepBut.refl w g none)
  have HL := Aside0.mk hB.size
  clear hI
  have HW0 := Aside0.mk hB.size
  have HB := Aside0.mk hB
  clear hB
  have H : (some (s0_1, s0_0, s0_1, s0_2)) = some (r1, r2, r3, r4) := h
  clear h
  simp only [Option.some.injEq, Prod.mk.injEq] at H
  obtain ⟨rfl, rfl, rfl, rfl⟩ := H
  obtain ⟨HGz2, hgz2⟩ := HI0.out
  have hcz2_0 := cellS52_0 HGz2
  have hcz2_1 := cellS52_1 HGz2
  have hcz2_2 := cellS52_2 HGz2
  have hfz2_0 := blk_frozen HGz2 0
  have hfz2_1 := blk_frozen HGz2 1
  have hfz2_2 := blk_frozen HGz2 2
  clear HGz2 hgz2
  go_enter Try.func25, Try.ntmps25
  go_wp2
  go_ret
  exact ⟨by first | rfl | (simp [errW_none, errW_some] <;> rfl) | (simp [*, errW_none, errW_some] <;> rfl), by repeat (first | (with_reducible first | exact HI0.out | apply IsS52.alloc | apply IsS52.drewN | apply IsS52.drew | apply IsS52.set_0 | apply IsS52.set_1 | apply IsS52.set_2) | exact HI0.out), by repeat (first | (with_reducible first | exact HB.out | apply below_alloc | apply pw_below_drewN | apply below_drew1 | refine below_set ?_ (IsS52.ge HI0.out)) | exact HB.out), by repeat (first | (with_reducible first | exact HK.out | apply KeepBut.set_ | apply keep_drewN | apply keep_drew | apply keep_alloc) | exact HK.out)⟩

def octet_Reader_At_nil.f : Option (Int) := some 0
theorem at_nil (w : World) : Calls Try.prog 25 #[.pointer none] w fun e w' => e = .returned (.int .i64 0) ∧ w = w' := by
  go_enter Try.func25, Try.ntmps25
  go_wp2
  go_ret
  exact ⟨rfl, rfl⟩
theorem octet_Reader_At_nil.calls (r : Int) (w : World) (h : octet_Reader_At_nil.f = some r) : Calls Try.prog 25 #[.pointer none] w fun e w' => e = .returned (.int .i64 r) ∧ Below w.heap.size w w' := by
  cases h
  refine (at_nil w).mono ?_
  rintro e w' ⟨rfl, rfl⟩
  exact ⟨rfl, Below.refl _ _⟩

theorem octet_Reader_At.still {s0 s0' : ByteArray} {s1 s1' : Int} {s2 s2' : Bool} {r : Int} (h : octet_Reader_At.f s0 s1 s2 = some (r, s0', s1', s2')) : s0 = s0' ∧ s1 = s1' ∧ s2 = s2' := by
  unfold octet_Reader_At.f at h
  cases h
  exact ⟨rfl, rfl, rfl⟩

/-! ### octet_Reader_Int: function 24 -/
def seenInt (a1 n : Int) : Int := wrap64 (n * 2 ^ (64 - 8 * a1).toNat) / 2 ^ (64 - 8 * a1).toNat
theorem cell_lt {w : World} {p : Addr} {v : Value} (h : w.cell? p = some v) : p.block < w.heap.size := by
  unfold World.cell? at h
  cases hb : w.heap[p.block]? with
  | none => rw [hb] at h; cases h
  | some o => exact blk_lt hb
set_option maxHeartbeats 1000000 in
set_option maxRecDepth 100000 in
theorem num_int (B : Nat) (g : Nat) (s : ByteArray) (p : Int) (b : Bool) (a1 : Int) (t t1 : ByteArray) (t2 : Int) (t3 : Bool) (w0 w : World) (hI : IsS52 w0 w g s p b) (hB : Below w0.heap.size w0 w) (h0 : 0 ≤ a1) (h8 : a1 ≤ 8) (ht : t.size ≤ 8)
    (hBox : w.cell? ⟨B, 0, none⟩ = some (.int .i64 a1)) (hne : B ≠ g)
    (hT : octet_Reader_Take.f s p b a1 = some (t, t1, t2, t3)) :
    Calls Try.prog 31 #[.pointer (some ⟨g, 0, none⟩), .int .i64 a1, .func (.func 34) #[] #[.pointer (some ⟨B, 0, none⟩)]] w fun e w' => e = .returned (.int .i64 (seenInt a1 (beNum (bytesOf t)))) ∧ IsS52 w0 w' g t1 t2 t3 ∧ Below w0.heap.size w0 w' ∧ KeepBut w w' g none := by
  have HI0 := Aside0.mk hI
  have HK := Aside0.mk (KeepBut.refl w g none)
  have HL := Aside0.mk hB.size
  clear hI
  have HW0 := Aside0.mk hB.size
  have HB := Aside0.mk hB
  clear hB
  have HT := Aside0.mk hT
  clear hT
  have kb := fun W => print_bytes (P := Try.prog) 9 33 5 Try.underlying9 Try.underlying33 Try.underlying5 t W
  go_enter Try.func31, Try.ntmps31
  go_wp2_with fail
  refine (octet_Reader_Take.calls g s p b a1 t t1 t2 t3 w0 _ HI0.out HB.out HT.out).mono ?_
  rintro e w9 ⟨rfl, hi, hb, hk⟩
  have hBox9 := keep_cell hk hBox hne
  have hBox10 : (Lib.bytesWorld w9 5 t).cell? ⟨B, 0, none⟩ = some (.int .i64 a1) := (bytes_below (Below.refl _ w9) (Nat.le_refl _) 5 t).cell (p := ⟨B, 0, none⟩) (cell_lt hBox9) |>.trans hBox9
  clear hBox hBox9
  have HI := Aside0.mk hi
  have HB1 := Aside0.mk hb
  have HK1 := Aside0.mk hk
  clear hi hb hk
  go_wp2
  have hr := Aside0.mk (bytes_reads w9 5 t (by omega))
  have hbl := Aside0.mk (bytesOf_length t)
  go_loop [7, 23] (fun v7 v23 => ∃ i : Nat, i ≤ t.size ∧ v23 = .int .i64 i ∧ v7 = .int .i64 (beNum ((bytesOf t).take i))) (fun _ v23 => t.size - (intOf v23).toNat)
  case atStart => exact ⟨0, Nat.zero_le _, rfl, rfl⟩
  case round =>
    obtain ⟨i, hi, rfl, rfl⟩ := hrel
    by_cases hlt : i < t.size
    · have hc : (Lib.bytesWorld w9 5 t).cell? ⟨w9.heap.size, i, none⟩ = some (.int .u8 (rd (bytesOf t) i)) := by
        obtain ⟨ad, e, hc⟩ := hr.out.at_ (i : Int) (by omega) (by omega)
        cases e
        rw [add_plain] at hc
        exact hc
      have hbd : 0 ≤ rd (bytesOf t) i := by rw [rd_bytesOf]; exact (bt_range t i).1
      have hbd2 : rd (bytesOf t) i ≤ 255 := by rw [rd_bytesOf]; exact (bt_range t i).2
      have hsn := Aside0.mk (take_snoc_rd (bytesOf t) i (by rw [hbl.out]; exact hlt))
      go_wp2
      go_round
      case rel => exact ⟨i + 1, by omega, by go_num, by rw [hsn.out, beNum_snoc]; rfl⟩
      case measure => simp [intOf]; omega
    · go_wp2
      go_ret
      refine ⟨?_, ?_, ?_, ?_⟩
      · exact ret_int (by rw [List.take_of_length_le (by rw [hbl.out]; omega)]; rfl)
      · exact IsS52.below HI.out (bytes_below (Below.refl _ _) (Nat.le_refl _) 5 t)
      · exact bytes_below HB1.out (HB1.out.size) 5 t
      · exact KeepBut.trans HK1.out (KeepBut.of_below (bytes_below (Below.refl _ _) (Nat.le_refl _) 5 t) g none) (.inl rfl)

def octet_Reader_Int.f (s0_0 : ByteArray) (s0_1 : Int) (s0_2 : Bool) (a1 : Int) : Option (Int × ByteArray × Int × Bool) :=
  if a1 < 0 then some (0, s0_0, s0_1, true) else if 8 < a1 then some (0, s0_0, s0_1, true) else
    (octet_Reader_Take.f s0_0 s0_1 s0_2 a1).bind fun t => if t.1.size ≤ 8 then some (seenInt a1 (beNum (bytesOf t.1)), t.2.1, t.2.2.1, t.2.2.2) else none

set_option maxHeartbeats 1000000 in
set_option maxRecDepth 100000 in
theorem octet_Reader_Int.calls (g : Nat) (s0_0 : ByteArray) (s0_1 : Int) (s0_2 : Bool) (a1 : Int) (r1 : Int) (r2 : ByteArray) (r3 : Int) (r4 : Bool) (w0 w : World) (hI : IsS52 w0 w g s0_0 s0_1 s0_2) (hB : Below w0.heap.size w0 w) (h : octet_Reader_Int.f s0_0 s0_1 s0_2 a1 = some (r1, r2, r3, r4)) :
    Calls Try.prog 24 #[.pointer (some ⟨g, 0, none⟩), .int .i64 a1] w fun e w' => e = .returned (.int .i64 r1) ∧ IsS52 w0 w' g r2 r3 r4 ∧ Below w0.heap.size w0 w' ∧ KeepBut w w' g none := by
  have HC : Aside0 (∀ W : World, W = w.alloc (.cells #[.int .i64 a1] 3) → Calls Try.prog 31 #[.pointer (some ⟨g, 0, none⟩), .int .i64 a1, .func (.func 34) #[] #[.pointer (some ⟨w.heap.size, 0, none⟩)]] W fun e w' => e = .returned (.int .i64 r1) ∧ IsS52 w0 w' g r2 r3 r4 ∧ Below w0.heap.size w0 w' ∧ KeepBut W w' g none) := by
    constructor
    rintro W rfl
    have hI' := hI.alloc (.cells #[.int .i64 a1] 3)
    have hB' := below_alloc hB (.cells #[.int .i64 a1] 3)
    have hlt := hI.lt
    unfold octet_Reader_Int.f at h
    split at h
    · cases h; exact num_fails 34 _ g _ _ _ a1 w0 _ hI' hB' (.inl ‹_›)
    · split at h
      · cases h; exact num_fails 34 _ g _ _ _ a1 w0 _ hI' hB' (.inr ‹_›)
      · obtain ⟨⟨t, t1, t2, t3⟩, hT, h⟩ := Option.bind_eq_some_iff.mp h
        dsimp only at h
        split at h
        · cases h
          exact num_int w.heap.size g _ _ _ a1 t _ _ _ w0 _ hI' hB' (by omega) (by omega) ‹_› ((blk_cell (by simpa using heap_alloc_new w _) 0).trans rfl) (by omega) hT
        · cases h
  have HB0 := Aside0.mk (KeepBut.of_below (below_alloc (Below.refl _ w) (.cells #[.int .i64 a1] 3)) g none)
  clear h hI hB
  go_enter Try.func24, Try.ntmps24
  go_wp2_with fail
  refine (HC.out _ rfl).mono ?_
  rintro e w9 ⟨rfl, hi, hb, hk⟩
  have HI := Aside0.mk hi
  have HB1 := Aside0.mk hb
  have HK1 := Aside0.mk hk
  clear hi hb hk
  go_wp2
  go_ret
  exact ⟨rfl, HI.out, HB1.out, KeepBut.trans HB0.out HK1.out (.inl rfl)⟩


/-! ### octet_Reader_Text: function 30 -/
def octet_Reader_Text.f (s0_0 : ByteArray) (s0_1 : Int) (s0_2 : Bool) : Option (ByteArray × ByteArray × Int × Bool) :=
  (octet_Reader_Num.f s0_0 s0_1 s0_2 2).bind fun n => (octet_Reader_Take.f n.2.1 n.2.2.1 n.2.2.2 n.1).bind fun t =>
    if t.2.2.2 = true then some (t.1, t.2.1, s0_1, t.2.2.2) else some (t.1, t.2.1, t.2.2.1, t.2.2.2)
theorem at_f (s : ByteArray) (p : Int) (b : Bool) : octet_Reader_At.f s p b = some (p, s, p, b) := rfl
theorem failed_f (s : ByteArray) (p : Int) (b : Bool) : octet_Reader_Failed.f s p b = some (b, s, p, b) := by
  unfold octet_Reader_Failed.f; rfl

set_option maxHeartbeats 1000000 in
set_option maxRecDepth 100000 in
theorem octet_Reader_Text.calls (g : Nat) (s0_0 : ByteArray) (s0_1 : Int) (s0_2 : Bool) (r1 : ByteArray) (r2 : ByteArray) (r3 : Int) (r4 : Bool) (w0 w : World) (hI : IsS52 w0 w g s0_0 s0_1 s0_2) (hB : Below w0.heap.size w0 w) (h : octet_Reader_Text.f s0_0 s0_1 s0_2 = some (r1, r2, r3, r4)) :
    Calls Try.prog 30 #[.pointer (some ⟨g, 0, none⟩)] w fun e w' => e = .returned (.string r1) ∧ IsS52 w0 w' g r2 r3 r4 ∧ Below w0.heap.size w0 w' ∧ KeepBut w w' g none := by
  have HI0 := Aside0.mk hI
  have HB := Aside0.mk hB
  clear hI hB
  unfold octet_Reader_Text.f at h
  obtain ⟨⟨n, n1, n2, n3⟩, hN, h⟩ := Option.bind_eq_some_iff.mp h
  obtain ⟨⟨t, t1, t2, t3⟩, hT, h⟩ := Option.bind_eq_some_iff.mp h
  dsimp only at h hT
  have HN := Aside0.mk hN
  have HT := Aside0.mk hT
  clear hN hT
  have hA := Aside0.mk (at_f s0_0 s0_1 s0_2)
  have hF := Aside0.mk (failed_f t1 t2 t3)
  cases t3 with
  | true =>
    rw [if_pos rfl] at h
    cases h
    go_enter Try.func30, Try.ntmps30
    go_wp2_with fail
    refine (octet_Reader_At.calls g s0_0 s0_1 s0_2 _ _ _ _ w0 _ HI0.out HB.out hA.out).mono ?_
    rintro e w9 ⟨rfl, hi, hb, hk⟩
    have HI := Aside0.mk hi
    have HB1 := Aside0.mk hb
    have HK1 := Aside0.mk hk
    clear hi hb hk
    go_wp2_with fail
    refine (octet_Reader_Num.calls g s0_0 s0_1 s0_2 2 _ _ _ _ w0 _ HI.out HB1.out HN.out).mono ?_
    rintro e w8 ⟨rfl, hi, hb, hk⟩
    have HI2 := Aside0.mk hi
    have HB2 := Aside0.mk hb
    have HK2 := Aside0.mk (KeepBut.trans HK1.out hk (.inl rfl))
    clear hi hb hk
    go_wp2_with fail
    refine (octet_Reader_Take.calls g n1 n2 n3 n _ _ _ _ w0 _ HI2.out HB2.out HT.out).mono ?_
    rintro e w7 ⟨rfl, hi, hb, hk⟩
    have HI3 := Aside0.mk hi
    have HB3 := Aside0.mk hb
    have HK3 := Aside0.mk (KeepBut.trans HK2.out hk (.inl rfl))
    clear hi hb hk
    go_wp2_with fail
    refine (octet_Reader_Failed.calls g _ _ _ _ _ _ _ w0 _ HI3.out HB3.out hF.out).mono ?_
    rintro e w6 ⟨rfl, hi, hb, hk⟩
    have HI4 := Aside0.mk hi
    have HB4 := Aside0.mk hb
    have HK4 := Aside0.mk (KeepBut.trans HK3.out hk (.inl rfl))
    have hc1 := cellS52_1 hi.1
    have hf1 := blk_frozen hi.1 1
    clear hi hb hk
    go_wp2
    go_ret
    exact ⟨rfl, HI4.out.set_1 _, below_set HB4.out (IsS52.ge HI4.out), HK4.out.set_ _ _⟩
  | false =>
    rw [if_neg (by decide)] at h
    cases h
    go_enter Try.func30, Try.ntmps30
    go_wp2_with fail
    refine (octet_Reader_At.calls g s0_0 s0_1 s0_2 _ _ _ _ w0 _ HI0.out HB.out hA.out).mono ?_
    rintro e w9 ⟨rfl, hi, hb, hk⟩
    have HI := Aside0.mk hi
    have HB1 := Aside0.mk hb
    have HK1 := Aside0.mk hk
    clear hi hb hk
    go_wp2_with fail
    refine (octet_Reader_Num.calls g s0_0 s0_1 s0_2 2 _ _ _ _ w0 _ HI.out HB1.out HN.out).mono ?_
    rintro e w8 ⟨rfl, hi, hb, hk⟩
    have HI2 := Aside0.mk hi
    have HB2 := Aside0.mk hb
    have HK2 := Aside0.mk (KeepBut.trans HK1.out hk (.inl rfl))
    clear hi hb hk
    go_wp2_with fail
    refine (octet_Reader_Take.calls g n1 n2 n3 n _ _ _ _ w0 _ HI2.out HB2.out HT.out).mono ?_
    rintro e w7 ⟨rfl, hi, hb, hk⟩
    have HI3 := Aside0.mk hi
    have HB3 := Aside0.mk hb
    have HK3 := Aside0.mk (KeepBut.trans HK2.out hk (.inl rfl))
    clear hi hb hk
    go_wp2_with fail
    refine (octet_Reader_Failed.calls g _ _ _ _ _ _ _ w0 _ HI3.out HB3.out hF.out).mono ?_
    rintro e w6 ⟨rfl, hi, hb, hk⟩
    have HI4 := Aside0.mk hi
    have HB4 := Aside0.mk hb
    have HK4 := Aside0.mk (KeepBut.trans HK3.out hk (.inl rfl))
    have hc1 := cellS52_1 hi.1
    have hf1 := blk_frozen hi.1 1
    clear hi hb hk
    go_wp2
    go_ret
    exact ⟨rfl, HI4.out, HB4.out, HK4.out⟩

/-! ### fleuronlaw01_one: function 27 -/
def fleuronlaw01_one.f (s0_0 : ByteArray) (s0_1 : Int) (s0_2 : Bool) (a1_0 : Int) (a1_1 : Int) : Option (Int × ByteArray × ByteArray × Int × Bool) := if (Go.bits .and .i64 a1_0 3) = 0 then ((octet_Reader_Num.f s0_0 s0_1 s0_2 a1_1).bind fun bt148 => (some (bt148.1, (⟨#[]⟩ : ByteArray), bt148.2.1, bt148.2.2.1, bt148.2.2.2))) else (if (Go.bits .and .i64 a1_0 3) = 1 then ((octet_Reader_Int.f s0_0 s0_1 s0_2 a1_1).bind fun bt152 => (some (bt152.1, (⟨#[]⟩ : ByteArray), bt152.2.1, bt152.2.2.1, bt152.2.2.2))) else (if (Go.bits .and .i64 a1_0 3) = 2 then ((octet_Reader_Text.f s0_0 s0_1 s0_2).bind fun bt156 => (some (0, bt156.1, bt156.2.1, bt156.2.2.1, bt156.2.2.2))) else ((octet_Reader_Take.f s0_0 s0_1 s0_2 a1_1).bind fun bt160 => (some (0, bt160.1, bt160.2.1, bt160.2.2.1, bt160.2.2.2)))))
set_option maxHeartbeats 8000000 in
set_option maxRecDepth 100000 in
theorem fleuronlaw01_one.calls (g : Nat) (s0_0 : ByteArray) (s0_1 : Int) (s0_2 : Bool) (a1_0 : Int) (a1_1 : Int) (r1 : Int) (r2 : ByteArray) (r3 : ByteArray) (r4 : Int) (r5 : Bool) (w0 w : World) (hI : IsS52 w0 w g s0_0 s0_1 s0_2) (hB : Below w0.heap.size w0 w) (h : fleuronlaw01_one.f s0_0 s0_1 s0_2 a1_0 a1_1 = some (r1, r2, r3, r4, r5)) :
    Calls Try.prog 27 #[.pointer (some ⟨g, 0, none⟩), .agg #[.int .i64 a1_0, .int .i64 a1_1]] w fun e w' => e = .returned (.tuple #[.int .i64 r1, .string r2]) ∧ IsS52 w0 w' g r3 r4 r5 ∧ Below w0.heap.size w0 w' ∧ KeepBut w w' g none := by
  have hu45 := Try.underlying45
  have HI0 := Aside0.mk hI
  have HK := Aside0.mk (KeepBut.refl w g none)
  have HL := Aside0.mk hB.size
  clear hI
  have HW0 := Aside0.mk hB.size
  have HB := Aside0.mk hB
  clear hB
  have H : (if (Go.bits .and .i64 a1_0 3) = 0 then ((octet_Reader_Num.f s0_0 s0_1 s0_2 a1_1).bind fun bt148 => (some (bt148.1, (⟨#[]⟩ : ByteArray), bt148.2.1, bt148.2.2.1, bt148.2.2.2))) else (if (Go.bits .and .i64 a1_0 3) = 1 then ((octet_Reader_Int.f s0_0 s0_1 s0_2 a1_1).bind fun bt152 => (some (bt152.1, (⟨#[]⟩ : ByteArray), bt152.2.1, bt152.2.2.1, bt152.2.2.2))) else (if (Go.bits .and .i64 a1_0 3) = 2 then ((octet_Reader_Text.f s0_0 s0_1 s0_2).bind fun bt156 => (some (0, bt156.1, bt156.2.1, bt156.2.2.1, bt156.2.2.2))) else ((octet_Reader_Take.f s0_0 s0_1 s0_2 a1_1).bind fun bt160 => (some (0, bt160.1, bt160.2.1, bt160.2.2.1, bt160.2.2.2)))))) = some (r1, r2, r3, r4, r5) := h
  clear h
  by_cases c3 : (Go.bits .and .i64 a1_0 3) = 0
  · rw [if_pos c3] at H
    have c3b0 : ((Go.bits .and .i64 a1_0 3) == 0) = true := beq_iff_eq.mpr c3
    have c3b1 : ((Go.bits .and .i64 a1_0 3) != 0) = false := bne_eq_false_iff_eq.mpr c3
    clear c3
    replace H := Option.bind_eq_some_iff.mp H
    obtain ⟨⟨t148, t149, t150, t151⟩, A40, H⟩ := H
    replace H : (some (t148, (⟨#[]⟩ : ByteArray), t149, t150, t151)) = some (r1, r2, r3, r4, r5) := H
    have A4 := Aside0.mk A40
    clear A40
    simp only [Option.some.injEq, Prod.mk.injEq] at H
    obtain ⟨rfl, rfl, rfl, rfl, rfl⟩ := H
    go_enter Try.func27, Try.ntmps27
    go_wp2_with (first | ((with_reducible refine gate_dst (N := 3) rfl ?_); refine box_event ?hg (N := 3) ?hd (cs := #[.int .i64 a1_0, .int .i64 a1_1]) (t := 45) ?hr ?_; (case hd => rfl); (case hg => rfl); (case hr => first | (go_simp; done) | (go_simp; rfl)); intro gb147 hg w5 hbox hb; have n0_ := Aside0.mk (IsS52.below (by repeat (first | (with_reducible first | exact HI0.out | apply IsS52.alloc | apply IsS52.drewN | apply IsS52.drew | apply IsS52.set_0 | apply IsS52.set_1 | apply IsS52.set_2) | exact HI0.out)) hb); have n1_ := Aside0.mk (KeepBut.trans (by repeat (first | (with_reducible first | exact HK.out | apply KeepBut.set_ | apply keep_drewN | apply keep_drew | apply keep_alloc) | exact HK.out)) (KeepBut.of_below hb g none) (.inl rfl)); have n2_ := Aside0.mk (below_step (by repeat (first | (with_reducible first | exact HB.out | apply below_alloc | apply pw_below_drewN | apply below_drew1 | refine below_set ?_ (IsS52.ge HI0.out)) | exact HB.out)) hb); have n3_ := Aside0.mk (hbox); have n4_ := Aside0.mk ((by rw [hg]; exact (keep_size (w := w) (g := g) (row := none) (by repeat (first | (with_reducible first | exact HK.out | apply KeepBut.set_ | apply keep_drewN | apply keep_drew | apply keep_alloc) | exact HK.out))) : w.heap.size ≤ gb147)); have n5_ := Aside0.mk ((Nat.le_trans HW0.out (by rw [hg]; exact (keep_size (w := w) (g := g) (row := none) (by repeat (first | (with_reducible first | exact HK.out | apply KeepBut.set_ | apply keep_drewN | apply keep_drew | apply keep_alloc) | exact HK.out))) : w.heap.size ≤ gb147) : w0.heap.size ≤ gb147)); have n6_ := Aside0.mk ((by rw [hg]; exact Nat.ne_of_lt (IsS52.lt (show IsS52 w0 _ g s0_0 s0_1 s0_2 from by repeat (first | (with_reducible first | exact HI0.out | apply IsS52.alloc | apply IsS52.drewN | apply IsS52.drew | apply IsS52.set_0 | apply IsS52.set_1 | apply IsS52.set_2) | exact HI0.out))) : g ≠ gb147)); have n7_ := Aside0.mk ((by rw [hg]; exact Nat.ne_of_gt (IsS52.lt (show IsS52 w0 _ g s0_0 s0_1 s0_2 from by repeat (first | (with_reducible first | exact HI0.out | apply IsS52.alloc | apply IsS52.drewN | apply IsS52.drew | apply IsS52.set_0 | apply IsS52.set_1 | apply IsS52.set_2) | exact HI0.out))) : gb147 ≠ g)); clear HI0; clear HK; clear HB; have HI0 := n0_; have HK := n1_; have HB := n2_; have BK147 := n3_; have GW147 := n4_; have GE147 := n5_; have NB0_147 := n6_; have NB147_0 := n7_; clear n0_ n1_ n2_ n3_ n4_ n5_ n6_ n7_; clear hb hbox hg; have hnb6 := NB147_0.out; have hnc6 := NB0_147.out; have hcz7_0 : w5.cell? ⟨gb147, 0, none⟩ = some (.int .i64 a1_0) := (blk_cell BK147.out 0).trans rfl; have hcz7_1 : w5.cell? ⟨gb147, 1, none⟩ = some (.int .i64 a1_1) := (blk_cell BK147.out 1).trans rfl; have hfz7_0 := blk_frozen BK147.out 0; have hfz7_1 := blk_frozen BK147.out 1) | ((with_reducible refine gate_callee (f := 14) rfl ?_); refine goesL_ (some 14) rfl rfl Try.func14 (by kernel_rfl) rfl #[.pointer (some ⟨g, 0, none⟩), .int .i64 a1_1] rfl (by (try simp only [List.map_toArray, List.map_cons, List.map_nil]); first | done | rfl | (simp only [List.length_drop, List.length_take]; rfl) | (simp only [ByteArray.size_extract, Nat.sub_zero]; rfl)) ?_; (with_reducible refine (octet_Reader_Num.calls g s0_0 s0_1 s0_2 a1_1 t148 t149 t150 t151 w0 _ ?side1 ?side2 A4.out).mono ?_); (case side1 => repeat (first | (with_reducible first | exact HI0.out | apply IsS52.alloc | apply IsS52.drewN | apply IsS52.drew | apply IsS52.set_0 | apply IsS52.set_1 | apply IsS52.set_2 | refine IsS52.far ?_ NB0_147.out _) | exact HI0.out)); (case side2 => repeat (first | (with_reducible first | exact HB.out | apply below_alloc | apply pw_below_drewN | apply below_drew1 | refine below_set ?_ (IsS52.ge HI0.out) | refine below_set ?_ GE147.out) | exact HB.out)); rintro e w8 ⟨rfl, hi, hb, hk⟩; refine ⟨_, rfl, ?_⟩; have n0_ := Aside0.mk (KeepBut.blk hk (g' := gb147) (o := .cells #[.int .i64 a1_0, .int .i64 a1_1] 45 (0, 0)) (by (with_reducible repeat (first | refine blk_drewN ?_ _ | refine blk_drew ?_ | refine blk_alloc ?_ _)); exact BK147.out) NB147_0.out (by simp)); have n1_ := Aside0.mk (KeepBut.trans (by repeat (first | (with_reducible first | exact HK.out | apply KeepBut.set_ | apply keep_drewN | apply keep_drew | apply keep_alloc | refine keep_far ?_ GW147.out _) | exact HK.out)) hk (.inl rfl)); have n2_ := Aside0.mk (hb); have n3_ := Aside0.mk (hi); clear BK147; clear HK; clear HB; clear HI0; have BK147 := n0_; have HK := n1_; have HB := n2_; have HI0 := n3_; clear n0_ n1_ n2_ n3_; (try clear hb); (try clear hb2); (try clear hk); (try clear hi)))
    go_ret2
    exact ⟨by first | rfl | (simp [errW_none, errW_some] <;> rfl) | (simp [*, errW_none, errW_some] <;> rfl), by repeat (first | (with_reducible first | exact HI0.out | apply IsS52.alloc | apply IsS52.drewN | apply IsS52.drew | apply IsS52.set_0 | apply IsS52.set_1 | apply IsS52.set_2 | refine IsS52.far ?_ NB0_147.out _) | exact HI0.out), by repeat (first | (with_reducible first | exact HB.out | apply below_alloc | apply pw_below_drewN | apply below_drew1 | refine below_set ?_ (IsS52.ge HI0.out) | refine below_set ?_ GE147.out) | exact HB.out), by repeat (first | (with_reducible first | exact HK.out | apply KeepBut.set_ | apply keep_drewN | apply keep_drew | apply keep_alloc | refine keep_far ?_ GW147.out _) | exact HK.out)⟩
  · rw [if_neg c3] at H
    have c3b0 : ((Go.bits .and .i64 a1_0 3) == 0) = false := beq_eq_false_iff_ne.mpr c3
    have c3b1 : ((Go.bits .and .i64 a1_0 3) != 0) = true := bne_iff_ne.mpr c3
    by_cases c9 : (Go.bits .and .i64 a1_0 3) = 1
    · rw [if_pos c9] at H
      have c9b0 : ((Go.bits .and .i64 a1_0 3) == 1) = true := beq_iff_eq.mpr c9
      have c9b1 : ((Go.bits .and .i64 a1_0 3) != 1) = false := bne_eq_false_iff_eq.mpr c9
      clear c9
      replace H := Option.bind_eq_some_iff.mp H
      obtain ⟨⟨t152, t153, t154, t155⟩, A100, H⟩ := H
      replace H : (some (t152, (⟨#[]⟩ : ByteArray), t153, t154, t155)) = some (r1, r2, r3, r4, r5) := H
      have A10 := Aside0.mk A100
      clear A100
      simp only [Option.some.injEq, Prod.mk.injEq] at H
      obtain ⟨rfl, rfl, rfl, rfl, rfl⟩ := H
      go_enter Try.func27, Try.ntmps27
      go_wp2_with (first | ((with_reducible refine gate_dst (N := 3) rfl ?_); refine box_event ?hg (N := 3) ?hd (cs := #[.int .i64 a1_0, .int .i64 a1_1]) (t := 45) ?hr ?_; (case hd => rfl); (case hg => rfl); (case hr => first | (go_simp; done) | (go_simp; rfl)); intro gb147 hg w11 hbox hb; have n0_ := Aside0.mk (IsS52.below (by repeat (first | (with_reducible first | exact HI0.out | apply IsS52.alloc | apply IsS52.drewN | apply IsS52.drew | apply IsS52.set_0 | apply IsS52.set_1 | apply IsS52.set_2) | exact HI0.out)) hb); have n1_ := Aside0.mk (KeepBut.trans (by repeat (first | (with_reducible first | exact HK.out | apply KeepBut.set_ | apply keep_drewN | apply keep_drew | apply keep_alloc) | exact HK.out)) (KeepBut.of_below hb g none) (.inl rfl)); have n2_ := Aside0.mk (below_step (by repeat (first | (with_reducible first | exact HB.out | apply below_alloc | apply pw_below_drewN | apply below_drew1 | refine below_set ?_ (IsS52.ge HI0.out)) | exact HB.out)) hb); have n3_ := Aside0.mk (hbox); have n4_ := Aside0.mk ((by rw [hg]; exact (keep_size (w := w) (g := g) (row := none) (by repeat (first | (with_reducible first | exact HK.out | apply KeepBut.set_ | apply keep_drewN | apply keep_drew | apply keep_alloc) | exact HK.out))) : w.heap.size ≤ gb147)); have n5_ := Aside0.mk ((Nat.le_trans HW0.out (by rw [hg]; exact (keep_size (w := w) (g := g) (row := none) (by repeat (first | (with_reducible first | exact HK.out | apply KeepBut.set_ | apply keep_drewN | apply keep_drew | apply keep_alloc) | exact HK.out))) : w.heap.size ≤ gb147) : w0.heap.size ≤ gb147)); have n6_ := Aside0.mk ((by rw [hg]; exact Nat.ne_of_lt (IsS52.lt (show IsS52 w0 _ g s0_0 s0_1 s0_2 from by repeat (first | (with_reducible first | exact HI0.out | apply IsS52.alloc | apply IsS52.drewN | apply IsS52.drew | apply IsS52.set_0 | apply IsS52.set_1 | apply IsS52.set_2) | exact HI0.out))) : g ≠ gb147)); have n7_ := Aside0.mk ((by rw [hg]; exact Nat.ne_of_gt (IsS52.lt (show IsS52 w0 _ g s0_0 s0_1 s0_2 from by repeat (first | (with_reducible first | exact HI0.out | apply IsS52.alloc | apply IsS52.drewN | apply IsS52.drew | apply IsS52.set_0 | apply IsS52.set_1 | apply IsS52.set_2) | exact HI0.out))) : gb147 ≠ g)); clear HI0; clear HK; clear HB; have HI0 := n0_; have HK := n1_; have HB := n2_; have BK147 := n3_; have GW147 := n4_; have GE147 := n5_; have NB0_147 := n6_; have NB147_0 := n7_; clear n0_ n1_ n2_ n3_ n4_ n5_ n6_ n7_; clear hb hbox hg; have hnb12 := NB147_0.out; have hnc12 := NB0_147.out; have hcz13_0 : w11.cell? ⟨gb147, 0, none⟩ = some (.int .i64 a1_0) := (blk_cell BK147.out 0).trans rfl; have hcz13_1 : w11.cell? ⟨gb147, 1, none⟩ = some (.int .i64 a1_1) := (blk_cell BK147.out 1).trans rfl; have hfz13_0 := blk_frozen BK147.out 0; have hfz13_1 := blk_frozen BK147.out 1) | ((with_reducible refine gate_callee (f := 24) rfl ?_); refine goesL_ (some 20) rfl rfl Try.func24 (by kernel_rfl) rfl #[.pointer (some ⟨g, 0, none⟩), .int .i64 a1_1] rfl (by (try simp only [List.map_toArray, List.map_cons, List.map_nil]); first | done | rfl | (simp only [List.length_drop, List.length_take]; rfl) | (simp only [ByteArray.size_extract, Nat.sub_zero]; rfl)) ?_; (with_reducible refine (octet_Reader_Int.calls g s0_0 s0_1 s0_2 a1_1 t152 t153 t154 t155 w0 _ ?side1 ?side2 A10.out).mono ?_); (case side1 => repeat (first | (with_reducible first | exact HI0.out | apply IsS52.alloc | apply IsS52.drewN | apply IsS52.drew | apply IsS52.set_0 | apply IsS52.set_1 | apply IsS52.set_2 | refine IsS52.far ?_ NB0_147.out _) | exact HI0.out)); (case side2 => repeat (first | (with_reducible first | exact HB.out | apply below_alloc | apply pw_below_drewN | apply below_drew1 | refine below_set ?_ (IsS52.ge HI0.out) | refine below_set ?_ GE147.out) | exact HB.out)); rintro e w14 ⟨rfl, hi, hb, hk⟩; refine ⟨_, rfl, ?_⟩; have n0_ := Aside0.mk (KeepBut.blk hk (g' := gb147) (o := .cells #[.int .i64 a1_0, .int .i64 a1_1] 45 (0, 0)) (by (with_reducible repeat (first | refine blk_drewN ?_ _ | refine blk_drew ?_ | refine blk_alloc ?_ _)); exact BK147.out) NB147_0.out (by simp)); have n1_ := Aside0.mk (KeepBut.trans (by repeat (first | (with_reducible first | exact HK.out | apply KeepBut.set_ | apply keep_drewN | apply keep_drew | apply keep_alloc | refine keep_far ?_ GW147.out _) | exact HK.out)) hk (.inl rfl)); have n2_ := Aside0.mk (hb); have n3_ := Aside0.mk (hi); clear BK147; clear HK; clear HB; clear HI0; have BK147 := n0_; have HK := n1_; have HB := n2_; have HI0 := n3_; clear n0_ n1_ n2_ n3_; (try clear hb); (try clear hb2); (try clear hk); (try clear hi)))
      go_ret2
      exact ⟨by first | rfl | (simp [errW_none, errW_some] <;> rfl) | (simp [*, errW_none, errW_some] <;> rfl), by repeat (first | (with_reducible first | exact HI0.out | apply IsS52.alloc | apply IsS52.drewN | apply IsS52.drew | apply IsS52.set_0 | apply IsS52.set_1 | apply IsS52.set_2 | refine IsS52.far ?_ NB0_147.out _) | exact HI0.out), by repeat (first | (with_reducible first | exact HB.out | apply below_alloc | apply pw_below_drewN | apply below_drew1 | refine below_set ?_ (IsS52.ge HI0.out) | refine below_set ?_ GE147.out) | exact HB.out), by repeat (first | (with_reducible first | exact HK.out | apply KeepBut.set_ | apply keep_drewN | apply keep_drew | apply keep_alloc | refine keep_far ?_ GW147.out _) | exact HK.out)⟩
    · rw [if_neg c9] at H
      have c9b0 : ((Go.bits .and .i64 a1_0 3) == 1) = false := beq_eq_false_iff_ne.mpr c9
      have c9b1 : ((Go.bits .and .i64 a1_0 3) != 1) = true := bne_iff_ne.mpr c9
      by_cases c15 : (Go.bits .and .i64 a1_0 3) = 2
      · rw [if_pos c15] at H
        have c15b0 : ((Go.bits .and .i64 a1_0 3) == 2) = true := beq_iff_eq.mpr c15
        have c15b1 : ((Go.bits .and .i64 a1_0 3) != 2) = false := bne_eq_false_iff_eq.mpr c15
        clear c15
        replace H := Option.bind_eq_some_iff.mp H
        obtain ⟨⟨t156, t157, t158, t159⟩, A160, H⟩ := H
        replace H : (some (0, t156, t157, t158, t159)) = some (r1, r2, r3, r4, r5) := H
        have A16 := Aside0.mk A160
        clear A160
        simp only [Option.some.injEq, Prod.mk.injEq] at H
        obtain ⟨rfl, rfl, rfl, rfl, rfl⟩ := H
        go_enter Try.func27, Try.ntmps27
        go_wp2_with (first | ((with_reducible refine gate_dst (N := 3) rfl ?_); refine box_event ?hg (N := 3) ?hd (cs := #[.int .i64 a1_0, .int .i64 a1_1]) (t := 45) ?hr ?_; (case hd => rfl); (case hg => rfl); (case hr => first | (go_simp; done) | (go_simp; rfl)); intro gb147 hg w17 hbox hb; have n0_ := Aside0.mk (IsS52.below (by repeat (first | (with_reducible first | exact HI0.out | apply IsS52.alloc | apply IsS52.drewN | apply IsS52.drew | apply IsS52.set_0 | apply IsS52.set_1 | apply IsS52.set_2) | exact HI0.out)) hb); have n1_ := Aside0.mk (KeepBut.trans (by repeat (first | (with_reducible first | exact HK.out | apply KeepBut.set_ | apply keep_drewN | apply keep_drew | apply keep_alloc) | exact HK.out)) (KeepBut.of_below hb g none) (.inl rfl)); have n2_ := Aside0.mk (below_step (by repeat (first | (with_reducible first | exact HB.out | apply below_alloc | apply pw_below_drewN | apply below_drew1 | refine below_set ?_ (IsS52.ge HI0.out)) | exact HB.out)) hb); have n3_ := Aside0.mk (hbox); have n4_ := Aside0.mk ((by rw [hg]; exact (keep_size (w := w) (g := g) (row := none) (by repeat (first | (with_reducible first | exact HK.out | apply KeepBut.set_ | apply keep_drewN | apply keep_drew | apply keep_alloc) | exact HK.out))) : w.heap.size ≤ gb147)); have n5_ := Aside0.mk ((Nat.le_trans HW0.out (by rw [hg]; exact (keep_size (w := w) (g := g) (row := none) (by repeat (first | (with_reducible first | exact HK.out | apply KeepBut.set_ | apply keep_drewN | apply keep_drew | apply keep_alloc) | exact HK.out))) : w.heap.size ≤ gb147) : w0.heap.size ≤ gb147)); have n6_ := Aside0.mk ((by rw [hg]; exact Nat.ne_of_lt (IsS52.lt (show IsS52 w0 _ g s0_0 s0_1 s0_2 from by repeat (first | (with_reducible first | exact HI0.out | apply IsS52.alloc | apply IsS52.drewN | apply IsS52.drew | apply IsS52.set_0 | apply IsS52.set_1 | apply IsS52.set_2) | exact HI0.out))) : g ≠ gb147)); have n7_ := Aside0.mk ((by rw [hg]; exact Nat.ne_of_gt (IsS52.lt (show IsS52 w0 _ g s0_0 s0_1 s0_2 from by repeat (first | (with_reducible first | exact HI0.out | apply IsS52.alloc | apply IsS52.drewN | apply IsS52.drew | apply IsS52.set_0 | apply IsS52.set_1 | apply IsS52.set_2) | exact HI0.out))) : gb147 ≠ g)); clear HI0; clear HK; clear HB; have HI0 := n0_; have HK := n1_; have HB := n2_; have BK147 := n3_; have GW147 := n4_; have GE147 := n5_; have NB0_147 := n6_; have NB147_0 := n7_; clear n0_ n1_ n2_ n3_ n4_ n5_ n6_ n7_; clear hb hbox hg; have hnb18 := NB147_0.out; have hnc18 := NB0_147.out; have hcz19_0 : w17.cell? ⟨gb147, 0, none⟩ = some (.int .i64 a1_0) := (blk_cell BK147.out 0).trans rfl; have hcz19_1 : w17.cell? ⟨gb147, 1, none⟩ = some (.int .i64 a1_1) := (blk_cell BK147.out 1).trans rfl; have hfz19_0 := blk_frozen BK147.out 0; have hfz19_1 := blk_frozen BK147.out 1) | ((with_reducible refine gate_callee (f := 30) rfl ?_); refine goesL_ (some 24) rfl rfl Try.func30 (by kernel_rfl) rfl #[.pointer (some ⟨g, 0, none⟩)] rfl (by (try simp only [List.map_toArray, List.map_cons, List.map_nil]); first | done | rfl | (simp only [List.length_drop, List.length_take]; rfl) | (simp only [ByteArray.size_extract, Nat.sub_zero]; rfl)) ?_; (with_reducible refine (octet_Reader_Text.calls g s0_0 s0_1 s0_2 t156 t157 t158 t159 w0 _ ?side1 ?side2 A16.out).mono ?_); (case side1 => repeat (first | (with_reducible first | exact HI0.out | apply IsS52.alloc | apply IsS52.drewN | apply IsS52.drew | apply IsS52.set_0 | apply IsS52.set_1 | apply IsS52.set_2 | refine IsS52.far ?_ NB0_147.out _) | exact HI0.out)); (case side2 => repeat (first | (with_reducible first | exact HB.out | apply below_alloc | apply pw_below_drewN | apply below_drew1 | refine below_set ?_ (IsS52.ge HI0.out) | refine below_set ?_ GE147.out) | exact HB.out)); rintro e w20 ⟨rfl, hi, hb, hk⟩; refine ⟨_, rfl, ?_⟩; have n0_ := Aside0.mk (KeepBut.blk hk (g' := gb147) (o := .cells #[.int .i64 a1_0, .int .i64 a1_1] 45 (0, 0)) (by (with_reducible repeat (first | refine blk_drewN ?_ _ | refine blk_drew ?_ | refine blk_alloc ?_ _)); exact BK147.out) NB147_0.out (by simp)); have n1_ := Aside0.mk (KeepBut.trans (by repeat (first | (with_reducible first | exact HK.out | apply KeepBut.set_ | apply keep_drewN | apply keep_drew | apply keep_alloc | refine keep_far ?_ GW147.out _) | exact HK.out)) hk (.inl rfl)); have n2_ := Aside0.mk (hb); have n3_ := Aside0.mk (hi); clear BK147; clear HK; clear HB; clear HI0; have BK147 := n0_; have HK := n1_; have HB := n2_; have HI0 := n3_; clear n0_ n1_ n2_ n3_; (try clear hb); (try clear hb2); (try clear hk); (try clear hi)))
        go_ret2
        exact ⟨by first | rfl | (simp [errW_none, errW_some] <;> rfl) | (simp [*, errW_none, errW_some] <;> rfl), by repeat (first | (with_reducible first | exact HI0.out | apply IsS52.alloc | apply IsS52.drewN | apply IsS52.drew | apply IsS52.set_0 | apply IsS52.set_1 | apply IsS52.set_2 | refine IsS52.far ?_ NB0_147.out _) | exact HI0.out), by repeat (first | (with_reducible first | exact HB.out | apply below_alloc | apply pw_below_drewN | apply below_drew1 | refine below_set ?_ (IsS52.ge HI0.out) | refine below_set ?_ GE147.out) | exact HB.out), by repeat (first | (with_reducible first | exact HK.out | apply KeepBut.set_ | apply keep_drewN | apply keep_drew | apply keep_alloc | refine keep_far ?_ GW147.out _) | exact HK.out)⟩
      · rw [if_neg c15] at H
        have c15b0 : ((Go.bits .and .i64 a1_0 3) == 2) = false := beq_eq_false_iff_ne.mpr c15
        have c15b1 : ((Go.bits .and .i64 a1_0 3) != 2) = true := bne_iff_ne.mpr c15
        replace H := Option.bind_eq_some_iff.mp H
        obtain ⟨⟨t160, t161, t162, t163⟩, A210, H⟩ := H
        replace H : (some (0, t160, t161, t162, t163)) = some (r1, r2, r3, r4, r5) := H
        have A21 := Aside0.mk A210
        clear A210
        simp only [Option.some.injEq, Prod.mk.injEq] at H
        obtain ⟨rfl, rfl, rfl, rfl, rfl⟩ := H
        go_enter Try.func27, Try.ntmps27
        go_wp2_with (first | ((with_reducible refine gate_dst (N := 3) rfl ?_); refine box_event ?hg (N := 3) ?hd (cs := #[.int .i64 a1_0, .int .i64 a1_1]) (t := 45) ?hr ?_; (case hd => rfl); (case hg => rfl); (case hr => first | (go_simp; done) | (go_simp; rfl)); intro gb147 hg w22 hbox hb; have n0_ := Aside0.mk (IsS52.below (by repeat (first | (with_reducible first | exact HI0.out | apply IsS52.alloc | apply IsS52.drewN | apply IsS52.drew | apply IsS52.set_0 | apply IsS52.set_1 | apply IsS52.set_2) | exact HI0.out)) hb); have n1_ := Aside0.mk (KeepBut.trans (by repeat (first | (with_reducible first | exact HK.out | apply KeepBut.set_ | apply keep_drewN | apply keep_drew | apply keep_alloc) | exact HK.out)) (KeepBut.of_below hb g none) (.inl rfl)); have n2_ := Aside0.mk (below_step (by repeat (first | (with_reducible first | exact HB.out | apply below_alloc | apply pw_below_drewN | apply below_drew1 | refine below_set ?_ (IsS52.ge HI0.out)) | exact HB.out)) hb); have n3_ := Aside0.mk (hbox); have n4_ := Aside0.mk ((by rw [hg]; exact (keep_size (w := w) (g := g) (row := none) (by repeat (first | (with_reducible first | exact HK.out | apply KeepBut.set_ | apply keep_drewN | apply keep_drew | apply keep_alloc) | exact HK.out))) : w.heap.size ≤ gb147)); have n5_ := Aside0.mk ((Nat.le_trans HW0.out (by rw [hg]; exact (keep_size (w := w) (g := g) (row := none) (by repeat (first | (with_reducible first | exact HK.out | apply KeepBut.set_ | apply keep_drewN | apply keep_drew | apply keep_alloc) | exact HK.out))) : w.heap.size ≤ gb147) : w0.heap.size ≤ gb147)); have n6_ := Aside0.mk ((by rw [hg]; exact Nat.ne_of_lt (IsS52.lt (show IsS52 w0 _ g s0_0 s0_1 s0_2 from by repeat (first | (with_reducible first | exact HI0.out | apply IsS52.alloc | apply IsS52.drewN | apply IsS52.drew | apply IsS52.set_0 | apply IsS52.set_1 | apply IsS52.set_2) | exact HI0.out))) : g ≠ gb147)); have n7_ := Aside0.mk ((by rw [hg]; exact Nat.ne_of_gt (IsS52.lt (show IsS52 w0 _ g s0_0 s0_1 s0_2 from by repeat (first | (with_reducible first | exact HI0.out | apply IsS52.alloc | apply IsS52.drewN | apply IsS52.drew | apply IsS52.set_0 | apply IsS52.set_1 | apply IsS52.set_2) | exact HI0.out))) : gb147 ≠ g)); clear HI0; clear HK; clear HB; have HI0 := n0_; have HK := n1_; have HB := n2_; have BK147 := n3_; have GW147 := n4_; have GE147 := n5_; have NB0_147 := n6_; have NB147_0 := n7_; clear n0_ n1_ n2_ n3_ n4_ n5_ n6_ n7_; clear hb hbox hg; have hnb23 := NB147_0.out; have hnc23 := NB0_147.out; have hcz24_0 : w22.cell? ⟨gb147, 0, none⟩ = some (.int .i64 a1_0) := (blk_cell BK147.out 0).trans rfl; have hcz24_1 : w22.cell? ⟨gb147, 1, none⟩ = some (.int .i64 a1_1) := (blk_cell BK147.out 1).trans rfl; have hfz24_0 := blk_frozen BK147.out 0; have hfz24_1 := blk_frozen BK147.out 1) | ((with_reducible refine gate_callee (f := 15) rfl ?_); refine goesL_ (some 28) rfl rfl Try.func15 (by kernel_rfl) rfl #[.pointer (some ⟨g, 0, none⟩), .int .i64 a1_1] rfl (by (try simp only [List.map_toArray, List.map_cons, List.map_nil]); first | done | rfl | (simp only [List.length_drop, List.length_take]; rfl) | (simp only [ByteArray.size_extract, Nat.sub_zero]; rfl)) ?_; (with_reducible refine (octet_Reader_Take.calls g s0_0 s0_1 s0_2 a1_1 t160 t161 t162 t163 w0 _ ?side1 ?side2 A21.out).mono ?_); (case side1 => repeat (first | (with_reducible first | exact HI0.out | apply IsS52.alloc | apply IsS52.drewN | apply IsS52.drew | apply IsS52.set_0 | apply IsS52.set_1 | apply IsS52.set_2 | refine IsS52.far ?_ NB0_147.out _) | exact HI0.out)); (case side2 => repeat (first | (with_reducible first | exact HB.out | apply below_alloc | apply pw_below_drewN | apply below_drew1 | refine below_set ?_ (IsS52.ge HI0.out) | refine below_set ?_ GE147.out) | exact HB.out)); rintro e w25 ⟨rfl, hi, hb, hk⟩; refine ⟨_, rfl, ?_⟩; have n0_ := Aside0.mk (KeepBut.blk hk (g' := gb147) (o := .cells #[.int .i64 a1_0, .int .i64 a1_1] 45 (0, 0)) (by (with_reducible repeat (first | refine blk_drewN ?_ _ | refine blk_drew ?_ | refine blk_alloc ?_ _)); exact BK147.out) NB147_0.out (by simp)); have n1_ := Aside0.mk (KeepBut.trans (by repeat (first | (with_reducible first | exact HK.out | apply KeepBut.set_ | apply keep_drewN | apply keep_drew | apply keep_alloc | refine keep_far ?_ GW147.out _) | exact HK.out)) hk (.inl rfl)); have n2_ := Aside0.mk (hb); have n3_ := Aside0.mk (hi); clear BK147; clear HK; clear HB; clear HI0; have BK147 := n0_; have HK := n1_; have HB := n2_; have HI0 := n3_; clear n0_ n1_ n2_ n3_; (try clear hb); (try clear hb2); (try clear hk); (try clear hi)))
        go_ret2
        exact ⟨by first | rfl | (simp [errW_none, errW_some] <;> rfl) | (simp [*, errW_none, errW_some] <;> rfl), by repeat (first | (with_reducible first | exact HI0.out | apply IsS52.alloc | apply IsS52.drewN | apply IsS52.drew | apply IsS52.set_0 | apply IsS52.set_1 | apply IsS52.set_2 | refine IsS52.far ?_ NB0_147.out _) | exact HI0.out), by repeat (first | (with_reducible first | exact HB.out | apply below_alloc | apply pw_below_drewN | apply below_drew1 | refine below_set ?_ (IsS52.ge HI0.out) | refine below_set ?_ GE147.out) | exact HB.out), by repeat (first | (with_reducible first | exact HK.out | apply KeepBut.set_ | apply keep_drewN | apply keep_drew | apply keep_alloc | refine keep_far ?_ GW147.out _) | exact HK.out)⟩

theorem fail_nil (w : World) : Calls Try.prog 33 #[.pointer none] w fun e w' => e = .returned (.tuple #[]) ∧ w = w' := by
  go_enter Try.func33, Try.ntmps33
  go_wp2
  go_end0
  exact ⟨rfl, rfl⟩
theorem take_nil (n : Int) (w : World) : Calls Try.prog 15 #[.pointer none, .int .i64 n] w fun e w' => e = .returned (.string ⟨#[]⟩) ∧ w = w' := by
  go_enter Try.func15, Try.ntmps15
  go_wp2_with fail
  refine (failed_nil w).mono ?_
  rintro e w' ⟨rfl, rfl⟩
  go_wp2_with fail
  refine (fail_nil w).mono ?_
  rintro e w' ⟨rfl, rfl⟩
  go_wp2
  go_ret
  exact ⟨rfl, rfl⟩
set_option maxHeartbeats 1000000 in
theorem num_nil (a1 : Int) (w : World) : Calls Try.prog 31 #[.pointer none, .int .i64 a1, .func (.func 32) #[] #[]] w fun e w' => e = .returned (.int .i64 0) ∧ Below w.heap.size w w' := by
  have kb := fun W => print_bytes (P := Try.prog) 9 33 5 Try.underlying9 Try.underlying33 Try.underlying5 ⟨#[]⟩ W
  by_cases hb : a1 < 0 ∨ 8 < a1
  · have hd : decide (a1 < 0) = true ∨ (decide (a1 < 0) = false ∧ decide (8 < a1) = true) := by
      by_cases h0 : a1 < 0
      · exact .inl (decide_eq_true h0)
      · exact .inr ⟨decide_eq_false h0, decide_eq_true (by omega)⟩
    clear hb
    rcases hd with hd | ⟨hd, hd2⟩
    all_goals
      go_enter Try.func31, Try.ntmps31
      go_wp2_with fail
      refine (fail_nil w).mono ?_
      rintro e w' ⟨rfl, rfl⟩
      go_wp2
      go_ret
      exact ⟨rfl, Below.refl _ _⟩
  · have h0 : 0 ≤ a1 := by omega
    have h8 : a1 ≤ 8 := by omega
    clear hb
    go_enter Try.func31, Try.ntmps31
    go_wp2_with fail
    refine (take_nil a1 w).mono ?_
    rintro e w' ⟨rfl, rfl⟩
    go_wp2
    go_loop [7, 23] (fun v7 v23 => v7 = .int .i64 0 ∧ v23 = .int .i64 0) (fun _ _ => 0)
    case atStart => exact ⟨rfl, rfl⟩
    case round =>
      obtain ⟨rfl, rfl⟩ := hrel
      go_wp2
      go_ret
      exact ⟨rfl, bytes_below (Below.refl _ _) (Nat.le_refl _) 5 _⟩
set_option maxHeartbeats 1000000 in
theorem int31_nil (a1 : Int) (B : Nat) (w : World) (hc : w.cell? ⟨B, 0, none⟩ = some (.int .i64 a1)) : Calls Try.prog 31 #[.pointer none, .int .i64 a1, .func (.func 34) #[] #[.pointer (some ⟨B, 0, none⟩)]] w fun e w' => e = .returned (.int .i64 0) ∧ Below w.heap.size w w' := by
  have kb := fun W => print_bytes (P := Try.prog) 9 33 5 Try.underlying9 Try.underlying33 Try.underlying5 ⟨#[]⟩ W
  by_cases hb : a1 < 0 ∨ 8 < a1
  · have hd : decide (a1 < 0) = true ∨ (decide (a1 < 0) = false ∧ decide (8 < a1) = true) := by
      by_cases h0 : a1 < 0
      · exact .inl (decide_eq_true h0)
      · exact .inr ⟨decide_eq_false h0, decide_eq_true (by omega)⟩
    clear hb hc
    rcases hd with hd | ⟨hd, hd2⟩
    all_goals
      go_enter Try.func31, Try.ntmps31
      go_wp2_with fail
      refine (fail_nil w).mono ?_
      rintro e w' ⟨rfl, rfl⟩
      go_wp2
      go_ret
      exact ⟨rfl, Below.refl _ _⟩
  · have h0 : 0 ≤ a1 := by omega
    have h8 : a1 ≤ 8 := by omega
    have hc2 : (Lib.bytesWorld w 5 ⟨#[]⟩).cell? ⟨B, 0, none⟩ = some (.int .i64 a1) := (Lib.bytesWorld_old w 5 _ _ (World.block_lt_of_cell? _ _ hc)).trans hc
    clear hb
    go_enter Try.func31, Try.ntmps31
    go_wp2_with fail
    refine (take_nil a1 w).mono ?_
    rintro e w' ⟨rfl, rfl⟩
    go_wp2
    go_loop [7, 23] (fun v7 v23 => v7 = .int .i64 0 ∧ v23 = .int .i64 0) (fun _ _ => 0)
    case atStart => exact ⟨rfl, rfl⟩
    case round =>
      obtain ⟨rfl, rfl⟩ := hrel
      go_wp2
      go_ret
      refine ⟨?_, bytes_below (Below.refl _ _) (Nat.le_refl _) 5 _⟩
      first | rfl | (simp [wrap64]; done) | (apply ret_int; simp [wrap64])
theorem num14_nil (a1 : Int) (w : World) : Calls Try.prog 14 #[.pointer none, .int .i64 a1] w fun e w' => e = .returned (.int .i64 0) ∧ Below w.heap.size w w' := by
  go_enter Try.func14, Try.ntmps14
  go_wp2_with fail
  refine (num_nil a1 w).mono ?_
  rintro e w1 ⟨rfl, hb⟩
  have HB := Aside0.mk hb
  clear hb
  go_wp2
  go_ret
  exact ⟨rfl, HB.out⟩
theorem int_nil (a1 : Int) (w : World) : Calls Try.prog 24 #[.pointer none, .int .i64 a1] w fun e w' => e = .returned (.int .i64 0) ∧ Below w.heap.size w w' := by
  have HC := Aside0.mk (int31_nil a1 w.heap.size (w.alloc (.cells #[.int .i64 a1] 3)) ((blk_cell (by simpa using heap_alloc_new w _) 0).trans rfl))
  go_enter Try.func24, Try.ntmps24
  go_wp2_with fail
  refine HC.out.mono ?_
  rintro e w1 ⟨rfl, hb⟩
  have HB := Aside0.mk (below_step (below_alloc (Below.refl _ w) _) hb)
  clear hb
  go_wp2
  go_ret
  exact ⟨rfl, HB.out⟩
theorem text_nil (w : World) : Calls Try.prog 30 #[.pointer none] w fun e w' => e = .returned (.string ⟨#[]⟩) ∧ Below w.heap.size w w' := by
  go_enter Try.func30, Try.ntmps30
  go_wp2_with fail
  refine (at_nil w).mono ?_
  rintro e w' ⟨rfl, rfl⟩
  go_wp2_with fail
  refine (num14_nil 2 w).mono ?_
  rintro e w1 ⟨rfl, hb⟩
  have HB := Aside0.mk hb
  clear hb
  go_wp2_with fail
  refine (take_nil 0 w1).mono ?_
  rintro e w' ⟨rfl, rfl⟩
  go_wp2_with fail
  refine (failed_nil w1).mono ?_
  rintro e w' ⟨rfl, rfl⟩
  go_wp2
  go_ret
  exact ⟨rfl, HB.out⟩
set_option maxHeartbeats 1000000 in
theorem one_nil (dd n : Int) (w : World) : Calls Try.prog 27 #[.pointer none, .agg #[.int .i64 dd, .int .i64 n]] w fun e w' => e = .returned (.tuple #[.int .i64 0, .string ⟨#[]⟩]) ∧ Below w.heap.size w w' := by
  have HB0 := Aside0.mk (below_alloc (Below.refl _ w) (.cells #[.int .i64 dd, .int .i64 n] 45))
  obtain ⟨q, hq⟩ : ∃ q, Go.bits .and .i64 dd 3 = q := ⟨_, rfl⟩
  have hcase : q = 0 ∨ ((q == 0) = false ∧ q = 1) ∨ ((q == 0) = false ∧ (q == 1) = false ∧ q = 2) ∨ ((q == 0) = false ∧ (q == 1) = false ∧ (q == 2) = false) := by
    simp only [beq_eq_false_iff_ne]
    omega
  rcases hcase with rfl | ⟨c0, rfl⟩ | ⟨c0, c1, rfl⟩ | ⟨c0, c1, c2⟩
  · go_enter Try.func27, Try.ntmps27
    go_wp2_with fail
    refine (num14_nil n _).mono ?_
    rintro e w1 ⟨rfl, hb⟩
    have HB := Aside0.mk (below_step HB0.out hb)
    clear hb
    go_wp2
    go_ret2
    exact ⟨rfl, HB.out⟩
  · go_enter Try.func27, Try.ntmps27
    go_wp2_with fail
    refine (int_nil n _).mono ?_
    rintro e w1 ⟨rfl, hb⟩
    have HB := Aside0.mk (below_step HB0.out hb)
    clear hb
    go_wp2
    go_ret2
    exact ⟨rfl, HB.out⟩
  · go_enter Try.func27, Try.ntmps27
    go_wp2_with fail
    refine (text_nil _).mono ?_
    rintro e w1 ⟨rfl, hb⟩
    have HB := Aside0.mk (below_step HB0.out hb)
    clear hb
    go_wp2
    go_ret2
    exact ⟨rfl, HB.out⟩
  · go_enter Try.func27, Try.ntmps27
    go_wp2_with fail
    refine (take_nil n _).mono ?_
    rintro e w1 ⟨rfl, rfl⟩
    go_wp2
    go_ret2
    exact ⟨rfl, HB0.out⟩
def fleuronlaw01_one_nil.f (a1_0 : Int) (a1_1 : Int) : Option (Int × ByteArray) := some (0, ⟨#[]⟩)
theorem fleuronlaw01_one_nil.calls (a1_0 : Int) (a1_1 : Int) (r1 : Int) (r2 : ByteArray) (w : World) (h : fleuronlaw01_one_nil.f a1_0 a1_1 = some (r1, r2)) :
    Calls Try.prog 27 #[.pointer none, .agg #[.int .i64 a1_0, .int .i64 a1_1]] w fun e w' => e = .returned (.tuple #[.int .i64 r1, .string r2]) ∧ Below w.heap.size w w' := by
  cases h
  exact one_nil a1_0 a1_1 w

end Go.Proofs.Ytfnbaepioignaaa.POctn
