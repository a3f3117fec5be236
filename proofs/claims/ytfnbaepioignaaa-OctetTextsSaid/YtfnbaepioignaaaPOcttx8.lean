-- Written for this claim by a program of this seat (wip/tools: a turned copy of the kit's print). Not trusted: Lean checks it.
import Derived.Test.YtfnbaepioignaaaPOcttx0
import Derived.Test.YtfnbaepioignaaaPOcttx1
import Derived.Test.YtfnbaepioignaaaPOcttx2
import Derived.Test.YtfnbaepioignaaaPOcttx4
import Derived.Test.YtfnbaepioignaaaPOcttx7
namespace Go.Proofs.Ytfnbaepioignaaa.POctt
open Go.RowKit Go.Proofs.YtfnbaepioignaaaW.PrintWords Go.Proofs.YtfnbaepioignaaaW.PrintLast Go.Proofs.YtfnbaepioignaaaW.PrintMore
attribute [local go_sem] max2_int min2_int max_two min_two max_three min_three max_four min_four   -- for this text's walks alone
set_option linter.unusedVariables false
set_option linter.unusedSimpArgs false

/-! ### fleuronlaw01_OctetTexts: function 9 -/
mutual
def fleuronlaw01_OctetTexts.l0 : Nat → List ByteArray → Bool → ByteArray → Int → Int → Option (Bool)
  | 0, _, _, _, _, _ => none
  | k + 1, x0, x3, x4, x5, x6 => if x6 < x5 then (if 0 ≤ x6 then (if x6 < (x0.length : Int) then ((fleuronlaw01_few.f (rdOf ByteArray.empty x0 x6)).bind fun t389 => ((octet_Text.f k t389).bind fun t390 => (if x4.size + t390.size ≤ 9223372036854775807 then (fleuronlaw01_OctetTexts.l0 k x0 x3 (x4 ++ t390) x5 (wrap64 (x6 + 1))) else (none)))) else (none)) else (none)) else ((octet_Read.f x4).bind fun bt391 => (if x3 = true then (fleuronlaw01_OctetTexts.j1 k x0 x4 x5 false bt391.1 bt391.2.1 bt391.2.2) else (fleuronlaw01_OctetTexts.j1 k x0 x4 x5 true bt391.1 bt391.2.1 bt391.2.2)))
def fleuronlaw01_OctetTexts.j1 : Nat → List ByteArray → ByteArray → Int → Bool → ByteArray → Int → Bool → Option (Bool)
  | 0, _, _, _, _, _, _, _ => none
  | k + 1, x0, x4, x5, x37, x395000, x395001, x395002 => if x37 = true then (some false) else (fleuronlaw01_OctetTexts.l1 k x0 x4 x5 0 x395000 x395001 x395002)
def fleuronlaw01_OctetTexts.l1 : Nat → List ByteArray → ByteArray → Int → Int → ByteArray → Int → Bool → Option (Bool)
  | 0, _, _, _, _, _, _, _ => none
  | k + 1, x0, x4, x5, x8, x395000, x395001, x395002 => if x8 < x5 then ((octet_Reader_Text.f x395000 x395001 x395002).bind fun bt395 => (if 0 ≤ x8 then (if x8 < (x0.length : Int) then ((fleuronlaw01_few.f (rdOf ByteArray.empty x0 x8)).bind fun t400 => (if bt395.1.toList = t400.toList then ((octet_Reader_Failed.f bt395.2.1 bt395.2.2.1 bt395.2.2.2).bind fun bt401 => (if bt401.1 = true then (some false) else (fleuronlaw01_OctetTexts.l1 k x0 x4 x5 (wrap64 (x8 + 1)) bt401.2.1 bt401.2.2.1 bt401.2.2.2))) else (some false))) else (none)) else (none))) else ((octet_Reader_Left.f x395000 x395001 x395002).bind fun bt405 => (if bt405.1 = 0 then ((octet_Reader_At.f bt405.2.1 bt405.2.2.1 bt405.2.2.2).bind fun bt409 => (if bt409.1 = (x4.size : Int) then (fleuronlaw01_OctetTexts.j3 k x0 x4 x5 (x5 == 0) bt409.2.1 bt409.2.2.1 bt409.2.2.2) else (fleuronlaw01_OctetTexts.j3 k x0 x4 x5 true bt409.2.1 bt409.2.2.1 bt409.2.2.2))) else (fleuronlaw01_OctetTexts.j3 k x0 x4 x5 true bt405.2.1 bt405.2.2.1 bt405.2.2.2)))
def fleuronlaw01_OctetTexts.j3 : Nat → List ByteArray → ByteArray → Int → Bool → ByteArray → Int → Bool → Option (Bool)
  | 0, _, _, _, _, _, _, _ => none
  | k + 1, x0, x4, x5, x68, x395000, x395001, x395002 => if x68 = true then ((octet_Reader_Left.f x395000 x395001 x395002).bind fun bt413 => (if bt413.1 = 0 then ((octet_Reader_At.f bt413.2.1 bt413.2.2.1 bt413.2.2.2).bind fun bt417 => (some (bt417.1 == (x4.size : Int)))) else (some false))) else (if 0 ≤ (wrap64 ((x4.size : Int) - 1)) then (if (wrap64 ((x4.size : Int) - 1)) ≤ (x4.size : Int) then ((octet_Read.f (x4.extract 0 ((wrap64 ((x4.size : Int) - 1)) : Int).toNat)).bind fun bt421 => (fleuronlaw01_OctetTexts.l2 k x0 x4 x5 0 bt421.1 bt421.2.1 bt421.2.2)) else (none)) else (none))
def fleuronlaw01_OctetTexts.l2 : Nat → List ByteArray → ByteArray → Int → Int → ByteArray → Int → Bool → Option (Bool)
  | 0, _, _, _, _, _, _, _ => none
  | k + 1, x0, x4, x5, x10, x425000, x425001, x425002 => if x10 < (wrap64 (x5 - 1)) then ((octet_Reader_Text.f x425000 x425001 x425002).bind fun bt425 => (fleuronlaw01_OctetTexts.l2 k x0 x4 x5 (wrap64 (x10 + 1)) bt425.2.1 bt425.2.2.1 bt425.2.2.2)) else ((octet_Reader_At.f x425000 x425001 x425002).bind fun bt429 => ((octet_Reader_Text.f bt429.2.1 bt429.2.2.1 bt429.2.2.2).bind fun bt433 => (if bt433.1.toList = ([] : List UInt8) then ((octet_Reader_Failed.f bt433.2.1 bt433.2.2.1 bt433.2.2.2).bind fun bt437 => (if bt437.1 = true then ((octet_Reader_At.f bt437.2.1 bt437.2.2.1 bt437.2.2.2).bind fun bt441 => (if bt441.1 = bt429.1 then (if 0 ≤ (wrap64 (x5 - 1)) then (if (wrap64 (x5 - 1)) < (x0.length : Int) then ((fleuronlaw01_few.f (rdOf ByteArray.empty x0 (wrap64 (x5 - 1)))).bind fun t446 => (some (bt429.1 == (wrap64 ((wrap64 ((x4.size : Int) - (t446.size : Int))) - 2))))) else (none)) else (none)) else (some false))) else (some false))) else (some false))))
end
def fleuronlaw01_OctetTexts.f (k : Nat) (l0 : List ByteArray) : Option (Bool) := (fleuronlaw01_shown.f k).bind fun t387 => (fleuronlaw01_OctetTexts.l0 k l0 t387 (⟨#[]⟩ : ByteArray) (mn (l0.length : Int) 10) 0)
theorem fleuronlaw01_OctetTexts.mono_l : ∀ k, (∀ y0 y1 y2 y3 y4, LeO (fleuronlaw01_OctetTexts.l0 k y0 y1 y2 y3 y4) (fleuronlaw01_OctetTexts.l0 (k + 1) y0 y1 y2 y3 y4)) ∧ (∀ y0 y1 y2 y3 y4 y5 y6, LeO (fleuronlaw01_OctetTexts.j1 k y0 y1 y2 y3 y4 y5 y6) (fleuronlaw01_OctetTexts.j1 (k + 1) y0 y1 y2 y3 y4 y5 y6)) ∧ (∀ y0 y1 y2 y3 y4 y5 y6, LeO (fleuronlaw01_OctetTexts.l1 k y0 y1 y2 y3 y4 y5 y6) (fleuronlaw01_OctetTexts.l1 (k + 1) y0 y1 y2 y3 y4 y5 y6)) ∧ (∀ y0 y1 y2 y3 y4 y5 y6, LeO (fleuronlaw01_OctetTexts.j3 k y0 y1 y2 y3 y4 y5 y6) (fleuronlaw01_OctetTexts.j3 (k + 1) y0 y1 y2 y3 y4 y5 y6)) ∧ (∀ y0 y1 y2 y3 y4 y5 y6, LeO (fleuronlaw01_OctetTexts.l2 k y0 y1 y2 y3 y4 y5 y6) (fleuronlaw01_OctetTexts.l2 (k + 1) y0 y1 y2 y3 y4 y5 y6))
  | 0 => ⟨fun _ _ _ _ _ r h => by simp [fleuronlaw01_OctetTexts.l0] at h, fun _ _ _ _ _ _ _ r h => by simp [fleuronlaw01_OctetTexts.j1] at h, fun _ _ _ _ _ _ _ r h => by simp [fleuronlaw01_OctetTexts.l1] at h, fun _ _ _ _ _ _ _ r h => by simp [fleuronlaw01_OctetTexts.j3] at h, fun _ _ _ _ _ _ _ r h => by simp [fleuronlaw01_OctetTexts.l2] at h⟩
  | k + 1 => by
    obtain ⟨ih0, ih1, ih2, ih3, ih4⟩ := fleuronlaw01_OctetTexts.mono_l k
    refine ⟨?_, ?_, ?_, ?_, ?_⟩
    · intro y0 y1 y2 y3 y4
      unfold fleuronlaw01_OctetTexts.l0
      repeat' first
      | (with_reducible exact ih0 _ _ _ _ _)
      | (with_reducible exact ih1 _ _ _ _ _ _ _)
      | (with_reducible exact ih2 _ _ _ _ _ _ _)
      | (with_reducible exact ih3 _ _ _ _ _ _ _)
      | (with_reducible exact ih4 _ _ _ _ _ _ _)
      | (with_reducible exact fleuronlaw01_shown.mono _)
      | (with_reducible exact octet_Text.mono _ _)
      | (with_reducible exact LeO.refl _)
      | (with_reducible exact LeO.none _)
      | (with_reducible refine LeO.ite ?_ ?_)
      | (with_reducible refine LeO.bind ?_ (fun _ => ?_))
      | exact ih0 _ _ _ _ _
      | exact ih1 _ _ _ _ _ _ _
      | exact ih2 _ _ _ _ _ _ _
      | exact ih3 _ _ _ _ _ _ _
      | exact ih4 _ _ _ _ _ _ _
      | exact fleuronlaw01_shown.mono _
      | exact octet_Text.mono _ _
      | exact LeO.none _
      | refine LeO.ite ?_ ?_
      | refine LeO.bind ?_ (fun _ => ?_)
    · intro y0 y1 y2 y3 y4 y5 y6
      unfold fleuronlaw01_OctetTexts.j1
      repeat' first
      | (with_reducible exact ih0 _ _ _ _ _)
      | (with_reducible exact ih1 _ _ _ _ _ _ _)
      | (with_reducible exact ih2 _ _ _ _ _ _ _)
      | (with_reducible exact ih3 _ _ _ _ _ _ _)
      | (with_reducible exact ih4 _ _ _ _ _ _ _)
      | (with_reducible exact fleuronlaw01_shown.mono _)
      | (with_reducible exact octet_Text.mono _ _)
      | (with_reducible exact LeO.refl _)
      | (with_reducible exact LeO.none _)
      | (with_reducible refine LeO.ite ?_ ?_)
      | (with_reducible refine LeO.bind ?_ (fun _ => ?_))
      | exact ih0 _ _ _ _ _
      | exact ih1 _ _ _ _ _ _ _
      | exact ih2 _ _ _ _ _ _ _
      | exact ih3 _ _ _ _ _ _ _
      | exact ih4 _ _ _ _ _ _ _
      | exact fleuronlaw01_shown.mono _
      | exact octet_Text.mono _ _
      | exact LeO.none _
      | refine LeO.ite ?_ ?_
      | refine LeO.bind ?_ (fun _ => ?_)
    · intro y0 y1 y2 y3 y4 y5 y6
      unfold fleuronlaw01_OctetTexts.l1
      repeat' first
      | (with_reducible exact ih0 _ _ _ _ _)
      | (with_reducible exact ih1 _ _ _ _ _ _ _)
      | (with_reducible exact ih2 _ _ _ _ _ _ _)
      | (with_reducible exact ih3 _ _ _ _ _ _ _)
      | (with_reducible exact ih4 _ _ _ _ _ _ _)
      | (with_reducible exact fleuronlaw01_shown.mono _)
      | (with_reducible exact octet_Text.mono _ _)
      | (with_reducible exact LeO.refl _)
      | (with_reducible exact LeO.none _)
      | (with_reducible refine LeO.ite ?_ ?_)
      | (with_reducible refine LeO.bind ?_ (fun _ => ?_))
      | exact ih0 _ _ _ _ _
      | exact ih1 _ _ _ _ _ _ _
      | exact ih2 _ _ _ _ _ _ _
      | exact ih3 _ _ _ _ _ _ _
      | exact ih4 _ _ _ _ _ _ _
      | exact fleuronlaw01_shown.mono _
      | exact octet_Text.mono _ _
      | exact LeO.none _
      | refine LeO.ite ?_ ?_
      | refine LeO.bind ?_ (fun _ => ?_)
    · intro y0 y1 y2 y3 y4 y5 y6
      unfold fleuronlaw01_OctetTexts.j3
      repeat' first
      | (with_reducible exact ih0 _ _ _ _ _)
      | (with_reducible exact ih1 _ _ _ _ _ _ _)
      | (with_reducible exact ih2 _ _ _ _ _ _ _)
      | (with_reducible exact ih3 _ _ _ _ _ _ _)
      | (with_reducible exact ih4 _ _ _ _ _ _ _)
      | (with_reducible exact fleuronlaw01_shown.mono _)
      | (with_reducible exact octet_Text.mono _ _)
      | (with_reducible exact LeO.refl _)
      | (with_reducible exact LeO.none _)
      | (with_reducible refine LeO.ite ?_ ?_)
      | (with_reducible refine LeO.bind ?_ (fun _ => ?_))
      | exact ih0 _ _ _ _ _
      | exact ih1 _ _ _ _ _ _ _
      | exact ih2 _ _ _ _ _ _ _
      | exact ih3 _ _ _ _ _ _ _
      | exact ih4 _ _ _ _ _ _ _
      | exact fleuronlaw01_shown.mono _
      | exact octet_Text.mono _ _
      | exact LeO.none _
      | refine LeO.ite ?_ ?_
      | refine LeO.bind ?_ (fun _ => ?_)
    · intro y0 y1 y2 y3 y4 y5 y6
      unfold fleuronlaw01_OctetTexts.l2
      repeat' first
      | (with_reducible exact ih0 _ _ _ _ _)
      | (with_reducible exact ih1 _ _ _ _ _ _ _)
      | (with_reducible exact ih2 _ _ _ _ _ _ _)
      | (with_reducible exact ih3 _ _ _ _ _ _ _)
      | (with_reducible exact ih4 _ _ _ _ _ _ _)
      | (with_reducible exact fleuronlaw01_shown.mono _)
      | (with_reducible exact octet_Text.mono _ _)
      | (with_reducible exact LeO.refl _)
      | (with_reducible exact LeO.none _)
      | (with_reducible refine LeO.ite ?_ ?_)
      | (with_reducible refine LeO.bind ?_ (fun _ => ?_))
      | exact ih0 _ _ _ _ _
      | exact ih1 _ _ _ _ _ _ _
      | exact ih2 _ _ _ _ _ _ _
      | exact ih3 _ _ _ _ _ _ _
      | exact ih4 _ _ _ _ _ _ _
      | exact fleuronlaw01_shown.mono _
      | exact octet_Text.mono _ _
      | exact LeO.none _
      | refine LeO.ite ?_ ?_
      | refine LeO.bind ?_ (fun _ => ?_)
theorem fleuronlaw01_OctetTexts.mono : ∀ a0 k, LeO (fleuronlaw01_OctetTexts.f k a0) (fleuronlaw01_OctetTexts.f (k + 1) a0) := by
  intro a0 k
  obtain ⟨ih0, ih1, ih2, ih3, ih4⟩ := fleuronlaw01_OctetTexts.mono_l k
  unfold fleuronlaw01_OctetTexts.f
  repeat' first
      | (with_reducible exact ih0 _ _ _ _ _)
      | (with_reducible exact ih1 _ _ _ _ _ _ _)
      | (with_reducible exact ih2 _ _ _ _ _ _ _)
      | (with_reducible exact ih3 _ _ _ _ _ _ _)
      | (with_reducible exact ih4 _ _ _ _ _ _ _)
      | (with_reducible exact fleuronlaw01_shown.mono _)
      | (with_reducible exact octet_Text.mono _ _)
      | (with_reducible exact LeO.refl _)
      | (with_reducible exact LeO.none _)
      | (with_reducible refine LeO.ite ?_ ?_)
      | (with_reducible refine LeO.bind ?_ (fun _ => ?_))
      | exact ih0 _ _ _ _ _
      | exact ih1 _ _ _ _ _ _ _
      | exact ih2 _ _ _ _ _ _ _
      | exact ih3 _ _ _ _ _ _ _
      | exact ih4 _ _ _ _ _ _ _
      | exact fleuronlaw01_shown.mono _
      | exact octet_Text.mono _ _
      | exact LeO.none _
      | refine LeO.ite ?_ ?_
      | refine LeO.bind ?_ (fun _ => ?_)
def fleuronlaw01_OctetTexts.T14 : Bool × List (List Nat × List Nat) := (true, [([], []), ([0], [0]), ([], []), ([], []), ([2, 3], [2, 3]), ([4], [4]), ([5, 1], [5]), ([1, 6], [1, 6]), ([7, 6], [7]), ([8], [8]), ([9, 8, 8], [8, 9]), ([8, 10], [8, 10])])
def fleuronlaw01_OctetTexts.B14 : List Nat := [0, 1, 0, 0, 12, 28, 63, 127, 255, 511, 1023, 2047]
theorem fleuronlaw01_OctetTexts.tab14 : rtab .any (opsOf Try.f9 14) = fleuronlaw01_OctetTexts.T14 := by kernel_rfl
theorem fleuronlaw01_OctetTexts.bits14 : waitsOk fleuronlaw01_OctetTexts.T14.2 fleuronlaw01_OctetTexts.B14 = true := by kernel_rfl
set_option maxHeartbeats 8000000 in
set_option maxRecDepth 100000 in
theorem fleuronlaw01_OctetTexts.calls (k : Nat) (A0 : Option Addr) (c0 : Nat) (l0 : List ByteArray) (r : Bool) (w : World) (hr0 : Kd.C Kd.string w A0 l0.length l0) (hc0 : l0.length ≤ c0) (h : fleuronlaw01_OctetTexts.f k l0 = some r) :
    Calls Try.prog 9 #[.slice A0 l0.length c0] w fun e w' => e = .returned (.bool r) ∧ Below w.heap.size w w' := by
  have HR0 := Aside0.mk hr0
  have HC0 := Aside0.mk hc0
  clear hr0 hc0
  have HB := Aside0.mk (Below.refl w.heap.size w)
  have H : ((fleuronlaw01_shown.f k).bind fun t387 => (fleuronlaw01_OctetTexts.l0 k l0 t387 (⟨#[]⟩ : ByteArray) (mn (l0.length : Int) 10) 0)) = some r := h
  clear h
  replace H := Option.bind_eq_some_iff.mp H
  obtain ⟨t387, A20, H⟩ := H
  replace H : (fleuronlaw01_OctetTexts.l0 k l0 t387 (⟨#[]⟩ : ByteArray) (mn (l0.length : Int) 10) 0) = some r := H
  have A2 := Aside0.mk A20
  clear A20
  obtain ⟨ji3, hji3⟩ : ∃ j_ : Int, (mn (l0.length : Int) 10) = j_ := ⟨_, rfl⟩
  replace H : (fleuronlaw01_OctetTexts.l0 k l0 t387 (⟨#[]⟩ : ByteArray) ji3 0) = some r := by first | (rw [hji3] at H; exact H) | (simp only [hji3] at H ⊢; exact H)
  (try rw [hji3] at A2)
  (try (have hji3h : ji3 ≤ 10 := by (rw [← hji3]; unfold mn; (repeat' split) <;> omega)))
  (try (have hji3g : ji3 ≤ 64 := by omega))
  (try (have hji3l : 0 ≤ ji3 := by (rw [← hji3]; unfold mn; (repeat' split) <;> omega)))
  (try (have hji3m : 0 ≤ ji3 := by omega))
  have hji3_ : (if 10 < (l0.length : Int) then 10 else (l0.length : Int)) = ji3 := hji3
  have H' := Aside0.mk H
  clear H
  go_enter Try.func9, Try.ntmps9
  go_wp2_with (first | ((with_reducible refine gate_callee (f := 12) rfl ?_); refine goesL_ (some 13) rfl rfl Try.func12 (by kernel_rfl) rfl #[] rfl (by (try simp only [List.map_toArray, List.map_cons, List.map_nil]); first | done | rfl | (simp only [List.length_drop, List.length_take]; rfl) | (simp only [ByteArray.size_extract, Nat.sub_zero]; rfl)) ?_; (with_reducible refine (fleuronlaw01_shown.calls k  t387 _ A2.out).mono ?_); rintro e w4 ⟨rfl, hb⟩; refine ⟨_, rfl, ?_⟩; have n0_ := Aside0.mk (below_step (by repeat (first | (with_reducible first | exact HB.out | apply below_alloc | apply pw_below_drewN | apply below_drew1) | exact HB.out)) hb); clear HB; have HB := n0_; clear n0_; (try clear hb); (try clear hb2); (try clear hk); (try clear hi)))
  go_loopg [4, 6] k (fun kq v4 v6 w' => ∃ (x4_1 : ByteArray) (x6_1 : Int), v4 = .string x4_1 ∧ v6 = .int .i64 x6_1 ∧ Aside0 (fleuronlaw01_OctetTexts.l0 kq l0 t387 x4_1 ji3 x6_1 = some r) ∧ Aside0 (kq ≤ k) ∧ Aside0 (Below w.heap.size w w'))
  case atStart => exact ⟨((⟨#[]⟩ : ByteArray)), (0), (by first | rfl | (simp; done) | (simp [*]; done)), (by first | rfl | (simp; done) | (simp [*]; done)), H', ⟨Nat.le_refl _⟩, ⟨by repeat (first | (with_reducible first | exact HB.out | apply below_alloc | apply pw_below_drewN | apply below_drew1) | exact HB.out)⟩⟩
  case round =>
    clear H'
    try clear c1
    try clear p2
    obtain ⟨x4_1, x6_1, rfl, rfl, HA, HK1, HB⟩ := hrel
    cases gk with
    | zero => exact absurd HA.out (by simp [fleuronlaw01_OctetTexts.l0])
    | succ k1 =>
      have H := HA.out
      clear HA
      simp only [fleuronlaw01_OctetTexts.l0] at H
      by_cases c5 : x6_1 < ji3
      · rw [if_pos c5] at H
        have c5b0 : decide (x6_1 < ji3) = true := decide_eq_true c5
        clear c5
        by_cases c6 : 0 ≤ x6_1
        · rw [if_pos c6] at H
          have c6b0 : decide (0 ≤ x6_1) = true := decide_eq_true c6
          clear c6
          by_cases c7 : x6_1 < (l0.length : Int)
          · rw [if_pos c7] at H
            have c7b0 : decide (x6_1 < (l0.length : Int)) = true := decide_eq_true c7
            clear c7
            replace H := Option.bind_eq_some_iff.mp H
            obtain ⟨t389, A80, H⟩ := H
            replace H : ((octet_Text.f k1 t389).bind fun t390 => (if x4_1.size + t390.size ≤ 9223372036854775807 then (fleuronlaw01_OctetTexts.l0 k1 l0 t387 (x4_1 ++ t390) ji3 (wrap64 (x6_1 + 1))) else (none))) = some r := H
            have A8 := Aside0.mk A80
            clear A80
            replace H := Option.bind_eq_some_iff.mp H
            obtain ⟨t390, A90, H⟩ := H
            replace H : (if x4_1.size + t390.size ≤ 9223372036854775807 then (fleuronlaw01_OctetTexts.l0 k1 l0 t387 (x4_1 ++ t390) ji3 (wrap64 (x6_1 + 1))) else (none)) = some r := H
            have A9 := Aside0.mk A90
            clear A90
            by_cases c10 : x4_1.size + t390.size ≤ 9223372036854775807
            · rw [if_pos c10] at H
              have c10b0 := eq_true c10
              have c10b1 : decide (x4_1.size + t390.size ≤ 9223372036854775807) = true := decide_eq_true c10
              try have c10b2 : (9223372036854775807 < x4_1.size + t390.size) = False := eq_false (Nat.not_lt.2 c10)
              have H' := Aside0.mk H
              clear H
              have p388 : 0 ≤ (x6_1 : Int) := of_decide_eq_true (by first | (with_reducible assumption) | assumption)
              have q388 : x6_1 < (l0.length : Int) := of_decide_eq_true (by first | (with_reducible assumption) | assumption)
              obtain ⟨ad388, e388, hx388_0⟩ := Kd.at_string HR0.out x6_1 p388 q388
              cases e388
              replace hx388_0 := (HB.out.cell (World.block_lt_of_cell? w _ hx388_0)).trans hx388_0
              replace p388 := eq_true p388
              replace q388 := eq_true q388
              go_wp2_with (first | ((with_reducible refine gate_callee (f := 18) rfl ?_); refine goesL_ (some 27) rfl rfl Try.func18 (by kernel_rfl) rfl #[.string (rdOf ByteArray.empty l0 x6_1)] rfl (by (try simp only [List.map_toArray, List.map_cons, List.map_nil]); first | done | rfl | (simp only [List.length_drop, List.length_take]; rfl) | (simp only [ByteArray.size_extract, Nat.sub_zero]; rfl)) ?_; (with_reducible refine (fleuronlaw01_few.calls (rdOf ByteArray.empty l0 x6_1) t389 _ A8.out).mono ?_); rintro e w11 ⟨rfl, hb⟩; refine ⟨_, rfl, ?_⟩; have n0_ := Aside0.mk (below_step (by repeat (first | (with_reducible first | exact HB.out | apply below_alloc | apply pw_below_drewN | apply below_drew1) | exact HB.out)) hb); clear HB; have HB := n0_; clear n0_; (try clear hb); (try clear hb2); (try clear hk); (try clear hi)) | ((with_reducible refine gate_callee (f := 21) rfl ?_); refine goesL_ (some 28) rfl rfl Try.func21 (by kernel_rfl) rfl #[.string t389] rfl (by (try simp only [List.map_toArray, List.map_cons, List.map_nil]); first | done | rfl | (simp only [List.length_drop, List.length_take]; rfl) | (simp only [ByteArray.size_extract, Nat.sub_zero]; rfl)) ?_; (with_reducible refine (octet_Text.calls k1 t389 t390 _ A9.out).mono ?_); rintro e w12 ⟨rfl, hb⟩; refine ⟨_, rfl, ?_⟩; have n0_ := Aside0.mk (below_step (by repeat (first | (with_reducible first | exact HB.out | apply below_alloc | apply pw_below_drewN | apply below_drew1) | exact HB.out)) hb); clear HB; have HB := n0_; clear n0_; (try clear hb); (try clear hb2); (try clear hk); (try clear hi)))
              go_roundg k1
              case measure => have := HK1.out; omega
              case rel => exact ⟨(x4_1 ++ t390), (wrap64 (x6_1 + 1)), (by first | rfl | (simp; done) | (simp [*]; done)), (by first | rfl | (simp; done) | (simp [*]; done)), H', ⟨by have := HK1.out; omega⟩, ⟨by repeat (first | (with_reducible first | exact HB.out | apply below_alloc | apply pw_below_drewN | apply below_drew1) | exact HB.out)⟩⟩
            · rw [if_neg c10] at H
              exact absurd H (by simp)
          · rw [if_neg c7] at H
            exact absurd H (by simp)
        · rw [if_neg c6] at H
          exact absurd H (by simp)
      · rw [if_neg c5] at H
        have c5b0 : decide (x6_1 < ji3) = false := decide_eq_false c5
        clear c5
        replace H := Option.bind_eq_some_iff.mp H
        obtain ⟨⟨t391, t392, t393⟩, A130, H⟩ := H
        replace H : (if t387 = true then (fleuronlaw01_OctetTexts.j1 k1 l0 x4_1 ji3 false t391 t392 t393) else (fleuronlaw01_OctetTexts.j1 k1 l0 x4_1 ji3 true t391 t392 t393)) = some r := H
        have A13 := Aside0.mk A130
        clear A130
        have HC14 := Aside0.mk H
        clear H
        go_upto_region 9 with (first | ((with_reducible refine gate_callee (f := 13) rfl ?_); refine goesL_ (some 31) rfl rfl Try.func13 (by kernel_rfl) rfl #[.string x4_1] rfl (by (try simp only [List.map_toArray, List.map_cons, List.map_nil]); first | done | rfl | (simp only [List.length_drop, List.length_take]; rfl) | (simp only [ByteArray.size_extract, Nat.sub_zero]; rfl)) ?_; (with_reducible refine (octet_Read.calls x4_1 t391 t392 t393 w _ ?side1 A13.out).mono ?_); (case side1 => repeat (first | (with_reducible first | exact HB.out | apply below_alloc | apply pw_below_drewN | apply below_drew1) | exact HB.out)); rintro e w15 ⟨g394, rfl, hi, hb, hb2⟩; refine ⟨_, rfl, ?_⟩; have n0_ := Aside0.mk (hb); have n1_ := Aside0.mk (hi); clear HB; have HB := n0_; have HI394 := n1_; clear n0_ n1_; (try clear hb); (try clear hb2); (try clear hk); (try clear hi)))
        (try simp only [Act.put, List.setIfInBounds_toArray, List.set_cons_zero, List.set_cons_succ])
        go_cut [37] (fun v37 wc => ∃ (kq : Nat) (x37_13 : Bool), v37 = .bool x37_13 ∧ Aside0 (fleuronlaw01_OctetTexts.j1 kq l0 x4_1 ji3 x37_13 t391 t392 t393 = some r) ∧ Aside0 (kq ≤ k1) ∧ Aside0 (IsS52 w wc g394 t391 t392 t393) ∧ Aside0 (Below w.heap.size w wc))
        case first =>
          have H := HC14.out
          clear HC14
          by_cases c16 : t387 = true
          · subst c16
            have H1 : (fleuronlaw01_OctetTexts.j1 k1 l0 x4_1 ji3 false t391 t392 t393) = some r := by rw [if_pos rfl] at H; exact H
            clear H
            have H := H1
            clear H1
            have H' := Aside0.mk H
            clear H
            go_wp2
            go_meet
            case rel => exact ⟨_, (false), (by first | rfl | (simp; done) | (simp [*]; done)), H', ⟨by have := HK1.out; first | omega | exact Nat.le_refl _⟩, ⟨by repeat (first | (with_reducible first | exact HI394.out | apply IsS52.alloc | apply IsS52.drewN | apply IsS52.drew | apply IsS52.set_0 | apply IsS52.set_1 | apply IsS52.set_2) | exact HI394.out)⟩, ⟨by repeat (first | (with_reducible first | exact HB.out | apply below_alloc | apply pw_below_drewN | apply below_drew1 | refine below_set ?_ (IsS52.ge HI394.out)) | exact HB.out)⟩⟩
          · replace c16 := Bool.eq_false_iff.mpr c16
            subst c16
            have H1 : (fleuronlaw01_OctetTexts.j1 k1 l0 x4_1 ji3 true t391 t392 t393) = some r := by rw [if_neg (show ¬ (false = true) by decide)] at H; exact H
            clear H
            have H := H1
            clear H1
            have H' := Aside0.mk H
            clear H
            go_wp2
            go_meet
            case rel => exact ⟨_, (true), (by first | rfl | (simp; done) | (simp [*]; done)), H', ⟨by have := HK1.out; first | omega | exact Nat.le_refl _⟩, ⟨by repeat (first | (with_reducible first | exact HI394.out | apply IsS52.alloc | apply IsS52.drewN | apply IsS52.drew | apply IsS52.set_0 | apply IsS52.set_1 | apply IsS52.set_2) | exact HI394.out)⟩, ⟨by repeat (first | (with_reducible first | exact HB.out | apply below_alloc | apply pw_below_drewN | apply below_drew1 | refine below_set ?_ (IsS52.ge HI394.out)) | exact HB.out)⟩⟩
        case rest =>
          clear HC14
          try clear c1
          try clear c2
          try clear p2
          try clear p3
          try clear q3
          try clear hx3
          try clear c5
          try clear c5b0
          try clear c6
          try clear c6b0
          try clear p6
          try clear c7
          try clear c7b0
          try clear c9
          try clear c10
          try clear c10b0
          try clear c10b1
          try clear c10b2
          try clear c12
          try clear c13
          try clear c16
          try clear hx388_0
          try clear p2
          try clear p388
          try clear q388
          obtain ⟨kq, x37_13, rfl, HA, HJ13, HI394, HB⟩ := hcut
          cases kq with
          | zero => exact absurd HA.out (by simp [fleuronlaw01_OctetTexts.j1])
          | succ kj13 =>
            have H := HA.out
            clear HA
            simp only [fleuronlaw01_OctetTexts.j1] at H
            by_cases c17 : x37_13 = true
            · subst c17
              have H1 : (some false) = some r := by rw [if_pos rfl] at H; exact H
              clear H
              have H := H1
              clear H1
              obtain rfl := Option.some.inj H
              go_wp2
              go_ret
              exact ⟨by first | rfl | (simp [errW_none, errW_some] <;> rfl) | (simp only [← hji3]; first | rfl | (simp [errW_none, errW_some] <;> rfl)) | (simp [*, errW_none, errW_some] <;> rfl), by repeat (first | (with_reducible first | exact HB.out | apply below_alloc | apply pw_below_drewN | apply below_drew1 | refine below_set ?_ (IsS52.ge HI394.out)) | exact HB.out)⟩
            · replace c17 := Bool.eq_false_iff.mpr c17
              subst c17
              have H1 : (fleuronlaw01_OctetTexts.l1 kj13 l0 x4_1 ji3 0 t391 t392 t393) = some r := by rw [if_neg (show ¬ (false = true) by decide)] at H; exact H
              clear H
              have H := H1
              clear H1
              have H' := Aside0.mk H
              clear H
              go_wp2
              go_loopg [8] kj13 (fun kq v8 w' => ∃ (x8_3 : Int) (x395000_3 : ByteArray) (x395001_3 : Int) (x395002_3 : Bool), v8 = .int .i64 x8_3 ∧ Aside0 (fleuronlaw01_OctetTexts.l1 kq l0 x4_1 ji3 x8_3 x395000_3 x395001_3 x395002_3 = some r) ∧ Aside0 (kq ≤ kj13) ∧ Aside0 (IsS52 w w' g394 x395000_3 x395001_3 x395002_3) ∧ Aside0 (Below w.heap.size w w'))
              case atStart => exact ⟨(0), (t391), (t392), (t393), (by first | rfl | (simp; done) | (simp [*]; done)), H', ⟨Nat.le_refl _⟩, ⟨by repeat (first | (with_reducible first | exact HI394.out | apply IsS52.alloc | apply IsS52.drewN | apply IsS52.drew | apply IsS52.set_0 | apply IsS52.set_1 | apply IsS52.set_2) | exact HI394.out)⟩, ⟨by repeat (first | (with_reducible first | exact HB.out | apply below_alloc | apply pw_below_drewN | apply below_drew1 | refine below_set ?_ (IsS52.ge HI394.out)) | exact HB.out)⟩⟩
              case round =>
                clear H'
                try clear c1
                try clear c2
                try clear p2
                try clear p3
                try clear q3
                try clear hx3
                try clear c5
                try clear c5b0
                try clear c6
                try clear c6b0
                try clear p6
                try clear c7
                try clear c7b0
                try clear c9
                try clear c10
                try clear c10b0
                try clear c10b1
                try clear c10b2
                try clear c12
                try clear c13
                try clear c16
                try clear c17
                try clear hx388_0
                try clear p2
                try clear p3
                try clear p388
                try clear p6
                try clear q3
                try clear q388
                obtain ⟨x8_3, x395000_3, x395001_3, x395002_3, rfl, HA, HK3, HI394, HB⟩ := hrel
                cases gk with
                | zero => exact absurd HA.out (by simp [fleuronlaw01_OctetTexts.l1])
                | succ k3 =>
                  have H := HA.out
                  clear HA
                  simp only [fleuronlaw01_OctetTexts.l1] at H
                  by_cases c18 : x8_3 < ji3
                  · rw [if_pos c18] at H
                    have c18b0 : decide (x8_3 < ji3) = true := decide_eq_true c18
                    clear c18
                    replace H := Option.bind_eq_some_iff.mp H
                    obtain ⟨⟨t395, t396, t397, t398⟩, A190, H⟩ := H
                    replace H : (if 0 ≤ x8_3 then (if x8_3 < (l0.length : Int) then ((fleuronlaw01_few.f (rdOf ByteArray.empty l0 x8_3)).bind fun t400 => (if t395.toList = t400.toList then ((octet_Reader_Failed.f t396 t397 t398).bind fun bt401 => (if bt401.1 = true then (some false) else (fleuronlaw01_OctetTexts.l1 k3 l0 x4_1 ji3 (wrap64 (x8_3 + 1)) bt401.2.1 bt401.2.2.1 bt401.2.2.2))) else (some false))) else (none)) else (none)) = some r := H
                    have A19 := Aside0.mk A190
                    clear A190
                    by_cases c20 : 0 ≤ x8_3
                    · rw [if_pos c20] at H
                      have c20b0 : decide (0 ≤ x8_3) = true := decide_eq_true c20
                      clear c20
                      by_cases c21 : x8_3 < (l0.length : Int)
                      · rw [if_pos c21] at H
                        have c21b0 : decide (x8_3 < (l0.length : Int)) = true := decide_eq_true c21
                        clear c21
                        replace H := Option.bind_eq_some_iff.mp H
                        obtain ⟨t400, A220, H⟩ := H
                        replace H : (if t395.toList = t400.toList then ((octet_Reader_Failed.f t396 t397 t398).bind fun bt401 => (if bt401.1 = true then (some false) else (fleuronlaw01_OctetTexts.l1 k3 l0 x4_1 ji3 (wrap64 (x8_3 + 1)) bt401.2.1 bt401.2.2.1 bt401.2.2.2))) else (some false)) = some r := H
                        have A22 := Aside0.mk A220
                        clear A220
                        by_cases c23 : t395.toList = t400.toList
                        · rw [if_pos c23] at H
                          have c23b0 : (t395.toList == t400.toList) = true := beq_iff_eq.mpr c23
                          have c23b1 : (t395.toList != t400.toList) = false := bne_eq_false_iff_eq.mpr c23
                          clear c23
                          replace H := Option.bind_eq_some_iff.mp H
                          obtain ⟨⟨t401, t402, t403, t404⟩, A240, H⟩ := H
                          obtain ⟨rfl, rfl, rfl⟩ := octet_Reader_Failed.still A240
                          replace H : (if t401 = true then (some false) else (fleuronlaw01_OctetTexts.l1 k3 l0 x4_1 ji3 (wrap64 (x8_3 + 1)) t396 t397 t398)) = some r := H
                          have A24 := Aside0.mk A240
                          clear A240
                          by_cases c25 : t401 = true
                          · subst c25
                            have H1 : (some false) = some r := by rw [if_pos rfl] at H; exact H
                            clear H
                            have H := H1
                            clear H1
                            obtain rfl := Option.some.inj H
                            try go_wp2
                            have n0_ := Aside0.mk (IsS52.drew HI394.out)
                            have n1_ := Aside0.mk (below_drew1 HB.out)
                            clear HI394
                            clear HB
                            have HI394 := n0_
                            have HB := n1_
                            clear n0_ n1_
                            have p399 : 0 ≤ (x8_3 : Int) := of_decide_eq_true (by first | (with_reducible assumption) | assumption)
                            have q399 : x8_3 < (l0.length : Int) := of_decide_eq_true (by first | (with_reducible assumption) | assumption)
                            obtain ⟨ad399, e399, hx399_0⟩ := Kd.at_string HR0.out x8_3 p399 q399
                            have hw399_0 := hx399_0
                            cases e399
                            replace hx399_0 := (HB.out.cell (World.block_lt_of_cell? w _ hx399_0)).trans hx399_0
                            replace p399 := eq_true p399
                            replace q399 := eq_true q399
                            refine start_ (n := 12) (S := fun w' => w'.cell? (ad399.add (x8_3).toNat) = some (.string (rdOf ByteArray.empty l0 x8_3))) (ds := []) #[false, false, false, false, false, false, false, false, false, false, false, false] (by kernel_rfl) rfl rfl (((HB.out.cell (World.block_lt_of_cell? w _ hw399_0)).trans hw399_0)) (fun hHeld => ?_); refine with_tabW fleuronlaw01_OctetTexts.tab14 fleuronlaw01_OctetTexts.bits14 (fun HT_ HW_ => ?_)
                            generalize wr.drew = w26 at HI394 HB hx399_0 hHeld ⊢
                            refine pure_ (i := 0) (N := some 43) (v := ?_) (a' := ?_) #[true, false, false, false, false, false, false, false, false, false, false, false] rfl rfl (any_of HT_.out (by kernel_rfl)) (fun _ _ _ h => h) (Or.inl ⟨by rfl, ?_⟩) ?_ ?_
                            rotate_left
                            · intro w'
                              go_simp
                              with_reducible rfl
                            rotate_left
                            · simp only [Act.put, List.setIfInBounds_toArray, List.set_cons_zero, List.set_cons_succ, i64_w, i32_w]
                              rfl
                            refine pure_ (i := 2) (N := some 45) (v := ?_) (a' := ?_) #[true, false, true, false, false, false, false, false, false, false, false, false] rfl rfl (any_of HT_.out (by kernel_rfl)) (fun _ _ _ h => h) (Or.inl ⟨by rfl, ?_⟩) ?_ ?_
                            rotate_left
                            · intro w'
                              go_simp
                              with_reducible rfl
                            rotate_left
                            · simp only [Act.put, List.setIfInBounds_toArray, List.set_cons_zero, List.set_cons_succ, i64_w, i32_w]
                              rfl
                            refine pure_ (i := 3) (N := some 46) (v := ?_) (a' := ?_) #[true, false, true, true, false, false, false, false, false, false, false, false] rfl rfl (any_of HT_.out (by kernel_rfl)) (fun _ _ _ h => h) (Or.inl ⟨by rfl, ?_⟩) ?_ ?_
                            rotate_left
                            · intro w'
                              go_simp
                              with_reducible rfl
                            rotate_left
                            · simp only [Act.put, List.setIfInBounds_toArray, List.set_cons_zero, List.set_cons_succ, i64_w, i32_w]
                              rfl
                            refine pure_ (i := 4) (N := some 47) (v := ?_) (a' := ?_) #[true, false, true, true, true, false, false, false, false, false, false, false] rfl rfl (any_of HT_.out (by kernel_rfl)) (fun _ _ _ h => h) (Or.inl ⟨by rfl, ?_⟩) ?_ ?_
                            rotate_left
                            · intro w'
                              go_simp
                              with_reducible rfl
                            rotate_left
                            · simp only [Act.put, List.setIfInBounds_toArray, List.set_cons_zero, List.set_cons_succ, i64_w, i32_w]
                              rfl
                            refine take_ (i := 5) (N := some 48) (v := ?_) (a' := ?_) #[true, false, true, true, true, true, false, false, false, false, false, false] rfl rfl (take_ofW HT_.out HW_.out (by kernel_rfl)) (fun _ _ _ h => h) (Or.inl ⟨by rfl, ?_⟩) hHeld ?_ ?_
                            rotate_left
                            · intro w' s0
                              go_simp
                              with_reducible rfl
                            rotate_left
                            · simp only [Act.put, List.setIfInBounds_toArray, List.set_cons_zero, List.set_cons_succ, i64_w, i32_w]
                              rfl
                            refine one_ (i := 1) (N := some 44) #[true, true, true, true, true, true, false, false, false, false, false, false] rfl rfl (one_of HT_.out (by kernel_rfl)) (by decide) (fun K hK => ?_)
                            refine goes_ Try.func30 (by kernel_rfl) rfl #[.pointer (some ⟨g394, 0, none⟩)] (by rfl) rfl rfl (by (try simp only [List.map_toArray, List.map_cons, List.map_nil]); first | done | rfl | (simp only [List.length_drop, List.length_take]; rfl) | (simp only [ByteArray.size_extract, Nat.sub_zero]; rfl)) ?_
                            with_reducible refine (octet_Reader_Text.calls g394 x395000_3 x395001_3 x395002_3 t395 t396 t397 t398 w _ ?side1 ?side2 A19.out).mono ?_
                            (case side1 => repeat (first | (with_reducible first | exact HI394.out | apply IsS52.alloc | apply IsS52.drewN | apply IsS52.drew | apply IsS52.set_0 | apply IsS52.set_1 | apply IsS52.set_2) | exact HI394.out))
                            (case side2 => repeat (first | (with_reducible first | exact HB.out | apply below_alloc | apply pw_below_drewN | apply below_drew1 | refine below_set ?_ (IsS52.ge HI394.out)) | exact HB.out))
                            rintro e w27 ⟨rfl, hi, hb, hk⟩
                            refine ⟨_, rfl, ?_⟩
                            have n0_ := Aside0.mk (hb)
                            have n1_ := Aside0.mk (hi)
                            clear HB
                            clear HI394
                            have HB := n0_
                            have HI394 := n1_
                            clear n0_ n1_
                            (try clear hb)
                            (try clear hb2)
                            (try clear hk)
                            (try clear hi)
                            refine hK.out _ _ (((HB.out.cell (World.block_lt_of_cell? w _ hw399_0)).trans hw399_0)) (fun hHeld => ?_)
                            clear hK K
                            refine norm_ (a' := ?_) ?_ ?_
                            rotate_left
                            · show Act.put _ (some 44) _ = _
                              simp only [Act.put, List.setIfInBounds_toArray, List.set_cons_zero, List.set_cons_succ, i64_w, i32_w]
                              rfl
                            refine one_ (i := 6) (N := some 49) #[true, true, true, true, true, true, true, false, false, false, false, false] rfl rfl (one_of HT_.out (by kernel_rfl)) (by decide) (fun K hK => ?_)
                            refine goes_ Try.func18 (by kernel_rfl) rfl #[.string (rdOf ByteArray.empty l0 x8_3)] (by rfl) rfl rfl (by (try simp only [List.map_toArray, List.map_cons, List.map_nil]); first | done | rfl | (simp only [List.length_drop, List.length_take]; rfl) | (simp only [ByteArray.size_extract, Nat.sub_zero]; rfl)) ?_
                            with_reducible refine (fleuronlaw01_few.calls (rdOf ByteArray.empty l0 x8_3) t400 _ A22.out).mono ?_
                            rintro e w28 ⟨rfl, hb⟩
                            refine ⟨_, rfl, ?_⟩
                            have n0_ := Aside0.mk (IsS52.below (by repeat (first | (with_reducible first | exact HI394.out | apply IsS52.alloc | apply IsS52.drewN | apply IsS52.drew | apply IsS52.set_0 | apply IsS52.set_1 | apply IsS52.set_2) | exact HI394.out)) hb)
                            have n1_ := Aside0.mk (below_step (by repeat (first | (with_reducible first | exact HB.out | apply below_alloc | apply pw_below_drewN | apply below_drew1 | refine below_set ?_ (IsS52.ge HI394.out)) | exact HB.out)) hb)
                            clear HI394
                            clear HB
                            have HI394 := n0_
                            have HB := n1_
                            clear n0_ n1_
                            (try clear hb)
                            (try clear hb2)
                            (try clear hk)
                            (try clear hi)
                            refine hK.out _ _ (((HB.out.cell (World.block_lt_of_cell? w _ hw399_0)).trans hw399_0)) (fun hHeld => ?_)
                            clear hK K
                            refine norm_ (a' := ?_) ?_ ?_
                            rotate_left
                            · show Act.put _ (some 49) _ = _
                              simp only [Act.put, List.setIfInBounds_toArray, List.set_cons_zero, List.set_cons_succ, i64_w, i32_w]
                              rfl
                            refine pure_ (i := 7) (N := some 50) (v := ?_) (a' := ?_) #[true, true, true, true, true, true, true, true, false, false, false, false] rfl rfl (any_of HT_.out (by kernel_rfl)) (fun _ _ _ h => h) (Or.inl ⟨by rfl, ?_⟩) ?_ ?_
                            rotate_left
                            · intro w'
                              go_simp
                              with_reducible rfl
                            rotate_left
                            · simp only [Act.put, List.setIfInBounds_toArray, List.set_cons_zero, List.set_cons_succ, i64_w, i32_w]
                              rfl
                            refine pure_ (i := 8) (N := some 51) (v := ?_) (a' := ?_) #[true, true, true, true, true, true, true, true, true, false, false, false] rfl rfl (any_of HT_.out (by kernel_rfl)) (fun _ _ _ h => h) (Or.inl ⟨by rfl, ?_⟩) ?_ ?_
                            rotate_left
                            · intro w'
                              go_simp
                              with_reducible rfl
                            rotate_left
                            · simp only [Act.put, List.setIfInBounds_toArray, List.set_cons_zero, List.set_cons_succ, i64_w, i32_w]
                              rfl
                            refine pure_ (i := 9) (N := some 52) (v := ?_) (a' := ?_) #[true, true, true, true, true, true, true, true, true, true, false, false] rfl rfl (any_of HT_.out (by kernel_rfl)) (fun _ _ _ h => h) (Or.inl ⟨by rfl, ?_⟩) ?_ ?_
                            rotate_left
                            · intro w'
                              go_simp
                              with_reducible rfl
                            rotate_left
                            · simp only [Act.put, List.setIfInBounds_toArray, List.set_cons_zero, List.set_cons_succ, i64_w, i32_w]
                              rfl
                            refine one_ (i := 10) (N := some 53) #[true, true, true, true, true, true, true, true, true, true, true, false] rfl rfl (one_of HT_.out (by kernel_rfl)) (by decide) (fun K hK => ?_)
                            refine goes_ Try.func16 (by kernel_rfl) rfl #[.pointer (some ⟨g394, 0, none⟩)] (by rfl) rfl rfl (by (try simp only [List.map_toArray, List.map_cons, List.map_nil]); first | done | rfl | (simp only [List.length_drop, List.length_take]; rfl) | (simp only [ByteArray.size_extract, Nat.sub_zero]; rfl)) ?_
                            with_reducible refine (octet_Reader_Failed.calls g394 t396 t397 t398 true t396 t397 t398 w _ ?side1 ?side2 A24.out).mono ?_
                            (case side1 => repeat (first | (with_reducible first | exact HI394.out | apply IsS52.alloc | apply IsS52.drewN | apply IsS52.drew | apply IsS52.set_0 | apply IsS52.set_1 | apply IsS52.set_2) | exact HI394.out))
                            (case side2 => repeat (first | (with_reducible first | exact HB.out | apply below_alloc | apply pw_below_drewN | apply below_drew1 | refine below_set ?_ (IsS52.ge HI394.out)) | exact HB.out))
                            rintro e w29 ⟨rfl, hi, hb, hk⟩
                            refine ⟨_, rfl, ?_⟩
                            have n0_ := Aside0.mk (hb)
                            have n1_ := Aside0.mk (hi)
                            clear HB
                            clear HI394
                            have HB := n0_
                            have HI394 := n1_
                            clear n0_ n1_
                            (try clear hb)
                            (try clear hb2)
                            (try clear hk)
                            (try clear hi)
                            refine hK.out _ _ (((HB.out.cell (World.block_lt_of_cell? w _ hw399_0)).trans hw399_0)) (fun hHeld => ?_)
                            clear hK K
                            refine norm_ (a' := ?_) ?_ ?_
                            rotate_left
                            · show Act.put _ (some 53) _ = _
                              simp only [Act.put, List.setIfInBounds_toArray, List.set_cons_zero, List.set_cons_succ, i64_w, i32_w]
                              rfl
                            refine pure_ (i := 11) (N := some 54) (v := ?_) (a' := ?_) #[true, true, true, true, true, true, true, true, true, true, true, true] rfl rfl (any_of HT_.out (by kernel_rfl)) (fun _ _ _ h => h) (Or.inl ⟨by rfl, ?_⟩) ?_ ?_
                            rotate_left
                            · intro w'
                              go_simp
                              with_reducible rfl
                            rotate_left
                            · simp only [Act.put, List.setIfInBounds_toArray, List.set_cons_zero, List.set_cons_succ, i64_w, i32_w]
                              rfl
                            refine done_ (done_of HT_.out (by kernel_rfl)) ?_
                            try go_wp2
                            go_ret
                            exact ⟨by first | rfl | (simp [errW_none, errW_some] <;> rfl) | (simp only [← hji3]; first | rfl | (simp [errW_none, errW_some] <;> rfl)) | (simp [*, errW_none, errW_some] <;> rfl), by repeat (first | (with_reducible first | exact HB.out | apply below_alloc | apply pw_below_drewN | apply below_drew1 | refine below_set ?_ (IsS52.ge HI394.out)) | exact HB.out)⟩
                          · replace c25 := Bool.eq_false_iff.mpr c25
                            subst c25
                            have H1 : (fleuronlaw01_OctetTexts.l1 k3 l0 x4_1 ji3 (wrap64 (x8_3 + 1)) t396 t397 t398) = some r := by rw [if_neg (show ¬ (false = true) by decide)] at H; exact H
                            clear H
                            have H := H1
                            clear H1
                            have H' := Aside0.mk H
                            clear H
                            try go_wp2
                            have n0_ := Aside0.mk (IsS52.drew HI394.out)
                            have n1_ := Aside0.mk (below_drew1 HB.out)
                            clear HI394
                            clear HB
                            have HI394 := n0_
                            have HB := n1_
                            clear n0_ n1_
                            have p399 : 0 ≤ (x8_3 : Int) := of_decide_eq_true (by first | (with_reducible assumption) | assumption)
                            have q399 : x8_3 < (l0.length : Int) := of_decide_eq_true (by first | (with_reducible assumption) | assumption)
                            obtain ⟨ad399, e399, hx399_0⟩ := Kd.at_string HR0.out x8_3 p399 q399
                            have hw399_0 := hx399_0
                            cases e399
                            replace hx399_0 := (HB.out.cell (World.block_lt_of_cell? w _ hx399_0)).trans hx399_0
                            replace p399 := eq_true p399
                            replace q399 := eq_true q399
                            refine start_ (n := 12) (S := fun w' => w'.cell? (ad399.add (x8_3).toNat) = some (.string (rdOf ByteArray.empty l0 x8_3))) (ds := []) #[false, false, false, false, false, false, false, false, false, false, false, false] (by kernel_rfl) rfl rfl (((HB.out.cell (World.block_lt_of_cell? w _ hw399_0)).trans hw399_0)) (fun hHeld => ?_); refine with_tabW fleuronlaw01_OctetTexts.tab14 fleuronlaw01_OctetTexts.bits14 (fun HT_ HW_ => ?_)
                            generalize wr.drew = w30 at HI394 HB hx399_0 hHeld ⊢
                            refine pure_ (i := 0) (N := some 43) (v := ?_) (a' := ?_) #[true, false, false, false, false, false, false, false, false, false, false, false] rfl rfl (any_of HT_.out (by kernel_rfl)) (fun _ _ _ h => h) (Or.inl ⟨by rfl, ?_⟩) ?_ ?_
                            rotate_left
                            · intro w'
                              go_simp
                              with_reducible rfl
                            rotate_left
                            · simp only [Act.put, List.setIfInBounds_toArray, List.set_cons_zero, List.set_cons_succ, i64_w, i32_w]
                              rfl
                            refine pure_ (i := 2) (N := some 45) (v := ?_) (a' := ?_) #[true, false, true, false, false, false, false, false, false, false, false, false] rfl rfl (any_of HT_.out (by kernel_rfl)) (fun _ _ _ h => h) (Or.inl ⟨by rfl, ?_⟩) ?_ ?_
                            rotate_left
                            · intro w'
                              go_simp
                              with_reducible rfl
                            rotate_left
                            · simp only [Act.put, List.setIfInBounds_toArray, List.set_cons_zero, List.set_cons_succ, i64_w, i32_w]
                              rfl
                            refine pure_ (i := 3) (N := some 46) (v := ?_) (a' := ?_) #[true, false, true, true, false, false, false, false, false, false, false, false] rfl rfl (any_of HT_.out (by kernel_rfl)) (fun _ _ _ h => h) (Or.inl ⟨by rfl, ?_⟩) ?_ ?_
                            rotate_left
                            · intro w'
                              go_simp
                              with_reducible rfl
                            rotate_left
                            · simp only [Act.put, List.setIfInBounds_toArray, List.set_cons_zero, List.set_cons_succ, i64_w, i32_w]
                              rfl
                            refine pure_ (i := 4) (N := some 47) (v := ?_) (a' := ?_) #[true, false, true, true, true, false, false, false, false, false, false, false] rfl rfl (any_of HT_.out (by kernel_rfl)) (fun _ _ _ h => h) (Or.inl ⟨by rfl, ?_⟩) ?_ ?_
                            rotate_left
                            · intro w'
                              go_simp
                              with_reducible rfl
                            rotate_left
                            · simp only [Act.put, List.setIfInBounds_toArray, List.set_cons_zero, List.set_cons_succ, i64_w, i32_w]
                              rfl
                            refine take_ (i := 5) (N := some 48) (v := ?_) (a' := ?_) #[true, false, true, true, true, true, false, false, false, false, false, false] rfl rfl (take_ofW HT_.out HW_.out (by kernel_rfl)) (fun _ _ _ h => h) (Or.inl ⟨by rfl, ?_⟩) hHeld ?_ ?_
                            rotate_left
                            · intro w' s0
                              go_simp
                              with_reducible rfl
                            rotate_left
                            · simp only [Act.put, List.setIfInBounds_toArray, List.set_cons_zero, List.set_cons_succ, i64_w, i32_w]
                              rfl
                            refine one_ (i := 1) (N := some 44) #[true, true, true, true, true, true, false, false, false, false, false, false] rfl rfl (one_of HT_.out (by kernel_rfl)) (by decide) (fun K hK => ?_)
                            refine goes_ Try.func30 (by kernel_rfl) rfl #[.pointer (some ⟨g394, 0, none⟩)] (by rfl) rfl rfl (by (try simp only [List.map_toArray, List.map_cons, List.map_nil]); first | done | rfl | (simp only [List.length_drop, List.length_take]; rfl) | (simp only [ByteArray.size_extract, Nat.sub_zero]; rfl)) ?_
                            with_reducible refine (octet_Reader_Text.calls g394 x395000_3 x395001_3 x395002_3 t395 t396 t397 t398 w _ ?side1 ?side2 A19.out).mono ?_
                            (case side1 => repeat (first | (with_reducible first | exact HI394.out | apply IsS52.alloc | apply IsS52.drewN | apply IsS52.drew | apply IsS52.set_0 | apply IsS52.set_1 | apply IsS52.set_2) | exact HI394.out))
                            (case side2 => repeat (first | (with_reducible first | exact HB.out | apply below_alloc | apply pw_below_drewN | apply below_drew1 | refine below_set ?_ (IsS52.ge HI394.out)) | exact HB.out))
                            rintro e w31 ⟨rfl, hi, hb, hk⟩
                            refine ⟨_, rfl, ?_⟩
                            have n0_ := Aside0.mk (hb)
                            have n1_ := Aside0.mk (hi)
                            clear HB
                            clear HI394
                            have HB := n0_
                            have HI394 := n1_
                            clear n0_ n1_
                            (try clear hb)
                            (try clear hb2)
                            (try clear hk)
                            (try clear hi)
                            refine hK.out _ _ (((HB.out.cell (World.block_lt_of_cell? w _ hw399_0)).trans hw399_0)) (fun hHeld => ?_)
                            clear hK K
                            refine norm_ (a' := ?_) ?_ ?_
                            rotate_left
                            · show Act.put _ (some 44) _ = _
                              simp only [Act.put, List.setIfInBounds_toArray, List.set_cons_zero, List.set_cons_succ, i64_w, i32_w]
                              rfl
                            refine one_ (i := 6) (N := some 49) #[true, true, true, true, true, true, true, false, false, false, false, false] rfl rfl (one_of HT_.out (by kernel_rfl)) (by decide) (fun K hK => ?_)
                            refine goes_ Try.func18 (by kernel_rfl) rfl #[.string (rdOf ByteArray.empty l0 x8_3)] (by rfl) rfl rfl (by (try simp only [List.map_toArray, List.map_cons, List.map_nil]); first | done | rfl | (simp only [List.length_drop, List.length_take]; rfl) | (simp only [ByteArray.size_extract, Nat.sub_zero]; rfl)) ?_
                            with_reducible refine (fleuronlaw01_few.calls (rdOf ByteArray.empty l0 x8_3) t400 _ A22.out).mono ?_
                            rintro e w32 ⟨rfl, hb⟩
                            refine ⟨_, rfl, ?_⟩
                            have n0_ := Aside0.mk (IsS52.below (by repeat (first | (with_reducible first | exact HI394.out | apply IsS52.alloc | apply IsS52.drewN | apply IsS52.drew | apply IsS52.set_0 | apply IsS52.set_1 | apply IsS52.set_2) | exact HI394.out)) hb)
                            have n1_ := Aside0.mk (below_step (by repeat (first | (with_reducible first | exact HB.out | apply below_alloc | apply pw_below_drewN | apply below_drew1 | refine below_set ?_ (IsS52.ge HI394.out)) | exact HB.out)) hb)
                            clear HI394
                            clear HB
                            have HI394 := n0_
                            have HB := n1_
                            clear n0_ n1_
                            (try clear hb)
                            (try clear hb2)
                            (try clear hk)
                            (try clear hi)
                            refine hK.out _ _ (((HB.out.cell (World.block_lt_of_cell? w _ hw399_0)).trans hw399_0)) (fun hHeld => ?_)
                            clear hK K
                            refine norm_ (a' := ?_) ?_ ?_
                            rotate_left
                            · show Act.put _ (some 49) _ = _
                              simp only [Act.put, List.setIfInBounds_toArray, List.set_cons_zero, List.set_cons_succ, i64_w, i32_w]
                              rfl
                            refine pure_ (i := 7) (N := some 50) (v := ?_) (a' := ?_) #[true, true, true, true, true, true, true, true, false, false, false, false] rfl rfl (any_of HT_.out (by kernel_rfl)) (fun _ _ _ h => h) (Or.inl ⟨by rfl, ?_⟩) ?_ ?_
                            rotate_left
                            · intro w'
                              go_simp
                              with_reducible rfl
                            rotate_left
                            · simp only [Act.put, List.setIfInBounds_toArray, List.set_cons_zero, List.set_cons_succ, i64_w, i32_w]
                              rfl
                            refine pure_ (i := 8) (N := some 51) (v := ?_) (a' := ?_) #[true, true, true, true, true, true, true, true, true, false, false, false] rfl rfl (any_of HT_.out (by kernel_rfl)) (fun _ _ _ h => h) (Or.inl ⟨by rfl, ?_⟩) ?_ ?_
                            rotate_left
                            · intro w'
                              go_simp
                              with_reducible rfl
                            rotate_left
                            · simp only [Act.put, List.setIfInBounds_toArray, List.set_cons_zero, List.set_cons_succ, i64_w, i32_w]
                              rfl
                            refine pure_ (i := 9) (N := some 52) (v := ?_) (a' := ?_) #[true, true, true, true, true, true, true, true, true, true, false, false] rfl rfl (any_of HT_.out (by kernel_rfl)) (fun _ _ _ h => h) (Or.inl ⟨by rfl, ?_⟩) ?_ ?_
                            rotate_left
                            · intro w'
                              go_simp
                              with_reducible rfl
                            rotate_left
                            · simp only [Act.put, List.setIfInBounds_toArray, List.set_cons_zero, List.set_cons_succ, i64_w, i32_w]
                              rfl
                            refine one_ (i := 10) (N := some 53) #[true, true, true, true, true, true, true, true, true, true, true, false] rfl rfl (one_of HT_.out (by kernel_rfl)) (by decide) (fun K hK => ?_)
                            refine goes_ Try.func16 (by kernel_rfl) rfl #[.pointer (some ⟨g394, 0, none⟩)] (by rfl) rfl rfl (by (try simp only [List.map_toArray, List.map_cons, List.map_nil]); first | done | rfl | (simp only [List.length_drop, List.length_take]; rfl) | (simp only [ByteArray.size_extract, Nat.sub_zero]; rfl)) ?_
                            with_reducible refine (octet_Reader_Failed.calls g394 t396 t397 t398 false t396 t397 t398 w _ ?side1 ?side2 A24.out).mono ?_
                            (case side1 => repeat (first | (with_reducible first | exact HI394.out | apply IsS52.alloc | apply IsS52.drewN | apply IsS52.drew | apply IsS52.set_0 | apply IsS52.set_1 | apply IsS52.set_2) | exact HI394.out))
                            (case side2 => repeat (first | (with_reducible first | exact HB.out | apply below_alloc | apply pw_below_drewN | apply below_drew1 | refine below_set ?_ (IsS52.ge HI394.out)) | exact HB.out))
                            rintro e w33 ⟨rfl, hi, hb, hk⟩
                            refine ⟨_, rfl, ?_⟩
                            have n0_ := Aside0.mk (hb)
                            have n1_ := Aside0.mk (hi)
                            clear HB
                            clear HI394
                            have HB := n0_
                            have HI394 := n1_
                            clear n0_ n1_
                            (try clear hb)
                            (try clear hb2)
                            (try clear hk)
                            (try clear hi)
                            refine hK.out _ _ (((HB.out.cell (World.block_lt_of_cell? w _ hw399_0)).trans hw399_0)) (fun hHeld => ?_)
                            clear hK K
                            refine norm_ (a' := ?_) ?_ ?_
                            rotate_left
                            · show Act.put _ (some 53) _ = _
                              simp only [Act.put, List.setIfInBounds_toArray, List.set_cons_zero, List.set_cons_succ, i64_w, i32_w]
                              rfl
                            refine pure_ (i := 11) (N := some 54) (v := ?_) (a' := ?_) #[true, true, true, true, true, true, true, true, true, true, true, true] rfl rfl (any_of HT_.out (by kernel_rfl)) (fun _ _ _ h => h) (Or.inl ⟨by rfl, ?_⟩) ?_ ?_
                            rotate_left
                            · intro w'
                              go_simp
                              with_reducible rfl
                            rotate_left
                            · simp only [Act.put, List.setIfInBounds_toArray, List.set_cons_zero, List.set_cons_succ, i64_w, i32_w]
                              rfl
                            refine done_ (done_of HT_.out (by kernel_rfl)) ?_
                            try go_wp2
                            go_roundg k3
                            case measure => have := HK1.out; have := HJ13.out; have := HK3.out; omega
                            case rel => exact ⟨(wrap64 (x8_3 + 1)), (t396), (t397), (t398), (by first | rfl | (simp; done) | (simp [*]; done)), H', ⟨by have := HK1.out; have := HJ13.out; have := HK3.out; omega⟩, ⟨by repeat (first | (with_reducible first | exact HI394.out | apply IsS52.alloc | apply IsS52.drewN | apply IsS52.drew | apply IsS52.set_0 | apply IsS52.set_1 | apply IsS52.set_2) | exact HI394.out)⟩, ⟨by repeat (first | (with_reducible first | exact HB.out | apply below_alloc | apply pw_below_drewN | apply below_drew1 | refine below_set ?_ (IsS52.ge HI394.out)) | exact HB.out)⟩⟩
                        · rw [if_neg c23] at H
                          have c23b0 : (t395.toList == t400.toList) = false := beq_eq_false_iff_ne.mpr c23
                          have c23b1 : (t395.toList != t400.toList) = true := bne_iff_ne.mpr c23
                          obtain rfl := Option.some.inj H
                          try go_wp2
                          have n0_ := Aside0.mk (IsS52.drew HI394.out)
                          have n1_ := Aside0.mk (below_drew1 HB.out)
                          clear HI394
                          clear HB
                          have HI394 := n0_
                          have HB := n1_
                          clear n0_ n1_
                          have p399 : 0 ≤ (x8_3 : Int) := of_decide_eq_true (by first | (with_reducible assumption) | assumption)
                          have q399 : x8_3 < (l0.length : Int) := of_decide_eq_true (by first | (with_reducible assumption) | assumption)
                          obtain ⟨ad399, e399, hx399_0⟩ := Kd.at_string HR0.out x8_3 p399 q399
                          have hw399_0 := hx399_0
                          cases e399
                          replace hx399_0 := (HB.out.cell (World.block_lt_of_cell? w _ hx399_0)).trans hx399_0
                          replace p399 := eq_true p399
                          replace q399 := eq_true q399
                          refine start_ (n := 12) (S := fun w' => w'.cell? (ad399.add (x8_3).toNat) = some (.string (rdOf ByteArray.empty l0 x8_3))) (ds := []) #[false, false, false, false, false, false, false, false, false, false, false, false] (by kernel_rfl) rfl rfl (((HB.out.cell (World.block_lt_of_cell? w _ hw399_0)).trans hw399_0)) (fun hHeld => ?_); refine with_tabW fleuronlaw01_OctetTexts.tab14 fleuronlaw01_OctetTexts.bits14 (fun HT_ HW_ => ?_)
                          generalize wr.drew = w34 at HI394 HB hx399_0 hHeld ⊢
                          refine pure_ (i := 0) (N := some 43) (v := ?_) (a' := ?_) #[true, false, false, false, false, false, false, false, false, false, false, false] rfl rfl (any_of HT_.out (by kernel_rfl)) (fun _ _ _ h => h) (Or.inl ⟨by rfl, ?_⟩) ?_ ?_
                          rotate_left
                          · intro w'
                            go_simp
                            with_reducible rfl
                          rotate_left
                          · simp only [Act.put, List.setIfInBounds_toArray, List.set_cons_zero, List.set_cons_succ, i64_w, i32_w]
                            rfl
                          refine pure_ (i := 2) (N := some 45) (v := ?_) (a' := ?_) #[true, false, true, false, false, false, false, false, false, false, false, false] rfl rfl (any_of HT_.out (by kernel_rfl)) (fun _ _ _ h => h) (Or.inl ⟨by rfl, ?_⟩) ?_ ?_
                          rotate_left
                          · intro w'
                            go_simp
                            with_reducible rfl
                          rotate_left
                          · simp only [Act.put, List.setIfInBounds_toArray, List.set_cons_zero, List.set_cons_succ, i64_w, i32_w]
                            rfl
                          refine pure_ (i := 3) (N := some 46) (v := ?_) (a' := ?_) #[true, false, true, true, false, false, false, false, false, false, false, false] rfl rfl (any_of HT_.out (by kernel_rfl)) (fun _ _ _ h => h) (Or.inl ⟨by rfl, ?_⟩) ?_ ?_
                          rotate_left
                          · intro w'
                            go_simp
                            with_reducible rfl
                          rotate_left
                          · simp only [Act.put, List.setIfInBounds_toArray, List.set_cons_zero, List.set_cons_succ, i64_w, i32_w]
                            rfl
                          refine pure_ (i := 4) (N := some 47) (v := ?_) (a' := ?_) #[true, false, true, true, true, false, false, false, false, false, false, false] rfl rfl (any_of HT_.out (by kernel_rfl)) (fun _ _ _ h => h) (Or.inl ⟨by rfl, ?_⟩) ?_ ?_
                          rotate_left
                          · intro w'
                            go_simp
                            with_reducible rfl
                          rotate_left
                          · simp only [Act.put, List.setIfInBounds_toArray, List.set_cons_zero, List.set_cons_succ, i64_w, i32_w]
                            rfl
                          refine take_ (i := 5) (N := some 48) (v := ?_) (a' := ?_) #[true, false, true, true, true, true, false, false, false, false, false, false] rfl rfl (take_ofW HT_.out HW_.out (by kernel_rfl)) (fun _ _ _ h => h) (Or.inl ⟨by rfl, ?_⟩) hHeld ?_ ?_
                          rotate_left
                          · intro w' s0
                            go_simp
                            with_reducible rfl
                          rotate_left
                          · simp only [Act.put, List.setIfInBounds_toArray, List.set_cons_zero, List.set_cons_succ, i64_w, i32_w]
                            rfl
                          refine one_ (i := 1) (N := some 44) #[true, true, true, true, true, true, false, false, false, false, false, false] rfl rfl (one_of HT_.out (by kernel_rfl)) (by decide) (fun K hK => ?_)
                          refine goes_ Try.func30 (by kernel_rfl) rfl #[.pointer (some ⟨g394, 0, none⟩)] (by rfl) rfl rfl (by (try simp only [List.map_toArray, List.map_cons, List.map_nil]); first | done | rfl | (simp only [List.length_drop, List.length_take]; rfl) | (simp only [ByteArray.size_extract, Nat.sub_zero]; rfl)) ?_
                          with_reducible refine (octet_Reader_Text.calls g394 x395000_3 x395001_3 x395002_3 t395 t396 t397 t398 w _ ?side1 ?side2 A19.out).mono ?_
                          (case side1 => repeat (first | (with_reducible first | exact HI394.out | apply IsS52.alloc | apply IsS52.drewN | apply IsS52.drew | apply IsS52.set_0 | apply IsS52.set_1 | apply IsS52.set_2) | exact HI394.out))
                          (case side2 => repeat (first | (with_reducible first | exact HB.out | apply below_alloc | apply pw_below_drewN | apply below_drew1 | refine below_set ?_ (IsS52.ge HI394.out)) | exact HB.out))
                          rintro e w35 ⟨rfl, hi, hb, hk⟩
                          refine ⟨_, rfl, ?_⟩
                          have n0_ := Aside0.mk (hb)
                          have n1_ := Aside0.mk (hi)
                          clear HB
                          clear HI394
                          have HB := n0_
                          have HI394 := n1_
                          clear n0_ n1_
                          (try clear hb)
                          (try clear hb2)
                          (try clear hk)
                          (try clear hi)
                          refine hK.out _ _ (((HB.out.cell (World.block_lt_of_cell? w _ hw399_0)).trans hw399_0)) (fun hHeld => ?_)
                          clear hK K
                          refine norm_ (a' := ?_) ?_ ?_
                          rotate_left
                          · show Act.put _ (some 44) _ = _
                            simp only [Act.put, List.setIfInBounds_toArray, List.set_cons_zero, List.set_cons_succ, i64_w, i32_w]
                            rfl
                          refine one_ (i := 6) (N := some 49) #[true, true, true, true, true, true, true, false, false, false, false, false] rfl rfl (one_of HT_.out (by kernel_rfl)) (by decide) (fun K hK => ?_)
                          refine goes_ Try.func18 (by kernel_rfl) rfl #[.string (rdOf ByteArray.empty l0 x8_3)] (by rfl) rfl rfl (by (try simp only [List.map_toArray, List.map_cons, List.map_nil]); first | done | rfl | (simp only [List.length_drop, List.length_take]; rfl) | (simp only [ByteArray.size_extract, Nat.sub_zero]; rfl)) ?_
                          with_reducible refine (fleuronlaw01_few.calls (rdOf ByteArray.empty l0 x8_3) t400 _ A22.out).mono ?_
                          rintro e w36 ⟨rfl, hb⟩
                          refine ⟨_, rfl, ?_⟩
                          have n0_ := Aside0.mk (IsS52.below (by repeat (first | (with_reducible first | exact HI394.out | apply IsS52.alloc | apply IsS52.drewN | apply IsS52.drew | apply IsS52.set_0 | apply IsS52.set_1 | apply IsS52.set_2) | exact HI394.out)) hb)
                          have n1_ := Aside0.mk (below_step (by repeat (first | (with_reducible first | exact HB.out | apply below_alloc | apply pw_below_drewN | apply below_drew1 | refine below_set ?_ (IsS52.ge HI394.out)) | exact HB.out)) hb)
                          clear HI394
                          clear HB
                          have HI394 := n0_
                          have HB := n1_
                          clear n0_ n1_
                          (try clear hb)
                          (try clear hb2)
                          (try clear hk)
                          (try clear hi)
                          refine hK.out _ _ (((HB.out.cell (World.block_lt_of_cell? w _ hw399_0)).trans hw399_0)) (fun hHeld => ?_)
                          clear hK K
                          refine norm_ (a' := ?_) ?_ ?_
                          rotate_left
                          · show Act.put _ (some 49) _ = _
                            simp only [Act.put, List.setIfInBounds_toArray, List.set_cons_zero, List.set_cons_succ, i64_w, i32_w]
                            rfl
                          refine pure_ (i := 7) (N := some 50) (v := ?_) (a' := ?_) #[true, true, true, true, true, true, true, true, false, false, false, false] rfl rfl (any_of HT_.out (by kernel_rfl)) (fun _ _ _ h => h) (Or.inl ⟨by rfl, ?_⟩) ?_ ?_
                          rotate_left
                          · intro w'
                            go_simp
                            with_reducible rfl
                          rotate_left
                          · simp only [Act.put, List.setIfInBounds_toArray, List.set_cons_zero, List.set_cons_succ, i64_w, i32_w]
                            rfl
                          refine pure_ (i := 8) (N := some 51) (v := ?_) (a' := ?_) #[true, true, true, true, true, true, true, true, true, false, false, false] rfl rfl (any_of HT_.out (by kernel_rfl)) (fun _ _ _ h => h) (Or.inl ⟨by rfl, ?_⟩) ?_ ?_
                          rotate_left
                          · intro w'
                            go_simp
                            with_reducible rfl
                          rotate_left
                          · simp only [Act.put, List.setIfInBounds_toArray, List.set_cons_zero, List.set_cons_succ, i64_w, i32_w]
                            rfl
                          refine pure_ (i := 9) (N := some 52) (v := undef) (a' := ?_) #[true, true, true, true, true, true, true, true, true, true, false, false] rfl rfl (any_of HT_.out (by kernel_rfl)) (fun _ _ _ h => h) (Or.inr ⟨by rfl, rfl⟩) ?_ ?_
                          rotate_left
                          · simp only [Act.put, List.setIfInBounds_toArray, List.set_cons_zero, List.set_cons_succ, i64_w, i32_w]
                            rfl
                          refine pure_ (i := 10) (N := some 53) (v := undef) (a' := ?_) #[true, true, true, true, true, true, true, true, true, true, true, false] rfl rfl (any_of HT_.out (by kernel_rfl)) (fun _ _ _ h => h) (Or.inr ⟨by rfl, rfl⟩) ?_ ?_
                          rotate_left
                          · simp only [Act.put, List.setIfInBounds_toArray, List.set_cons_zero, List.set_cons_succ, i64_w, i32_w]
                            rfl
                          refine pure_ (i := 11) (N := some 54) (v := ?_) (a' := ?_) #[true, true, true, true, true, true, true, true, true, true, true, true] rfl rfl (any_of HT_.out (by kernel_rfl)) (fun _ _ _ h => h) (Or.inl ⟨by rfl, ?_⟩) ?_ ?_
                          rotate_left
                          · intro w'
                            go_simp
                            with_reducible rfl
                          rotate_left
                          · simp only [Act.put, List.setIfInBounds_toArray, List.set_cons_zero, List.set_cons_succ, i64_w, i32_w]
                            rfl
                          refine done_ (done_of HT_.out (by kernel_rfl)) ?_
                          try go_wp2
                          go_ret
                          exact ⟨by first | rfl | (simp [errW_none, errW_some] <;> rfl) | (simp only [← hji3]; first | rfl | (simp [errW_none, errW_some] <;> rfl)) | (simp [*, errW_none, errW_some] <;> rfl), by repeat (first | (with_reducible first | exact HB.out | apply below_alloc | apply pw_below_drewN | apply below_drew1 | refine below_set ?_ (IsS52.ge HI394.out)) | exact HB.out)⟩
                      · rw [if_neg c21] at H
                        exact absurd H (by simp)
                    · rw [if_neg c20] at H
                      exact absurd H (by simp)
                  · rw [if_neg c18] at H
                    have c18b0 : decide (x8_3 < ji3) = false := decide_eq_false c18
                    clear c18
                    have HC37 := Aside0.mk H
                    clear H
                    go_upto_region 16 with (fail)
                    go_cut [68] (fun v68 wc => ∃ (kq : Nat) (x68_36 : Bool) (x395000_36 : ByteArray) (x395001_36 : Int) (x395002_36 : Bool), v68 = .bool x68_36 ∧ Aside0 (fleuronlaw01_OctetTexts.j3 kq l0 x4_1 ji3 x68_36 x395000_36 x395001_36 x395002_36 = some r) ∧ Aside0 (kq ≤ k3) ∧ Aside0 (IsS52 w wc g394 x395000_36 x395001_36 x395002_36) ∧ Aside0 (Below w.heap.size w wc))
                    case first =>
                      have H := HC37.out
                      clear HC37
                      replace H := Option.bind_eq_some_iff.mp H
                      obtain ⟨⟨t405, t406, t407, t408⟩, A380, H⟩ := H
                      replace H : (if t405 = 0 then ((octet_Reader_At.f t406 t407 t408).bind fun bt409 => (if bt409.1 = (x4_1.size : Int) then (fleuronlaw01_OctetTexts.j3 k3 l0 x4_1 ji3 (ji3 == 0) bt409.2.1 bt409.2.2.1 bt409.2.2.2) else (fleuronlaw01_OctetTexts.j3 k3 l0 x4_1 ji3 true bt409.2.1 bt409.2.2.1 bt409.2.2.2))) else (fleuronlaw01_OctetTexts.j3 k3 l0 x4_1 ji3 true t406 t407 t408)) = some r := H
                      have A38 := Aside0.mk A380
                      clear A380
                      by_cases c39 : t405 = 0
                      · rw [if_pos c39] at H
                        have c39b0 : (t405 == 0) = true := beq_iff_eq.mpr c39
                        have c39b1 : (t405 != 0) = false := bne_eq_false_iff_eq.mpr c39
                        clear c39
                        (first | rw [c39b0] | (simp only [i64_w, i32_w]; rw [c39b0]) | skip)
                        replace H := Option.bind_eq_some_iff.mp H
                        obtain ⟨⟨t409, t410, t411, t412⟩, A400, H⟩ := H
                        obtain ⟨rfl, rfl, rfl⟩ := octet_Reader_At.still A400
                        replace H : (if t409 = (x4_1.size : Int) then (fleuronlaw01_OctetTexts.j3 k3 l0 x4_1 ji3 (ji3 == 0) t406 t407 t408) else (fleuronlaw01_OctetTexts.j3 k3 l0 x4_1 ji3 true t406 t407 t408)) = some r := H
                        have A40 := Aside0.mk A400
                        clear A400
                        by_cases c41 : t409 = (x4_1.size : Int)
                        · rw [if_pos c41] at H
                          have c41b0 : (t409 == (x4_1.size : Int)) = true := beq_iff_eq.mpr c41
                          have c41b1 : (t409 != (x4_1.size : Int)) = false := bne_eq_false_iff_eq.mpr c41
                          clear c41
                          have H' := Aside0.mk H
                          clear H
                          go_wp2_with (first | ((with_reducible refine gate_callee (f := 26) rfl ?_); refine goesL_ (some 56) rfl rfl Try.func26 (by kernel_rfl) rfl #[.pointer (some ⟨g394, 0, none⟩)] rfl (by (try simp only [List.map_toArray, List.map_cons, List.map_nil]); first | done | rfl | (simp only [List.length_drop, List.length_take]; rfl) | (simp only [ByteArray.size_extract, Nat.sub_zero]; rfl)) ?_; (with_reducible refine (octet_Reader_Left.calls g394 x395000_3 x395001_3 x395002_3 t405 t406 t407 t408 w _ ?side1 ?side2 A38.out).mono ?_); (case side1 => repeat (first | (with_reducible first | exact HI394.out | apply IsS52.alloc | apply IsS52.drewN | apply IsS52.drew | apply IsS52.set_0 | apply IsS52.set_1 | apply IsS52.set_2) | exact HI394.out)); (case side2 => repeat (first | (with_reducible first | exact HB.out | apply below_alloc | apply pw_below_drewN | apply below_drew1 | refine below_set ?_ (IsS52.ge HI394.out)) | exact HB.out)); rintro e w42 ⟨rfl, hi, hb, hk⟩; refine ⟨_, rfl, ?_⟩; have n0_ := Aside0.mk (hb); have n1_ := Aside0.mk (hi); clear HB; clear HI394; have HB := n0_; have HI394 := n1_; clear n0_ n1_; (try clear hb); (try clear hb2); (try clear hk); (try clear hi)) | (go_at_call 25; (with_reducible refine (octet_Reader_At.calls g394 t406 t407 t408 t409 t406 t407 t408 w _ ?side1 ?side2 A40.out).mono ?_); (case side1 => repeat (first | (with_reducible first | exact HI394.out | apply IsS52.alloc | apply IsS52.drewN | apply IsS52.drew | apply IsS52.set_0 | apply IsS52.set_1 | apply IsS52.set_2) | exact HI394.out)); (case side2 => repeat (first | (with_reducible first | exact HB.out | apply below_alloc | apply pw_below_drewN | apply below_drew1 | refine below_set ?_ (IsS52.ge HI394.out)) | exact HB.out)); rintro e w43 ⟨rfl, hi, hb, hk⟩; have n0_ := Aside0.mk (hb); have n1_ := Aside0.mk (hi); clear HB; clear HI394; have HB := n0_; have HI394 := n1_; clear n0_ n1_; (try clear hb); (try clear hb2); (try clear hk); (try clear hi)))
                          go_meet
                          case rel => exact ⟨_, ((ji3 == 0)), (t406), (t407), (t408), (by first | rfl | (simp; done) | (simp only [← hji3] <;> (first | rfl | simp)) | (simp [*]; done)), H', ⟨by have := HK1.out; have := HJ13.out; have := HK3.out; first | omega | exact Nat.le_refl _⟩, ⟨by repeat (first | (with_reducible first | exact HI394.out | apply IsS52.alloc | apply IsS52.drewN | apply IsS52.drew | apply IsS52.set_0 | apply IsS52.set_1 | apply IsS52.set_2) | exact HI394.out)⟩, ⟨by repeat (first | (with_reducible first | exact HB.out | apply below_alloc | apply pw_below_drewN | apply below_drew1 | refine below_set ?_ (IsS52.ge HI394.out)) | exact HB.out)⟩⟩
                        · rw [if_neg c41] at H
                          have c41b0 : (t409 == (x4_1.size : Int)) = false := beq_eq_false_iff_ne.mpr c41
                          have c41b1 : (t409 != (x4_1.size : Int)) = true := bne_iff_ne.mpr c41
                          have H' := Aside0.mk H
                          clear H
                          go_wp2_with (first | ((with_reducible refine gate_callee (f := 26) rfl ?_); refine goesL_ (some 56) rfl rfl Try.func26 (by kernel_rfl) rfl #[.pointer (some ⟨g394, 0, none⟩)] rfl (by (try simp only [List.map_toArray, List.map_cons, List.map_nil]); first | done | rfl | (simp only [List.length_drop, List.length_take]; rfl) | (simp only [ByteArray.size_extract, Nat.sub_zero]; rfl)) ?_; (with_reducible refine (octet_Reader_Left.calls g394 x395000_3 x395001_3 x395002_3 t405 t406 t407 t408 w _ ?side1 ?side2 A38.out).mono ?_); (case side1 => repeat (first | (with_reducible first | exact HI394.out | apply IsS52.alloc | apply IsS52.drewN | apply IsS52.drew | apply IsS52.set_0 | apply IsS52.set_1 | apply IsS52.set_2) | exact HI394.out)); (case side2 => repeat (first | (with_reducible first | exact HB.out | apply below_alloc | apply pw_below_drewN | apply below_drew1 | refine below_set ?_ (IsS52.ge HI394.out)) | exact HB.out)); rintro e w44 ⟨rfl, hi, hb, hk⟩; refine ⟨_, rfl, ?_⟩; have n0_ := Aside0.mk (hb); have n1_ := Aside0.mk (hi); clear HB; clear HI394; have HB := n0_; have HI394 := n1_; clear n0_ n1_; (try clear hb); (try clear hb2); (try clear hk); (try clear hi)) | (go_at_call 25; (with_reducible refine (octet_Reader_At.calls g394 t406 t407 t408 t409 t406 t407 t408 w _ ?side1 ?side2 A40.out).mono ?_); (case side1 => repeat (first | (with_reducible first | exact HI394.out | apply IsS52.alloc | apply IsS52.drewN | apply IsS52.drew | apply IsS52.set_0 | apply IsS52.set_1 | apply IsS52.set_2) | exact HI394.out)); (case side2 => repeat (first | (with_reducible first | exact HB.out | apply below_alloc | apply pw_below_drewN | apply below_drew1 | refine below_set ?_ (IsS52.ge HI394.out)) | exact HB.out)); rintro e w45 ⟨rfl, hi, hb, hk⟩; have n0_ := Aside0.mk (hb); have n1_ := Aside0.mk (hi); clear HB; clear HI394; have HB := n0_; have HI394 := n1_; clear n0_ n1_; (try clear hb); (try clear hb2); (try clear hk); (try clear hi)))
                          go_meet
                          case rel => exact ⟨_, (true), (t406), (t407), (t408), (by first | rfl | (simp; done) | (simp [*]; done)), H', ⟨by have := HK1.out; have := HJ13.out; have := HK3.out; first | omega | exact Nat.le_refl _⟩, ⟨by repeat (first | (with_reducible first | exact HI394.out | apply IsS52.alloc | apply IsS52.drewN | apply IsS52.drew | apply IsS52.set_0 | apply IsS52.set_1 | apply IsS52.set_2) | exact HI394.out)⟩, ⟨by repeat (first | (with_reducible first | exact HB.out | apply below_alloc | apply pw_below_drewN | apply below_drew1 | refine below_set ?_ (IsS52.ge HI394.out)) | exact HB.out)⟩⟩
                      · rw [if_neg c39] at H
                        have c39b0 : (t405 == 0) = false := beq_eq_false_iff_ne.mpr c39
                        have c39b1 : (t405 != 0) = true := bne_iff_ne.mpr c39
                        (first | rw [c39b0] | (simp only [i64_w, i32_w]; rw [c39b0]) | skip)
                        have H' := Aside0.mk H
                        clear H
                        go_wp2_with (first | ((with_reducible refine gate_callee (f := 26) rfl ?_); refine goesL_ (some 56) rfl rfl Try.func26 (by kernel_rfl) rfl #[.pointer (some ⟨g394, 0, none⟩)] rfl (by (try simp only [List.map_toArray, List.map_cons, List.map_nil]); first | done | rfl | (simp only [List.length_drop, List.length_take]; rfl) | (simp only [ByteArray.size_extract, Nat.sub_zero]; rfl)) ?_; (with_reducible refine (octet_Reader_Left.calls g394 x395000_3 x395001_3 x395002_3 t405 t406 t407 t408 w _ ?side1 ?side2 A38.out).mono ?_); (case side1 => repeat (first | (with_reducible first | exact HI394.out | apply IsS52.alloc | apply IsS52.drewN | apply IsS52.drew | apply IsS52.set_0 | apply IsS52.set_1 | apply IsS52.set_2) | exact HI394.out)); (case side2 => repeat (first | (with_reducible first | exact HB.out | apply below_alloc | apply pw_below_drewN | apply below_drew1 | refine below_set ?_ (IsS52.ge HI394.out)) | exact HB.out)); rintro e w46 ⟨rfl, hi, hb, hk⟩; refine ⟨_, rfl, ?_⟩; have n0_ := Aside0.mk (hb); have n1_ := Aside0.mk (hi); clear HB; clear HI394; have HB := n0_; have HI394 := n1_; clear n0_ n1_; (try clear hb); (try clear hb2); (try clear hk); (try clear hi)))
                        go_meet
                        case rel => exact ⟨_, (true), (t406), (t407), (t408), (by first | rfl | (simp; done) | (simp [*]; done)), H', ⟨by have := HK1.out; have := HJ13.out; have := HK3.out; first | omega | exact Nat.le_refl _⟩, ⟨by repeat (first | (with_reducible first | exact HI394.out | apply IsS52.alloc | apply IsS52.drewN | apply IsS52.drew | apply IsS52.set_0 | apply IsS52.set_1 | apply IsS52.set_2) | exact HI394.out)⟩, ⟨by repeat (first | (with_reducible first | exact HB.out | apply below_alloc | apply pw_below_drewN | apply below_drew1 | refine below_set ?_ (IsS52.ge HI394.out)) | exact HB.out)⟩⟩
                    case rest =>
                      clear HC37
                      try clear c1
                      try clear c2
                      try clear p2
                      try clear c3
                      try clear p3
                      try clear q3
                      try clear hx3
                      try clear c4
                      try clear p6
                      try clear c16
                      try clear c18
                      try clear c18b0
                      try clear c20
                      try clear c20b0
                      try clear c21
                      try clear c21b0
                      try clear c23
                      try clear c23b0
                      try clear c23b1
                      try clear c25
                      try clear c26
                      try clear c30
                      try clear p38
                      try clear q38
                      try clear c39
                      try clear c39b0
                      try clear c39b1
                      try clear p39
                      try clear q39
                      try clear hx39
                      try clear c41
                      try clear c41b0
                      try clear c41b1
                      try clear hx399_0
                      try clear p2
                      try clear p3
                      try clear p388
                      try clear p399
                      try clear p6
                      try clear q3
                      try clear q388
                      try clear q399
                      obtain ⟨kq, x68_36, x395000_36, x395001_36, x395002_36, rfl, HA, HJ36, HI394, HB⟩ := hcut
                      cases kq with
                      | zero => exact absurd HA.out (by simp [fleuronlaw01_OctetTexts.j3])
                      | succ kj36 =>
                        have H := HA.out
                        clear HA
                        simp only [fleuronlaw01_OctetTexts.j3] at H
                        by_cases c47 : x68_36 = true
                        · subst c47
                          have H1 : ((octet_Reader_Left.f x395000_36 x395001_36 x395002_36).bind fun bt413 => (if bt413.1 = 0 then ((octet_Reader_At.f bt413.2.1 bt413.2.2.1 bt413.2.2.2).bind fun bt417 => (some (bt417.1 == (x4_1.size : Int)))) else (some false))) = some r := by rw [if_pos rfl] at H; exact H
                          clear H
                          have H := H1
                          clear H1
                          replace H := Option.bind_eq_some_iff.mp H
                          obtain ⟨⟨t413, t414, t415, t416⟩, A480, H⟩ := H
                          obtain ⟨rfl, rfl, rfl⟩ := octet_Reader_Left.still A480
                          replace H : (if t413 = 0 then ((octet_Reader_At.f x395000_36 x395001_36 x395002_36).bind fun bt417 => (some (bt417.1 == (x4_1.size : Int)))) else (some false)) = some r := H
                          have A48 := Aside0.mk A480
                          clear A480
                          by_cases c49 : t413 = 0
                          · rw [if_pos c49] at H
                            have c49b0 : (t413 == 0) = true := beq_iff_eq.mpr c49
                            have c49b1 : (t413 != 0) = false := bne_eq_false_iff_eq.mpr c49
                            clear c49
                            replace H := Option.bind_eq_some_iff.mp H
                            obtain ⟨⟨t417, t418, t419, t420⟩, A500, H⟩ := H
                            obtain ⟨rfl, rfl, rfl⟩ := octet_Reader_At.still A500
                            replace H : (some (t417 == (x4_1.size : Int))) = some r := H
                            have A50 := Aside0.mk A500
                            clear A500
                            obtain rfl := Option.some.inj H
                            go_wp2_with (first | ((with_reducible refine gate_callee (f := 26) rfl ?_); refine goesL_ (some 70) rfl rfl Try.func26 (by kernel_rfl) rfl #[.pointer (some ⟨g394, 0, none⟩)] rfl (by (try simp only [List.map_toArray, List.map_cons, List.map_nil]); first | done | rfl | (simp only [List.length_drop, List.length_take]; rfl) | (simp only [ByteArray.size_extract, Nat.sub_zero]; rfl)) ?_; (with_reducible refine (octet_Reader_Left.calls g394 x395000_36 x395001_36 x395002_36 t413 x395000_36 x395001_36 x395002_36 w _ ?side1 ?side2 A48.out).mono ?_); (case side1 => repeat (first | (with_reducible first | exact HI394.out | apply IsS52.alloc | apply IsS52.drewN | apply IsS52.drew | apply IsS52.set_0 | apply IsS52.set_1 | apply IsS52.set_2) | exact HI394.out)); (case side2 => repeat (first | (with_reducible first | exact HB.out | apply below_alloc | apply pw_below_drewN | apply below_drew1 | refine below_set ?_ (IsS52.ge HI394.out)) | exact HB.out)); rintro e w51 ⟨rfl, hi, hb, hk⟩; refine ⟨_, rfl, ?_⟩; have n0_ := Aside0.mk (hb); have n1_ := Aside0.mk (hi); clear HB; clear HI394; have HB := n0_; have HI394 := n1_; clear n0_ n1_; (try clear hb); (try clear hb2); (try clear hk); (try clear hi)) | (go_at_call 25; (with_reducible refine (octet_Reader_At.calls g394 x395000_36 x395001_36 x395002_36 t417 x395000_36 x395001_36 x395002_36 w _ ?side1 ?side2 A50.out).mono ?_); (case side1 => repeat (first | (with_reducible first | exact HI394.out | apply IsS52.alloc | apply IsS52.drewN | apply IsS52.drew | apply IsS52.set_0 | apply IsS52.set_1 | apply IsS52.set_2) | exact HI394.out)); (case side2 => repeat (first | (with_reducible first | exact HB.out | apply below_alloc | apply pw_below_drewN | apply below_drew1 | refine below_set ?_ (IsS52.ge HI394.out)) | exact HB.out)); rintro e w52 ⟨rfl, hi, hb, hk⟩; have n0_ := Aside0.mk (hb); have n1_ := Aside0.mk (hi); clear HB; clear HI394; have HB := n0_; have HI394 := n1_; clear n0_ n1_; (try clear hb); (try clear hb2); (try clear hk); (try clear hi)))
                            go_ret
                            exact ⟨by first | rfl | (simp [errW_none, errW_some] <;> rfl) | (simp only [← hji3]; first | rfl | (simp [errW_none, errW_some] <;> rfl)) | (simp [*, errW_none, errW_some] <;> rfl), by repeat (first | (with_reducible first | exact HB.out | apply below_alloc | apply pw_below_drewN | apply below_drew1 | refine below_set ?_ (IsS52.ge HI394.out)) | exact HB.out)⟩
                          · rw [if_neg c49] at H
                            have c49b0 : (t413 == 0) = false := beq_eq_false_iff_ne.mpr c49
                            have c49b1 : (t413 != 0) = true := bne_iff_ne.mpr c49
                            obtain rfl := Option.some.inj H
                            go_wp2_with (first | ((with_reducible refine gate_callee (f := 26) rfl ?_); refine goesL_ (some 70) rfl rfl Try.func26 (by kernel_rfl) rfl #[.pointer (some ⟨g394, 0, none⟩)] rfl (by (try simp only [List.map_toArray, List.map_cons, List.map_nil]); first | done | rfl | (simp only [List.length_drop, List.length_take]; rfl) | (simp only [ByteArray.size_extract, Nat.sub_zero]; rfl)) ?_; (with_reducible refine (octet_Reader_Left.calls g394 x395000_36 x395001_36 x395002_36 t413 x395000_36 x395001_36 x395002_36 w _ ?side1 ?side2 A48.out).mono ?_); (case side1 => repeat (first | (with_reducible first | exact HI394.out | apply IsS52.alloc | apply IsS52.drewN | apply IsS52.drew | apply IsS52.set_0 | apply IsS52.set_1 | apply IsS52.set_2) | exact HI394.out)); (case side2 => repeat (first | (with_reducible first | exact HB.out | apply below_alloc | apply pw_below_drewN | apply below_drew1 | refine below_set ?_ (IsS52.ge HI394.out)) | exact HB.out)); rintro e w53 ⟨rfl, hi, hb, hk⟩; refine ⟨_, rfl, ?_⟩; have n0_ := Aside0.mk (hb); have n1_ := Aside0.mk (hi); clear HB; clear HI394; have HB := n0_; have HI394 := n1_; clear n0_ n1_; (try clear hb); (try clear hb2); (try clear hk); (try clear hi)))
                            go_ret
                            exact ⟨by first | rfl | (simp [errW_none, errW_some] <;> rfl) | (simp only [← hji3]; first | rfl | (simp [errW_none, errW_some] <;> rfl)) | (simp [*, errW_none, errW_some] <;> rfl), by repeat (first | (with_reducible first | exact HB.out | apply below_alloc | apply pw_below_drewN | apply below_drew1 | refine below_set ?_ (IsS52.ge HI394.out)) | exact HB.out)⟩
                        · replace c47 := Bool.eq_false_iff.mpr c47
                          subst c47
                          have H1 : (if 0 ≤ (wrap64 ((x4_1.size : Int) - 1)) then (if (wrap64 ((x4_1.size : Int) - 1)) ≤ (x4_1.size : Int) then ((octet_Read.f (x4_1.extract 0 ((wrap64 ((x4_1.size : Int) - 1)) : Int).toNat)).bind fun bt421 => (fleuronlaw01_OctetTexts.l2 kj36 l0 x4_1 ji3 0 bt421.1 bt421.2.1 bt421.2.2)) else (none)) else (none)) = some r := by rw [if_neg (show ¬ (false = true) by decide)] at H; exact H
                          clear H
                          have H := H1
                          clear H1
                          obtain ⟨ji54, hji54⟩ : ∃ j_ : Int, (wrap64 ((x4_1.size : Int) - 1)) = j_ := ⟨_, rfl⟩
                          (try rw [hji54] at hji3)
                          (try rw [hji54] at hji3w)
                          replace H : (if 0 ≤ (ji54) then (if (ji54) ≤ (x4_1.size : Int) then ((octet_Read.f (x4_1.extract 0 ((ji54) : Int).toNat)).bind fun bt421 => (fleuronlaw01_OctetTexts.l2 kj36 l0 x4_1 ji3 0 bt421.1 bt421.2.1 bt421.2.2)) else (none)) else (none)) = some r := by first | (rw [hji54] at H; exact H) | (simp only [hji54] at H ⊢; exact H)
                          obtain ⟨ys1_, hys1_⟩ : ∃ y_ : ByteArray, (x4_1.extract 0 ((ji54) : Int).toNat) = y_ := ⟨_, rfl⟩
                          (try rw [hys1_] at H)
                          have hji54w : (IntKind.i64.wrap ((x4_1.size : Int) - 1)) = ji54 := (i64_w _).trans hji54
                          by_cases c55 : 0 ≤ (ji54)
                          · rw [if_pos c55] at H
                            have c55b0 := eq_true c55
                            have c55b1 : decide (0 ≤ (ji54)) = true := decide_eq_true c55
                            clear c55
                            by_cases c56 : (ji54) ≤ (x4_1.size : Int)
                            · rw [if_pos c56] at H
                              have c56b0 := eq_true c56
                              have c56b1 : decide ((ji54) ≤ (x4_1.size : Int)) = true := decide_eq_true c56
                              clear c56
                              replace H := Option.bind_eq_some_iff.mp H
                              obtain ⟨⟨t421, t422, t423⟩, A570, H⟩ := H
                              replace H : (fleuronlaw01_OctetTexts.l2 kj36 l0 x4_1 ji3 0 t421 t422 t423) = some r := H
                              have A57 := Aside0.mk A570
                              clear A570
                              have H' := Aside0.mk H
                              clear H
                              go_wp2_with (first | ((with_reducible refine gate_callee (f := 13) rfl ?_); refine goesL_ (some 84) rfl rfl Try.func13 (by kernel_rfl) rfl #[.string ys1_] rfl (by (try simp only [List.map_toArray, List.map_cons, List.map_nil]); first | done | (simp only [hji54]; rfl) | rfl | (simp only [List.length_drop, List.length_take]; rfl) | (simp only [ByteArray.size_extract, Nat.sub_zero]; rfl)) ?_; (with_reducible refine (octet_Read.calls ys1_ t421 t422 t423 _ _ (Below.refl _ _) A57.out).mono ?_); rintro e w58 ⟨g424, rfl, hi, hb, hb2⟩; refine ⟨_, rfl, ?_⟩; have n0_ := Aside0.mk (IsS52.below (by repeat (first | (with_reducible first | exact HI394.out | apply IsS52.alloc | apply IsS52.drewN | apply IsS52.drew | apply IsS52.set_0 | apply IsS52.set_1 | apply IsS52.set_2) | exact HI394.out)) hb2); have n1_ := Aside0.mk (below_step (by repeat (first | (with_reducible first | exact HB.out | apply below_alloc | apply pw_below_drewN | apply below_drew1 | refine below_set ?_ (IsS52.ge HI394.out)) | exact HB.out)) hb); have n2_ := Aside0.mk ((show IsS52 w _ g424 t421 t422 t423 from ⟨hi.1, Nat.le_trans (below_size (by repeat (first | (with_reducible first | exact HB.out | apply below_alloc | apply pw_below_drewN | apply below_drew1 | refine below_set ?_ (IsS52.ge HI394.out)) | exact HB.out))) hi.2⟩)); have n3_ := Aside0.mk ((show g424 ≠ g394 from Nat.ne_of_gt (Nat.lt_of_lt_of_le (IsS52.lt (show IsS52 w _ g394 x395000_36 x395001_36 x395002_36 from by repeat (first | (with_reducible first | exact HI394.out | apply IsS52.alloc | apply IsS52.drewN | apply IsS52.drew | apply IsS52.set_0 | apply IsS52.set_1 | apply IsS52.set_2) | exact HI394.out))) hi.2))); have n4_ := Aside0.mk ((show g394 ≠ g424 from Nat.ne_of_lt (Nat.lt_of_lt_of_le (IsS52.lt (show IsS52 w _ g394 x395000_36 x395001_36 x395002_36 from by repeat (first | (with_reducible first | exact HI394.out | apply IsS52.alloc | apply IsS52.drewN | apply IsS52.drew | apply IsS52.set_0 | apply IsS52.set_1 | apply IsS52.set_2) | exact HI394.out))) hi.2))); clear HI394; clear HB; have HI394 := n0_; have HB := n1_; have HI424 := n2_; have NB424_394 := n3_; have NB394_424 := n4_; clear n0_ n1_ n2_ n3_ n4_; (try clear hb); (try clear hb2); (try clear hk); (try clear hi)))
                              go_loopg [10] kj36 (fun kq v10 w' => ∃ (x10_5 : Int) (x425000_5 : ByteArray) (x425001_5 : Int) (x425002_5 : Bool), v10 = .int .i64 x10_5 ∧ Aside0 (fleuronlaw01_OctetTexts.l2 kq l0 x4_1 ji3 x10_5 x425000_5 x425001_5 x425002_5 = some r) ∧ Aside0 (kq ≤ kj36) ∧ Aside0 (IsS52 w w' g424 x425000_5 x425001_5 x425002_5) ∧ Aside0 (Below w.heap.size w w'))
                              case atStart => exact ⟨(0), (t421), (t422), (t423), (by first | rfl | (simp; done) | (simp [*]; done)), H', ⟨Nat.le_refl _⟩, ⟨by repeat (first | (with_reducible first | exact HI424.out | apply IsS52.alloc | apply IsS52.drewN | apply IsS52.drew | apply IsS52.set_0 | apply IsS52.set_1 | apply IsS52.set_2) | exact HI424.out)⟩, ⟨by repeat (first | (with_reducible first | exact HB.out | apply below_alloc | apply pw_below_drewN | apply below_drew1 | refine below_set ?_ (IsS52.ge HI394.out) | refine below_set ?_ (IsS52.ge HI424.out)) | exact HB.out)⟩⟩
                              case round =>
                                clear H'
                                try clear c1
                                try clear c2
                                try clear p2
                                try clear c3
                                try clear p3
                                try clear q3
                                try clear hx3
                                try clear c4
                                try clear c5
                                try clear p6
                                try clear c13
                                try clear c16
                                try clear c18
                                try clear c18b0
                                try clear c20
                                try clear c20b0
                                try clear c21
                                try clear c21b0
                                try clear c23
                                try clear c23b0
                                try clear c23b1
                                try clear c25
                                try clear c26
                                try clear c30
                                try clear p38
                                try clear q38
                                try clear c39
                                try clear c39b0
                                try clear c39b1
                                try clear p39
                                try clear q39
                                try clear hx39
                                try clear c41
                                try clear c41b0
                                try clear c41b1
                                try clear c47
                                try clear c49
                                try clear c49b0
                                try clear c49b1
                                try clear c55
                                try clear c55b0
                                try clear c55b1
                                try clear c56
                                try clear c56b0
                                try clear c56b1
                                try clear hx399_0
                                try clear p2
                                try clear p3
                                try clear p38
                                try clear p388
                                try clear p39
                                try clear p399
                                try clear p6
                                try clear q3
                                try clear q38
                                try clear q388
                                try clear q39
                                try clear q399
                                obtain ⟨x10_5, x425000_5, x425001_5, x425002_5, rfl, HA, HK5, HI424, HB⟩ := hrel
                                cases gk with
                                | zero => exact absurd HA.out (by simp [fleuronlaw01_OctetTexts.l2])
                                | succ k5 =>
                                  have H := HA.out
                                  clear HA
                                  simp only [fleuronlaw01_OctetTexts.l2] at H
                                  by_cases c59 : x10_5 < (wrap64 (ji3 - 1))
                                  · rw [if_pos c59] at H
                                    have c59b0 : decide (x10_5 < (wrap64 (ji3 - 1))) = true := decide_eq_true c59
                                    (try (have c59b0w := c59b0; rw [(by unfold wrap64; omega : wrap64 (ji3 - 1) = (ji3 - 1))] at c59b0w))
                                    clear c59
                                    replace H := Option.bind_eq_some_iff.mp H
                                    obtain ⟨⟨t425, t426, t427, t428⟩, A600, H⟩ := H
                                    replace H : (fleuronlaw01_OctetTexts.l2 k5 l0 x4_1 ji3 (wrap64 (x10_5 + 1)) t426 t427 t428) = some r := H
                                    have A60 := Aside0.mk A600
                                    clear A600
                                    have H' := Aside0.mk H
                                    clear H
                                    go_wp2_with (first | ((with_reducible refine gate_callee (f := 30) rfl ?_); refine goesL_ (some 94) rfl rfl Try.func30 (by kernel_rfl) rfl #[.pointer (some ⟨g424, 0, none⟩)] rfl (by (try simp only [List.map_toArray, List.map_cons, List.map_nil]); first | done | rfl | (simp only [List.length_drop, List.length_take]; rfl) | (simp only [ByteArray.size_extract, Nat.sub_zero]; rfl)) ?_; (with_reducible refine (octet_Reader_Text.calls g424 x425000_5 x425001_5 x425002_5 t425 t426 t427 t428 w _ ?side1 ?side2 A60.out).mono ?_); (case side1 => repeat (first | (with_reducible first | exact HI424.out | apply IsS52.alloc | apply IsS52.drewN | apply IsS52.drew | apply IsS52.set_0 | apply IsS52.set_1 | apply IsS52.set_2) | exact HI424.out)); (case side2 => repeat (first | (with_reducible first | exact HB.out | apply below_alloc | apply pw_below_drewN | apply below_drew1 | refine below_set ?_ (IsS52.ge HI424.out)) | exact HB.out)); rintro e w61 ⟨rfl, hi, hb, hk⟩; refine ⟨_, rfl, ?_⟩; have n0_ := Aside0.mk (hb); have n1_ := Aside0.mk (hi); clear HB; clear HI424; have HB := n0_; have HI424 := n1_; clear n0_ n1_; (try clear hb); (try clear hb2); (try clear hk); (try clear hi)))
                                    go_roundg k5
                                    case measure => have := HK1.out; have := HJ13.out; have := HK3.out; have := HJ36.out; have := HK5.out; omega
                                    case rel => exact ⟨(wrap64 (x10_5 + 1)), (t426), (t427), (t428), (by first | rfl | (simp; done) | (simp [*]; done)), H', ⟨by have := HK1.out; have := HJ13.out; have := HK3.out; have := HJ36.out; have := HK5.out; omega⟩, ⟨by repeat (first | (with_reducible first | exact HI424.out | apply IsS52.alloc | apply IsS52.drewN | apply IsS52.drew | apply IsS52.set_0 | apply IsS52.set_1 | apply IsS52.set_2) | exact HI424.out)⟩, ⟨by repeat (first | (with_reducible first | exact HB.out | apply below_alloc | apply pw_below_drewN | apply below_drew1 | refine below_set ?_ (IsS52.ge HI424.out)) | exact HB.out)⟩⟩
                                  · rw [if_neg c59] at H
                                    have c59b0 : decide (x10_5 < (wrap64 (ji3 - 1))) = false := decide_eq_false c59
                                    (try (have c59b0w := c59b0; rw [(by unfold wrap64; omega : wrap64 (ji3 - 1) = (ji3 - 1))] at c59b0w))
                                    clear c59
                                    replace H := Option.bind_eq_some_iff.mp H
                                    obtain ⟨⟨t429, t430, t431, t432⟩, A620, H⟩ := H
                                    replace H : ((octet_Reader_Text.f t430 t431 t432).bind fun bt433 => (if bt433.1.toList = ([] : List UInt8) then ((octet_Reader_Failed.f bt433.2.1 bt433.2.2.1 bt433.2.2.2).bind fun bt437 => (if bt437.1 = true then ((octet_Reader_At.f bt437.2.1 bt437.2.2.1 bt437.2.2.2).bind fun bt441 => (if bt441.1 = t429 then (if 0 ≤ (wrap64 (ji3 - 1)) then (if (wrap64 (ji3 - 1)) < (l0.length : Int) then ((fleuronlaw01_few.f (rdOf ByteArray.empty l0 (wrap64 (ji3 - 1)))).bind fun t446 => (some (t429 == (wrap64 ((wrap64 ((x4_1.size : Int) - (t446.size : Int))) - 2))))) else (none)) else (none)) else (some false))) else (some false))) else (some false))) = some r := H
                                    have A62 := Aside0.mk A620
                                    clear A620
                                    replace H := Option.bind_eq_some_iff.mp H
                                    obtain ⟨⟨t433, t434, t435, t436⟩, A630, H⟩ := H
                                    replace H : (if t433.toList = ([] : List UInt8) then ((octet_Reader_Failed.f t434 t435 t436).bind fun bt437 => (if bt437.1 = true then ((octet_Reader_At.f bt437.2.1 bt437.2.2.1 bt437.2.2.2).bind fun bt441 => (if bt441.1 = t429 then (if 0 ≤ (wrap64 (ji3 - 1)) then (if (wrap64 (ji3 - 1)) < (l0.length : Int) then ((fleuronlaw01_few.f (rdOf ByteArray.empty l0 (wrap64 (ji3 - 1)))).bind fun t446 => (some (t429 == (wrap64 ((wrap64 ((x4_1.size : Int) - (t446.size : Int))) - 2))))) else (none)) else (none)) else (some false))) else (some false))) else (some false)) = some r := H
                                    have A63 := Aside0.mk A630
                                    clear A630
                                    by_cases c64 : t433.toList = ([] : List UInt8)
                                    · rw [if_pos c64] at H
                                      have c64b0 : (t433.toList == ([] : List UInt8)) = true := beq_iff_eq.mpr c64
                                      have c64b1 : (t433.toList != ([] : List UInt8)) = false := bne_eq_false_iff_eq.mpr c64
                                      clear c64
                                      replace H := Option.bind_eq_some_iff.mp H
                                      obtain ⟨⟨t437, t438, t439, t440⟩, A650, H⟩ := H
                                      obtain ⟨rfl, rfl, rfl⟩ := octet_Reader_Failed.still A650
                                      replace H : (if t437 = true then ((octet_Reader_At.f t434 t435 t436).bind fun bt441 => (if bt441.1 = t429 then (if 0 ≤ (wrap64 (ji3 - 1)) then (if (wrap64 (ji3 - 1)) < (l0.length : Int) then ((fleuronlaw01_few.f (rdOf ByteArray.empty l0 (wrap64 (ji3 - 1)))).bind fun t446 => (some (t429 == (wrap64 ((wrap64 ((x4_1.size : Int) - (t446.size : Int))) - 2))))) else (none)) else (none)) else (some false))) else (some false)) = some r := H
                                      have A65 := Aside0.mk A650
                                      clear A650
                                      by_cases c66 : t437 = true
                                      · subst c66
                                        have H1 : ((octet_Reader_At.f t434 t435 t436).bind fun bt441 => (if bt441.1 = t429 then (if 0 ≤ (wrap64 (ji3 - 1)) then (if (wrap64 (ji3 - 1)) < (l0.length : Int) then ((fleuronlaw01_few.f (rdOf ByteArray.empty l0 (wrap64 (ji3 - 1)))).bind fun t446 => (some (t429 == (wrap64 ((wrap64 ((x4_1.size : Int) - (t446.size : Int))) - 2))))) else (none)) else (none)) else (some false))) = some r := by rw [if_pos rfl] at H; exact H
                                        clear H
                                        have H := H1
                                        clear H1
                                        replace H := Option.bind_eq_some_iff.mp H
                                        obtain ⟨⟨t441, t442, t443, t444⟩, A670, H⟩ := H
                                        obtain ⟨rfl, rfl, rfl⟩ := octet_Reader_At.still A670
                                        replace H : (if t441 = t429 then (if 0 ≤ (wrap64 (ji3 - 1)) then (if (wrap64 (ji3 - 1)) < (l0.length : Int) then ((fleuronlaw01_few.f (rdOf ByteArray.empty l0 (wrap64 (ji3 - 1)))).bind fun t446 => (some (t429 == (wrap64 ((wrap64 ((x4_1.size : Int) - (t446.size : Int))) - 2))))) else (none)) else (none)) else (some false)) = some r := H
                                        have A67 := Aside0.mk A670
                                        clear A670
                                        by_cases c68 : t441 = t429
                                        · rw [if_pos c68] at H
                                          have c68b0 : (t441 == t429) = true := beq_iff_eq.mpr c68
                                          have c68b1 : (t441 != t429) = false := bne_eq_false_iff_eq.mpr c68
                                          clear c68
                                          obtain ⟨ji69, hji69⟩ : ∃ j_ : Int, (wrap64 (ji3 - 1)) = j_ := ⟨_, rfl⟩
                                          (try rw [hji69] at hji3)
                                          (try rw [hji69] at hji3w)
                                          (try rw [hji69] at hji54)
                                          (try rw [hji69] at hji54w)
                                          replace H : (if 0 ≤ (ji69) then (if (ji69) < (l0.length : Int) then ((fleuronlaw01_few.f (rdOf ByteArray.empty l0 (ji69))).bind fun t446 => (some (t429 == (wrap64 ((wrap64 ((x4_1.size : Int) - (t446.size : Int))) - 2))))) else (none)) else (none)) = some r := by first | (rw [hji69] at H; exact H) | (simp only [hji69] at H ⊢; exact H)
                                          (try rw [hji69] at c59b0)
                                          (try rw [hji69] at A62)
                                          (try rw [hji69] at A63)
                                          (try rw [hji69] at A65)
                                          (try rw [hji69] at A67)
                                          have hji69w : (IntKind.i64.wrap (ji3 - 1)) = ji69 := (i64_w _).trans hji69
                                          by_cases c70 : 0 ≤ (ji69)
                                          · rw [if_pos c70] at H
                                            have c70b0 : decide (0 ≤ (ji69)) = true := decide_eq_true c70
                                            clear c70
                                            by_cases c71 : (ji69) < (l0.length : Int)
                                            · rw [if_pos c71] at H
                                              have c71b0 : decide ((ji69) < (l0.length : Int)) = true := decide_eq_true c71
                                              clear c71
                                              replace H := Option.bind_eq_some_iff.mp H
                                              obtain ⟨t446, A720, H⟩ := H
                                              replace H : (some (t429 == (wrap64 ((wrap64 ((x4_1.size : Int) - (t446.size : Int))) - 2)))) = some r := H
                                              have A72 := Aside0.mk A720
                                              clear A720
                                              obtain rfl := Option.some.inj H
                                              go_wp2_with (first | ((with_reducible refine gate_callee (f := 25) rfl ?_); refine goesL_ (some 96) rfl rfl Try.func25 (by kernel_rfl) rfl #[.pointer (some ⟨g424, 0, none⟩)] rfl (by (try simp only [List.map_toArray, List.map_cons, List.map_nil]); first | done | rfl | (simp only [List.length_drop, List.length_take]; rfl) | (simp only [ByteArray.size_extract, Nat.sub_zero]; rfl)) ?_; (with_reducible refine (octet_Reader_At.calls g424 x425000_5 x425001_5 x425002_5 t429 t430 t431 t432 w _ ?side1 ?side2 A62.out).mono ?_); (case side1 => repeat (first | (with_reducible first | exact HI424.out | apply IsS52.alloc | apply IsS52.drewN | apply IsS52.drew | apply IsS52.set_0 | apply IsS52.set_1 | apply IsS52.set_2) | exact HI424.out)); (case side2 => repeat (first | (with_reducible first | exact HB.out | apply below_alloc | apply pw_below_drewN | apply below_drew1 | refine below_set ?_ (IsS52.ge HI424.out)) | exact HB.out)); rintro e w73 ⟨rfl, hi, hb, hk⟩; refine ⟨_, rfl, ?_⟩; have n0_ := Aside0.mk (hb); have n1_ := Aside0.mk (hi); clear HB; clear HI424; have HB := n0_; have HI424 := n1_; clear n0_ n1_; (try clear hb); (try clear hb2); (try clear hk); (try clear hi)) | ((with_reducible refine gate_callee (f := 30) rfl ?_); refine goesL_ (some 98) rfl rfl Try.func30 (by kernel_rfl) rfl #[.pointer (some ⟨g424, 0, none⟩)] rfl (by (try simp only [List.map_toArray, List.map_cons, List.map_nil]); first | done | rfl | (simp only [List.length_drop, List.length_take]; rfl) | (simp only [ByteArray.size_extract, Nat.sub_zero]; rfl)) ?_; (with_reducible refine (octet_Reader_Text.calls g424 t430 t431 t432 t433 t434 t435 t436 w _ ?side1 ?side2 A63.out).mono ?_); (case side1 => repeat (first | (with_reducible first | exact HI424.out | apply IsS52.alloc | apply IsS52.drewN | apply IsS52.drew | apply IsS52.set_0 | apply IsS52.set_1 | apply IsS52.set_2) | exact HI424.out)); (case side2 => repeat (first | (with_reducible first | exact HB.out | apply below_alloc | apply pw_below_drewN | apply below_drew1 | refine below_set ?_ (IsS52.ge HI424.out)) | exact HB.out)); rintro e w74 ⟨rfl, hi, hb, hk⟩; refine ⟨_, rfl, ?_⟩; have n0_ := Aside0.mk (hb); have n1_ := Aside0.mk (hi); clear HB; clear HI424; have HB := n0_; have HI424 := n1_; clear n0_ n1_; (try clear hb); (try clear hb2); (try clear hk); (try clear hi)) | (go_at_call 16; (with_reducible refine (octet_Reader_Failed.calls g424 t434 t435 t436 true t434 t435 t436 w _ ?side1 ?side2 A65.out).mono ?_); (case side1 => repeat (first | (with_reducible first | exact HI424.out | apply IsS52.alloc | apply IsS52.drewN | apply IsS52.drew | apply IsS52.set_0 | apply IsS52.set_1 | apply IsS52.set_2) | exact HI424.out)); (case side2 => repeat (first | (with_reducible first | exact HB.out | apply below_alloc | apply pw_below_drewN | apply below_drew1 | refine below_set ?_ (IsS52.ge HI424.out)) | exact HB.out)); rintro e w75 ⟨rfl, hi, hb, hk⟩; have n0_ := Aside0.mk (hb); have n1_ := Aside0.mk (hi); clear HB; clear HI424; have HB := n0_; have HI424 := n1_; clear n0_ n1_; (try clear hb); (try clear hb2); (try clear hk); (try clear hi)) | (go_at_call 25; (with_reducible refine (octet_Reader_At.calls g424 t434 t435 t436 t441 t434 t435 t436 w _ ?side1 ?side2 A67.out).mono ?_); (case side1 => repeat (first | (with_reducible first | exact HI424.out | apply IsS52.alloc | apply IsS52.drewN | apply IsS52.drew | apply IsS52.set_0 | apply IsS52.set_1 | apply IsS52.set_2) | exact HI424.out)); (case side2 => repeat (first | (with_reducible first | exact HB.out | apply below_alloc | apply pw_below_drewN | apply below_drew1 | refine below_set ?_ (IsS52.ge HI424.out)) | exact HB.out)); rintro e w76 ⟨rfl, hi, hb, hk⟩; have n0_ := Aside0.mk (hb); have n1_ := Aside0.mk (hi); clear HB; clear HI424; have HB := n0_; have HI424 := n1_; clear n0_ n1_; (try clear hb); (try clear hb2); (try clear hk); (try clear hi); have p445 : 0 ≤ ((ji69) : Int) := of_decide_eq_true (by first | (with_reducible assumption) | assumption); have q445 : (ji69) < (l0.length : Int) := of_decide_eq_true (by first | (with_reducible assumption) | assumption); obtain ⟨ad445, e445, hx445_0⟩ := Kd.at_string HR0.out (ji69) p445 q445; cases e445; replace hx445_0 := (HB.out.cell (World.block_lt_of_cell? w _ hx445_0)).trans hx445_0; replace p445 := eq_true p445; replace q445 := eq_true q445) | (go_at_call 18; (with_reducible refine (fleuronlaw01_few.calls (rdOf ByteArray.empty l0 (ji69)) t446 _ A72.out).mono ?_); rintro e w77 ⟨rfl, hb⟩; have n0_ := Aside0.mk (IsS52.below (by repeat (first | (with_reducible first | exact HI424.out | apply IsS52.alloc | apply IsS52.drewN | apply IsS52.drew | apply IsS52.set_0 | apply IsS52.set_1 | apply IsS52.set_2) | exact HI424.out)) hb); have n1_ := Aside0.mk (below_step (by repeat (first | (with_reducible first | exact HB.out | apply below_alloc | apply pw_below_drewN | apply below_drew1 | refine below_set ?_ (IsS52.ge HI424.out)) | exact HB.out)) hb); clear HI424; clear HB; have HI424 := n0_; have HB := n1_; clear n0_ n1_; (try clear hb); (try clear hb2); (try clear hk); (try clear hi)))
                                              go_ret
                                              exact ⟨by first | rfl | (simp [errW_none, errW_some] <;> rfl) | (simp only [← hji3, ← hji54, ← hji69]; first | rfl | (simp [errW_none, errW_some] <;> rfl)) | (simp [*, errW_none, errW_some] <;> rfl), by repeat (first | (with_reducible first | exact HB.out | apply below_alloc | apply pw_below_drewN | apply below_drew1 | refine below_set ?_ (IsS52.ge HI424.out)) | exact HB.out)⟩
                                            · rw [if_neg c71] at H
                                              exact absurd H (by simp)
                                          · rw [if_neg c70] at H
                                            exact absurd H (by simp)
                                        · rw [if_neg c68] at H
                                          have c68b0 : (t441 == t429) = false := beq_eq_false_iff_ne.mpr c68
                                          have c68b1 : (t441 != t429) = true := bne_iff_ne.mpr c68
                                          obtain rfl := Option.some.inj H
                                          go_wp2_with (first | ((with_reducible refine gate_callee (f := 25) rfl ?_); refine goesL_ (some 96) rfl rfl Try.func25 (by kernel_rfl) rfl #[.pointer (some ⟨g424, 0, none⟩)] rfl (by (try simp only [List.map_toArray, List.map_cons, List.map_nil]); first | done | rfl | (simp only [List.length_drop, List.length_take]; rfl) | (simp only [ByteArray.size_extract, Nat.sub_zero]; rfl)) ?_; (with_reducible refine (octet_Reader_At.calls g424 x425000_5 x425001_5 x425002_5 t429 t430 t431 t432 w _ ?side1 ?side2 A62.out).mono ?_); (case side1 => repeat (first | (with_reducible first | exact HI424.out | apply IsS52.alloc | apply IsS52.drewN | apply IsS52.drew | apply IsS52.set_0 | apply IsS52.set_1 | apply IsS52.set_2) | exact HI424.out)); (case side2 => repeat (first | (with_reducible first | exact HB.out | apply below_alloc | apply pw_below_drewN | apply below_drew1 | refine below_set ?_ (IsS52.ge HI424.out)) | exact HB.out)); rintro e w78 ⟨rfl, hi, hb, hk⟩; refine ⟨_, rfl, ?_⟩; have n0_ := Aside0.mk (hb); have n1_ := Aside0.mk (hi); clear HB; clear HI424; have HB := n0_; have HI424 := n1_; clear n0_ n1_; (try clear hb); (try clear hb2); (try clear hk); (try clear hi)) | ((with_reducible refine gate_callee (f := 30) rfl ?_); refine goesL_ (some 98) rfl rfl Try.func30 (by kernel_rfl) rfl #[.pointer (some ⟨g424, 0, none⟩)] rfl (by (try simp only [List.map_toArray, List.map_cons, List.map_nil]); first | done | rfl | (simp only [List.length_drop, List.length_take]; rfl) | (simp only [ByteArray.size_extract, Nat.sub_zero]; rfl)) ?_; (with_reducible refine (octet_Reader_Text.calls g424 t430 t431 t432 t433 t434 t435 t436 w _ ?side1 ?side2 A63.out).mono ?_); (case side1 => repeat (first | (with_reducible first | exact HI424.out | apply IsS52.alloc | apply IsS52.drewN | apply IsS52.drew | apply IsS52.set_0 | apply IsS52.set_1 | apply IsS52.set_2) | exact HI424.out)); (case side2 => repeat (first | (with_reducible first | exact HB.out | apply below_alloc | apply pw_below_drewN | apply below_drew1 | refine below_set ?_ (IsS52.ge HI424.out)) | exact HB.out)); rintro e w79 ⟨rfl, hi, hb, hk⟩; refine ⟨_, rfl, ?_⟩; have n0_ := Aside0.mk (hb); have n1_ := Aside0.mk (hi); clear HB; clear HI424; have HB := n0_; have HI424 := n1_; clear n0_ n1_; (try clear hb); (try clear hb2); (try clear hk); (try clear hi)) | (go_at_call 16; (with_reducible refine (octet_Reader_Failed.calls g424 t434 t435 t436 true t434 t435 t436 w _ ?side1 ?side2 A65.out).mono ?_); (case side1 => repeat (first | (with_reducible first | exact HI424.out | apply IsS52.alloc | apply IsS52.drewN | apply IsS52.drew | apply IsS52.set_0 | apply IsS52.set_1 | apply IsS52.set_2) | exact HI424.out)); (case side2 => repeat (first | (with_reducible first | exact HB.out | apply below_alloc | apply pw_below_drewN | apply below_drew1 | refine below_set ?_ (IsS52.ge HI424.out)) | exact HB.out)); rintro e w80 ⟨rfl, hi, hb, hk⟩; have n0_ := Aside0.mk (hb); have n1_ := Aside0.mk (hi); clear HB; clear HI424; have HB := n0_; have HI424 := n1_; clear n0_ n1_; (try clear hb); (try clear hb2); (try clear hk); (try clear hi)) | (go_at_call 25; (with_reducible refine (octet_Reader_At.calls g424 t434 t435 t436 t441 t434 t435 t436 w _ ?side1 ?side2 A67.out).mono ?_); (case side1 => repeat (first | (with_reducible first | exact HI424.out | apply IsS52.alloc | apply IsS52.drewN | apply IsS52.drew | apply IsS52.set_0 | apply IsS52.set_1 | apply IsS52.set_2) | exact HI424.out)); (case side2 => repeat (first | (with_reducible first | exact HB.out | apply below_alloc | apply pw_below_drewN | apply below_drew1 | refine below_set ?_ (IsS52.ge HI424.out)) | exact HB.out)); rintro e w81 ⟨rfl, hi, hb, hk⟩; have n0_ := Aside0.mk (hb); have n1_ := Aside0.mk (hi); clear HB; clear HI424; have HB := n0_; have HI424 := n1_; clear n0_ n1_; (try clear hb); (try clear hb2); (try clear hk); (try clear hi)))
                                          go_ret
                                          exact ⟨by first | rfl | (simp [errW_none, errW_some] <;> rfl) | (simp only [← hji3, ← hji54]; first | rfl | (simp [errW_none, errW_some] <;> rfl)) | (simp [*, errW_none, errW_some] <;> rfl), by repeat (first | (with_reducible first | exact HB.out | apply below_alloc | apply pw_below_drewN | apply below_drew1 | refine below_set ?_ (IsS52.ge HI424.out)) | exact HB.out)⟩
                                      · replace c66 := Bool.eq_false_iff.mpr c66
                                        subst c66
                                        have H1 : (some false) = some r := by rw [if_neg (show ¬ (false = true) by decide)] at H; exact H
                                        clear H
                                        have H := H1
                                        clear H1
                                        obtain rfl := Option.some.inj H
                                        go_wp2_with (first | ((with_reducible refine gate_callee (f := 25) rfl ?_); refine goesL_ (some 96) rfl rfl Try.func25 (by kernel_rfl) rfl #[.pointer (some ⟨g424, 0, none⟩)] rfl (by (try simp only [List.map_toArray, List.map_cons, List.map_nil]); first | done | rfl | (simp only [List.length_drop, List.length_take]; rfl) | (simp only [ByteArray.size_extract, Nat.sub_zero]; rfl)) ?_; (with_reducible refine (octet_Reader_At.calls g424 x425000_5 x425001_5 x425002_5 t429 t430 t431 t432 w _ ?side1 ?side2 A62.out).mono ?_); (case side1 => repeat (first | (with_reducible first | exact HI424.out | apply IsS52.alloc | apply IsS52.drewN | apply IsS52.drew | apply IsS52.set_0 | apply IsS52.set_1 | apply IsS52.set_2) | exact HI424.out)); (case side2 => repeat (first | (with_reducible first | exact HB.out | apply below_alloc | apply pw_below_drewN | apply below_drew1 | refine below_set ?_ (IsS52.ge HI424.out)) | exact HB.out)); rintro e w82 ⟨rfl, hi, hb, hk⟩; refine ⟨_, rfl, ?_⟩; have n0_ := Aside0.mk (hb); have n1_ := Aside0.mk (hi); clear HB; clear HI424; have HB := n0_; have HI424 := n1_; clear n0_ n1_; (try clear hb); (try clear hb2); (try clear hk); (try clear hi)) | ((with_reducible refine gate_callee (f := 30) rfl ?_); refine goesL_ (some 98) rfl rfl Try.func30 (by kernel_rfl) rfl #[.pointer (some ⟨g424, 0, none⟩)] rfl (by (try simp only [List.map_toArray, List.map_cons, List.map_nil]); first | done | rfl | (simp only [List.length_drop, List.length_take]; rfl) | (simp only [ByteArray.size_extract, Nat.sub_zero]; rfl)) ?_; (with_reducible refine (octet_Reader_Text.calls g424 t430 t431 t432 t433 t434 t435 t436 w _ ?side1 ?side2 A63.out).mono ?_); (case side1 => repeat (first | (with_reducible first | exact HI424.out | apply IsS52.alloc | apply IsS52.drewN | apply IsS52.drew | apply IsS52.set_0 | apply IsS52.set_1 | apply IsS52.set_2) | exact HI424.out)); (case side2 => repeat (first | (with_reducible first | exact HB.out | apply below_alloc | apply pw_below_drewN | apply below_drew1 | refine below_set ?_ (IsS52.ge HI424.out)) | exact HB.out)); rintro e w83 ⟨rfl, hi, hb, hk⟩; refine ⟨_, rfl, ?_⟩; have n0_ := Aside0.mk (hb); have n1_ := Aside0.mk (hi); clear HB; clear HI424; have HB := n0_; have HI424 := n1_; clear n0_ n1_; (try clear hb); (try clear hb2); (try clear hk); (try clear hi)) | (go_at_call 16; (with_reducible refine (octet_Reader_Failed.calls g424 t434 t435 t436 false t434 t435 t436 w _ ?side1 ?side2 A65.out).mono ?_); (case side1 => repeat (first | (with_reducible first | exact HI424.out | apply IsS52.alloc | apply IsS52.drewN | apply IsS52.drew | apply IsS52.set_0 | apply IsS52.set_1 | apply IsS52.set_2) | exact HI424.out)); (case side2 => repeat (first | (with_reducible first | exact HB.out | apply below_alloc | apply pw_below_drewN | apply below_drew1 | refine below_set ?_ (IsS52.ge HI424.out)) | exact HB.out)); rintro e w84 ⟨rfl, hi, hb, hk⟩; have n0_ := Aside0.mk (hb); have n1_ := Aside0.mk (hi); clear HB; clear HI424; have HB := n0_; have HI424 := n1_; clear n0_ n1_; (try clear hb); (try clear hb2); (try clear hk); (try clear hi)))
                                        go_ret
                                        exact ⟨by first | rfl | (simp [errW_none, errW_some] <;> rfl) | (simp only [← hji3, ← hji54]; first | rfl | (simp [errW_none, errW_some] <;> rfl)) | (simp [*, errW_none, errW_some] <;> rfl), by repeat (first | (with_reducible first | exact HB.out | apply below_alloc | apply pw_below_drewN | apply below_drew1 | refine below_set ?_ (IsS52.ge HI424.out)) | exact HB.out)⟩
                                    · rw [if_neg c64] at H
                                      have c64b0 : (t433.toList == ([] : List UInt8)) = false := beq_eq_false_iff_ne.mpr c64
                                      have c64b1 : (t433.toList != ([] : List UInt8)) = true := bne_iff_ne.mpr c64
                                      obtain rfl := Option.some.inj H
                                      go_wp2_with (first | ((with_reducible refine gate_callee (f := 25) rfl ?_); refine goesL_ (some 96) rfl rfl Try.func25 (by kernel_rfl) rfl #[.pointer (some ⟨g424, 0, none⟩)] rfl (by (try simp only [List.map_toArray, List.map_cons, List.map_nil]); first | done | rfl | (simp only [List.length_drop, List.length_take]; rfl) | (simp only [ByteArray.size_extract, Nat.sub_zero]; rfl)) ?_; (with_reducible refine (octet_Reader_At.calls g424 x425000_5 x425001_5 x425002_5 t429 t430 t431 t432 w _ ?side1 ?side2 A62.out).mono ?_); (case side1 => repeat (first | (with_reducible first | exact HI424.out | apply IsS52.alloc | apply IsS52.drewN | apply IsS52.drew | apply IsS52.set_0 | apply IsS52.set_1 | apply IsS52.set_2) | exact HI424.out)); (case side2 => repeat (first | (with_reducible first | exact HB.out | apply below_alloc | apply pw_below_drewN | apply below_drew1 | refine below_set ?_ (IsS52.ge HI424.out)) | exact HB.out)); rintro e w85 ⟨rfl, hi, hb, hk⟩; refine ⟨_, rfl, ?_⟩; have n0_ := Aside0.mk (hb); have n1_ := Aside0.mk (hi); clear HB; clear HI424; have HB := n0_; have HI424 := n1_; clear n0_ n1_; (try clear hb); (try clear hb2); (try clear hk); (try clear hi)) | ((with_reducible refine gate_callee (f := 30) rfl ?_); refine goesL_ (some 98) rfl rfl Try.func30 (by kernel_rfl) rfl #[.pointer (some ⟨g424, 0, none⟩)] rfl (by (try simp only [List.map_toArray, List.map_cons, List.map_nil]); first | done | rfl | (simp only [List.length_drop, List.length_take]; rfl) | (simp only [ByteArray.size_extract, Nat.sub_zero]; rfl)) ?_; (with_reducible refine (octet_Reader_Text.calls g424 t430 t431 t432 t433 t434 t435 t436 w _ ?side1 ?side2 A63.out).mono ?_); (case side1 => repeat (first | (with_reducible first | exact HI424.out | apply IsS52.alloc | apply IsS52.drewN | apply IsS52.drew | apply IsS52.set_0 | apply IsS52.set_1 | apply IsS52.set_2) | exact HI424.out)); (case side2 => repeat (first | (with_reducible first | exact HB.out | apply below_alloc | apply pw_below_drewN | apply below_drew1 | refine below_set ?_ (IsS52.ge HI424.out)) | exact HB.out)); rintro e w86 ⟨rfl, hi, hb, hk⟩; refine ⟨_, rfl, ?_⟩; have n0_ := Aside0.mk (hb); have n1_ := Aside0.mk (hi); clear HB; clear HI424; have HB := n0_; have HI424 := n1_; clear n0_ n1_; (try clear hb); (try clear hb2); (try clear hk); (try clear hi)))
                                      go_ret
                                      exact ⟨by first | rfl | (simp [errW_none, errW_some] <;> rfl) | (simp only [← hji3, ← hji54]; first | rfl | (simp [errW_none, errW_some] <;> rfl)) | (simp [*, errW_none, errW_some] <;> rfl), by repeat (first | (with_reducible first | exact HB.out | apply below_alloc | apply pw_below_drewN | apply below_drew1 | refine below_set ?_ (IsS52.ge HI424.out)) | exact HB.out)⟩
                            · rw [if_neg c56] at H
                              exact absurd H (by simp)
                          · rw [if_neg c55] at H
                            exact absurd H (by simp)

end Go.Proofs.Ytfnbaepioignaaa.POctt
