-- Written for this claim by a program of this seat (wip/tools: a turned copy of the kit's print). Not trusted: Lean checks it.
import Derived.Test.YtfnbaepioignaaaPOcttx0
import Derived.Test.YtfnbaepioignaaaPOcttx1
namespace Go.Proofs.Ytfnbaepioignaaa.POctt
open Go.RowKit Go.Proofs.YtfnbaepioignaaaW.PrintWords Go.Proofs.YtfnbaepioignaaaW.PrintLast Go.Proofs.YtfnbaepioignaaaW.PrintMore
attribute [local go_sem] max2_int min2_int max_two min_two max_three min_three max_four min_four   -- for this text's walks alone
set_option linter.unusedVariables false
set_option linter.unusedSimpArgs false

/-! ### fleuronlaw01_OctetParts: function 3 -/
mutual
def fleuronlaw01_OctetParts.j0 : Nat → ByteArray → Int → Bool → ByteArray → Int → Bool → ByteArray → Int → Bool → ByteArray → Int → Bool → Option (Bool)
  | 0, _, _, _, _, _, _, _, _, _, _, _, _ => none
  | k + 1, x6, x7, x47, x151000, x151001, x151002, x155000, x155001, x155002, x159000, x159001, x159002 => if x47 = true then (some false) else ((octet_Reader_Num.f x151000 x151001 x151002 (x6.size : Int)).bind fun bt159 => ((octet_Reader_Num.f x155000 x155001 x155002 x7).bind fun bt163 => ((octet_Reader_Num.f bt163.2.1 bt163.2.2.1 bt163.2.2.2 (wrap64 ((x6.size : Int) - x7))).bind fun bt167 => (fleuronlaw01_OctetParts.l0 k x6 x7 bt159.1 bt163.1 bt167.1 (⟨#[]⟩ : ByteArray) 0 bt167.2.1 bt167.2.2.1 bt167.2.2.2 x159000 x159001 x159002))))
def fleuronlaw01_OctetParts.l0 : Nat → ByteArray → Int → Int → Int → Int → ByteArray → Int → ByteArray → Int → Bool → ByteArray → Int → Bool → Option (Bool)
  | 0, _, _, _, _, _, _, _, _, _, _, _, _, _ => none
  | k + 1, x6, x7, x11, x12, x13, x14, x15, x155000, x155001, x155002, x159000, x159001, x159002 => if x15 < (x6.size : Int) then ((octet_Reader_Take.f x159000 x159001 x159002 1).bind fun bt171 => (if x14.size + bt171.1.size ≤ 9223372036854775807 then (fleuronlaw01_OctetParts.l0 k x6 x7 x11 x12 x13 (x14 ++ bt171.1) (wrap64 (x15 + 1)) x155000 x155001 x155002 bt171.2.1 bt171.2.2.1 bt171.2.2.2) else (none))) else (if 0 ≤ (wrap64 (8 * (wrap64 ((x6.size : Int) - x7)))) then (if x11 = (wrap64 ((shl .i64 x12 (wrap64 (8 * (wrap64 ((x6.size : Int) - x7))))) + x13)) then (if x14.toList = x6.toList then ((octet_Reader_Failed.f x155000 x155001 x155002).bind fun bt175 => (if bt175.1 = true then (some false) else ((octet_Put.f k x11 (x6.size : Int)).bind fun t179 => (some (t179.toList == x6.toList))))) else (some false)) else (some false)) else (none))
end
def fleuronlaw01_OctetParts.f (k : Nat) (a0 : ByteArray) (a1 : Int) : Option (Bool) := (fleuronlaw01_shown.f k).bind fun t146 => (if 0 ≤ (mn (a0.size : Int) 7) then (if (mn (a0.size : Int) 7) ≤ (a0.size : Int) then (if (wrap64 (((a0.extract 0 ((mn (a0.size : Int) 7) : Int).toNat).size : Int) + 1)) = 0 then (none) else ((octet_Read.f (a0.extract 0 ((mn (a0.size : Int) 7) : Int).toNat)).bind fun bt147 => ((octet_Read.f (a0.extract 0 ((mn (a0.size : Int) 7) : Int).toNat)).bind fun bt151 => ((octet_Read.f (a0.extract 0 ((mn (a0.size : Int) 7) : Int).toNat)).bind fun bt155 => (if t146 = true then (fleuronlaw01_OctetParts.j0 k (a0.extract 0 ((mn (a0.size : Int) 7) : Int).toNat) (Int.tmod (wrap64 (a1)) (wrap64 (((a0.extract 0 ((mn (a0.size : Int) 7) : Int).toNat).size : Int) + 1))) false bt147.1 bt147.2.1 bt147.2.2 bt151.1 bt151.2.1 bt151.2.2 bt155.1 bt155.2.1 bt155.2.2) else (fleuronlaw01_OctetParts.j0 k (a0.extract 0 ((mn (a0.size : Int) 7) : Int).toNat) (Int.tmod (wrap64 (a1)) (wrap64 (((a0.extract 0 ((mn (a0.size : Int) 7) : Int).toNat).size : Int) + 1))) true bt147.1 bt147.2.1 bt147.2.2 bt151.1 bt151.2.1 bt151.2.2 bt155.1 bt155.2.1 bt155.2.2)))))) else (none)) else (none))
theorem fleuronlaw01_OctetParts.mono_l : ∀ k, (∀ y0 y1 y2 y3 y4 y5 y6 y7 y8 y9 y10 y11, LeO (fleuronlaw01_OctetParts.j0 k y0 y1 y2 y3 y4 y5 y6 y7 y8 y9 y10 y11) (fleuronlaw01_OctetParts.j0 (k + 1) y0 y1 y2 y3 y4 y5 y6 y7 y8 y9 y10 y11)) ∧ (∀ y0 y1 y2 y3 y4 y5 y6 y7 y8 y9 y10 y11 y12, LeO (fleuronlaw01_OctetParts.l0 k y0 y1 y2 y3 y4 y5 y6 y7 y8 y9 y10 y11 y12) (fleuronlaw01_OctetParts.l0 (k + 1) y0 y1 y2 y3 y4 y5 y6 y7 y8 y9 y10 y11 y12))
  | 0 => ⟨fun _ _ _ _ _ _ _ _ _ _ _ _ r h => by simp [fleuronlaw01_OctetParts.j0] at h, fun _ _ _ _ _ _ _ _ _ _ _ _ _ r h => by simp [fleuronlaw01_OctetParts.l0] at h⟩
  | k + 1 => by
    obtain ⟨ih0, ih1⟩ := fleuronlaw01_OctetParts.mono_l k
    refine ⟨?_, ?_⟩
    · intro y0 y1 y2 y3 y4 y5 y6 y7 y8 y9 y10 y11
      unfold fleuronlaw01_OctetParts.j0
      repeat' first
      | (with_reducible exact ih0 _ _ _ _ _ _ _ _ _ _ _ _)
      | (with_reducible exact ih1 _ _ _ _ _ _ _ _ _ _ _ _ _)
      | (with_reducible exact fleuronlaw01_shown.mono _)
      | (with_reducible exact octet_Put.mono _ _ _)
      | (with_reducible exact LeO.refl _)
      | (with_reducible exact LeO.none _)
      | (with_reducible refine LeO.ite ?_ ?_)
      | (with_reducible refine LeO.bind ?_ (fun _ => ?_))
      | exact ih0 _ _ _ _ _ _ _ _ _ _ _ _
      | exact ih1 _ _ _ _ _ _ _ _ _ _ _ _ _
      | exact fleuronlaw01_shown.mono _
      | exact octet_Put.mono _ _ _
      | exact LeO.none _
      | refine LeO.ite ?_ ?_
      | refine LeO.bind ?_ (fun _ => ?_)
    · intro y0 y1 y2 y3 y4 y5 y6 y7 y8 y9 y10 y11 y12
      unfold fleuronlaw01_OctetParts.l0
      repeat' first
      | (with_reducible exact ih0 _ _ _ _ _ _ _ _ _ _ _ _)
      | (with_reducible exact ih1 _ _ _ _ _ _ _ _ _ _ _ _ _)
      | (with_reducible exact fleuronlaw01_shown.mono _)
      | (with_reducible exact octet_Put.mono _ _ _)
      | (with_reducible exact LeO.refl _)
      | (with_reducible exact LeO.none _)
      | (with_reducible refine LeO.ite ?_ ?_)
      | (with_reducible refine LeO.bind ?_ (fun _ => ?_))
      | exact ih0 _ _ _ _ _ _ _ _ _ _ _ _
      | exact ih1 _ _ _ _ _ _ _ _ _ _ _ _ _
      | exact fleuronlaw01_shown.mono _
      | exact octet_Put.mono _ _ _
      | exact LeO.none _
      | refine LeO.ite ?_ ?_
      | refine LeO.bind ?_ (fun _ => ?_)
theorem fleuronlaw01_OctetParts.mono : ∀ a0 a1 k, LeO (fleuronlaw01_OctetParts.f k a0 a1) (fleuronlaw01_OctetParts.f (k + 1) a0 a1) := by
  intro a0 a1 k
  obtain ⟨ih0, ih1⟩ := fleuronlaw01_OctetParts.mono_l k
  unfold fleuronlaw01_OctetParts.f
  repeat' first
      | (with_reducible exact ih0 _ _ _ _ _ _ _ _ _ _ _ _)
      | (with_reducible exact ih1 _ _ _ _ _ _ _ _ _ _ _ _ _)
      | (with_reducible exact fleuronlaw01_shown.mono _)
      | (with_reducible exact octet_Put.mono _ _ _)
      | (with_reducible exact LeO.refl _)
      | (with_reducible exact LeO.none _)
      | (with_reducible refine LeO.ite ?_ ?_)
      | (with_reducible refine LeO.bind ?_ (fun _ => ?_))
      | exact ih0 _ _ _ _ _ _ _ _ _ _ _ _
      | exact ih1 _ _ _ _ _ _ _ _ _ _ _ _ _
      | exact fleuronlaw01_shown.mono _
      | exact octet_Put.mono _ _ _
      | exact LeO.none _
      | refine LeO.ite ?_ ?_
      | refine LeO.bind ?_ (fun _ => ?_)
set_option maxHeartbeats 8000000 in
set_option maxRecDepth 100000 in
theorem fleuronlaw01_OctetParts.calls (k : Nat) (a0 : ByteArray) (a1 : Int) (r : Bool) (w : World) (h : fleuronlaw01_OctetParts.f k a0 a1 = some r) :
    Calls Try.prog 3 #[.string a0, .int .u8 a1] w fun e w' => e = .returned (.bool r) ∧ Below w.heap.size w w' := by
  have HB := Aside0.mk (Below.refl w.heap.size w)
  have H : ((fleuronlaw01_shown.f k).bind fun t146 => (if 0 ≤ (mn (a0.size : Int) 7) then (if (mn (a0.size : Int) 7) ≤ (a0.size : Int) then (if (wrap64 (((a0.extract 0 ((mn (a0.size : Int) 7) : Int).toNat).size : Int) + 1)) = 0 then (none) else ((octet_Read.f (a0.extract 0 ((mn (a0.size : Int) 7) : Int).toNat)).bind fun bt147 => ((octet_Read.f (a0.extract 0 ((mn (a0.size : Int) 7) : Int).toNat)).bind fun bt151 => ((octet_Read.f (a0.extract 0 ((mn (a0.size : Int) 7) : Int).toNat)).bind fun bt155 => (if t146 = true then (fleuronlaw01_OctetParts.j0 k (a0.extract 0 ((mn (a0.size : Int) 7) : Int).toNat) (Int.tmod (wrap64 (a1)) (wrap64 (((a0.extract 0 ((mn (a0.size : Int) 7) : Int).toNat).size : Int) + 1))) false bt147.1 bt147.2.1 bt147.2.2 bt151.1 bt151.2.1 bt151.2.2 bt155.1 bt155.2.1 bt155.2.2) else (fleuronlaw01_OctetParts.j0 k (a0.extract 0 ((mn (a0.size : Int) 7) : Int).toNat) (Int.tmod (wrap64 (a1)) (wrap64 (((a0.extract 0 ((mn (a0.size : Int) 7) : Int).toNat).size : Int) + 1))) true bt147.1 bt147.2.1 bt147.2.2 bt151.1 bt151.2.1 bt151.2.2 bt155.1 bt155.2.1 bt155.2.2)))))) else (none)) else (none))) = some r := h
  clear h
  replace H := Option.bind_eq_some_iff.mp H
  obtain ⟨t146, A30, H⟩ := H
  replace H : (if 0 ≤ (mn (a0.size : Int) 7) then (if (mn (a0.size : Int) 7) ≤ (a0.size : Int) then (if (wrap64 (((a0.extract 0 ((mn (a0.size : Int) 7) : Int).toNat).size : Int) + 1)) = 0 then (none) else ((octet_Read.f (a0.extract 0 ((mn (a0.size : Int) 7) : Int).toNat)).bind fun bt147 => ((octet_Read.f (a0.extract 0 ((mn (a0.size : Int) 7) : Int).toNat)).bind fun bt151 => ((octet_Read.f (a0.extract 0 ((mn (a0.size : Int) 7) : Int).toNat)).bind fun bt155 => (if t146 = true then (fleuronlaw01_OctetParts.j0 k (a0.extract 0 ((mn (a0.size : Int) 7) : Int).toNat) (Int.tmod (wrap64 (a1)) (wrap64 (((a0.extract 0 ((mn (a0.size : Int) 7) : Int).toNat).size : Int) + 1))) false bt147.1 bt147.2.1 bt147.2.2 bt151.1 bt151.2.1 bt151.2.2 bt155.1 bt155.2.1 bt155.2.2) else (fleuronlaw01_OctetParts.j0 k (a0.extract 0 ((mn (a0.size : Int) 7) : Int).toNat) (Int.tmod (wrap64 (a1)) (wrap64 (((a0.extract 0 ((mn (a0.size : Int) 7) : Int).toNat).size : Int) + 1))) true bt147.1 bt147.2.1 bt147.2.2 bt151.1 bt151.2.1 bt151.2.2 bt155.1 bt155.2.1 bt155.2.2)))))) else (none)) else (none)) = some r := H
  have A3 := Aside0.mk A30
  clear A30
  obtain ⟨ji4, hji4⟩ : ∃ j_ : Int, (mn (a0.size : Int) 7) = j_ := ⟨_, rfl⟩
  replace H : (if 0 ≤ (ji4) then (if (ji4) ≤ (a0.size : Int) then (if (wrap64 (((a0.extract 0 ((ji4) : Int).toNat).size : Int) + 1)) = 0 then (none) else ((octet_Read.f (a0.extract 0 ((ji4) : Int).toNat)).bind fun bt147 => ((octet_Read.f (a0.extract 0 ((ji4) : Int).toNat)).bind fun bt151 => ((octet_Read.f (a0.extract 0 ((ji4) : Int).toNat)).bind fun bt155 => (if t146 = true then (fleuronlaw01_OctetParts.j0 k (a0.extract 0 ((ji4) : Int).toNat) (Int.tmod (wrap64 (a1)) (wrap64 (((a0.extract 0 ((ji4) : Int).toNat).size : Int) + 1))) false bt147.1 bt147.2.1 bt147.2.2 bt151.1 bt151.2.1 bt151.2.2 bt155.1 bt155.2.1 bt155.2.2) else (fleuronlaw01_OctetParts.j0 k (a0.extract 0 ((ji4) : Int).toNat) (Int.tmod (wrap64 (a1)) (wrap64 (((a0.extract 0 ((ji4) : Int).toNat).size : Int) + 1))) true bt147.1 bt147.2.1 bt147.2.2 bt151.1 bt151.2.1 bt151.2.2 bt155.1 bt155.2.1 bt155.2.2)))))) else (none)) else (none)) = some r := by first | (rw [hji4] at H; exact H) | (simp only [hji4] at H ⊢; exact H)
  obtain ⟨ys1_, hys1_⟩ : ∃ y_ : ByteArray, (a0.extract 0 ((ji4) : Int).toNat) = y_ := ⟨_, rfl⟩
  (try rw [hys1_] at H)
  (try rw [hji4] at A3)
  (try (have hji4h : ji4 ≤ 7 := by (rw [← hji4]; unfold mn; (repeat' split) <;> omega)))
  (try (have hji4g : ji4 ≤ 64 := by omega))
  (try (have hji4l : 0 ≤ ji4 := by (rw [← hji4]; unfold mn; (repeat' split) <;> omega)))
  (try (have hji4m : 0 ≤ ji4 := by omega))
  have hji4_ : (if 7 < (a0.size : Int) then 7 else (a0.size : Int)) = ji4 := hji4
  by_cases c5 : 0 ≤ (ji4)
  · rw [if_pos c5] at H
    have c5b0 := eq_true c5
    have c5b1 : decide (0 ≤ (ji4)) = true := decide_eq_true c5
    clear c5
    by_cases c6 : (ji4) ≤ (a0.size : Int)
    · rw [if_pos c6] at H
      have c6b0 := eq_true c6
      have c6b1 : decide ((ji4) ≤ (a0.size : Int)) = true := decide_eq_true c6
      clear c6
      by_cases c7 : (wrap64 ((ys1_.size : Int) + 1)) = 0
      · rw [if_pos c7] at H
        exact absurd H (by simp)
      · rw [if_neg c7] at H
        have c7b0 : ((wrap64 ((ys1_.size : Int) + 1)) == 0) = false := beq_eq_false_iff_ne.mpr c7
        have c7b1 : ((wrap64 ((ys1_.size : Int) + 1)) != 0) = true := bne_iff_ne.mpr c7
        replace H := Option.bind_eq_some_iff.mp H
        obtain ⟨⟨t147, t148, t149⟩, A80, H⟩ := H
        replace H : ((octet_Read.f ys1_).bind fun bt151 => ((octet_Read.f ys1_).bind fun bt155 => (if t146 = true then (fleuronlaw01_OctetParts.j0 k ys1_ (Int.tmod (wrap64 (a1)) (wrap64 ((ys1_.size : Int) + 1))) false t147 t148 t149 bt151.1 bt151.2.1 bt151.2.2 bt155.1 bt155.2.1 bt155.2.2) else (fleuronlaw01_OctetParts.j0 k ys1_ (Int.tmod (wrap64 (a1)) (wrap64 ((ys1_.size : Int) + 1))) true t147 t148 t149 bt151.1 bt151.2.1 bt151.2.2 bt155.1 bt155.2.1 bt155.2.2)))) = some r := H
        have A8 := Aside0.mk A80
        clear A80
        replace H := Option.bind_eq_some_iff.mp H
        obtain ⟨⟨t151, t152, t153⟩, A90, H⟩ := H
        replace H : ((octet_Read.f ys1_).bind fun bt155 => (if t146 = true then (fleuronlaw01_OctetParts.j0 k ys1_ (Int.tmod (wrap64 (a1)) (wrap64 ((ys1_.size : Int) + 1))) false t147 t148 t149 t151 t152 t153 bt155.1 bt155.2.1 bt155.2.2) else (fleuronlaw01_OctetParts.j0 k ys1_ (Int.tmod (wrap64 (a1)) (wrap64 ((ys1_.size : Int) + 1))) true t147 t148 t149 t151 t152 t153 bt155.1 bt155.2.1 bt155.2.2))) = some r := H
        have A9 := Aside0.mk A90
        clear A90
        replace H := Option.bind_eq_some_iff.mp H
        obtain ⟨⟨t155, t156, t157⟩, A100, H⟩ := H
        replace H : (if t146 = true then (fleuronlaw01_OctetParts.j0 k ys1_ (Int.tmod (wrap64 (a1)) (wrap64 ((ys1_.size : Int) + 1))) false t147 t148 t149 t151 t152 t153 t155 t156 t157) else (fleuronlaw01_OctetParts.j0 k ys1_ (Int.tmod (wrap64 (a1)) (wrap64 ((ys1_.size : Int) + 1))) true t147 t148 t149 t151 t152 t153 t155 t156 t157)) = some r := H
        have A10 := Aside0.mk A100
        clear A100
        have HC11 := Aside0.mk H
        clear H
        go_enter Try.func3, Try.ntmps3
        go_upto_region 7 with (first | ((with_reducible refine gate_callee (f := 12) rfl ?_); refine goesL_ (some 16) rfl rfl Try.func12 (by kernel_rfl) rfl #[] rfl (by (try simp only [List.map_toArray, List.map_cons, List.map_nil]); first | done | rfl | (simp only [List.length_drop, List.length_take]; rfl) | (simp only [ByteArray.size_extract, Nat.sub_zero]; rfl)) ?_; (with_reducible refine (fleuronlaw01_shown.calls k  t146 _ A3.out).mono ?_); rintro e w12 ⟨rfl, hb⟩; refine ⟨_, rfl, ?_⟩; have n0_ := Aside0.mk (below_step (by repeat (first | (with_reducible first | exact HB.out | apply below_alloc | apply pw_below_drewN | apply below_drew1) | exact HB.out)) hb); clear HB; have HB := n0_; clear n0_; (try clear hb); (try clear hb2); (try clear hk); (try clear hi)) | ((with_reducible refine gate_callee (f := 13) rfl ?_); refine goesL_ (some 29) rfl rfl Try.func13 (by kernel_rfl) rfl #[.string ys1_] rfl (by (try simp only [List.map_toArray, List.map_cons, List.map_nil]); first | done | (simp only [hji4]; rfl) | rfl | (simp only [List.length_drop, List.length_take]; rfl) | (simp only [ByteArray.size_extract, Nat.sub_zero]; rfl)) ?_; (with_reducible refine (octet_Read.calls ys1_ t147 t148 t149 w _ ?side1 A8.out).mono ?_); (case side1 => repeat (first | (with_reducible first | exact HB.out | apply below_alloc | apply pw_below_drewN | apply below_drew1) | exact HB.out)); rintro e w13 ⟨g150, rfl, hi, hb, hb2⟩; refine ⟨_, rfl, ?_⟩; have n0_ := Aside0.mk (hb); have n1_ := Aside0.mk (hi); clear HB; have HB := n0_; have HI150 := n1_; clear n0_ n1_; (try clear hb); (try clear hb2); (try clear hk); (try clear hi)) | ((with_reducible refine gate_callee (f := 13) rfl ?_); refine goesL_ (some 31) rfl rfl Try.func13 (by kernel_rfl) rfl #[.string ys1_] rfl (by (try simp only [List.map_toArray, List.map_cons, List.map_nil]); first | done | (simp only [hji4]; rfl) | rfl | (simp only [List.length_drop, List.length_take]; rfl) | (simp only [ByteArray.size_extract, Nat.sub_zero]; rfl)) ?_; (with_reducible refine (octet_Read.calls ys1_ t151 t152 t153 _ _ (Below.refl _ _) A9.out).mono ?_); rintro e w14 ⟨g154, rfl, hi, hb, hb2⟩; refine ⟨_, rfl, ?_⟩; have n0_ := Aside0.mk (IsS52.below (by repeat (first | (with_reducible first | exact HI150.out | apply IsS52.alloc | apply IsS52.drewN | apply IsS52.drew | apply IsS52.set_0 | apply IsS52.set_1 | apply IsS52.set_2) | exact HI150.out)) hb2); have n1_ := Aside0.mk (below_step (by repeat (first | (with_reducible first | exact HB.out | apply below_alloc | apply pw_below_drewN | apply below_drew1 | refine below_set ?_ (IsS52.ge HI150.out)) | exact HB.out)) hb); have n2_ := Aside0.mk ((show IsS52 w _ g154 t151 t152 t153 from ⟨hi.1, Nat.le_trans (below_size (by repeat (first | (with_reducible first | exact HB.out | apply below_alloc | apply pw_below_drewN | apply below_drew1 | refine below_set ?_ (IsS52.ge HI150.out)) | exact HB.out))) hi.2⟩)); have n3_ := Aside0.mk ((show g154 ≠ g150 from Nat.ne_of_gt (Nat.lt_of_lt_of_le (IsS52.lt (show IsS52 w _ g150 t147 t148 t149 from by repeat (first | (with_reducible first | exact HI150.out | apply IsS52.alloc | apply IsS52.drewN | apply IsS52.drew | apply IsS52.set_0 | apply IsS52.set_1 | apply IsS52.set_2) | exact HI150.out))) hi.2))); have n4_ := Aside0.mk ((show g150 ≠ g154 from Nat.ne_of_lt (Nat.lt_of_lt_of_le (IsS52.lt (show IsS52 w _ g150 t147 t148 t149 from by repeat (first | (with_reducible first | exact HI150.out | apply IsS52.alloc | apply IsS52.drewN | apply IsS52.drew | apply IsS52.set_0 | apply IsS52.set_1 | apply IsS52.set_2) | exact HI150.out))) hi.2))); clear HI150; clear HB; have HI150 := n0_; have HB := n1_; have HI154 := n2_; have NB154_150 := n3_; have NB150_154 := n4_; clear n0_ n1_ n2_ n3_ n4_; (try clear hb); (try clear hb2); (try clear hk); (try clear hi)) | ((with_reducible refine gate_callee (f := 13) rfl ?_); refine goesL_ (some 33) rfl rfl Try.func13 (by kernel_rfl) rfl #[.string ys1_] rfl (by (try simp only [List.map_toArray, List.map_cons, List.map_nil]); first | done | (simp only [hji4]; rfl) | rfl | (simp only [List.length_drop, List.length_take]; rfl) | (simp only [ByteArray.size_extract, Nat.sub_zero]; rfl)) ?_; (with_reducible refine (octet_Read.calls ys1_ t155 t156 t157 _ _ (Below.refl _ _) A10.out).mono ?_); rintro e w15 ⟨g158, rfl, hi, hb, hb2⟩; refine ⟨_, rfl, ?_⟩; have n0_ := Aside0.mk (IsS52.below (by repeat (first | (with_reducible first | exact HI150.out | apply IsS52.alloc | apply IsS52.drewN | apply IsS52.drew | apply IsS52.set_0 | apply IsS52.set_1 | apply IsS52.set_2) | exact HI150.out)) hb2); have n1_ := Aside0.mk (IsS52.below (by repeat (first | (with_reducible first | exact HI154.out | apply IsS52.alloc | apply IsS52.drewN | apply IsS52.drew | apply IsS52.set_0 | apply IsS52.set_1 | apply IsS52.set_2) | exact HI154.out)) hb2); have n2_ := Aside0.mk (below_step (by repeat (first | (with_reducible first | exact HB.out | apply below_alloc | apply pw_below_drewN | apply below_drew1 | refine below_set ?_ (IsS52.ge HI150.out) | refine below_set ?_ (IsS52.ge HI154.out)) | exact HB.out)) hb); have n3_ := Aside0.mk ((show IsS52 w _ g158 t155 t156 t157 from ⟨hi.1, Nat.le_trans (below_size (by repeat (first | (with_reducible first | exact HB.out | apply below_alloc | apply pw_below_drewN | apply below_drew1 | refine below_set ?_ (IsS52.ge HI150.out) | refine below_set ?_ (IsS52.ge HI154.out)) | exact HB.out))) hi.2⟩)); have n4_ := Aside0.mk ((show g158 ≠ g150 from Nat.ne_of_gt (Nat.lt_of_lt_of_le (IsS52.lt (show IsS52 w _ g150 t147 t148 t149 from by repeat (first | (with_reducible first | exact HI150.out | apply IsS52.alloc | apply IsS52.drewN | apply IsS52.drew | apply IsS52.set_0 | apply IsS52.set_1 | apply IsS52.set_2) | exact HI150.out))) hi.2))); have n5_ := Aside0.mk ((show g150 ≠ g158 from Nat.ne_of_lt (Nat.lt_of_lt_of_le (IsS52.lt (show IsS52 w _ g150 t147 t148 t149 from by repeat (first | (with_reducible first | exact HI150.out | apply IsS52.alloc | apply IsS52.drewN | apply IsS52.drew | apply IsS52.set_0 | apply IsS52.set_1 | apply IsS52.set_2) | exact HI150.out))) hi.2))); have n6_ := Aside0.mk ((show g158 ≠ g154 from Nat.ne_of_gt (Nat.lt_of_lt_of_le (IsS52.lt (show IsS52 w _ g154 t151 t152 t153 from by repeat (first | (with_reducible first | exact HI154.out | apply IsS52.alloc | apply IsS52.drewN | apply IsS52.drew | apply IsS52.set_0 | apply IsS52.set_1 | apply IsS52.set_2) | exact HI154.out))) hi.2))); have n7_ := Aside0.mk ((show g154 ≠ g158 from Nat.ne_of_lt (Nat.lt_of_lt_of_le (IsS52.lt (show IsS52 w _ g154 t151 t152 t153 from by repeat (first | (with_reducible first | exact HI154.out | apply IsS52.alloc | apply IsS52.drewN | apply IsS52.drew | apply IsS52.set_0 | apply IsS52.set_1 | apply IsS52.set_2) | exact HI154.out))) hi.2))); clear HI150; clear HI154; clear HB; have HI150 := n0_; have HI154 := n1_; have HB := n2_; have HI158 := n3_; have NB158_150 := n4_; have NB150_158 := n5_; have NB158_154 := n6_; have NB154_158 := n7_; clear n0_ n1_ n2_ n3_ n4_ n5_ n6_ n7_; (try clear hb); (try clear hb2); (try clear hk); (try clear hi)))
        (try simp only [Act.put, List.setIfInBounds_toArray, List.set_cons_zero, List.set_cons_succ])
        go_cut [47] (fun v47 wc => ∃ (kq : Nat) (x47_10 : Bool), v47 = .bool x47_10 ∧ Aside0 (fleuronlaw01_OctetParts.j0 kq ys1_ (Int.tmod (wrap64 (a1)) (wrap64 ((ys1_.size : Int) + 1))) x47_10 t147 t148 t149 t151 t152 t153 t155 t156 t157 = some r) ∧ Aside0 (kq ≤ k) ∧ Aside0 (IsS52 w wc g150 t147 t148 t149) ∧ Aside0 (IsS52 w wc g154 t151 t152 t153) ∧ Aside0 (IsS52 w wc g158 t155 t156 t157) ∧ Aside0 (Below w.heap.size w wc))
        case first =>
          have H := HC11.out
          clear HC11
          by_cases c16 : t146 = true
          · subst c16
            have H1 : (fleuronlaw01_OctetParts.j0 k ys1_ (Int.tmod (wrap64 (a1)) (wrap64 ((ys1_.size : Int) + 1))) false t147 t148 t149 t151 t152 t153 t155 t156 t157) = some r := by rw [if_pos rfl] at H; exact H
            clear H
            have H := H1
            clear H1
            have H' := Aside0.mk H
            clear H
            go_wp2
            go_meet
            case rel => exact ⟨_, (false), (by first | rfl | (simp; done) | (simp [*]; done)), H', ⟨by first | omega | exact Nat.le_refl _⟩, ⟨by repeat (first | (with_reducible first | exact HI150.out | apply IsS52.alloc | apply IsS52.drewN | apply IsS52.drew | apply IsS52.set_0 | apply IsS52.set_1 | apply IsS52.set_2) | exact HI150.out)⟩, ⟨by repeat (first | (with_reducible first | exact HI154.out | apply IsS52.alloc | apply IsS52.drewN | apply IsS52.drew | apply IsS52.set_0 | apply IsS52.set_1 | apply IsS52.set_2) | exact HI154.out)⟩, ⟨by repeat (first | (with_reducible first | exact HI158.out | apply IsS52.alloc | apply IsS52.drewN | apply IsS52.drew | apply IsS52.set_0 | apply IsS52.set_1 | apply IsS52.set_2) | exact HI158.out)⟩, ⟨by repeat (first | (with_reducible first | exact HB.out | apply below_alloc | apply pw_below_drewN | apply below_drew1 | refine below_set ?_ (IsS52.ge HI150.out) | refine below_set ?_ (IsS52.ge HI154.out) | refine below_set ?_ (IsS52.ge HI158.out)) | exact HB.out)⟩⟩
          · replace c16 := Bool.eq_false_iff.mpr c16
            subst c16
            have H1 : (fleuronlaw01_OctetParts.j0 k ys1_ (Int.tmod (wrap64 (a1)) (wrap64 ((ys1_.size : Int) + 1))) true t147 t148 t149 t151 t152 t153 t155 t156 t157) = some r := by rw [if_neg (show ¬ (false = true) by decide)] at H; exact H
            clear H
            have H := H1
            clear H1
            have H' := Aside0.mk H
            clear H
            go_wp2
            go_meet
            case rel => exact ⟨_, (true), (by first | rfl | (simp; done) | (simp [*]; done)), H', ⟨by first | omega | exact Nat.le_refl _⟩, ⟨by repeat (first | (with_reducible first | exact HI150.out | apply IsS52.alloc | apply IsS52.drewN | apply IsS52.drew | apply IsS52.set_0 | apply IsS52.set_1 | apply IsS52.set_2) | exact HI150.out)⟩, ⟨by repeat (first | (with_reducible first | exact HI154.out | apply IsS52.alloc | apply IsS52.drewN | apply IsS52.drew | apply IsS52.set_0 | apply IsS52.set_1 | apply IsS52.set_2) | exact HI154.out)⟩, ⟨by repeat (first | (with_reducible first | exact HI158.out | apply IsS52.alloc | apply IsS52.drewN | apply IsS52.drew | apply IsS52.set_0 | apply IsS52.set_1 | apply IsS52.set_2) | exact HI158.out)⟩, ⟨by repeat (first | (with_reducible first | exact HB.out | apply below_alloc | apply pw_below_drewN | apply below_drew1 | refine below_set ?_ (IsS52.ge HI150.out) | refine below_set ?_ (IsS52.ge HI154.out) | refine below_set ?_ (IsS52.ge HI158.out)) | exact HB.out)⟩⟩
        case rest =>
          clear HC11
          try clear c1
          try clear p2
          try clear c3
          try clear c5
          try clear c5b0
          try clear c5b1
          try clear c6
          try clear c6b0
          try clear c6b1
          try clear p6
          try clear c7
          try clear c7b0
          try clear c7b1
          try clear c12
          try clear c13
          try clear c16
          obtain ⟨kq, x47_10, rfl, HA, HJ10, HI150, HI154, HI158, HB⟩ := hcut
          cases kq with
          | zero => exact absurd HA.out (by simp [fleuronlaw01_OctetParts.j0])
          | succ kj10 =>
            have H := HA.out
            clear HA
            simp only [fleuronlaw01_OctetParts.j0] at H
            by_cases c17 : x47_10 = true
            · subst c17
              have H1 : (some false) = some r := by rw [if_pos rfl] at H; exact H
              clear H
              have H := H1
              clear H1
              obtain rfl := Option.some.inj H
              go_wp2
              go_ret
              exact ⟨by first | rfl | (simp [errW_none, errW_some] <;> rfl) | (simp only [← hji4]; first | rfl | (simp [errW_none, errW_some] <;> rfl)) | (simp [*, errW_none, errW_some] <;> rfl), by repeat (first | (with_reducible first | exact HB.out | apply below_alloc | apply pw_below_drewN | apply below_drew1 | refine below_set ?_ (IsS52.ge HI150.out) | refine below_set ?_ (IsS52.ge HI154.out) | refine below_set ?_ (IsS52.ge HI158.out)) | exact HB.out)⟩
            · replace c17 := Bool.eq_false_iff.mpr c17
              subst c17
              have H1 : ((octet_Reader_Num.f t147 t148 t149 (ys1_.size : Int)).bind fun bt159 => ((octet_Reader_Num.f t151 t152 t153 (Int.tmod (wrap64 (a1)) (wrap64 ((ys1_.size : Int) + 1)))).bind fun bt163 => ((octet_Reader_Num.f bt163.2.1 bt163.2.2.1 bt163.2.2.2 (wrap64 ((ys1_.size : Int) - (Int.tmod (wrap64 (a1)) (wrap64 ((ys1_.size : Int) + 1)))))).bind fun bt167 => (fleuronlaw01_OctetParts.l0 kj10 ys1_ (Int.tmod (wrap64 (a1)) (wrap64 ((ys1_.size : Int) + 1))) bt159.1 bt163.1 bt167.1 (⟨#[]⟩ : ByteArray) 0 bt167.2.1 bt167.2.2.1 bt167.2.2.2 t155 t156 t157)))) = some r := by rw [if_neg (show ¬ (false = true) by decide)] at H; exact H
              clear H
              have H := H1
              clear H1
              replace H := Option.bind_eq_some_iff.mp H
              obtain ⟨⟨t159, t160, t161, t162⟩, A180, H⟩ := H
              replace H : ((octet_Reader_Num.f t151 t152 t153 (Int.tmod (wrap64 (a1)) (wrap64 ((ys1_.size : Int) + 1)))).bind fun bt163 => ((octet_Reader_Num.f bt163.2.1 bt163.2.2.1 bt163.2.2.2 (wrap64 ((ys1_.size : Int) - (Int.tmod (wrap64 (a1)) (wrap64 ((ys1_.size : Int) + 1)))))).bind fun bt167 => (fleuronlaw01_OctetParts.l0 kj10 ys1_ (Int.tmod (wrap64 (a1)) (wrap64 ((ys1_.size : Int) + 1))) t159 bt163.1 bt167.1 (⟨#[]⟩ : ByteArray) 0 bt167.2.1 bt167.2.2.1 bt167.2.2.2 t155 t156 t157))) = some r := H
              have A18 := Aside0.mk A180
              clear A180
              replace H := Option.bind_eq_some_iff.mp H
              obtain ⟨⟨t163, t164, t165, t166⟩, A190, H⟩ := H
              replace H : ((octet_Reader_Num.f t164 t165 t166 (wrap64 ((ys1_.size : Int) - (Int.tmod (wrap64 (a1)) (wrap64 ((ys1_.size : Int) + 1)))))).bind fun bt167 => (fleuronlaw01_OctetParts.l0 kj10 ys1_ (Int.tmod (wrap64 (a1)) (wrap64 ((ys1_.size : Int) + 1))) t159 t163 bt167.1 (⟨#[]⟩ : ByteArray) 0 bt167.2.1 bt167.2.2.1 bt167.2.2.2 t155 t156 t157)) = some r := H
              have A19 := Aside0.mk A190
              clear A190
              replace H := Option.bind_eq_some_iff.mp H
              obtain ⟨⟨t167, t168, t169, t170⟩, A200, H⟩ := H
              replace H : (fleuronlaw01_OctetParts.l0 kj10 ys1_ (Int.tmod (wrap64 (a1)) (wrap64 ((ys1_.size : Int) + 1))) t159 t163 t167 (⟨#[]⟩ : ByteArray) 0 t168 t169 t170 t155 t156 t157) = some r := H
              have A20 := Aside0.mk A200
              clear A200
              have H' := Aside0.mk H
              clear H
              go_wp2_with (first | ((with_reducible refine gate_callee (f := 14) rfl ?_); refine goesL_ (some 51) rfl rfl Try.func14 (by kernel_rfl) rfl #[.pointer (some ⟨g150, 0, none⟩), .int .i64 (ys1_.size : Int)] rfl (by (try simp only [List.map_toArray, List.map_cons, List.map_nil]); first | done | (simp only [hji4]; rfl) | rfl | (simp only [List.length_drop, List.length_take]; rfl) | (simp only [ByteArray.size_extract, Nat.sub_zero]; rfl)) ?_; (with_reducible refine (octet_Reader_Num.calls g150 t147 t148 t149 (ys1_.size : Int) t159 t160 t161 t162 w _ ?side1 ?side2 A18.out).mono ?_); (case side1 => repeat (first | (with_reducible first | exact HI150.out | apply IsS52.alloc | apply IsS52.drewN | apply IsS52.drew | apply IsS52.set_0 | apply IsS52.set_1 | apply IsS52.set_2) | exact HI150.out)); (case side2 => repeat (first | (with_reducible first | exact HB.out | apply below_alloc | apply pw_below_drewN | apply below_drew1 | refine below_set ?_ (IsS52.ge HI150.out) | refine below_set ?_ (IsS52.ge HI154.out) | refine below_set ?_ (IsS52.ge HI158.out)) | exact HB.out)); rintro e w21 ⟨rfl, hi, hb, hk⟩; refine ⟨_, rfl, ?_⟩; have n0_ := Aside0.mk (IsS52.keepB hk (show IsS52 w _ g154 t151 t152 t153 from by repeat (first | (with_reducible first | exact HI154.out | apply IsS52.alloc | apply IsS52.drewN | apply IsS52.drew | apply IsS52.set_0 | apply IsS52.set_1 | apply IsS52.set_2) | exact HI154.out)) NB154_150.out); have n1_ := Aside0.mk (IsS52.keepB hk (show IsS52 w _ g158 t155 t156 t157 from by repeat (first | (with_reducible first | exact HI158.out | apply IsS52.alloc | apply IsS52.drewN | apply IsS52.drew | apply IsS52.set_0 | apply IsS52.set_1 | apply IsS52.set_2) | exact HI158.out)) NB158_150.out); have n2_ := Aside0.mk (hb); have n3_ := Aside0.mk (hi); clear HI154; clear HI158; clear HB; clear HI150; have HI154 := n0_; have HI158 := n1_; have HB := n2_; have HI150 := n3_; clear n0_ n1_ n2_ n3_; (try clear hb); (try clear hb2); (try clear hk); (try clear hi)) | ((with_reducible refine gate_callee (f := 14) rfl ?_); refine goesL_ (some 54) rfl rfl Try.func14 (by kernel_rfl) rfl #[.pointer (some ⟨g154, 0, none⟩), .int .i64 (Int.tmod (wrap64 (a1)) (wrap64 ((ys1_.size : Int) + 1)))] rfl (by (try simp only [List.map_toArray, List.map_cons, List.map_nil]); first | done | (simp only [hji4]; rfl) | rfl | (simp only [List.length_drop, List.length_take]; rfl) | (simp only [ByteArray.size_extract, Nat.sub_zero]; rfl)) ?_; (with_reducible refine (octet_Reader_Num.calls g154 t151 t152 t153 (Int.tmod (wrap64 (a1)) (wrap64 ((ys1_.size : Int) + 1))) t163 t164 t165 t166 w _ ?side1 ?side2 A19.out).mono ?_); (case side1 => repeat (first | (with_reducible first | exact HI154.out | apply IsS52.alloc | apply IsS52.drewN | apply IsS52.drew | apply IsS52.set_0 | apply IsS52.set_1 | apply IsS52.set_2) | exact HI154.out)); (case side2 => repeat (first | (with_reducible first | exact HB.out | apply below_alloc | apply pw_below_drewN | apply below_drew1 | refine below_set ?_ (IsS52.ge HI150.out) | refine below_set ?_ (IsS52.ge HI154.out) | refine below_set ?_ (IsS52.ge HI158.out)) | exact HB.out)); rintro e w22 ⟨rfl, hi, hb, hk⟩; refine ⟨_, rfl, ?_⟩; have n0_ := Aside0.mk (IsS52.keepB hk (show IsS52 w _ g150 t160 t161 t162 from by repeat (first | (with_reducible first | exact HI150.out | apply IsS52.alloc | apply IsS52.drewN | apply IsS52.drew | apply IsS52.set_0 | apply IsS52.set_1 | apply IsS52.set_2) | exact HI150.out)) NB150_154.out); have n1_ := Aside0.mk (IsS52.keepB hk (show IsS52 w _ g158 t155 t156 t157 from by repeat (first | (with_reducible first | exact HI158.out | apply IsS52.alloc | apply IsS52.drewN | apply IsS52.drew | apply IsS52.set_0 | apply IsS52.set_1 | apply IsS52.set_2) | exact HI158.out)) NB158_154.out); have n2_ := Aside0.mk (hb); have n3_ := Aside0.mk (hi); clear HI150; clear HI158; clear HB; clear HI154; have HI150 := n0_; have HI158 := n1_; have HB := n2_; have HI154 := n3_; clear n0_ n1_ n2_ n3_; (try clear hb); (try clear hb2); (try clear hk); (try clear hi)) | ((with_reducible refine gate_callee (f := 14) rfl ?_); refine goesL_ (some 60) rfl rfl Try.func14 (by kernel_rfl) rfl #[.pointer (some ⟨g154, 0, none⟩), .int .i64 (wrap64 ((ys1_.size : Int) - (Int.tmod (wrap64 (a1)) (wrap64 ((ys1_.size : Int) + 1)))))] rfl (by (try simp only [List.map_toArray, List.map_cons, List.map_nil]); first | done | (simp only [hji4]; rfl) | rfl | (simp only [List.length_drop, List.length_take]; rfl) | (simp only [ByteArray.size_extract, Nat.sub_zero]; rfl)) ?_; (with_reducible refine (octet_Reader_Num.calls g154 t164 t165 t166 (wrap64 ((ys1_.size : Int) - (Int.tmod (wrap64 (a1)) (wrap64 ((ys1_.size : Int) + 1))))) t167 t168 t169 t170 w _ ?side1 ?side2 A20.out).mono ?_); (case side1 => repeat (first | (with_reducible first | exact HI154.out | apply IsS52.alloc | apply IsS52.drewN | apply IsS52.drew | apply IsS52.set_0 | apply IsS52.set_1 | apply IsS52.set_2) | exact HI154.out)); (case side2 => repeat (first | (with_reducible first | exact HB.out | apply below_alloc | apply pw_below_drewN | apply below_drew1 | refine below_set ?_ (IsS52.ge HI150.out) | refine below_set ?_ (IsS52.ge HI154.out) | refine below_set ?_ (IsS52.ge HI158.out)) | exact HB.out)); rintro e w23 ⟨rfl, hi, hb, hk⟩; refine ⟨_, rfl, ?_⟩; have n0_ := Aside0.mk (IsS52.keepB hk (show IsS52 w _ g150 t160 t161 t162 from by repeat (first | (with_reducible first | exact HI150.out | apply IsS52.alloc | apply IsS52.drewN | apply IsS52.drew | apply IsS52.set_0 | apply IsS52.set_1 | apply IsS52.set_2) | exact HI150.out)) NB150_154.out); have n1_ := Aside0.mk (IsS52.keepB hk (show IsS52 w _ g158 t155 t156 t157 from by repeat (first | (with_reducible first | exact HI158.out | apply IsS52.alloc | apply IsS52.drewN | apply IsS52.drew | apply IsS52.set_0 | apply IsS52.set_1 | apply IsS52.set_2) | exact HI158.out)) NB158_154.out); have n2_ := Aside0.mk (hb); have n3_ := Aside0.mk (hi); clear HI150; clear HI158; clear HB; clear HI154; have HI150 := n0_; have HI158 := n1_; have HB := n2_; have HI154 := n3_; clear n0_ n1_ n2_ n3_; (try clear hb); (try clear hb2); (try clear hk); (try clear hi)))
              go_loopg [14, 15] kj10 (fun kq v14 v15 w' => ∃ (x14_2 : ByteArray) (x15_2 : Int) (x159000_2 : ByteArray) (x159001_2 : Int) (x159002_2 : Bool), v14 = .string x14_2 ∧ v15 = .int .i64 x15_2 ∧ Aside0 (fleuronlaw01_OctetParts.l0 kq ys1_ (Int.tmod (wrap64 (a1)) (wrap64 ((ys1_.size : Int) + 1))) t159 t163 t167 x14_2 x15_2 t168 t169 t170 x159000_2 x159001_2 x159002_2 = some r) ∧ Aside0 (kq ≤ kj10) ∧ Aside0 (IsS52 w w' g154 t168 t169 t170) ∧ Aside0 (IsS52 w w' g158 x159000_2 x159001_2 x159002_2) ∧ Aside0 (Below w.heap.size w w'))
              case atStart => exact ⟨((⟨#[]⟩ : ByteArray)), (0), (t155), (t156), (t157), (by first | rfl | (simp; done) | (simp [*]; done)), (by first | rfl | (simp; done) | (simp [*]; done)), H', ⟨Nat.le_refl _⟩, ⟨by repeat (first | (with_reducible first | exact HI154.out | apply IsS52.alloc | apply IsS52.drewN | apply IsS52.drew | apply IsS52.set_0 | apply IsS52.set_1 | apply IsS52.set_2) | exact HI154.out)⟩, ⟨by repeat (first | (with_reducible first | exact HI158.out | apply IsS52.alloc | apply IsS52.drewN | apply IsS52.drew | apply IsS52.set_0 | apply IsS52.set_1 | apply IsS52.set_2) | exact HI158.out)⟩, ⟨by repeat (first | (with_reducible first | exact HB.out | apply below_alloc | apply pw_below_drewN | apply below_drew1 | refine below_set ?_ (IsS52.ge HI150.out) | refine below_set ?_ (IsS52.ge HI154.out) | refine below_set ?_ (IsS52.ge HI158.out)) | exact HB.out)⟩⟩
              case round =>
                clear H'
                try clear c1
                try clear p2
                try clear c3
                try clear c5
                try clear c5b0
                try clear c5b1
                try clear c6
                try clear c6b0
                try clear c6b1
                try clear p6
                try clear c7
                try clear c7b0
                try clear c7b1
                try clear c12
                try clear c13
                try clear c14
                try clear c16
                try clear c17
                try clear p2
                try clear p6
                obtain ⟨x14_2, x15_2, x159000_2, x159001_2, x159002_2, rfl, rfl, HA, HK2, HI154, HI158, HB⟩ := hrel
                cases gk with
                | zero => exact absurd HA.out (by simp [fleuronlaw01_OctetParts.l0])
                | succ k2 =>
                  have H := HA.out
                  clear HA
                  simp only [fleuronlaw01_OctetParts.l0] at H
                  by_cases c24 : x15_2 < (ys1_.size : Int)
                  · rw [if_pos c24] at H
                    have c24b0 : decide (x15_2 < (ys1_.size : Int)) = true := decide_eq_true c24
                    clear c24
                    replace H := Option.bind_eq_some_iff.mp H
                    obtain ⟨⟨t171, t172, t173, t174⟩, A250, H⟩ := H
                    replace H : (if x14_2.size + t171.size ≤ 9223372036854775807 then (fleuronlaw01_OctetParts.l0 k2 ys1_ (Int.tmod (wrap64 (a1)) (wrap64 ((ys1_.size : Int) + 1))) t159 t163 t167 (x14_2 ++ t171) (wrap64 (x15_2 + 1)) t168 t169 t170 t172 t173 t174) else (none)) = some r := H
                    have A25 := Aside0.mk A250
                    clear A250
                    by_cases c26 : x14_2.size + t171.size ≤ 9223372036854775807
                    · rw [if_pos c26] at H
                      have c26b0 := eq_true c26
                      have c26b1 : decide (x14_2.size + t171.size ≤ 9223372036854775807) = true := decide_eq_true c26
                      try have c26b2 : (9223372036854775807 < x14_2.size + t171.size) = False := eq_false (Nat.not_lt.2 c26)
                      have H' := Aside0.mk H
                      clear H
                      go_wp2_with (first | ((with_reducible refine gate_callee (f := 15) rfl ?_); refine goesL_ (some 69) rfl rfl Try.func15 (by kernel_rfl) rfl #[.pointer (some ⟨g158, 0, none⟩), .int .i64 1] rfl (by (try simp only [List.map_toArray, List.map_cons, List.map_nil]); first | done | rfl | (simp only [List.length_drop, List.length_take]; rfl) | (simp only [ByteArray.size_extract, Nat.sub_zero]; rfl)) ?_; (with_reducible refine (octet_Reader_Take.calls g158 x159000_2 x159001_2 x159002_2 1 t171 t172 t173 t174 w _ ?side1 ?side2 A25.out).mono ?_); (case side1 => repeat (first | (with_reducible first | exact HI158.out | apply IsS52.alloc | apply IsS52.drewN | apply IsS52.drew | apply IsS52.set_0 | apply IsS52.set_1 | apply IsS52.set_2) | exact HI158.out)); (case side2 => repeat (first | (with_reducible first | exact HB.out | apply below_alloc | apply pw_below_drewN | apply below_drew1 | refine below_set ?_ (IsS52.ge HI154.out) | refine below_set ?_ (IsS52.ge HI158.out)) | exact HB.out)); rintro e w27 ⟨rfl, hi, hb, hk⟩; refine ⟨_, rfl, ?_⟩; have n0_ := Aside0.mk (IsS52.keepB hk (show IsS52 w _ g154 t168 t169 t170 from by repeat (first | (with_reducible first | exact HI154.out | apply IsS52.alloc | apply IsS52.drewN | apply IsS52.drew | apply IsS52.set_0 | apply IsS52.set_1 | apply IsS52.set_2) | exact HI154.out)) NB154_158.out); have n1_ := Aside0.mk (hb); have n2_ := Aside0.mk (hi); clear HI154; clear HB; clear HI158; have HI154 := n0_; have HB := n1_; have HI158 := n2_; clear n0_ n1_ n2_; (try clear hb); (try clear hb2); (try clear hk); (try clear hi)))
                      go_roundg k2
                      case measure => have := HJ10.out; have := HK2.out; omega
                      case rel => exact ⟨(x14_2 ++ t171), (wrap64 (x15_2 + 1)), (t172), (t173), (t174), (by first | rfl | (simp; done) | (simp [*]; done)), (by first | rfl | (simp; done) | (simp [*]; done)), H', ⟨by have := HJ10.out; have := HK2.out; omega⟩, ⟨by repeat (first | (with_reducible first | exact HI154.out | apply IsS52.alloc | apply IsS52.drewN | apply IsS52.drew | apply IsS52.set_0 | apply IsS52.set_1 | apply IsS52.set_2) | exact HI154.out)⟩, ⟨by repeat (first | (with_reducible first | exact HI158.out | apply IsS52.alloc | apply IsS52.drewN | apply IsS52.drew | apply IsS52.set_0 | apply IsS52.set_1 | apply IsS52.set_2) | exact HI158.out)⟩, ⟨by repeat (first | (with_reducible first | exact HB.out | apply below_alloc | apply pw_below_drewN | apply below_drew1 | refine below_set ?_ (IsS52.ge HI154.out) | refine below_set ?_ (IsS52.ge HI158.out)) | exact HB.out)⟩⟩
                    · rw [if_neg c26] at H
                      exact absurd H (by simp)
                  · rw [if_neg c24] at H
                    have c24b0 : decide (x15_2 < (ys1_.size : Int)) = false := decide_eq_false c24
                    clear c24
                    obtain ⟨ji28, hji28⟩ : ∃ j_ : Int, (wrap64 (8 * (wrap64 ((ys1_.size : Int) - (Int.tmod (wrap64 (a1)) (wrap64 ((ys1_.size : Int) + 1))))))) = j_ := ⟨_, rfl⟩
                    (try rw [hji28] at hji4)
                    (try rw [hji28] at hji4w)
                    replace H : (if 0 ≤ (ji28) then (if t159 = (wrap64 ((shl .i64 t163 (ji28)) + t167)) then (if x14_2.toList = ys1_.toList then ((octet_Reader_Failed.f t168 t169 t170).bind fun bt175 => (if bt175.1 = true then (some false) else ((octet_Put.f k2 t159 (ys1_.size : Int)).bind fun t179 => (some (t179.toList == ys1_.toList))))) else (some false)) else (some false)) else (none)) = some r := by first | (rw [hji28] at H; exact H) | (simp only [hji28] at H ⊢; exact H)
                    have hji28w : (IntKind.i64.wrap (8 * (wrap64 ((ys1_.size : Int) - (Int.tmod (wrap64 (a1)) (wrap64 ((ys1_.size : Int) + 1))))))) = ji28 := (i64_w _).trans hji28
                    by_cases c29 : 0 ≤ (ji28)
                    · rw [if_pos c29] at H
                      have c29b0 := eq_true c29
                      have c29b1 : decide (0 ≤ (ji28)) = true := decide_eq_true c29
                      clear c29
                      obtain ⟨ji30, hji30⟩ : ∃ j_ : Int, (shl .i64 t163 (ji28)) = j_ := ⟨_, rfl⟩
                      (try rw [hji30] at hji4)
                      (try rw [hji30] at hji4w)
                      (try rw [hji30] at hji28)
                      (try rw [hji30] at hji28w)
                      replace H : (if t159 = (wrap64 ((ji30) + t167)) then (if x14_2.toList = ys1_.toList then ((octet_Reader_Failed.f t168 t169 t170).bind fun bt175 => (if bt175.1 = true then (some false) else ((octet_Put.f k2 t159 (ys1_.size : Int)).bind fun t179 => (some (t179.toList == ys1_.toList))))) else (some false)) else (some false)) = some r := by first | (rw [hji30] at H; exact H) | (simp only [hji30] at H ⊢; exact H)
                      have hji30_ : (IntKind.i64.wrap (t163 * 2 ^ min (ji28).toNat 64)) = ji30 := hji30
                      have hji30z : (ji28) ≤ 64 → (IntKind.i64.wrap (t163 * 2 ^ (ji28).toNat)) = ji30 := shl_small hji30
                      have hji30y : (wrap64 (t163 * 2 ^ min (ji28).toNat 64)) = ji30 := (i64_w _).symm.trans hji30_
                      have hji30x : (ji28) ≤ 64 → (wrap64 (t163 * 2 ^ (ji28).toNat)) = ji30 := fun h_ => (i64_w _).symm.trans (hji30z h_)
                      by_cases c31 : t159 = (wrap64 ((ji30) + t167))
                      · rw [if_pos c31] at H
                        have c31b0 : (t159 == (wrap64 ((ji30) + t167))) = true := beq_iff_eq.mpr c31
                        have c31b1 : (t159 != (wrap64 ((ji30) + t167))) = false := bne_eq_false_iff_eq.mpr c31
                        clear c31
                        by_cases c32 : x14_2.toList = ys1_.toList
                        · rw [if_pos c32] at H
                          have c32b0 : (x14_2.toList == ys1_.toList) = true := beq_iff_eq.mpr c32
                          have c32b1 : (x14_2.toList != ys1_.toList) = false := bne_eq_false_iff_eq.mpr c32
                          clear c32
                          replace H := Option.bind_eq_some_iff.mp H
                          obtain ⟨⟨t175, t176, t177, t178⟩, A330, H⟩ := H
                          replace H : (if t175 = true then (some false) else ((octet_Put.f k2 t159 (ys1_.size : Int)).bind fun t179 => (some (t179.toList == ys1_.toList)))) = some r := H
                          have A33 := Aside0.mk A330
                          clear A330
                          by_cases c34 : t175 = true
                          · subst c34
                            have H1 : (some false) = some r := by rw [if_pos rfl] at H; exact H
                            clear H
                            have H := H1
                            clear H1
                            obtain rfl := Option.some.inj H
                            go_wp2_with (first | (go_at_call 16; (with_reducible refine (octet_Reader_Failed.calls g154 t168 t169 t170 true t176 t177 t178 w _ ?side1 ?side2 A33.out).mono ?_); (case side1 => repeat (first | (with_reducible first | exact HI154.out | apply IsS52.alloc | apply IsS52.drewN | apply IsS52.drew | apply IsS52.set_0 | apply IsS52.set_1 | apply IsS52.set_2) | exact HI154.out)); (case side2 => repeat (first | (with_reducible first | exact HB.out | apply below_alloc | apply pw_below_drewN | apply below_drew1 | refine below_set ?_ (IsS52.ge HI154.out) | refine below_set ?_ (IsS52.ge HI158.out)) | exact HB.out)); rintro e w35 ⟨rfl, hi, hb, hk⟩; have n0_ := Aside0.mk (IsS52.keepB hk (show IsS52 w _ g158 x159000_2 x159001_2 x159002_2 from by repeat (first | (with_reducible first | exact HI158.out | apply IsS52.alloc | apply IsS52.drewN | apply IsS52.drew | apply IsS52.set_0 | apply IsS52.set_1 | apply IsS52.set_2) | exact HI158.out)) NB158_154.out); have n1_ := Aside0.mk (hb); have n2_ := Aside0.mk (hi); clear HI158; clear HB; clear HI154; have HI158 := n0_; have HB := n1_; have HI154 := n2_; clear n0_ n1_ n2_; (try clear hb); (try clear hb2); (try clear hk); (try clear hi)))
                            go_ret
                            exact ⟨by first | rfl | (simp [errW_none, errW_some] <;> rfl) | (simp only [← hji4, ← hji28, ← hji30]; first | rfl | (simp [errW_none, errW_some] <;> rfl)) | (simp [*, errW_none, errW_some] <;> rfl), by repeat (first | (with_reducible first | exact HB.out | apply below_alloc | apply pw_below_drewN | apply below_drew1 | refine below_set ?_ (IsS52.ge HI154.out) | refine below_set ?_ (IsS52.ge HI158.out)) | exact HB.out)⟩
                          · replace c34 := Bool.eq_false_iff.mpr c34
                            subst c34
                            have H1 : ((octet_Put.f k2 t159 (ys1_.size : Int)).bind fun t179 => (some (t179.toList == ys1_.toList))) = some r := by rw [if_neg (show ¬ (false = true) by decide)] at H; exact H
                            clear H
                            have H := H1
                            clear H1
                            replace H := Option.bind_eq_some_iff.mp H
                            obtain ⟨t179, A360, H⟩ := H
                            replace H : (some (t179.toList == ys1_.toList)) = some r := H
                            have A36 := Aside0.mk A360
                            clear A360
                            obtain rfl := Option.some.inj H
                            go_wp2_with (first | (go_at_call 16; (with_reducible refine (octet_Reader_Failed.calls g154 t168 t169 t170 false t176 t177 t178 w _ ?side1 ?side2 A33.out).mono ?_); (case side1 => repeat (first | (with_reducible first | exact HI154.out | apply IsS52.alloc | apply IsS52.drewN | apply IsS52.drew | apply IsS52.set_0 | apply IsS52.set_1 | apply IsS52.set_2) | exact HI154.out)); (case side2 => repeat (first | (with_reducible first | exact HB.out | apply below_alloc | apply pw_below_drewN | apply below_drew1 | refine below_set ?_ (IsS52.ge HI154.out) | refine below_set ?_ (IsS52.ge HI158.out)) | exact HB.out)); rintro e w37 ⟨rfl, hi, hb, hk⟩; have n0_ := Aside0.mk (IsS52.keepB hk (show IsS52 w _ g158 x159000_2 x159001_2 x159002_2 from by repeat (first | (with_reducible first | exact HI158.out | apply IsS52.alloc | apply IsS52.drewN | apply IsS52.drew | apply IsS52.set_0 | apply IsS52.set_1 | apply IsS52.set_2) | exact HI158.out)) NB158_154.out); have n1_ := Aside0.mk (hb); have n2_ := Aside0.mk (hi); clear HI158; clear HB; clear HI154; have HI158 := n0_; have HB := n1_; have HI154 := n2_; clear n0_ n1_ n2_; (try clear hb); (try clear hb2); (try clear hk); (try clear hi)) | (go_at_call 17; (with_reducible refine (octet_Put.calls k2 t159 (ys1_.size : Int) t179 _ A36.out).mono ?_); rintro e w38 ⟨rfl, hb⟩; have n0_ := Aside0.mk (IsS52.below (by repeat (first | (with_reducible first | exact HI154.out | apply IsS52.alloc | apply IsS52.drewN | apply IsS52.drew | apply IsS52.set_0 | apply IsS52.set_1 | apply IsS52.set_2) | exact HI154.out)) hb); have n1_ := Aside0.mk (IsS52.below (by repeat (first | (with_reducible first | exact HI158.out | apply IsS52.alloc | apply IsS52.drewN | apply IsS52.drew | apply IsS52.set_0 | apply IsS52.set_1 | apply IsS52.set_2) | exact HI158.out)) hb); have n2_ := Aside0.mk (below_step (by repeat (first | (with_reducible first | exact HB.out | apply below_alloc | apply pw_below_drewN | apply below_drew1 | refine below_set ?_ (IsS52.ge HI154.out) | refine below_set ?_ (IsS52.ge HI158.out)) | exact HB.out)) hb); clear HI154; clear HI158; clear HB; have HI154 := n0_; have HI158 := n1_; have HB := n2_; clear n0_ n1_ n2_; (try clear hb); (try clear hb2); (try clear hk); (try clear hi)))
                            go_ret
                            exact ⟨by first | rfl | (simp [errW_none, errW_some] <;> rfl) | (simp only [← hji4, ← hji28, ← hji30]; first | rfl | (simp [errW_none, errW_some] <;> rfl)) | (simp [*, errW_none, errW_some] <;> rfl), by repeat (first | (with_reducible first | exact HB.out | apply below_alloc | apply pw_below_drewN | apply below_drew1 | refine below_set ?_ (IsS52.ge HI154.out) | refine below_set ?_ (IsS52.ge HI158.out)) | exact HB.out)⟩
                        · rw [if_neg c32] at H
                          have c32b0 : (x14_2.toList == ys1_.toList) = false := beq_eq_false_iff_ne.mpr c32
                          have c32b1 : (x14_2.toList != ys1_.toList) = true := bne_iff_ne.mpr c32
                          obtain rfl := Option.some.inj H
                          go_wp2
                          go_ret
                          exact ⟨by first | rfl | (simp [errW_none, errW_some] <;> rfl) | (simp only [← hji4, ← hji28, ← hji30]; first | rfl | (simp [errW_none, errW_some] <;> rfl)) | (simp [*, errW_none, errW_some] <;> rfl), by repeat (first | (with_reducible first | exact HB.out | apply below_alloc | apply pw_below_drewN | apply below_drew1 | refine below_set ?_ (IsS52.ge HI154.out) | refine below_set ?_ (IsS52.ge HI158.out)) | exact HB.out)⟩
                      · rw [if_neg c31] at H
                        have c31b0 : (t159 == (wrap64 ((ji30) + t167))) = false := beq_eq_false_iff_ne.mpr c31
                        have c31b1 : (t159 != (wrap64 ((ji30) + t167))) = true := bne_iff_ne.mpr c31
                        obtain rfl := Option.some.inj H
                        go_wp2
                        go_ret
                        exact ⟨by first | rfl | (simp [errW_none, errW_some] <;> rfl) | (simp only [← hji4, ← hji28, ← hji30]; first | rfl | (simp [errW_none, errW_some] <;> rfl)) | (simp [*, errW_none, errW_some] <;> rfl), by repeat (first | (with_reducible first | exact HB.out | apply below_alloc | apply pw_below_drewN | apply below_drew1 | refine below_set ?_ (IsS52.ge HI154.out) | refine below_set ?_ (IsS52.ge HI158.out)) | exact HB.out)⟩
                    · rw [if_neg c29] at H
                      exact absurd H (by simp)
    · rw [if_neg c6] at H
      exact absurd H (by simp)
  · rw [if_neg c5] at H
    exact absurd H (by simp)

/-- THE ONE PURE STATEMENT of fleuronlaw01_OctetParts: yours. -/
def fleuronlaw01_OctetParts.Pure : Prop := ∀ (a0 : ByteArray) (a1 : Int), a0.size ≤ 140737488351232 → (Lit.int .u8 a1).wf = true → ∃ k, fleuronlaw01_OctetParts.f k a0 a1 = some true
theorem fleuronlaw01_OctetParts.walk (P : fleuronlaw01_OctetParts.Pure) (a0 : ByteArray) (a1 : Int) (w : World) (w0 : a0.size ≤ 140737488351232) (w1 : (Lit.int .u8 a1).wf = true) :
    Calls Try.prog 3 #[.string a0, .int .u8 a1] w fun e w' => e = .returned (.bool true) ∧ Below w.heap.size w w' := by
  obtain ⟨k, h⟩ := P a0 a1 w0 w1
  refine (fleuronlaw01_OctetParts.calls k a0 a1 true w h).mono ?_
  rintro e w' ⟨rfl, hd⟩
  exact ⟨rfl, hd⟩

/-! ### fleuronlaw01_few: function 18 -/
def fleuronlaw01_few.f (a0 : ByteArray) : Option (ByteArray) := if 0 ≤ (mn (a0.size : Int) 200) then (if (mn (a0.size : Int) 200) ≤ (a0.size : Int) then (some (a0.extract 0 ((mn (a0.size : Int) 200) : Int).toNat)) else (none)) else (none)
set_option maxHeartbeats 8000000 in
set_option maxRecDepth 100000 in
theorem fleuronlaw01_few.calls (a0 : ByteArray) (r : ByteArray) (w : World) (h : fleuronlaw01_few.f a0 = some r) :
    Calls Try.prog 18 #[.string a0] w fun e w' => e = .returned (.string r) ∧ Below w.heap.size w w' := by
  have HB := Aside0.mk (Below.refl w.heap.size w)
  have H : (if 0 ≤ (mn (a0.size : Int) 200) then (if (mn (a0.size : Int) 200) ≤ (a0.size : Int) then (some (a0.extract 0 ((mn (a0.size : Int) 200) : Int).toNat)) else (none)) else (none)) = some r := h
  clear h
  obtain ⟨ji2, hji2⟩ : ∃ j_ : Int, (mn (a0.size : Int) 200) = j_ := ⟨_, rfl⟩
  replace H : (if 0 ≤ (ji2) then (if (ji2) ≤ (a0.size : Int) then (some (a0.extract 0 ((ji2) : Int).toNat)) else (none)) else (none)) = some r := by first | (rw [hji2] at H; exact H) | (simp only [hji2] at H ⊢; exact H)
  obtain ⟨ys2_, hys2_⟩ : ∃ y_ : ByteArray, (a0.extract 0 ((ji2) : Int).toNat) = y_ := ⟨_, rfl⟩
  (try rw [hys2_] at H)
  (try (have hji2h : ji2 ≤ 200 := by (rw [← hji2]; unfold mn; (repeat' split) <;> omega)))
  (try (have hji2g : ji2 ≤ 64 := by omega))
  (try (have hji2l : 0 ≤ ji2 := by (rw [← hji2]; unfold mn; (repeat' split) <;> omega)))
  (try (have hji2m : 0 ≤ ji2 := by omega))
  have hji2_ : (if 200 < (a0.size : Int) then 200 else (a0.size : Int)) = ji2 := hji2
  by_cases c3 : 0 ≤ (ji2)
  · rw [if_pos c3] at H
    have c3b0 := eq_true c3
    have c3b1 : decide (0 ≤ (ji2)) = true := decide_eq_true c3
    clear c3
    by_cases c4 : (ji2) ≤ (a0.size : Int)
    · rw [if_pos c4] at H
      have c4b0 := eq_true c4
      have c4b1 : decide ((ji2) ≤ (a0.size : Int)) = true := decide_eq_true c4
      clear c4
      obtain rfl := Option.some.inj H
      go_enter Try.func18, Try.ntmps18
      go_wp2
      go_ret
      exact ⟨by first | rfl | (simp [errW_none, errW_some] <;> rfl) | (simp only [← hji2]; first | rfl | (simp [errW_none, errW_some] <;> rfl)) | (simp [*, errW_none, errW_some] <;> rfl), by repeat (first | (with_reducible first | exact HB.out | apply below_alloc | apply pw_below_drewN | apply below_drew1) | exact HB.out)⟩
    · rw [if_neg c4] at H
      exact absurd H (by simp)
  · rw [if_neg c3] at H
    exact absurd H (by simp)

/-! ### octet_Reader_Int: function 24 -/
def seenInt (a1 n : Int) : Int := wrap64 (n * 2 ^ (64 - 8 * a1).toNat) / 2 ^ (64 - 8 * a1).toNat
theorem cell_lt {w : World} {p : Addr} {v : Value} (h : w.cell? p = some v) : p.block < w.heap.size := by
  unfold World.cell? at h
  cases hb : w.heap[p.block]? with
  | none => rw [hb] at h; cases h
  | some o => exact blk_lt hb
set_option maxHeartbeats 1000000 in
set_option maxRecDepth 100000 in
theorem num_int (B : Nat) (g : Nat) (s : ByteArray) (p : Int) (b : Bool) (a1 : Int) (t t1 : ByteArray) (t2 : Int) (t3 : Bool) (w0 w : World) (hI : IsS52 w0 w g s p b) (hB : Below w0.heap.size w0 w) (h0 : 0 ≤ a1) (h8 : a1 ≤ 8) (ht : t.size ≤ 8)
    (hBox : w.cell? ⟨B, 0, none⟩ = some (.int .i64 a1)) (hne : B ≠ g)
    (hT : octet_Reader_Take.f s p b a1 = some (t, t1, t2, t3)) :
    Calls Try.prog 31 #[.pointer (some ⟨g, 0, none⟩), .int .i64 a1, .func (.func 34) #[] #[.pointer (some ⟨B, 0, none⟩)]] w fun e w' => e = .returned (.int .i64 (seenInt a1 (beNum (bytesOf t)))) ∧ IsS52 w0 w' g t1 t2 t3 ∧ Below w0.heap.size w0 w' ∧ KeepBut w w' g none := by
  have HI0 := Aside0.mk hI
  have HK := Aside0.mk (KeepBut.refl w g none)
  have HL := Aside0.mk hB.size
  clear hI
  have HW0 := Aside0.mk hB.size
  have HB := Aside0.mk hB
  clear hB
  have HT := Aside0.mk hT
  clear hT
  have kb := fun W => print_bytes (P := Try.prog) 9 33 5 Try.underlying9 Try.underlying33 Try.underlying5 t W
  go_enter Try.func31, Try.ntmps31
  go_wp2_with fail
  refine (octet_Reader_Take.calls g s p b a1 t t1 t2 t3 w0 _ HI0.out HB.out HT.out).mono ?_
  rintro e w9 ⟨rfl, hi, hb, hk⟩
  have hBox9 := keep_cell hk hBox hne
  have hBox10 : (Lib.bytesWorld w9 5 t).cell? ⟨B, 0, none⟩ = some (.int .i64 a1) := (bytes_below (Below.refl _ w9) (Nat.le_refl _) 5 t).cell (p := ⟨B, 0, none⟩) (cell_lt hBox9) |>.trans hBox9
  clear hBox hBox9
  have HI := Aside0.mk hi
  have HB1 := Aside0.mk hb
  have HK1 := Aside0.mk hk
  clear hi hb hk
  go_wp2
  have hr := Aside0.mk (bytes_reads w9 5 t (by omega))
  have hbl := Aside0.mk (bytesOf_length t)
  go_loop [7, 23] (fun v7 v23 => ∃ i : Nat, i ≤ t.size ∧ v23 = .int .i64 i ∧ v7 = .int .i64 (beNum ((bytesOf t).take i))) (fun _ v23 => t.size - (intOf v23).toNat)
  case atStart => exact ⟨0, Nat.zero_le _, rfl, rfl⟩
  case round =>
    obtain ⟨i, hi, rfl, rfl⟩ := hrel
    by_cases hlt : i < t.size
    · have hc : (Lib.bytesWorld w9 5 t).cell? ⟨w9.heap.size, i, none⟩ = some (.int .u8 (rd (bytesOf t) i)) := by
        obtain ⟨ad, e, hc⟩ := hr.out.at_ (i : Int) (by omega) (by omega)
        cases e
        rw [add_plain] at hc
        exact hc
      have hbd : 0 ≤ rd (bytesOf t) i := by rw [rd_bytesOf]; exact (bt_range t i).1
      have hbd2 : rd (bytesOf t) i ≤ 255 := by rw [rd_bytesOf]; exact (bt_range t i).2
      have hsn := Aside0.mk (take_snoc_rd (bytesOf t) i (by rw [hbl.out]; exact hlt))
      go_wp2
      go_round
      case rel => exact ⟨i + 1, by omega, by go_num, by rw [hsn.out, beNum_snoc]; rfl⟩
      case measure => simp [intOf]; omega
    · go_wp2
      go_ret
      refine ⟨?_, ?_, ?_, ?_⟩
      · exact ret_int (by rw [List.take_of_length_le (by rw [hbl.out]; omega)]; rfl)
      · exact IsS52.below HI.out (bytes_below (Below.refl _ _) (Nat.le_refl _) 5 t)
      · exact bytes_below HB1.out (HB1.out.size) 5 t
      · exact KeepBut.trans HK1.out (KeepBut.of_below (bytes_below (Below.refl _ _) (Nat.le_refl _) 5 t) g none) (.inl rfl)

def octet_Reader_Int.f (s0_0 : ByteArray) (s0_1 : Int) (s0_2 : Bool) (a1 : Int) : Option (Int × ByteArray × Int × Bool) :=
  if a1 < 0 then some (0, s0_0, s0_1, true) else if 8 < a1 then some (0, s0_0, s0_1, true) else
    (octet_Reader_Take.f s0_0 s0_1 s0_2 a1).bind fun t => if t.1.size ≤ 8 then some (seenInt a1 (beNum (bytesOf t.1)), t.2.1, t.2.2.1, t.2.2.2) else none

set_option maxHeartbeats 1000000 in
set_option maxRecDepth 100000 in
theorem octet_Reader_Int.calls (g : Nat) (s0_0 : ByteArray) (s0_1 : Int) (s0_2 : Bool) (a1 : Int) (r1 : Int) (r2 : ByteArray) (r3 : Int) (r4 : Bool) (w0 w : World) (hI : IsS52 w0 w g s0_0 s0_1 s0_2) (hB : Below w0.heap.size w0 w) (h : octet_Reader_Int.f s0_0 s0_1 s0_2 a1 = some (r1, r2, r3, r4)) :
    Calls Try.prog 24 #[.pointer (some ⟨g, 0, none⟩), .int .i64 a1] w fun e w' => e = .returned (.int .i64 r1) ∧ IsS52 w0 w' g r2 r3 r4 ∧ Below w0.heap.size w0 w' ∧ KeepBut w w' g none := by
  have HC : Aside0 (∀ W : World, W = w.alloc (.cells #[.int .i64 a1] 3) → Calls Try.prog 31 #[.pointer (some ⟨g, 0, none⟩), .int .i64 a1, .func (.func 34) #[] #[.pointer (some ⟨w.heap.size, 0, none⟩)]] W fun e w' => e = .returned (.int .i64 r1) ∧ IsS52 w0 w' g r2 r3 r4 ∧ Below w0.heap.size w0 w' ∧ KeepBut W w' g none) := by
    constructor
    rintro W rfl
    have hI' := hI.alloc (.cells #[.int .i64 a1] 3)
    have hB' := below_alloc hB (.cells #[.int .i64 a1] 3)
    have hlt := hI.lt
    unfold octet_Reader_Int.f at h
    split at h
    · cases h; exact num_fails 34 _ g _ _ _ a1 w0 _ hI' hB' (.inl ‹_›)
    · split at h
      · cases h; exact num_fails 34 _ g _ _ _ a1 w0 _ hI' hB' (.inr ‹_›)
      · obtain ⟨⟨t, t1, t2, t3⟩, hT, h⟩ := Option.bind_eq_some_iff.mp h
        dsimp only at h
        split at h
        · cases h
          exact num_int w.heap.size g _ _ _ a1 t _ _ _ w0 _ hI' hB' (by omega) (by omega) ‹_› ((blk_cell (by simpa using heap_alloc_new w _) 0).trans rfl) (by omega) hT
        · cases h
  have HB0 := Aside0.mk (KeepBut.of_below (below_alloc (Below.refl _ w) (.cells #[.int .i64 a1] 3)) g none)
  clear h hI hB
  go_enter Try.func24, Try.ntmps24
  go_wp2_with fail
  refine (HC.out _ rfl).mono ?_
  rintro e w9 ⟨rfl, hi, hb, hk⟩
  have HI := Aside0.mk hi
  have HB1 := Aside0.mk hb
  have HK1 := Aside0.mk hk
  clear hi hb hk
  go_wp2
  go_ret
  exact ⟨rfl, HI.out, HB1.out, KeepBut.trans HB0.out HK1.out (.inl rfl)⟩


/-! ### octet_Reader_At: function 25 -/
def octet_Reader_At.f (s0_0 : ByteArray) (s0_1 : Int) (s0_2 : Bool) : Option (Int × ByteArray × Int × Bool) := some (s0_1, s0_0, s0_1, s0_2)
set_option maxHeartbeats 8000000 in
set_option maxRecDepth 100000 in
theorem octet_Reader_At.calls (g : Nat) (s0_0 : ByteArray) (s0_1 : Int) (s0_2 : Bool) (r1 : Int) (r2 : ByteArray) (r3 : Int) (r4 : Bool) (w0 w : World) (hI : IsS52 w0 w g s0_0 s0_1 s0_2) (hB : Below w0.heap.size w0 w) (h : octet_Reader_At.f s0_0 s0_1 s0_2 = some (r1, r2, r3, r4)) :
    Calls Try.prog 25 #[.pointer (some ⟨g, 0, none⟩)] w fun e w' => e = .returned (.int .i64 r1) ∧ IsS52 w0 w' g r2 r3 r4 ∧ Below w0.heap.size w0 w' ∧ KeepBut w w' g none := by
  have HI0 := Aside0.mk hI
  have HK := Aside0.mk (KeepBut.refl w g none)
  have HL := Aside0.mk hB.size
  clear hI
  have HW0 := Aside0.mk hB.size
  have HB := Aside0.mk hB
  clear hB
  have H : (some (s0_1, s0_0, s0_1, s0_2)) = some (r1, r2, r3, r4) := h
  clear h
  simp only [Option.some.injEq, Prod.mk.injEq] at H
  obtain ⟨rfl, rfl, rfl, rfl⟩ := H
  obtain ⟨HGz2, hgz2⟩ := HI0.out
  have hcz2_0 := cellS52_0 HGz2
  have hcz2_1 := cellS52_1 HGz2
  have hcz2_2 := cellS52_2 HGz2
  have hfz2_0 := blk_frozen HGz2 0
  have hfz2_1 := blk_frozen HGz2 1
  have hfz2_2 := blk_frozen HGz2 2
  clear HGz2 hgz2
  go_enter Try.func25, Try.ntmps25
  go_wp2
  go_ret
  exact ⟨by first | rfl | (simp [errW_none, errW_some] <;> rfl) | (simp [*, errW_none, errW_some] <;> rfl), by repeat (first | (with_reducible first | exact HI0.out | apply IsS52.alloc | apply IsS52.drewN | apply IsS52.drew | apply IsS52.set_0 | apply IsS52.set_1 | apply IsS52.set_2) | exact HI0.out), by repeat (first | (with_reducible first | exact HB.out | apply below_alloc | apply pw_below_drewN | apply below_drew1 | refine below_set ?_ (IsS52.ge HI0.out)) | exact HB.out), by repeat (first | (with_reducible first | exact HK.out | apply KeepBut.set_ | apply keep_drewN | apply keep_drew | apply keep_alloc) | exact HK.out)⟩

theorem octet_Reader_At.still {s0 s0' : ByteArray} {s1 s1' : Int} {s2 s2' : Bool} {r : Int} (h : octet_Reader_At.f s0 s1 s2 = some (r, s0', s1', s2')) : s0 = s0' ∧ s1 = s1' ∧ s2 = s2' := by
  unfold octet_Reader_At.f at h
  cases h
  exact ⟨rfl, rfl, rfl⟩

end Go.Proofs.Ytfnbaepioignaaa.POctt
