-- Written for this claim by a program of this seat (wip/tools: a turned copy of the kit's print). Not trusted: Lean checks it.
import Derived.Test.YtfnbaepioignaaaPOctx0
import Derived.Test.YtfnbaepioignaaaPOctx1
import Derived.Test.YtfnbaepioignaaaPOctx3
namespace Go.Proofs.Ytfnbaepioignaaa.POct
open Go.RowKit Go.Proofs.YtfnbaepioignaaaW.PrintWords Go.Proofs.YtfnbaepioignaaaW.PrintLast Go.Proofs.YtfnbaepioignaaaW.PrintMore
attribute [local go_sem] max2_int min2_int max_two min_two max_three min_three max_four min_four   -- for this text's walks alone
set_option linter.unusedVariables false
set_option linter.unusedSimpArgs false

/-! ### fleuronref01_Reader_Text: function 37 -/
def fleuronref01_Reader_Text.f (k : Nat) (s0_0 : ByteArray) (s0_1 : Int) (s0_2 : Bool) : Option (ByteArray × ByteArray × Int × Bool) := (fleuronref01_Reader_Num.f k s0_0 s0_1 s0_2 2).bind fun bt345 => ((fleuronref01_Reader_Take.f bt345.2.1 bt345.2.2.1 bt345.2.2.2 bt345.1).bind fun bt349 => (if bt349.2.2.2 = true then (some (bt349.1, bt349.2.1, s0_1, bt349.2.2.2)) else (some (bt349.1, bt349.2.1, bt349.2.2.1, bt349.2.2.2))))
theorem fleuronref01_Reader_Text.mono : ∀ a0 a1 a2 k, LeO (fleuronref01_Reader_Text.f k a0 a1 a2) (fleuronref01_Reader_Text.f (k + 1) a0 a1 a2) := by
  intro a0 a1 a2 k
  unfold fleuronref01_Reader_Text.f
  repeat' first
      | (with_reducible exact fleuronref01_Reader_Num.mono _ _ _ _ _)
      | (with_reducible exact LeO.refl _)
      | (with_reducible exact LeO.none _)
      | (with_reducible refine LeO.ite ?_ ?_)
      | (with_reducible refine LeO.bind ?_ (fun _ => ?_))
      | exact fleuronref01_Reader_Num.mono _ _ _ _ _
      | exact LeO.none _
      | refine LeO.ite ?_ ?_
      | refine LeO.bind ?_ (fun _ => ?_)
set_option maxHeartbeats 8000000 in
set_option maxRecDepth 100000 in
theorem fleuronref01_Reader_Text.calls (k : Nat) (g : Nat) (s0_0 : ByteArray) (s0_1 : Int) (s0_2 : Bool) (r1 : ByteArray) (r2 : ByteArray) (r3 : Int) (r4 : Bool) (w0 w : World) (hI : IsS41 w0 w g s0_0 s0_1 s0_2) (hB : Below w0.heap.size w0 w) (h : fleuronref01_Reader_Text.f k s0_0 s0_1 s0_2 = some (r1, r2, r3, r4)) :
    Calls Try.prog 37 #[.pointer (some ⟨g, 0, none⟩)] w fun e w' => e = .returned (.string r1) ∧ IsS41 w0 w' g r2 r3 r4 ∧ Below w0.heap.size w0 w' ∧ KeepBut w w' g none := by
  have HI0 := Aside0.mk hI
  have HK := Aside0.mk (KeepBut.refl w g none)
  have HL := Aside0.mk hB.size
  clear hI
  have HW0 := Aside0.mk hB.size
  have HB := Aside0.mk hB
  clear hB
  have H : ((fleuronref01_Reader_Num.f k s0_0 s0_1 s0_2 2).bind fun bt345 => ((fleuronref01_Reader_Take.f bt345.2.1 bt345.2.2.1 bt345.2.2.2 bt345.1).bind fun bt349 => (if bt349.2.2.2 = true then (some (bt349.1, bt349.2.1, s0_1, bt349.2.2.2)) else (some (bt349.1, bt349.2.1, bt349.2.2.1, bt349.2.2.2))))) = some (r1, r2, r3, r4) := h
  clear h
  replace H := Option.bind_eq_some_iff.mp H
  obtain ⟨⟨t345, t346, t347, t348⟩, A20, H⟩ := H
  replace H : ((fleuronref01_Reader_Take.f t346 t347 t348 t345).bind fun bt349 => (if bt349.2.2.2 = true then (some (bt349.1, bt349.2.1, s0_1, bt349.2.2.2)) else (some (bt349.1, bt349.2.1, bt349.2.2.1, bt349.2.2.2)))) = some (r1, r2, r3, r4) := H
  have A2 := Aside0.mk A20
  clear A20
  replace H := Option.bind_eq_some_iff.mp H
  obtain ⟨⟨t349, t350, t351, t352⟩, A30, H⟩ := H
  replace H : (if t352 = true then (some (t349, t350, s0_1, t352)) else (some (t349, t350, t351, t352))) = some (r1, r2, r3, r4) := H
  have A3 := Aside0.mk A30
  clear A30
  by_cases c4 : t352 = true
  · subst c4
    have H1 : (some (t349, t350, s0_1, true)) = some (r1, r2, r3, r4) := by rw [if_pos rfl] at H; exact H
    clear H
    have H := H1
    clear H1
    simp only [Option.some.injEq, Prod.mk.injEq] at H
    obtain ⟨rfl, rfl, rfl, rfl⟩ := H
    obtain ⟨HGz5, hgz5⟩ := HI0.out
    have hcz5_0 := cellS41_0 HGz5
    have hcz5_1 := cellS41_1 HGz5
    have hcz5_2 := cellS41_2 HGz5
    have hfz5_0 := blk_frozen HGz5 0
    have hfz5_1 := blk_frozen HGz5 1
    have hfz5_2 := blk_frozen HGz5 2
    clear HGz5 hgz5
    go_enter Try.func37, Try.ntmps37
    go_wp2_with (first | ((with_reducible refine gate_callee (f := 35) rfl ?_); refine goesL_ (some 11) rfl rfl Try.func35 (by kernel_rfl) rfl #[.pointer (some ⟨g, 0, none⟩), .int .i64 2] rfl (by (try simp only [List.map_toArray, List.map_cons, List.map_nil]); first | done | rfl | (simp only [List.length_drop, List.length_take]; rfl)) ?_; (with_reducible refine (fleuronref01_Reader_Num.calls k g s0_0 s0_1 s0_2 2 t345 t346 t347 t348 w0 _ ?side1 ?side2 A2.out).mono ?_); (case side1 => repeat (first | (with_reducible first | exact HI0.out | apply IsS41.alloc | apply IsS41.drewN | apply IsS41.drew | apply IsS41.set_0 | apply IsS41.set_1 | apply IsS41.set_2) | exact HI0.out)); (case side2 => repeat (first | (with_reducible first | exact HB.out | apply below_alloc | apply pw_below_drewN | apply below_drew1 | refine below_set ?_ (IsS41.ge HI0.out)) | exact HB.out)); rintro e w6 ⟨rfl, hi, hb, hk⟩; refine ⟨_, rfl, ?_⟩; have n0_ := Aside0.mk (KeepBut.trans (by repeat (first | (with_reducible first | exact HK.out | apply KeepBut.set_ | apply keep_drewN | apply keep_drew | apply keep_alloc) | exact HK.out)) hk (.inl rfl)); have n1_ := Aside0.mk (hb); have n2_ := Aside0.mk (hi); clear HK; clear HB; clear HI0; have HK := n0_; have HB := n1_; have HI0 := n2_; clear n0_ n1_ n2_; (try clear hb); (try clear hb2); (try clear hk); (try clear hi)) | ((with_reducible refine gate_callee (f := 38) rfl ?_); refine goesL_ (some 14) rfl rfl Try.func38 (by kernel_rfl) rfl #[.pointer (some ⟨g, 0, none⟩), .int .i64 t345] rfl (by (try simp only [List.map_toArray, List.map_cons, List.map_nil]); first | done | rfl | (simp only [List.length_drop, List.length_take]; rfl)) ?_; (with_reducible refine (fleuronref01_Reader_Take.calls g t346 t347 t348 t345 t349 t350 t351 true w0 _ ?side1 ?side2 A3.out).mono ?_); (case side1 => repeat (first | (with_reducible first | exact HI0.out | apply IsS41.alloc | apply IsS41.drewN | apply IsS41.drew | apply IsS41.set_0 | apply IsS41.set_1 | apply IsS41.set_2) | exact HI0.out)); (case side2 => repeat (first | (with_reducible first | exact HB.out | apply below_alloc | apply pw_below_drewN | apply below_drew1 | refine below_set ?_ (IsS41.ge HI0.out)) | exact HB.out)); rintro e w7 ⟨rfl, hi, hb, hk⟩; refine ⟨_, rfl, ?_⟩; have n0_ := Aside0.mk (KeepBut.trans (by repeat (first | (with_reducible first | exact HK.out | apply KeepBut.set_ | apply keep_drewN | apply keep_drew | apply keep_alloc) | exact HK.out)) hk (.inl rfl)); have n1_ := Aside0.mk (hb); have n2_ := Aside0.mk (hi); clear HK; clear HB; clear HI0; have HK := n0_; have HB := n1_; have HI0 := n2_; clear n0_ n1_ n2_; (try clear hb); (try clear hb2); (try clear hk); (try clear hi); obtain ⟨HGz8, hgz8⟩ := HI0.out; have hcz8_0 := cellS41_0 HGz8; have hcz8_1 := cellS41_1 HGz8; have hcz8_2 := cellS41_2 HGz8; have hfz8_0 := blk_frozen HGz8 0; have hfz8_1 := blk_frozen HGz8 1; have hfz8_2 := blk_frozen HGz8 2; clear HGz8 hgz8))
    go_ret
    exact ⟨by first | rfl | (simp [errW_none, errW_some] <;> rfl) | (simp [*, errW_none, errW_some] <;> rfl), by repeat (first | (with_reducible first | exact HI0.out | apply IsS41.alloc | apply IsS41.drewN | apply IsS41.drew | apply IsS41.set_0 | apply IsS41.set_1 | apply IsS41.set_2) | exact HI0.out), by repeat (first | (with_reducible first | exact HB.out | apply below_alloc | apply pw_below_drewN | apply below_drew1 | refine below_set ?_ (IsS41.ge HI0.out)) | exact HB.out), by repeat (first | (with_reducible first | exact HK.out | apply KeepBut.set_ | apply keep_drewN | apply keep_drew | apply keep_alloc) | exact HK.out)⟩
  · replace c4 := Bool.eq_false_iff.mpr c4
    subst c4
    have H1 : (some (t349, t350, t351, false)) = some (r1, r2, r3, r4) := by rw [if_neg (show ¬ (false = true) by decide)] at H; exact H
    clear H
    have H := H1
    clear H1
    simp only [Option.some.injEq, Prod.mk.injEq] at H
    obtain ⟨rfl, rfl, rfl, rfl⟩ := H
    obtain ⟨HGz9, hgz9⟩ := HI0.out
    have hcz9_0 := cellS41_0 HGz9
    have hcz9_1 := cellS41_1 HGz9
    have hcz9_2 := cellS41_2 HGz9
    have hfz9_0 := blk_frozen HGz9 0
    have hfz9_1 := blk_frozen HGz9 1
    have hfz9_2 := blk_frozen HGz9 2
    clear HGz9 hgz9
    go_enter Try.func37, Try.ntmps37
    go_wp2_with (first | ((with_reducible refine gate_callee (f := 35) rfl ?_); refine goesL_ (some 11) rfl rfl Try.func35 (by kernel_rfl) rfl #[.pointer (some ⟨g, 0, none⟩), .int .i64 2] rfl (by (try simp only [List.map_toArray, List.map_cons, List.map_nil]); first | done | rfl | (simp only [List.length_drop, List.length_take]; rfl)) ?_; (with_reducible refine (fleuronref01_Reader_Num.calls k g s0_0 s0_1 s0_2 2 t345 t346 t347 t348 w0 _ ?side1 ?side2 A2.out).mono ?_); (case side1 => repeat (first | (with_reducible first | exact HI0.out | apply IsS41.alloc | apply IsS41.drewN | apply IsS41.drew | apply IsS41.set_0 | apply IsS41.set_1 | apply IsS41.set_2) | exact HI0.out)); (case side2 => repeat (first | (with_reducible first | exact HB.out | apply below_alloc | apply pw_below_drewN | apply below_drew1 | refine below_set ?_ (IsS41.ge HI0.out)) | exact HB.out)); rintro e w10 ⟨rfl, hi, hb, hk⟩; refine ⟨_, rfl, ?_⟩; have n0_ := Aside0.mk (KeepBut.trans (by repeat (first | (with_reducible first | exact HK.out | apply KeepBut.set_ | apply keep_drewN | apply keep_drew | apply keep_alloc) | exact HK.out)) hk (.inl rfl)); have n1_ := Aside0.mk (hb); have n2_ := Aside0.mk (hi); clear HK; clear HB; clear HI0; have HK := n0_; have HB := n1_; have HI0 := n2_; clear n0_ n1_ n2_; (try clear hb); (try clear hb2); (try clear hk); (try clear hi)) | ((with_reducible refine gate_callee (f := 38) rfl ?_); refine goesL_ (some 14) rfl rfl Try.func38 (by kernel_rfl) rfl #[.pointer (some ⟨g, 0, none⟩), .int .i64 t345] rfl (by (try simp only [List.map_toArray, List.map_cons, List.map_nil]); first | done | rfl | (simp only [List.length_drop, List.length_take]; rfl)) ?_; (with_reducible refine (fleuronref01_Reader_Take.calls g t346 t347 t348 t345 t349 t350 t351 false w0 _ ?side1 ?side2 A3.out).mono ?_); (case side1 => repeat (first | (with_reducible first | exact HI0.out | apply IsS41.alloc | apply IsS41.drewN | apply IsS41.drew | apply IsS41.set_0 | apply IsS41.set_1 | apply IsS41.set_2) | exact HI0.out)); (case side2 => repeat (first | (with_reducible first | exact HB.out | apply below_alloc | apply pw_below_drewN | apply below_drew1 | refine below_set ?_ (IsS41.ge HI0.out)) | exact HB.out)); rintro e w11 ⟨rfl, hi, hb, hk⟩; refine ⟨_, rfl, ?_⟩; have n0_ := Aside0.mk (KeepBut.trans (by repeat (first | (with_reducible first | exact HK.out | apply KeepBut.set_ | apply keep_drewN | apply keep_drew | apply keep_alloc) | exact HK.out)) hk (.inl rfl)); have n1_ := Aside0.mk (hb); have n2_ := Aside0.mk (hi); clear HK; clear HB; clear HI0; have HK := n0_; have HB := n1_; have HI0 := n2_; clear n0_ n1_ n2_; (try clear hb); (try clear hb2); (try clear hk); (try clear hi); obtain ⟨HGz12, hgz12⟩ := HI0.out; have hcz12_0 := cellS41_0 HGz12; have hcz12_1 := cellS41_1 HGz12; have hcz12_2 := cellS41_2 HGz12; have hfz12_0 := blk_frozen HGz12 0; have hfz12_1 := blk_frozen HGz12 1; have hfz12_2 := blk_frozen HGz12 2; clear HGz12 hgz12))
    go_ret
    exact ⟨by first | rfl | (simp [errW_none, errW_some] <;> rfl) | (simp [*, errW_none, errW_some] <;> rfl), by repeat (first | (with_reducible first | exact HI0.out | apply IsS41.alloc | apply IsS41.drewN | apply IsS41.drew | apply IsS41.set_0 | apply IsS41.set_1 | apply IsS41.set_2) | exact HI0.out), by repeat (first | (with_reducible first | exact HB.out | apply below_alloc | apply pw_below_drewN | apply below_drew1 | refine below_set ?_ (IsS41.ge HI0.out)) | exact HB.out), by repeat (first | (with_reducible first | exact HK.out | apply KeepBut.set_ | apply keep_drewN | apply keep_drew | apply keep_alloc) | exact HK.out)⟩

/-! ### fleuronlaw01_two: function 28 -/
def fleuronlaw01_two.f (k : Nat) (s0_0 : ByteArray) (s0_1 : Int) (s0_2 : Bool) (a1_0 : Int) (a1_1 : Int) : Option (Int × ByteArray × ByteArray × Int × Bool) := if (Go.bits .and .i64 a1_0 3) = 0 then ((fleuronref01_Reader_Num.f k s0_0 s0_1 s0_2 a1_1).bind fun bt354 => (some (bt354.1, (⟨#[]⟩ : ByteArray), bt354.2.1, bt354.2.2.1, bt354.2.2.2))) else (if (Go.bits .and .i64 a1_0 3) = 1 then ((fleuronref01_Reader_Int.f k s0_0 s0_1 s0_2 a1_1).bind fun bt358 => (some (bt358.1, (⟨#[]⟩ : ByteArray), bt358.2.1, bt358.2.2.1, bt358.2.2.2))) else (if (Go.bits .and .i64 a1_0 3) = 2 then ((fleuronref01_Reader_Text.f k s0_0 s0_1 s0_2).bind fun bt362 => (some (0, bt362.1, bt362.2.1, bt362.2.2.1, bt362.2.2.2))) else ((fleuronref01_Reader_Take.f s0_0 s0_1 s0_2 a1_1).bind fun bt366 => (some (0, bt366.1, bt366.2.1, bt366.2.2.1, bt366.2.2.2)))))
theorem fleuronlaw01_two.mono : ∀ a0 a1 a2 a3 a4 k, LeO (fleuronlaw01_two.f k a0 a1 a2 a3 a4) (fleuronlaw01_two.f (k + 1) a0 a1 a2 a3 a4) := by
  intro a0 a1 a2 a3 a4 k
  unfold fleuronlaw01_two.f
  repeat' first
      | (with_reducible exact fleuronref01_Reader_Int.mono _ _ _ _ _)
      | (with_reducible exact fleuronref01_Reader_Num.mono _ _ _ _ _)
      | (with_reducible exact fleuronref01_Reader_Text.mono _ _ _ _)
      | (with_reducible exact LeO.refl _)
      | (with_reducible exact LeO.none _)
      | (with_reducible refine LeO.ite ?_ ?_)
      | (with_reducible refine LeO.bind ?_ (fun _ => ?_))
      | exact fleuronref01_Reader_Int.mono _ _ _ _ _
      | exact fleuronref01_Reader_Num.mono _ _ _ _ _
      | exact fleuronref01_Reader_Text.mono _ _ _ _
      | exact LeO.none _
      | refine LeO.ite ?_ ?_
      | refine LeO.bind ?_ (fun _ => ?_)
set_option maxHeartbeats 8000000 in
set_option maxRecDepth 100000 in
theorem fleuronlaw01_two.calls (k : Nat) (g : Nat) (s0_0 : ByteArray) (s0_1 : Int) (s0_2 : Bool) (a1_0 : Int) (a1_1 : Int) (r1 : Int) (r2 : ByteArray) (r3 : ByteArray) (r4 : Int) (r5 : Bool) (w0 w : World) (hI : IsS41 w0 w g s0_0 s0_1 s0_2) (hB : Below w0.heap.size w0 w) (h : fleuronlaw01_two.f k s0_0 s0_1 s0_2 a1_0 a1_1 = some (r1, r2, r3, r4, r5)) :
    Calls Try.prog 28 #[.pointer (some ⟨g, 0, none⟩), .agg #[.int .i64 a1_0, .int .i64 a1_1]] w fun e w' => e = .returned (.tuple #[.int .i64 r1, .string r2]) ∧ IsS41 w0 w' g r3 r4 r5 ∧ Below w0.heap.size w0 w' ∧ KeepBut w w' g none := by
  have hu45 := Try.underlying45
  have HI0 := Aside0.mk hI
  have HK := Aside0.mk (KeepBut.refl w g none)
  have HL := Aside0.mk hB.size
  clear hI
  have HW0 := Aside0.mk hB.size
  have HB := Aside0.mk hB
  clear hB
  have H : (if (Go.bits .and .i64 a1_0 3) = 0 then ((fleuronref01_Reader_Num.f k s0_0 s0_1 s0_2 a1_1).bind fun bt354 => (some (bt354.1, (⟨#[]⟩ : ByteArray), bt354.2.1, bt354.2.2.1, bt354.2.2.2))) else (if (Go.bits .and .i64 a1_0 3) = 1 then ((fleuronref01_Reader_Int.f k s0_0 s0_1 s0_2 a1_1).bind fun bt358 => (some (bt358.1, (⟨#[]⟩ : ByteArray), bt358.2.1, bt358.2.2.1, bt358.2.2.2))) else (if (Go.bits .and .i64 a1_0 3) = 2 then ((fleuronref01_Reader_Text.f k s0_0 s0_1 s0_2).bind fun bt362 => (some (0, bt362.1, bt362.2.1, bt362.2.2.1, bt362.2.2.2))) else ((fleuronref01_Reader_Take.f s0_0 s0_1 s0_2 a1_1).bind fun bt366 => (some (0, bt366.1, bt366.2.1, bt366.2.2.1, bt366.2.2.2)))))) = some (r1, r2, r3, r4, r5) := h
  clear h
  by_cases c3 : (Go.bits .and .i64 a1_0 3) = 0
  · rw [if_pos c3] at H
    have c3b0 : ((Go.bits .and .i64 a1_0 3) == 0) = true := beq_iff_eq.mpr c3
    have c3b1 : ((Go.bits .and .i64 a1_0 3) != 0) = false := bne_eq_false_iff_eq.mpr c3
    clear c3
    replace H := Option.bind_eq_some_iff.mp H
    obtain ⟨⟨t354, t355, t356, t357⟩, A40, H⟩ := H
    replace H : (some (t354, (⟨#[]⟩ : ByteArray), t355, t356, t357)) = some (r1, r2, r3, r4, r5) := H
    have A4 := Aside0.mk A40
    clear A40
    simp only [Option.some.injEq, Prod.mk.injEq] at H
    obtain ⟨rfl, rfl, rfl, rfl, rfl⟩ := H
    go_enter Try.func28, Try.ntmps28
    go_wp2_with (first | ((with_reducible refine gate_dst (N := 3) rfl ?_); refine box_event ?hg (N := 3) ?hd (cs := #[.int .i64 a1_0, .int .i64 a1_1]) (t := 45) ?hr ?_; (case hd => rfl); (case hg => rfl); (case hr => first | (go_simp; done) | (go_simp; rfl)); intro gb353 hg w5 hbox hb; have n0_ := Aside0.mk (IsS41.below (by repeat (first | (with_reducible first | exact HI0.out | apply IsS41.alloc | apply IsS41.drewN | apply IsS41.drew | apply IsS41.set_0 | apply IsS41.set_1 | apply IsS41.set_2) | exact HI0.out)) hb); have n1_ := Aside0.mk (KeepBut.trans (by repeat (first | (with_reducible first | exact HK.out | apply KeepBut.set_ | apply keep_drewN | apply keep_drew | apply keep_alloc) | exact HK.out)) (KeepBut.of_below hb g none) (.inl rfl)); have n2_ := Aside0.mk (below_step (by repeat (first | (with_reducible first | exact HB.out | apply below_alloc | apply pw_below_drewN | apply below_drew1 | refine below_set ?_ (IsS41.ge HI0.out)) | exact HB.out)) hb); have n3_ := Aside0.mk (hbox); have n4_ := Aside0.mk ((by rw [hg]; exact (keep_size (w := w) (g := g) (row := none) (by repeat (first | (with_reducible first | exact HK.out | apply KeepBut.set_ | apply keep_drewN | apply keep_drew | apply keep_alloc) | exact HK.out))) : w.heap.size ≤ gb353)); have n5_ := Aside0.mk ((Nat.le_trans HW0.out (by rw [hg]; exact (keep_size (w := w) (g := g) (row := none) (by repeat (first | (with_reducible first | exact HK.out | apply KeepBut.set_ | apply keep_drewN | apply keep_drew | apply keep_alloc) | exact HK.out))) : w.heap.size ≤ gb353) : w0.heap.size ≤ gb353)); have n6_ := Aside0.mk ((by rw [hg]; exact Nat.ne_of_lt (IsS41.lt (show IsS41 w0 _ g s0_0 s0_1 s0_2 from by repeat (first | (with_reducible first | exact HI0.out | apply IsS41.alloc | apply IsS41.drewN | apply IsS41.drew | apply IsS41.set_0 | apply IsS41.set_1 | apply IsS41.set_2) | exact HI0.out))) : g ≠ gb353)); have n7_ := Aside0.mk ((by rw [hg]; exact Nat.ne_of_gt (IsS41.lt (show IsS41 w0 _ g s0_0 s0_1 s0_2 from by repeat (first | (with_reducible first | exact HI0.out | apply IsS41.alloc | apply IsS41.drewN | apply IsS41.drew | apply IsS41.set_0 | apply IsS41.set_1 | apply IsS41.set_2) | exact HI0.out))) : gb353 ≠ g)); clear HI0; clear HK; clear HB; have HI0 := n0_; have HK := n1_; have HB := n2_; have BK353 := n3_; have GW353 := n4_; have GE353 := n5_; have NB0_353 := n6_; have NB353_0 := n7_; clear n0_ n1_ n2_ n3_ n4_ n5_ n6_ n7_; clear hb hbox hg; have hnb6 := NB353_0.out; have hnc6 := NB0_353.out; have hcz7_0 : w5.cell? ⟨gb353, 0, none⟩ = some (.int .i64 a1_0) := (blk_cell BK353.out 0).trans rfl; have hcz7_1 : w5.cell? ⟨gb353, 1, none⟩ = some (.int .i64 a1_1) := (blk_cell BK353.out 1).trans rfl; have hfz7_0 := blk_frozen BK353.out 0; have hfz7_1 := blk_frozen BK353.out 1) | ((with_reducible refine gate_callee (f := 35) rfl ?_); refine goesL_ (some 14) rfl rfl Try.func35 (by kernel_rfl) rfl #[.pointer (some ⟨g, 0, none⟩), .int .i64 a1_1] rfl (by (try simp only [List.map_toArray, List.map_cons, List.map_nil]); first | done | rfl | (simp only [List.length_drop, List.length_take]; rfl)) ?_; (with_reducible refine (fleuronref01_Reader_Num.calls k g s0_0 s0_1 s0_2 a1_1 t354 t355 t356 t357 w0 _ ?side1 ?side2 A4.out).mono ?_); (case side1 => repeat (first | (with_reducible first | exact HI0.out | apply IsS41.alloc | apply IsS41.drewN | apply IsS41.drew | apply IsS41.set_0 | apply IsS41.set_1 | apply IsS41.set_2 | refine IsS41.far ?_ NB0_353.out _) | exact HI0.out)); (case side2 => repeat (first | (with_reducible first | exact HB.out | apply below_alloc | apply pw_below_drewN | apply below_drew1 | refine below_set ?_ (IsS41.ge HI0.out) | refine below_set ?_ GE353.out) | exact HB.out)); rintro e w8 ⟨rfl, hi, hb, hk⟩; refine ⟨_, rfl, ?_⟩; have n0_ := Aside0.mk (KeepBut.blk hk (g' := gb353) (o := .cells #[.int .i64 a1_0, .int .i64 a1_1] 45 (0, 0)) (by (with_reducible repeat (first | refine blk_drewN ?_ _ | refine blk_drew ?_ | refine blk_alloc ?_ _)); exact BK353.out) NB353_0.out (by simp)); have n1_ := Aside0.mk (KeepBut.trans (by repeat (first | (with_reducible first | exact HK.out | apply KeepBut.set_ | apply keep_drewN | apply keep_drew | apply keep_alloc | refine keep_far ?_ GW353.out _) | exact HK.out)) hk (.inl rfl)); have n2_ := Aside0.mk (hb); have n3_ := Aside0.mk (hi); clear BK353; clear HK; clear HB; clear HI0; have BK353 := n0_; have HK := n1_; have HB := n2_; have HI0 := n3_; clear n0_ n1_ n2_ n3_; (try clear hb); (try clear hb2); (try clear hk); (try clear hi)))
    go_ret2
    exact ⟨by first | rfl | (simp [errW_none, errW_some] <;> rfl) | (simp [*, errW_none, errW_some] <;> rfl), by repeat (first | (with_reducible first | exact HI0.out | apply IsS41.alloc | apply IsS41.drewN | apply IsS41.drew | apply IsS41.set_0 | apply IsS41.set_1 | apply IsS41.set_2 | refine IsS41.far ?_ NB0_353.out _) | exact HI0.out), by repeat (first | (with_reducible first | exact HB.out | apply below_alloc | apply pw_below_drewN | apply below_drew1 | refine below_set ?_ (IsS41.ge HI0.out) | refine below_set ?_ GE353.out) | exact HB.out), by repeat (first | (with_reducible first | exact HK.out | apply KeepBut.set_ | apply keep_drewN | apply keep_drew | apply keep_alloc | refine keep_far ?_ GW353.out _) | exact HK.out)⟩
  · rw [if_neg c3] at H
    have c3b0 : ((Go.bits .and .i64 a1_0 3) == 0) = false := beq_eq_false_iff_ne.mpr c3
    have c3b1 : ((Go.bits .and .i64 a1_0 3) != 0) = true := bne_iff_ne.mpr c3
    by_cases c9 : (Go.bits .and .i64 a1_0 3) = 1
    · rw [if_pos c9] at H
      have c9b0 : ((Go.bits .and .i64 a1_0 3) == 1) = true := beq_iff_eq.mpr c9
      have c9b1 : ((Go.bits .and .i64 a1_0 3) != 1) = false := bne_eq_false_iff_eq.mpr c9
      clear c9
      replace H := Option.bind_eq_some_iff.mp H
      obtain ⟨⟨t358, t359, t360, t361⟩, A100, H⟩ := H
      replace H : (some (t358, (⟨#[]⟩ : ByteArray), t359, t360, t361)) = some (r1, r2, r3, r4, r5) := H
      have A10 := Aside0.mk A100
      clear A100
      simp only [Option.some.injEq, Prod.mk.injEq] at H
      obtain ⟨rfl, rfl, rfl, rfl, rfl⟩ := H
      go_enter Try.func28, Try.ntmps28
      go_wp2_with (first | ((with_reducible refine gate_dst (N := 3) rfl ?_); refine box_event ?hg (N := 3) ?hd (cs := #[.int .i64 a1_0, .int .i64 a1_1]) (t := 45) ?hr ?_; (case hd => rfl); (case hg => rfl); (case hr => first | (go_simp; done) | (go_simp; rfl)); intro gb353 hg w11 hbox hb; have n0_ := Aside0.mk (IsS41.below (by repeat (first | (with_reducible first | exact HI0.out | apply IsS41.alloc | apply IsS41.drewN | apply IsS41.drew | apply IsS41.set_0 | apply IsS41.set_1 | apply IsS41.set_2) | exact HI0.out)) hb); have n1_ := Aside0.mk (KeepBut.trans (by repeat (first | (with_reducible first | exact HK.out | apply KeepBut.set_ | apply keep_drewN | apply keep_drew | apply keep_alloc) | exact HK.out)) (KeepBut.of_below hb g none) (.inl rfl)); have n2_ := Aside0.mk (below_step (by repeat (first | (with_reducible first | exact HB.out | apply below_alloc | apply pw_below_drewN | apply below_drew1 | refine below_set ?_ (IsS41.ge HI0.out)) | exact HB.out)) hb); have n3_ := Aside0.mk (hbox); have n4_ := Aside0.mk ((by rw [hg]; exact (keep_size (w := w) (g := g) (row := none) (by repeat (first | (with_reducible first | exact HK.out | apply KeepBut.set_ | apply keep_drewN | apply keep_drew | apply keep_alloc) | exact HK.out))) : w.heap.size ≤ gb353)); have n5_ := Aside0.mk ((Nat.le_trans HW0.out (by rw [hg]; exact (keep_size (w := w) (g := g) (row := none) (by repeat (first | (with_reducible first | exact HK.out | apply KeepBut.set_ | apply keep_drewN | apply keep_drew | apply keep_alloc) | exact HK.out))) : w.heap.size ≤ gb353) : w0.heap.size ≤ gb353)); have n6_ := Aside0.mk ((by rw [hg]; exact Nat.ne_of_lt (IsS41.lt (show IsS41 w0 _ g s0_0 s0_1 s0_2 from by repeat (first | (with_reducible first | exact HI0.out | apply IsS41.alloc | apply IsS41.drewN | apply IsS41.drew | apply IsS41.set_0 | apply IsS41.set_1 | apply IsS41.set_2) | exact HI0.out))) : g ≠ gb353)); have n7_ := Aside0.mk ((by rw [hg]; exact Nat.ne_of_gt (IsS41.lt (show IsS41 w0 _ g s0_0 s0_1 s0_2 from by repeat (first | (with_reducible first | exact HI0.out | apply IsS41.alloc | apply IsS41.drewN | apply IsS41.drew | apply IsS41.set_0 | apply IsS41.set_1 | apply IsS41.set_2) | exact HI0.out))) : gb353 ≠ g)); clear HI0; clear HK; clear HB; have HI0 := n0_; have HK := n1_; have HB := n2_; have BK353 := n3_; have GW353 := n4_; have GE353 := n5_; have NB0_353 := n6_; have NB353_0 := n7_; clear n0_ n1_ n2_ n3_ n4_ n5_ n6_ n7_; clear hb hbox hg; have hnb12 := NB353_0.out; have hnc12 := NB0_353.out; have hcz13_0 : w11.cell? ⟨gb353, 0, none⟩ = some (.int .i64 a1_0) := (blk_cell BK353.out 0).trans rfl; have hcz13_1 : w11.cell? ⟨gb353, 1, none⟩ = some (.int .i64 a1_1) := (blk_cell BK353.out 1).trans rfl; have hfz13_0 := blk_frozen BK353.out 0; have hfz13_1 := blk_frozen BK353.out 1) | ((with_reducible refine gate_callee (f := 36) rfl ?_); refine goesL_ (some 20) rfl rfl Try.func36 (by kernel_rfl) rfl #[.pointer (some ⟨g, 0, none⟩), .int .i64 a1_1] rfl (by (try simp only [List.map_toArray, List.map_cons, List.map_nil]); first | done | rfl | (simp only [List.length_drop, List.length_take]; rfl)) ?_; (with_reducible refine (fleuronref01_Reader_Int.calls k g s0_0 s0_1 s0_2 a1_1 t358 t359 t360 t361 w0 _ ?side1 ?side2 A10.out).mono ?_); (case side1 => repeat (first | (with_reducible first | exact HI0.out | apply IsS41.alloc | apply IsS41.drewN | apply IsS41.drew | apply IsS41.set_0 | apply IsS41.set_1 | apply IsS41.set_2 | refine IsS41.far ?_ NB0_353.out _) | exact HI0.out)); (case side2 => repeat (first | (with_reducible first | exact HB.out | apply below_alloc | apply pw_below_drewN | apply below_drew1 | refine below_set ?_ (IsS41.ge HI0.out) | refine below_set ?_ GE353.out) | exact HB.out)); rintro e w14 ⟨rfl, hi, hb, hk⟩; refine ⟨_, rfl, ?_⟩; have n0_ := Aside0.mk (KeepBut.blk hk (g' := gb353) (o := .cells #[.int .i64 a1_0, .int .i64 a1_1] 45 (0, 0)) (by (with_reducible repeat (first | refine blk_drewN ?_ _ | refine blk_drew ?_ | refine blk_alloc ?_ _)); exact BK353.out) NB353_0.out (by simp)); have n1_ := Aside0.mk (KeepBut.trans (by repeat (first | (with_reducible first | exact HK.out | apply KeepBut.set_ | apply keep_drewN | apply keep_drew | apply keep_alloc | refine keep_far ?_ GW353.out _) | exact HK.out)) hk (.inl rfl)); have n2_ := Aside0.mk (hb); have n3_ := Aside0.mk (hi); clear BK353; clear HK; clear HB; clear HI0; have BK353 := n0_; have HK := n1_; have HB := n2_; have HI0 := n3_; clear n0_ n1_ n2_ n3_; (try clear hb); (try clear hb2); (try clear hk); (try clear hi)))
      go_ret2
      exact ⟨by first | rfl | (simp [errW_none, errW_some] <;> rfl) | (simp [*, errW_none, errW_some] <;> rfl), by repeat (first | (with_reducible first | exact HI0.out | apply IsS41.alloc | apply IsS41.drewN | apply IsS41.drew | apply IsS41.set_0 | apply IsS41.set_1 | apply IsS41.set_2 | refine IsS41.far ?_ NB0_353.out _) | exact HI0.out), by repeat (first | (with_reducible first | exact HB.out | apply below_alloc | apply pw_below_drewN | apply below_drew1 | refine below_set ?_ (IsS41.ge HI0.out) | refine below_set ?_ GE353.out) | exact HB.out), by repeat (first | (with_reducible first | exact HK.out | apply KeepBut.set_ | apply keep_drewN | apply keep_drew | apply keep_alloc | refine keep_far ?_ GW353.out _) | exact HK.out)⟩
    · rw [if_neg c9] at H
      have c9b0 : ((Go.bits .and .i64 a1_0 3) == 1) = false := beq_eq_false_iff_ne.mpr c9
      have c9b1 : ((Go.bits .and .i64 a1_0 3) != 1) = true := bne_iff_ne.mpr c9
      by_cases c15 : (Go.bits .and .i64 a1_0 3) = 2
      · rw [if_pos c15] at H
        have c15b0 : ((Go.bits .and .i64 a1_0 3) == 2) = true := beq_iff_eq.mpr c15
        have c15b1 : ((Go.bits .and .i64 a1_0 3) != 2) = false := bne_eq_false_iff_eq.mpr c15
        clear c15
        replace H := Option.bind_eq_some_iff.mp H
        obtain ⟨⟨t362, t363, t364, t365⟩, A160, H⟩ := H
        replace H : (some (0, t362, t363, t364, t365)) = some (r1, r2, r3, r4, r5) := H
        have A16 := Aside0.mk A160
        clear A160
        simp only [Option.some.injEq, Prod.mk.injEq] at H
        obtain ⟨rfl, rfl, rfl, rfl, rfl⟩ := H
        go_enter Try.func28, Try.ntmps28
        go_wp2_with (first | ((with_reducible refine gate_dst (N := 3) rfl ?_); refine box_event ?hg (N := 3) ?hd (cs := #[.int .i64 a1_0, .int .i64 a1_1]) (t := 45) ?hr ?_; (case hd => rfl); (case hg => rfl); (case hr => first | (go_simp; done) | (go_simp; rfl)); intro gb353 hg w17 hbox hb; have n0_ := Aside0.mk (IsS41.below (by repeat (first | (with_reducible first | exact HI0.out | apply IsS41.alloc | apply IsS41.drewN | apply IsS41.drew | apply IsS41.set_0 | apply IsS41.set_1 | apply IsS41.set_2) | exact HI0.out)) hb); have n1_ := Aside0.mk (KeepBut.trans (by repeat (first | (with_reducible first | exact HK.out | apply KeepBut.set_ | apply keep_drewN | apply keep_drew | apply keep_alloc) | exact HK.out)) (KeepBut.of_below hb g none) (.inl rfl)); have n2_ := Aside0.mk (below_step (by repeat (first | (with_reducible first | exact HB.out | apply below_alloc | apply pw_below_drewN | apply below_drew1 | refine below_set ?_ (IsS41.ge HI0.out)) | exact HB.out)) hb); have n3_ := Aside0.mk (hbox); have n4_ := Aside0.mk ((by rw [hg]; exact (keep_size (w := w) (g := g) (row := none) (by repeat (first | (with_reducible first | exact HK.out | apply KeepBut.set_ | apply keep_drewN | apply keep_drew | apply keep_alloc) | exact HK.out))) : w.heap.size ≤ gb353)); have n5_ := Aside0.mk ((Nat.le_trans HW0.out (by rw [hg]; exact (keep_size (w := w) (g := g) (row := none) (by repeat (first | (with_reducible first | exact HK.out | apply KeepBut.set_ | apply keep_drewN | apply keep_drew | apply keep_alloc) | exact HK.out))) : w.heap.size ≤ gb353) : w0.heap.size ≤ gb353)); have n6_ := Aside0.mk ((by rw [hg]; exact Nat.ne_of_lt (IsS41.lt (show IsS41 w0 _ g s0_0 s0_1 s0_2 from by repeat (first | (with_reducible first | exact HI0.out | apply IsS41.alloc | apply IsS41.drewN | apply IsS41.drew | apply IsS41.set_0 | apply IsS41.set_1 | apply IsS41.set_2) | exact HI0.out))) : g ≠ gb353)); have n7_ := Aside0.mk ((by rw [hg]; exact Nat.ne_of_gt (IsS41.lt (show IsS41 w0 _ g s0_0 s0_1 s0_2 from by repeat (first | (with_reducible first | exact HI0.out | apply IsS41.alloc | apply IsS41.drewN | apply IsS41.drew | apply IsS41.set_0 | apply IsS41.set_1 | apply IsS41.set_2) | exact HI0.out))) : gb353 ≠ g)); clear HI0; clear HK; clear HB; have HI0 := n0_; have HK := n1_; have HB := n2_; have BK353 := n3_; have GW353 := n4_; have GE353 := n5_; have NB0_353 := n6_; have NB353_0 := n7_; clear n0_ n1_ n2_ n3_ n4_ n5_ n6_ n7_; clear hb hbox hg; have hnb18 := NB353_0.out; have hnc18 := NB0_353.out; have hcz19_0 : w17.cell? ⟨gb353, 0, none⟩ = some (.int .i64 a1_0) := (blk_cell BK353.out 0).trans rfl; have hcz19_1 : w17.cell? ⟨gb353, 1, none⟩ = some (.int .i64 a1_1) := (blk_cell BK353.out 1).trans rfl; have hfz19_0 := blk_frozen BK353.out 0; have hfz19_1 := blk_frozen BK353.out 1) | ((with_reducible refine gate_callee (f := 37) rfl ?_); refine goesL_ (some 24) rfl rfl Try.func37 (by kernel_rfl) rfl #[.pointer (some ⟨g, 0, none⟩)] rfl (by (try simp only [List.map_toArray, List.map_cons, List.map_nil]); first | done | rfl | (simp only [List.length_drop, List.length_take]; rfl)) ?_; (with_reducible refine (fleuronref01_Reader_Text.calls k g s0_0 s0_1 s0_2 t362 t363 t364 t365 w0 _ ?side1 ?side2 A16.out).mono ?_); (case side1 => repeat (first | (with_reducible first | exact HI0.out | apply IsS41.alloc | apply IsS41.drewN | apply IsS41.drew | apply IsS41.set_0 | apply IsS41.set_1 | apply IsS41.set_2 | refine IsS41.far ?_ NB0_353.out _) | exact HI0.out)); (case side2 => repeat (first | (with_reducible first | exact HB.out | apply below_alloc | apply pw_below_drewN | apply below_drew1 | refine below_set ?_ (IsS41.ge HI0.out) | refine below_set ?_ GE353.out) | exact HB.out)); rintro e w20 ⟨rfl, hi, hb, hk⟩; refine ⟨_, rfl, ?_⟩; have n0_ := Aside0.mk (KeepBut.blk hk (g' := gb353) (o := .cells #[.int .i64 a1_0, .int .i64 a1_1] 45 (0, 0)) (by (with_reducible repeat (first | refine blk_drewN ?_ _ | refine blk_drew ?_ | refine blk_alloc ?_ _)); exact BK353.out) NB353_0.out (by simp)); have n1_ := Aside0.mk (KeepBut.trans (by repeat (first | (with_reducible first | exact HK.out | apply KeepBut.set_ | apply keep_drewN | apply keep_drew | apply keep_alloc | refine keep_far ?_ GW353.out _) | exact HK.out)) hk (.inl rfl)); have n2_ := Aside0.mk (hb); have n3_ := Aside0.mk (hi); clear BK353; clear HK; clear HB; clear HI0; have BK353 := n0_; have HK := n1_; have HB := n2_; have HI0 := n3_; clear n0_ n1_ n2_ n3_; (try clear hb); (try clear hb2); (try clear hk); (try clear hi)))
        go_ret2
        exact ⟨by first | rfl | (simp [errW_none, errW_some] <;> rfl) | (simp [*, errW_none, errW_some] <;> rfl), by repeat (first | (with_reducible first | exact HI0.out | apply IsS41.alloc | apply IsS41.drewN | apply IsS41.drew | apply IsS41.set_0 | apply IsS41.set_1 | apply IsS41.set_2 | refine IsS41.far ?_ NB0_353.out _) | exact HI0.out), by repeat (first | (with_reducible first | exact HB.out | apply below_alloc | apply pw_below_drewN | apply below_drew1 | refine below_set ?_ (IsS41.ge HI0.out) | refine below_set ?_ GE353.out) | exact HB.out), by repeat (first | (with_reducible first | exact HK.out | apply KeepBut.set_ | apply keep_drewN | apply keep_drew | apply keep_alloc | refine keep_far ?_ GW353.out _) | exact HK.out)⟩
      · rw [if_neg c15] at H
        have c15b0 : ((Go.bits .and .i64 a1_0 3) == 2) = false := beq_eq_false_iff_ne.mpr c15
        have c15b1 : ((Go.bits .and .i64 a1_0 3) != 2) = true := bne_iff_ne.mpr c15
        replace H := Option.bind_eq_some_iff.mp H
        obtain ⟨⟨t366, t367, t368, t369⟩, A210, H⟩ := H
        replace H : (some (0, t366, t367, t368, t369)) = some (r1, r2, r3, r4, r5) := H
        have A21 := Aside0.mk A210
        clear A210
        simp only [Option.some.injEq, Prod.mk.injEq] at H
        obtain ⟨rfl, rfl, rfl, rfl, rfl⟩ := H
        go_enter Try.func28, Try.ntmps28
        go_wp2_with (first | ((with_reducible refine gate_dst (N := 3) rfl ?_); refine box_event ?hg (N := 3) ?hd (cs := #[.int .i64 a1_0, .int .i64 a1_1]) (t := 45) ?hr ?_; (case hd => rfl); (case hg => rfl); (case hr => first | (go_simp; done) | (go_simp; rfl)); intro gb353 hg w22 hbox hb; have n0_ := Aside0.mk (IsS41.below (by repeat (first | (with_reducible first | exact HI0.out | apply IsS41.alloc | apply IsS41.drewN | apply IsS41.drew | apply IsS41.set_0 | apply IsS41.set_1 | apply IsS41.set_2) | exact HI0.out)) hb); have n1_ := Aside0.mk (KeepBut.trans (by repeat (first | (with_reducible first | exact HK.out | apply KeepBut.set_ | apply keep_drewN | apply keep_drew | apply keep_alloc) | exact HK.out)) (KeepBut.of_below hb g none) (.inl rfl)); have n2_ := Aside0.mk (below_step (by repeat (first | (with_reducible first | exact HB.out | apply below_alloc | apply pw_below_drewN | apply below_drew1 | refine below_set ?_ (IsS41.ge HI0.out)) | exact HB.out)) hb); have n3_ := Aside0.mk (hbox); have n4_ := Aside0.mk ((by rw [hg]; exact (keep_size (w := w) (g := g) (row := none) (by repeat (first | (with_reducible first | exact HK.out | apply KeepBut.set_ | apply keep_drewN | apply keep_drew | apply keep_alloc) | exact HK.out))) : w.heap.size ≤ gb353)); have n5_ := Aside0.mk ((Nat.le_trans HW0.out (by rw [hg]; exact (keep_size (w := w) (g := g) (row := none) (by repeat (first | (with_reducible first | exact HK.out | apply KeepBut.set_ | apply keep_drewN | apply keep_drew | apply keep_alloc) | exact HK.out))) : w.heap.size ≤ gb353) : w0.heap.size ≤ gb353)); have n6_ := Aside0.mk ((by rw [hg]; exact Nat.ne_of_lt (IsS41.lt (show IsS41 w0 _ g s0_0 s0_1 s0_2 from by repeat (first | (with_reducible first | exact HI0.out | apply IsS41.alloc | apply IsS41.drewN | apply IsS41.drew | apply IsS41.set_0 | apply IsS41.set_1 | apply IsS41.set_2) | exact HI0.out))) : g ≠ gb353)); have n7_ := Aside0.mk ((by rw [hg]; exact Nat.ne_of_gt (IsS41.lt (show IsS41 w0 _ g s0_0 s0_1 s0_2 from by repeat (first | (with_reducible first | exact HI0.out | apply IsS41.alloc | apply IsS41.drewN | apply IsS41.drew | apply IsS41.set_0 | apply IsS41.set_1 | apply IsS41.set_2) | exact HI0.out))) : gb353 ≠ g)); clear HI0; clear HK; clear HB; have HI0 := n0_; have HK := n1_; have HB := n2_; have BK353 := n3_; have GW353 := n4_; have GE353 := n5_; have NB0_353 := n6_; have NB353_0 := n7_; clear n0_ n1_ n2_ n3_ n4_ n5_ n6_ n7_; clear hb hbox hg; have hnb23 := NB353_0.out; have hnc23 := NB0_353.out; have hcz24_0 : w22.cell? ⟨gb353, 0, none⟩ = some (.int .i64 a1_0) := (blk_cell BK353.out 0).trans rfl; have hcz24_1 : w22.cell? ⟨gb353, 1, none⟩ = some (.int .i64 a1_1) := (blk_cell BK353.out 1).trans rfl; have hfz24_0 := blk_frozen BK353.out 0; have hfz24_1 := blk_frozen BK353.out 1) | ((with_reducible refine gate_callee (f := 38) rfl ?_); refine goesL_ (some 28) rfl rfl Try.func38 (by kernel_rfl) rfl #[.pointer (some ⟨g, 0, none⟩), .int .i64 a1_1] rfl (by (try simp only [List.map_toArray, List.map_cons, List.map_nil]); first | done | rfl | (simp only [List.length_drop, List.length_take]; rfl)) ?_; (with_reducible refine (fleuronref01_Reader_Take.calls g s0_0 s0_1 s0_2 a1_1 t366 t367 t368 t369 w0 _ ?side1 ?side2 A21.out).mono ?_); (case side1 => repeat (first | (with_reducible first | exact HI0.out | apply IsS41.alloc | apply IsS41.drewN | apply IsS41.drew | apply IsS41.set_0 | apply IsS41.set_1 | apply IsS41.set_2 | refine IsS41.far ?_ NB0_353.out _) | exact HI0.out)); (case side2 => repeat (first | (with_reducible first | exact HB.out | apply below_alloc | apply pw_below_drewN | apply below_drew1 | refine below_set ?_ (IsS41.ge HI0.out) | refine below_set ?_ GE353.out) | exact HB.out)); rintro e w25 ⟨rfl, hi, hb, hk⟩; refine ⟨_, rfl, ?_⟩; have n0_ := Aside0.mk (KeepBut.blk hk (g' := gb353) (o := .cells #[.int .i64 a1_0, .int .i64 a1_1] 45 (0, 0)) (by (with_reducible repeat (first | refine blk_drewN ?_ _ | refine blk_drew ?_ | refine blk_alloc ?_ _)); exact BK353.out) NB353_0.out (by simp)); have n1_ := Aside0.mk (KeepBut.trans (by repeat (first | (with_reducible first | exact HK.out | apply KeepBut.set_ | apply keep_drewN | apply keep_drew | apply keep_alloc | refine keep_far ?_ GW353.out _) | exact HK.out)) hk (.inl rfl)); have n2_ := Aside0.mk (hb); have n3_ := Aside0.mk (hi); clear BK353; clear HK; clear HB; clear HI0; have BK353 := n0_; have HK := n1_; have HB := n2_; have HI0 := n3_; clear n0_ n1_ n2_ n3_; (try clear hb); (try clear hb2); (try clear hk); (try clear hi)))
        go_ret2
        exact ⟨by first | rfl | (simp [errW_none, errW_some] <;> rfl) | (simp [*, errW_none, errW_some] <;> rfl), by repeat (first | (with_reducible first | exact HI0.out | apply IsS41.alloc | apply IsS41.drewN | apply IsS41.drew | apply IsS41.set_0 | apply IsS41.set_1 | apply IsS41.set_2 | refine IsS41.far ?_ NB0_353.out _) | exact HI0.out), by repeat (first | (with_reducible first | exact HB.out | apply below_alloc | apply pw_below_drewN | apply below_drew1 | refine below_set ?_ (IsS41.ge HI0.out) | refine below_set ?_ GE353.out) | exact HB.out), by repeat (first | (with_reducible first | exact HK.out | apply KeepBut.set_ | apply keep_drewN | apply keep_drew | apply keep_alloc | refine keep_far ?_ GW353.out _) | exact HK.out)⟩

/-! ### fleuronref01_Reader_Left: function 29 -/
def fleuronref01_Reader_Left.f (s0_0 : ByteArray) (s0_1 : Int) (s0_2 : Bool) : Option (Int × ByteArray × Int × Bool) := some (wrap64 ((s0_0.size : Int) - s0_1), s0_0, s0_1, s0_2)
set_option maxHeartbeats 8000000 in
set_option maxRecDepth 100000 in
theorem fleuronref01_Reader_Left.calls (g : Nat) (s0_0 : ByteArray) (s0_1 : Int) (s0_2 : Bool) (r1 : Int) (r2 : ByteArray) (r3 : Int) (r4 : Bool) (w0 w : World) (hI : IsS41 w0 w g s0_0 s0_1 s0_2) (hB : Below w0.heap.size w0 w) (h : fleuronref01_Reader_Left.f s0_0 s0_1 s0_2 = some (r1, r2, r3, r4)) :
    Calls Try.prog 29 #[.pointer (some ⟨g, 0, none⟩)] w fun e w' => e = .returned (.int .i64 r1) ∧ IsS41 w0 w' g r2 r3 r4 ∧ Below w0.heap.size w0 w' ∧ KeepBut w w' g none := by
  have HI0 := Aside0.mk hI
  have HK := Aside0.mk (KeepBut.refl w g none)
  have HL := Aside0.mk hB.size
  clear hI
  have HW0 := Aside0.mk hB.size
  have HB := Aside0.mk hB
  clear hB
  have H : (some (wrap64 ((s0_0.size : Int) - s0_1), s0_0, s0_1, s0_2)) = some (r1, r2, r3, r4) := h
  clear h
  simp only [Option.some.injEq, Prod.mk.injEq] at H
  obtain ⟨rfl, rfl, rfl, rfl⟩ := H
  obtain ⟨HGz2, hgz2⟩ := HI0.out
  have hcz2_0 := cellS41_0 HGz2
  have hcz2_1 := cellS41_1 HGz2
  have hcz2_2 := cellS41_2 HGz2
  have hfz2_0 := blk_frozen HGz2 0
  have hfz2_1 := blk_frozen HGz2 1
  have hfz2_2 := blk_frozen HGz2 2
  clear HGz2 hgz2
  go_enter Try.func29, Try.ntmps29
  go_wp2
  repeat (go_quiet (fail); try go_wp2)
  go_ret
  exact ⟨by first | rfl | (simp [errW_none, errW_some] <;> rfl) | (simp [*, errW_none, errW_some] <;> rfl), by repeat (first | (with_reducible first | exact HI0.out | apply IsS41.alloc | apply IsS41.drewN | apply IsS41.drew | apply IsS41.set_0 | apply IsS41.set_1 | apply IsS41.set_2) | exact HI0.out), by repeat (first | (with_reducible first | exact HB.out | apply below_alloc | apply pw_below_drewN | apply below_drew1 | refine below_set ?_ (IsS41.ge HI0.out)) | exact HB.out), by repeat (first | (with_reducible first | exact HK.out | apply KeepBut.set_ | apply keep_drewN | apply keep_drew | apply keep_alloc) | exact HK.out)⟩

-- NOT PRINTED: function 8 (fleuronlaw01_OctetPlays)

-- NOT PRINTED: function 9 (fleuronlaw01_OctetTexts)

/-! ### fleuronlaw01_OctetFails: function 10 -/
mutual
def fleuronlaw01_OctetFails.j0 : Nat → ByteArray → Int → Int → Bool → ByteArray → Int → Bool → Option (Bool)
  | 0, _, _, _, _, _, _, _ => none
  | k + 1, x0, x1, x2, x21, x488000, x488001, x488002 => if x21 = true then (some false) else ((fleuronlaw01_few.f x0).bind fun t488 => (if (wrap64 ((t488.size : Int) + 1)) = 0 then (none) else ((octet_Reader_Take.f x488000 x488001 x488002 (Int.tmod (wrap64 (x1)) (wrap64 ((t488.size : Int) + 1)))).bind fun bt489 => ((fleuronlaw01_few.f x0).bind fun t493 => (if 0 ≤ (Int.tmod (wrap64 (x1)) (wrap64 ((t488.size : Int) + 1))) then (if (Int.tmod (wrap64 (x1)) (wrap64 ((t488.size : Int) + 1))) ≤ (t493.size : Int) then (if bt489.1.toList = (t493.extract 0 ((Int.tmod (wrap64 (x1)) (wrap64 ((t488.size : Int) + 1))) : Int).toNat).toList then ((octet_Reader_Failed.f bt489.2.1 bt489.2.2.1 bt489.2.2.2).bind fun bt494 => (fleuronlaw01_OctetFails.j1 k x2 (Int.tmod (wrap64 (x1)) (wrap64 ((t488.size : Int) + 1))) (!bt494.1) bt494.2.1 bt494.2.2.1 bt494.2.2.2)) else (fleuronlaw01_OctetFails.j1 k x2 (Int.tmod (wrap64 (x1)) (wrap64 ((t488.size : Int) + 1))) false bt489.2.1 bt489.2.2.1 bt489.2.2.2)) else (none)) else (none))))))
def fleuronlaw01_OctetFails.j1 : Nat → Int → Int → Bool → ByteArray → Int → Bool → Option (Bool)
  | 0, _, _, _, _, _, _ => none
  | k + 1, x2, x9, x10, x488000, x488001, x488002 => (octet_Reader_Left.f x488000 x488001 x488002).bind fun bt498 => (if (Int.tmod x2 6) = 0 then ((octet_Reader_Take.f bt498.2.1 bt498.2.2.1 bt498.2.2.2 (wrap64 (bt498.1 + 1))).bind fun bt502 => (fleuronlaw01_OctetFails.j2 k x9 x10 bt498.1 bt502.2.1 bt502.2.2.1 bt502.2.2.2)) else (if (Int.tmod x2 6) = 1 then ((octet_Reader_Take.f bt498.2.1 bt498.2.2.1 bt498.2.2.2 (-1)).bind fun bt506 => (fleuronlaw01_OctetFails.j2 k x9 x10 bt498.1 bt506.2.1 bt506.2.2.1 bt506.2.2.2)) else (if (Int.tmod x2 6) = 2 then ((octet_Reader_Num.f bt498.2.1 bt498.2.2.1 bt498.2.2.2 9).bind fun bt510 => (fleuronlaw01_OctetFails.j2 k x9 x10 bt498.1 bt510.2.1 bt510.2.2.1 bt510.2.2.2)) else (if (Int.tmod x2 6) = 3 then ((octet_Reader_Int.f bt498.2.1 bt498.2.2.1 bt498.2.2.2 (-1)).bind fun bt514 => (fleuronlaw01_OctetFails.j2 k x9 x10 bt498.1 bt514.2.1 bt514.2.2.1 bt514.2.2.2)) else (if (Int.tmod x2 6) = 4 then ((octet_Reader_Take.f bt498.2.1 bt498.2.2.1 bt498.2.2.2 4611686018427387904).bind fun bt518 => (fleuronlaw01_OctetFails.j2 k x9 x10 bt498.1 bt518.2.1 bt518.2.2.1 bt518.2.2.2)) else ((octet_Reader_Num.f bt498.2.1 bt498.2.2.1 bt498.2.2.2 (-9223372036854775808)).bind fun bt522 => (fleuronlaw01_OctetFails.j2 k x9 x10 bt498.1 bt522.2.1 bt522.2.2.1 bt522.2.2.2)))))))
def fleuronlaw01_OctetFails.j2 : Nat → Int → Bool → Int → ByteArray → Int → Bool → Option (Bool)
  | 0, _, _, _, _, _, _ => none
  | k + 1, x9, x10, x11, x488000, x488001, x488002 => if x10 = true then ((octet_Reader_Failed.f x488000 x488001 x488002).bind fun bt526 => (if bt526.1 = true then ((octet_Reader_At.f bt526.2.1 bt526.2.2.1 bt526.2.2.2).bind fun bt530 => (if bt530.1 = x9 then ((octet_Reader_Left.f bt530.2.1 bt530.2.2.1 bt530.2.2.2).bind fun bt534 => (if bt534.1 = x11 then ((octet_Reader_Take.f bt534.2.1 bt534.2.2.1 bt534.2.2.2 0).bind fun bt538 => (if bt538.1.toList = ([] : List UInt8) then ((octet_Reader_Num.f bt538.2.1 bt538.2.2.1 bt538.2.2.2 0).bind fun bt542 => (if bt542.1 = 0 then ((octet_Reader_Int.f bt542.2.1 bt542.2.2.1 bt542.2.2.2 1).bind fun bt546 => (if bt546.1 = 0 then ((octet_Reader_Text.f bt546.2.1 bt546.2.2.1 bt546.2.2.2).bind fun bt550 => (if bt550.1.toList = ([] : List UInt8) then ((octet_Reader_Num.f bt550.2.1 bt550.2.2.1 bt550.2.2.2 1).bind fun bt554 => (if bt554.1 = 0 then ((octet_Reader_Take.f bt554.2.1 bt554.2.2.1 bt554.2.2.2 x11).bind fun bt558 => (if bt558.1.toList = ([] : List UInt8) then ((octet_Reader_At.f bt558.2.1 bt558.2.2.1 bt558.2.2.2).bind fun bt562 => (some (bt562.1 == x9))) else (some false))) else (some false))) else (some false))) else (some false))) else (some false))) else (some false))) else (some false))) else (some false))) else (some false))) else (some false)
end
def fleuronlaw01_OctetFails.f (k : Nat) (a0 : ByteArray) (a1 : Int) (a2 : Int) : Option (Bool) := (fleuronlaw01_shown.f k).bind fun t482 => ((fleuronlaw01_few.f a0).bind fun t483 => ((octet_Read.f t483).bind fun bt484 => (if t482 = true then (fleuronlaw01_OctetFails.j0 k a0 a1 a2 false bt484.1 bt484.2.1 bt484.2.2) else (fleuronlaw01_OctetFails.j0 k a0 a1 a2 true bt484.1 bt484.2.1 bt484.2.2))))
theorem fleuronlaw01_OctetFails.mono_l : ∀ k, (∀ y0 y1 y2 y3 y4 y5 y6, LeO (fleuronlaw01_OctetFails.j0 k y0 y1 y2 y3 y4 y5 y6) (fleuronlaw01_OctetFails.j0 (k + 1) y0 y1 y2 y3 y4 y5 y6)) ∧ (∀ y0 y1 y2 y3 y4 y5, LeO (fleuronlaw01_OctetFails.j1 k y0 y1 y2 y3 y4 y5) (fleuronlaw01_OctetFails.j1 (k + 1) y0 y1 y2 y3 y4 y5)) ∧ (∀ y0 y1 y2 y3 y4 y5, LeO (fleuronlaw01_OctetFails.j2 k y0 y1 y2 y3 y4 y5) (fleuronlaw01_OctetFails.j2 (k + 1) y0 y1 y2 y3 y4 y5))
  | 0 => ⟨fun _ _ _ _ _ _ _ r h => by simp [fleuronlaw01_OctetFails.j0] at h, fun _ _ _ _ _ _ r h => by simp [fleuronlaw01_OctetFails.j1] at h, fun _ _ _ _ _ _ r h => by simp [fleuronlaw01_OctetFails.j2] at h⟩
  | k + 1 => by
    obtain ⟨ih0, ih1, ih2⟩ := fleuronlaw01_OctetFails.mono_l k
    refine ⟨?_, ?_, ?_⟩
    · intro y0 y1 y2 y3 y4 y5 y6
      unfold fleuronlaw01_OctetFails.j0
      repeat' first
      | (with_reducible exact ih0 _ _ _ _ _ _ _)
      | (with_reducible exact ih1 _ _ _ _ _ _)
      | (with_reducible exact ih2 _ _ _ _ _ _)
      | (with_reducible exact fleuronlaw01_shown.mono _)
      | (with_reducible exact LeO.refl _)
      | (with_reducible exact LeO.none _)
      | (with_reducible refine LeO.ite ?_ ?_)
      | (with_reducible refine LeO.bind ?_ (fun _ => ?_))
      | exact ih0 _ _ _ _ _ _ _
      | exact ih1 _ _ _ _ _ _
      | exact ih2 _ _ _ _ _ _
      | exact fleuronlaw01_shown.mono _
      | exact LeO.none _
      | refine LeO.ite ?_ ?_
      | refine LeO.bind ?_ (fun _ => ?_)
    · intro y0 y1 y2 y3 y4 y5
      unfold fleuronlaw01_OctetFails.j1
      repeat' first
      | (with_reducible exact ih0 _ _ _ _ _ _ _)
      | (with_reducible exact ih1 _ _ _ _ _ _)
      | (with_reducible exact ih2 _ _ _ _ _ _)
      | (with_reducible exact fleuronlaw01_shown.mono _)
      | (with_reducible exact LeO.refl _)
      | (with_reducible exact LeO.none _)
      | (with_reducible refine LeO.ite ?_ ?_)
      | (with_reducible refine LeO.bind ?_ (fun _ => ?_))
      | exact ih0 _ _ _ _ _ _ _
      | exact ih1 _ _ _ _ _ _
      | exact ih2 _ _ _ _ _ _
      | exact fleuronlaw01_shown.mono _
      | exact LeO.none _
      | refine LeO.ite ?_ ?_
      | refine LeO.bind ?_ (fun _ => ?_)
    · intro y0 y1 y2 y3 y4 y5
      unfold fleuronlaw01_OctetFails.j2
      repeat' first
      | (with_reducible exact ih0 _ _ _ _ _ _ _)
      | (with_reducible exact ih1 _ _ _ _ _ _)
      | (with_reducible exact ih2 _ _ _ _ _ _)
      | (with_reducible exact fleuronlaw01_shown.mono _)
      | (with_reducible exact LeO.refl _)
      | (with_reducible exact LeO.none _)
      | (with_reducible refine LeO.ite ?_ ?_)
      | (with_reducible refine LeO.bind ?_ (fun _ => ?_))
      | exact ih0 _ _ _ _ _ _ _
      | exact ih1 _ _ _ _ _ _
      | exact ih2 _ _ _ _ _ _
      | exact fleuronlaw01_shown.mono _
      | exact LeO.none _
      | refine LeO.ite ?_ ?_
      | refine LeO.bind ?_ (fun _ => ?_)
theorem fleuronlaw01_OctetFails.mono : ∀ a0 a1 a2 k, LeO (fleuronlaw01_OctetFails.f k a0 a1 a2) (fleuronlaw01_OctetFails.f (k + 1) a0 a1 a2) := by
  intro a0 a1 a2 k
  obtain ⟨ih0, ih1, ih2⟩ := fleuronlaw01_OctetFails.mono_l k
  unfold fleuronlaw01_OctetFails.f
  repeat' first
      | (with_reducible exact ih0 _ _ _ _ _ _ _)
      | (with_reducible exact ih1 _ _ _ _ _ _)
      | (with_reducible exact ih2 _ _ _ _ _ _)
      | (with_reducible exact fleuronlaw01_shown.mono _)
      | (with_reducible exact LeO.refl _)
      | (with_reducible exact LeO.none _)
      | (with_reducible refine LeO.ite ?_ ?_)
      | (with_reducible refine LeO.bind ?_ (fun _ => ?_))
      | exact ih0 _ _ _ _ _ _ _
      | exact ih1 _ _ _ _ _ _
      | exact ih2 _ _ _ _ _ _
      | exact fleuronlaw01_shown.mono _
      | exact LeO.none _
      | refine LeO.ite ?_ ?_
      | refine LeO.bind ?_ (fun _ => ?_)
set_option maxHeartbeats 8000000 in
set_option maxRecDepth 100000 in
theorem fleuronlaw01_OctetFails.calls (k : Nat) (a0 : ByteArray) (a1 : Int) (a2 : Int) (r : Bool) (w : World) (h : fleuronlaw01_OctetFails.f k a0 a1 a2 = some r) :
    Calls Try.prog 10 #[.string a0, .int .u8 a1, .int .u8 a2] w fun e w' => e = .returned (.bool r) ∧ Below w.heap.size w w' := by
  have HB := Aside0.mk (Below.refl w.heap.size w)
  have H : ((fleuronlaw01_shown.f k).bind fun t482 => ((fleuronlaw01_few.f a0).bind fun t483 => ((octet_Read.f t483).bind fun bt484 => (if t482 = true then (fleuronlaw01_OctetFails.j0 k a0 a1 a2 false bt484.1 bt484.2.1 bt484.2.2) else (fleuronlaw01_OctetFails.j0 k a0 a1 a2 true bt484.1 bt484.2.1 bt484.2.2))))) = some r := h
  clear h
  replace H := Option.bind_eq_some_iff.mp H
  obtain ⟨t482, A40, H⟩ := H
  replace H : ((fleuronlaw01_few.f a0).bind fun t483 => ((octet_Read.f t483).bind fun bt484 => (if t482 = true then (fleuronlaw01_OctetFails.j0 k a0 a1 a2 false bt484.1 bt484.2.1 bt484.2.2) else (fleuronlaw01_OctetFails.j0 k a0 a1 a2 true bt484.1 bt484.2.1 bt484.2.2)))) = some r := H
  have A4 := Aside0.mk A40
  clear A40
  replace H := Option.bind_eq_some_iff.mp H
  obtain ⟨t483, A50, H⟩ := H
  replace H : ((octet_Read.f t483).bind fun bt484 => (if t482 = true then (fleuronlaw01_OctetFails.j0 k a0 a1 a2 false bt484.1 bt484.2.1 bt484.2.2) else (fleuronlaw01_OctetFails.j0 k a0 a1 a2 true bt484.1 bt484.2.1 bt484.2.2))) = some r := H
  have A5 := Aside0.mk A50
  clear A50
  replace H := Option.bind_eq_some_iff.mp H
  obtain ⟨⟨t484, t485, t486⟩, A60, H⟩ := H
  replace H : (if t482 = true then (fleuronlaw01_OctetFails.j0 k a0 a1 a2 false t484 t485 t486) else (fleuronlaw01_OctetFails.j0 k a0 a1 a2 true t484 t485 t486)) = some r := H
  have A6 := Aside0.mk A60
  clear A60
  have HC7 := Aside0.mk H
  clear H
  go_enter Try.func10, Try.ntmps10
  go_upto_region 3 with (first | ((with_reducible refine gate_callee (f := 12) rfl ?_); refine goesL_ (some 12) rfl rfl Try.func12 (by kernel_rfl) rfl #[] rfl (by (try simp only [List.map_toArray, List.map_cons, List.map_nil]); first | done | rfl | (simp only [List.length_drop, List.length_take]; rfl)) ?_; (with_reducible refine (fleuronlaw01_shown.calls k  t482 _ A4.out).mono ?_); rintro e w8 ⟨rfl, hb⟩; refine ⟨_, rfl, ?_⟩; have n0_ := Aside0.mk (below_step (by repeat (first | (with_reducible first | exact HB.out | apply below_alloc | apply pw_below_drewN | apply below_drew1) | exact HB.out)) hb); clear HB; have HB := n0_; clear n0_; (try clear hb); (try clear hb2); (try clear hk); (try clear hi)) | ((with_reducible refine gate_callee (f := 18) rfl ?_); refine goesL_ (some 14) rfl rfl Try.func18 (by kernel_rfl) rfl #[.string a0] rfl (by (try simp only [List.map_toArray, List.map_cons, List.map_nil]); first | done | rfl | (simp only [List.length_drop, List.length_take]; rfl)) ?_; (with_reducible refine (fleuronlaw01_few.calls a0 t483 _ A5.out).mono ?_); rintro e w9 ⟨rfl, hb⟩; refine ⟨_, rfl, ?_⟩; have n0_ := Aside0.mk (below_step (by repeat (first | (with_reducible first | exact HB.out | apply below_alloc | apply pw_below_drewN | apply below_drew1) | exact HB.out)) hb); clear HB; have HB := n0_; clear n0_; (try clear hb); (try clear hb2); (try clear hk); (try clear hi)) | ((with_reducible refine gate_callee (f := 13) rfl ?_); refine goesL_ (some 15) rfl rfl Try.func13 (by kernel_rfl) rfl #[.string t483] rfl (by (try simp only [List.map_toArray, List.map_cons, List.map_nil]); first | done | rfl | (simp only [List.length_drop, List.length_take]; rfl)) ?_; (with_reducible refine (octet_Read.calls t483 t484 t485 t486 w _ ?side1 A6.out).mono ?_); (case side1 => repeat (first | (with_reducible first | exact HB.out | apply below_alloc | apply pw_below_drewN | apply below_drew1) | exact HB.out)); rintro e w10 ⟨g487, rfl, hi, hb, hb2⟩; refine ⟨_, rfl, ?_⟩; have n0_ := Aside0.mk (hb); have n1_ := Aside0.mk (hi); clear HB; have HB := n0_; have HI487 := n1_; clear n0_ n1_; (try clear hb); (try clear hb2); (try clear hk); (try clear hi)))
  (try simp only [Act.put, List.setIfInBounds_toArray, List.set_cons_zero, List.set_cons_succ])
  go_cut [21] (fun v21 wc => ∃ (kq : Nat) (x21_6 : Bool), v21 = .bool x21_6 ∧ Aside0 (fleuronlaw01_OctetFails.j0 kq a0 a1 a2 x21_6 t484 t485 t486 = some r) ∧ Aside0 (kq ≤ k) ∧ Aside0 (IsS52 w wc g487 t484 t485 t486) ∧ Aside0 (Below w.heap.size w wc))
  case first =>
    have H := HC7.out
    clear HC7
    by_cases c11 : t482 = true
    · subst c11
      have H1 : (fleuronlaw01_OctetFails.j0 k a0 a1 a2 false t484 t485 t486) = some r := by rw [if_pos rfl] at H; exact H
      clear H
      have H := H1
      clear H1
      have H' := Aside0.mk H
      clear H
      go_wp2
      go_meet
      case rel => exact ⟨_, (false), (by first | rfl | (simp; done) | (simp [*]; done)), H', ⟨by first | omega | exact Nat.le_refl _⟩, ⟨by repeat (first | (with_reducible first | exact HI487.out | apply IsS52.alloc | apply IsS52.drewN | apply IsS52.drew | apply IsS52.set_0 | apply IsS52.set_1 | apply IsS52.set_2) | exact HI487.out)⟩, ⟨by repeat (first | (with_reducible first | exact HB.out | apply below_alloc | apply pw_below_drewN | apply below_drew1 | refine below_set ?_ (IsS52.ge HI487.out)) | exact HB.out)⟩⟩
    · replace c11 := Bool.eq_false_iff.mpr c11
      subst c11
      have H1 : (fleuronlaw01_OctetFails.j0 k a0 a1 a2 true t484 t485 t486) = some r := by rw [if_neg (show ¬ (false = true) by decide)] at H; exact H
      clear H
      have H := H1
      clear H1
      have H' := Aside0.mk H
      clear H
      go_wp2
      go_meet
      case rel => exact ⟨_, (true), (by first | rfl | (simp; done) | (simp [*]; done)), H', ⟨by first | omega | exact Nat.le_refl _⟩, ⟨by repeat (first | (with_reducible first | exact HI487.out | apply IsS52.alloc | apply IsS52.drewN | apply IsS52.drew | apply IsS52.set_0 | apply IsS52.set_1 | apply IsS52.set_2) | exact HI487.out)⟩, ⟨by repeat (first | (with_reducible first | exact HB.out | apply below_alloc | apply pw_below_drewN | apply below_drew1 | refine below_set ?_ (IsS52.ge HI487.out)) | exact HB.out)⟩⟩
  case rest =>
    clear HC7
    try clear c1
    try clear p2
    try clear c10
    try clear c11
    obtain ⟨kq, x21_6, rfl, HA, HJ6, HI487, HB⟩ := hcut
    cases kq with
    | zero => exact absurd HA.out (by simp [fleuronlaw01_OctetFails.j0])
    | succ kj6 =>
      have H := HA.out
      clear HA
      simp only [fleuronlaw01_OctetFails.j0] at H
      by_cases c12 : x21_6 = true
      · subst c12
        have H1 : (some false) = some r := by rw [if_pos rfl] at H; exact H
        clear H
        have H := H1
        clear H1
        obtain rfl := Option.some.inj H
        go_wp2
        go_ret
        exact ⟨by first | rfl | (simp [errW_none, errW_some] <;> rfl) | (simp [*, errW_none, errW_some] <;> rfl), by repeat (first | (with_reducible first | exact HB.out | apply below_alloc | apply pw_below_drewN | apply below_drew1 | refine below_set ?_ (IsS52.ge HI487.out)) | exact HB.out)⟩
      · replace c12 := Bool.eq_false_iff.mpr c12
        subst c12
        have H1 : ((fleuronlaw01_few.f a0).bind fun t488 => (if (wrap64 ((t488.size : Int) + 1)) = 0 then (none) else ((octet_Reader_Take.f t484 t485 t486 (Int.tmod (wrap64 (a1)) (wrap64 ((t488.size : Int) + 1)))).bind fun bt489 => ((fleuronlaw01_few.f a0).bind fun t493 => (if 0 ≤ (Int.tmod (wrap64 (a1)) (wrap64 ((t488.size : Int) + 1))) then (if (Int.tmod (wrap64 (a1)) (wrap64 ((t488.size : Int) + 1))) ≤ (t493.size : Int) then (if bt489.1.toList = (t493.extract 0 ((Int.tmod (wrap64 (a1)) (wrap64 ((t488.size : Int) + 1))) : Int).toNat).toList then ((octet_Reader_Failed.f bt489.2.1 bt489.2.2.1 bt489.2.2.2).bind fun bt494 => (fleuronlaw01_OctetFails.j1 kj6 a2 (Int.tmod (wrap64 (a1)) (wrap64 ((t488.size : Int) + 1))) (!bt494.1) bt494.2.1 bt494.2.2.1 bt494.2.2.2)) else (fleuronlaw01_OctetFails.j1 kj6 a2 (Int.tmod (wrap64 (a1)) (wrap64 ((t488.size : Int) + 1))) false bt489.2.1 bt489.2.2.1 bt489.2.2.2)) else (none)) else (none)))))) = some r := by rw [if_neg (show ¬ (false = true) by decide)] at H; exact H
        clear H
        have H := H1
        clear H1
        replace H := Option.bind_eq_some_iff.mp H
        obtain ⟨t488, A130, H⟩ := H
        obtain rfl : t483 = t488 := Option.some.inj (A5.out.symm.trans A130)
        replace H : (if (wrap64 ((t483.size : Int) + 1)) = 0 then (none) else ((octet_Reader_Take.f t484 t485 t486 (Int.tmod (wrap64 (a1)) (wrap64 ((t483.size : Int) + 1)))).bind fun bt489 => ((fleuronlaw01_few.f a0).bind fun t493 => (if 0 ≤ (Int.tmod (wrap64 (a1)) (wrap64 ((t483.size : Int) + 1))) then (if (Int.tmod (wrap64 (a1)) (wrap64 ((t483.size : Int) + 1))) ≤ (t493.size : Int) then (if bt489.1.toList = (t493.extract 0 ((Int.tmod (wrap64 (a1)) (wrap64 ((t483.size : Int) + 1))) : Int).toNat).toList then ((octet_Reader_Failed.f bt489.2.1 bt489.2.2.1 bt489.2.2.2).bind fun bt494 => (fleuronlaw01_OctetFails.j1 kj6 a2 (Int.tmod (wrap64 (a1)) (wrap64 ((t483.size : Int) + 1))) (!bt494.1) bt494.2.1 bt494.2.2.1 bt494.2.2.2)) else (fleuronlaw01_OctetFails.j1 kj6 a2 (Int.tmod (wrap64 (a1)) (wrap64 ((t483.size : Int) + 1))) false bt489.2.1 bt489.2.2.1 bt489.2.2.2)) else (none)) else (none))))) = some r := H
        clear A130
        by_cases c14 : (wrap64 ((t483.size : Int) + 1)) = 0
        · rw [if_pos c14] at H
          exact absurd H (by simp)
        · rw [if_neg c14] at H
          have c14b0 : ((wrap64 ((t483.size : Int) + 1)) == 0) = false := beq_eq_false_iff_ne.mpr c14
          have c14b1 : ((wrap64 ((t483.size : Int) + 1)) != 0) = true := bne_iff_ne.mpr c14
          have HC15 := Aside0.mk H
          clear H
          go_upto_region 6 with (first | ((with_reducible refine gate_callee (f := 18) rfl ?_); refine goesL_ (some 25) rfl rfl Try.func18 (by kernel_rfl) rfl #[.string a0] rfl (by (try simp only [List.map_toArray, List.map_cons, List.map_nil]); first | done | rfl | (simp only [List.length_drop, List.length_take]; rfl)) ?_; (with_reducible refine (fleuronlaw01_few.calls a0 t483 _ A5.out).mono ?_); rintro e w16 ⟨rfl, hb⟩; refine ⟨_, rfl, ?_⟩; have n0_ := Aside0.mk (IsS52.below (by repeat (first | (with_reducible first | exact HI487.out | apply IsS52.alloc | apply IsS52.drewN | apply IsS52.drew | apply IsS52.set_0 | apply IsS52.set_1 | apply IsS52.set_2) | exact HI487.out)) hb); have n1_ := Aside0.mk (below_step (by repeat (first | (with_reducible first | exact HB.out | apply below_alloc | apply pw_below_drewN | apply below_drew1 | refine below_set ?_ (IsS52.ge HI487.out)) | exact HB.out)) hb); clear HI487; clear HB; have HI487 := n0_; have HB := n1_; clear n0_ n1_; (try clear hb); (try clear hb2); (try clear hk); (try clear hi)))
          (try simp only [Act.put, List.setIfInBounds_toArray, List.set_cons_zero, List.set_cons_succ])
          go_cut [10] (fun v10 wc => ∃ (kq : Nat) (x10_14 : Bool) (x488000_14 : ByteArray) (x488001_14 : Int) (x488002_14 : Bool), v10 = .bool x10_14 ∧ Aside0 (fleuronlaw01_OctetFails.j1 kq a2 (Int.tmod (wrap64 (a1)) (wrap64 ((t483.size : Int) + 1))) x10_14 x488000_14 x488001_14 x488002_14 = some r) ∧ Aside0 (kq ≤ kj6) ∧ Aside0 (IsS52 w wc g487 x488000_14 x488001_14 x488002_14) ∧ Aside0 (Below w.heap.size w wc))
          case first =>
            have H := HC15.out
            clear HC15
            replace H := Option.bind_eq_some_iff.mp H
            obtain ⟨⟨t489, t490, t491, t492⟩, A170, H⟩ := H
            replace H : ((fleuronlaw01_few.f a0).bind fun t493 => (if 0 ≤ (Int.tmod (wrap64 (a1)) (wrap64 ((t483.size : Int) + 1))) then (if (Int.tmod (wrap64 (a1)) (wrap64 ((t483.size : Int) + 1))) ≤ (t493.size : Int) then (if t489.toList = (t493.extract 0 ((Int.tmod (wrap64 (a1)) (wrap64 ((t483.size : Int) + 1))) : Int).toNat).toList then ((octet_Reader_Failed.f t490 t491 t492).bind fun bt494 => (fleuronlaw01_OctetFails.j1 kj6 a2 (Int.tmod (wrap64 (a1)) (wrap64 ((t483.size : Int) + 1))) (!bt494.1) bt494.2.1 bt494.2.2.1 bt494.2.2.2)) else (fleuronlaw01_OctetFails.j1 kj6 a2 (Int.tmod (wrap64 (a1)) (wrap64 ((t483.size : Int) + 1))) false t490 t491 t492)) else (none)) else (none))) = some r := H
            have A17 := Aside0.mk A170
            clear A170
            replace H := Option.bind_eq_some_iff.mp H
            obtain ⟨t493, A180, H⟩ := H
            obtain rfl : t483 = t493 := Option.some.inj (A5.out.symm.trans A180)
            replace H : (if 0 ≤ (Int.tmod (wrap64 (a1)) (wrap64 ((t483.size : Int) + 1))) then (if (Int.tmod (wrap64 (a1)) (wrap64 ((t483.size : Int) + 1))) ≤ (t483.size : Int) then (if t489.toList = (t483.extract 0 ((Int.tmod (wrap64 (a1)) (wrap64 ((t483.size : Int) + 1))) : Int).toNat).toList then ((octet_Reader_Failed.f t490 t491 t492).bind fun bt494 => (fleuronlaw01_OctetFails.j1 kj6 a2 (Int.tmod (wrap64 (a1)) (wrap64 ((t483.size : Int) + 1))) (!bt494.1) bt494.2.1 bt494.2.2.1 bt494.2.2.2)) else (fleuronlaw01_OctetFails.j1 kj6 a2 (Int.tmod (wrap64 (a1)) (wrap64 ((t483.size : Int) + 1))) false t490 t491 t492)) else (none)) else (none)) = some r := H
            clear A180
            obtain ⟨ji19, hji19⟩ : ∃ j_ : Int, (Int.tmod (wrap64 (a1)) (wrap64 ((t483.size : Int) + 1))) = j_ := ⟨_, rfl⟩
            replace H : (if 0 ≤ (ji19) then (if (ji19) ≤ (t483.size : Int) then (if t489.toList = (t483.extract 0 ((ji19) : Int).toNat).toList then ((octet_Reader_Failed.f t490 t491 t492).bind fun bt494 => (fleuronlaw01_OctetFails.j1 kj6 a2 ji19 (!bt494.1) bt494.2.1 bt494.2.2.1 bt494.2.2.2)) else (fleuronlaw01_OctetFails.j1 kj6 a2 ji19 false t490 t491 t492)) else (none)) else (none)) = some r := by first | (rw [hji19] at H; exact H) | (simp only [hji19] at H ⊢; exact H)
            (try rw [hji19] at A17)
            (try rw [hji19] at A5)
            by_cases c20 : 0 ≤ (ji19)
            · rw [if_pos c20] at H
              have c20b0 := eq_true c20
              have c20b1 : decide (0 ≤ (ji19)) = true := decide_eq_true c20
              clear c20
              by_cases c21 : (ji19) ≤ (t483.size : Int)
              · rw [if_pos c21] at H
                have c21b0 := eq_true c21
                have c21b1 : decide ((ji19) ≤ (t483.size : Int)) = true := decide_eq_true c21
                clear c21
                by_cases c22 : t489.toList = (t483.extract 0 ((ji19) : Int).toNat).toList
                · rw [if_pos c22] at H
                  have c22b0 : (t489.toList == (t483.extract 0 ((ji19) : Int).toNat).toList) = true := beq_iff_eq.mpr c22
                  have c22b1 : (t489.toList != (t483.extract 0 ((ji19) : Int).toNat).toList) = false := bne_eq_false_iff_eq.mpr c22
                  clear c22
                  (first | rw [c22b0] | (simp only [i64_w, i32_w]; rw [c22b0]) | skip)
                  replace H := Option.bind_eq_some_iff.mp H
                  obtain ⟨⟨t494, t495, t496, t497⟩, A230, H⟩ := H
                  replace H : (fleuronlaw01_OctetFails.j1 kj6 a2 ji19 (!t494) t495 t496 t497) = some r := H
                  have A23 := Aside0.mk A230
                  clear A230
                  have H' := Aside0.mk H
                  clear H
                  go_wp2_with (first | ((with_reducible refine gate_callee (f := 15) rfl ?_); refine goesL_ (some 31) rfl rfl Try.func15 (by kernel_rfl) rfl #[.pointer (some ⟨g487, 0, none⟩), .int .i64 ji19] rfl (by (try simp only [List.map_toArray, List.map_cons, List.map_nil]); first | done | (simp only [hji19]; rfl) | rfl | (simp only [List.length_drop, List.length_take]; rfl)) ?_; (with_reducible refine (octet_Reader_Take.calls g487 t484 t485 t486 ji19 t489 t490 t491 t492 w _ ?side1 ?side2 A17.out).mono ?_); (case side1 => repeat (first | (with_reducible first | exact HI487.out | apply IsS52.alloc | apply IsS52.drewN | apply IsS52.drew | apply IsS52.set_0 | apply IsS52.set_1 | apply IsS52.set_2) | exact HI487.out)); (case side2 => repeat (first | (with_reducible first | exact HB.out | apply below_alloc | apply pw_below_drewN | apply below_drew1 | refine below_set ?_ (IsS52.ge HI487.out)) | exact HB.out)); rintro e w24 ⟨rfl, hi, hb, hk⟩; refine ⟨_, rfl, ?_⟩; have n0_ := Aside0.mk (hb); have n1_ := Aside0.mk (hi); clear HB; clear HI487; have HB := n0_; have HI487 := n1_; clear n0_ n1_; (try clear hb); (try clear hb2); (try clear hk); (try clear hi)) | ((with_reducible refine gate_callee (f := 18) rfl ?_); refine goesL_ (some 33) rfl rfl Try.func18 (by kernel_rfl) rfl #[.string a0] rfl (by (try simp only [List.map_toArray, List.map_cons, List.map_nil]); first | done | rfl | (simp only [List.length_drop, List.length_take]; rfl)) ?_; (with_reducible refine (fleuronlaw01_few.calls a0 t483 _ A5.out).mono ?_); rintro e w25 ⟨rfl, hb⟩; refine ⟨_, rfl, ?_⟩; have n0_ := Aside0.mk (IsS52.below (by repeat (first | (with_reducible first | exact HI487.out | apply IsS52.alloc | apply IsS52.drewN | apply IsS52.drew | apply IsS52.set_0 | apply IsS52.set_1 | apply IsS52.set_2) | exact HI487.out)) hb); have n1_ := Aside0.mk (below_step (by repeat (first | (with_reducible first | exact HB.out | apply below_alloc | apply pw_below_drewN | apply below_drew1 | refine below_set ?_ (IsS52.ge HI487.out)) | exact HB.out)) hb); clear HI487; clear HB; have HI487 := n0_; have HB := n1_; clear n0_ n1_; (try clear hb); (try clear hb2); (try clear hk); (try clear hi)) | (go_at_call 16; (with_reducible refine (octet_Reader_Failed.calls g487 t490 t491 t492 t494 t495 t496 t497 w _ ?side1 ?side2 A23.out).mono ?_); (case side1 => repeat (first | (with_reducible first | exact HI487.out | apply IsS52.alloc | apply IsS52.drewN | apply IsS52.drew | apply IsS52.set_0 | apply IsS52.set_1 | apply IsS52.set_2) | exact HI487.out)); (case side2 => repeat (first | (with_reducible first | exact HB.out | apply below_alloc | apply pw_below_drewN | apply below_drew1 | refine below_set ?_ (IsS52.ge HI487.out)) | exact HB.out)); rintro e w26 ⟨rfl, hi, hb, hk⟩; have n0_ := Aside0.mk (hb); have n1_ := Aside0.mk (hi); clear HB; clear HI487; have HB := n0_; have HI487 := n1_; clear n0_ n1_; (try clear hb); (try clear hb2); (try clear hk); (try clear hi)))
                  (try subst hji19)
                  go_meet
                  case rel => exact ⟨_, (!t494), (t495), (t496), (t497), (by first | rfl | (simp; done) | (simp [*]; done)), H', ⟨by have := HJ6.out; first | omega | exact Nat.le_refl _⟩, ⟨by repeat (first | (with_reducible first | exact HI487.out | apply IsS52.alloc | apply IsS52.drewN | apply IsS52.drew | apply IsS52.set_0 | apply IsS52.set_1 | apply IsS52.set_2) | exact HI487.out)⟩, ⟨by repeat (first | (with_reducible first | exact HB.out | apply below_alloc | apply pw_below_drewN | apply below_drew1 | refine below_set ?_ (IsS52.ge HI487.out)) | exact HB.out)⟩⟩
                · rw [if_neg c22] at H
                  have c22b0 : (t489.toList == (t483.extract 0 ((ji19) : Int).toNat).toList) = false := beq_eq_false_iff_ne.mpr c22
                  have c22b1 : (t489.toList != (t483.extract 0 ((ji19) : Int).toNat).toList) = true := bne_iff_ne.mpr c22
                  (first | rw [c22b0] | (simp only [i64_w, i32_w]; rw [c22b0]) | skip)
                  have H' := Aside0.mk H
                  clear H
                  go_wp2_with (first | ((with_reducible refine gate_callee (f := 15) rfl ?_); refine goesL_ (some 31) rfl rfl Try.func15 (by kernel_rfl) rfl #[.pointer (some ⟨g487, 0, none⟩), .int .i64 ji19] rfl (by (try simp only [List.map_toArray, List.map_cons, List.map_nil]); first | done | (simp only [hji19]; rfl) | rfl | (simp only [List.length_drop, List.length_take]; rfl)) ?_; (with_reducible refine (octet_Reader_Take.calls g487 t484 t485 t486 ji19 t489 t490 t491 t492 w _ ?side1 ?side2 A17.out).mono ?_); (case side1 => repeat (first | (with_reducible first | exact HI487.out | apply IsS52.alloc | apply IsS52.drewN | apply IsS52.drew | apply IsS52.set_0 | apply IsS52.set_1 | apply IsS52.set_2) | exact HI487.out)); (case side2 => repeat (first | (with_reducible first | exact HB.out | apply below_alloc | apply pw_below_drewN | apply below_drew1 | refine below_set ?_ (IsS52.ge HI487.out)) | exact HB.out)); rintro e w27 ⟨rfl, hi, hb, hk⟩; refine ⟨_, rfl, ?_⟩; have n0_ := Aside0.mk (hb); have n1_ := Aside0.mk (hi); clear HB; clear HI487; have HB := n0_; have HI487 := n1_; clear n0_ n1_; (try clear hb); (try clear hb2); (try clear hk); (try clear hi)) | ((with_reducible refine gate_callee (f := 18) rfl ?_); refine goesL_ (some 33) rfl rfl Try.func18 (by kernel_rfl) rfl #[.string a0] rfl (by (try simp only [List.map_toArray, List.map_cons, List.map_nil]); first | done | rfl | (simp only [List.length_drop, List.length_take]; rfl)) ?_; (with_reducible refine (fleuronlaw01_few.calls a0 t483 _ A5.out).mono ?_); rintro e w28 ⟨rfl, hb⟩; refine ⟨_, rfl, ?_⟩; have n0_ := Aside0.mk (IsS52.below (by repeat (first | (with_reducible first | exact HI487.out | apply IsS52.alloc | apply IsS52.drewN | apply IsS52.drew | apply IsS52.set_0 | apply IsS52.set_1 | apply IsS52.set_2) | exact HI487.out)) hb); have n1_ := Aside0.mk (below_step (by repeat (first | (with_reducible first | exact HB.out | apply below_alloc | apply pw_below_drewN | apply below_drew1 | refine below_set ?_ (IsS52.ge HI487.out)) | exact HB.out)) hb); clear HI487; clear HB; have HI487 := n0_; have HB := n1_; clear n0_ n1_; (try clear hb); (try clear hb2); (try clear hk); (try clear hi)))
                  (try subst hji19)
                  go_meet
                  case rel => exact ⟨_, (false), (t490), (t491), (t492), (by first | rfl | (simp; done) | (simp [*]; done)), H', ⟨by have := HJ6.out; first | omega | exact Nat.le_refl _⟩, ⟨by repeat (first | (with_reducible first | exact HI487.out | apply IsS52.alloc | apply IsS52.drewN | apply IsS52.drew | apply IsS52.set_0 | apply IsS52.set_1 | apply IsS52.set_2) | exact HI487.out)⟩, ⟨by repeat (first | (with_reducible first | exact HB.out | apply below_alloc | apply pw_below_drewN | apply below_drew1 | refine below_set ?_ (IsS52.ge HI487.out)) | exact HB.out)⟩⟩
              · rw [if_neg c21] at H
                exact absurd H (by simp)
            · rw [if_neg c20] at H
              exact absurd H (by simp)
          case rest =>
            clear HC15
            try clear c1
            try clear c2
            try clear p2
            try clear p6
            try clear c10
            try clear c11
            try clear c12
            try clear c13
            try clear c14
            try clear c14b0
            try clear c14b1
            try clear c15
            try clear c18
            try clear c20
            try clear c20b0
            try clear c20b1
            try clear c21
            try clear c21b0
            try clear c21b1
            try clear c22
            try clear c22b0
            try clear c22b1
            try clear p2
            obtain ⟨kq, x10_14, x488000_14, x488001_14, x488002_14, rfl, HA, HJ14, HI487, HB⟩ := hcut
            cases kq with
            | zero => exact absurd HA.out (by simp [fleuronlaw01_OctetFails.j1])
            | succ kj14 =>
              have H := HA.out
              clear HA
              simp only [fleuronlaw01_OctetFails.j1] at H
              replace H := Option.bind_eq_some_iff.mp H
              obtain ⟨⟨t498, t499, t500, t501⟩, A290, H⟩ := H
              replace H : (if (Int.tmod a2 6) = 0 then ((octet_Reader_Take.f t499 t500 t501 (wrap64 (t498 + 1))).bind fun bt502 => (fleuronlaw01_OctetFails.j2 kj14 (Int.tmod (wrap64 (a1)) (wrap64 ((t483.size : Int) + 1))) x10_14 t498 bt502.2.1 bt502.2.2.1 bt502.2.2.2)) else (if (Int.tmod a2 6) = 1 then ((octet_Reader_Take.f t499 t500 t501 (-1)).bind fun bt506 => (fleuronlaw01_OctetFails.j2 kj14 (Int.tmod (wrap64 (a1)) (wrap64 ((t483.size : Int) + 1))) x10_14 t498 bt506.2.1 bt506.2.2.1 bt506.2.2.2)) else (if (Int.tmod a2 6) = 2 then ((octet_Reader_Num.f t499 t500 t501 9).bind fun bt510 => (fleuronlaw01_OctetFails.j2 kj14 (Int.tmod (wrap64 (a1)) (wrap64 ((t483.size : Int) + 1))) x10_14 t498 bt510.2.1 bt510.2.2.1 bt510.2.2.2)) else (if (Int.tmod a2 6) = 3 then ((octet_Reader_Int.f t499 t500 t501 (-1)).bind fun bt514 => (fleuronlaw01_OctetFails.j2 kj14 (Int.tmod (wrap64 (a1)) (wrap64 ((t483.size : Int) + 1))) x10_14 t498 bt514.2.1 bt514.2.2.1 bt514.2.2.2)) else (if (Int.tmod a2 6) = 4 then ((octet_Reader_Take.f t499 t500 t501 4611686018427387904).bind fun bt518 => (fleuronlaw01_OctetFails.j2 kj14 (Int.tmod (wrap64 (a1)) (wrap64 ((t483.size : Int) + 1))) x10_14 t498 bt518.2.1 bt518.2.2.1 bt518.2.2.2)) else ((octet_Reader_Num.f t499 t500 t501 (-9223372036854775808)).bind fun bt522 => (fleuronlaw01_OctetFails.j2 kj14 (Int.tmod (wrap64 (a1)) (wrap64 ((t483.size : Int) + 1))) x10_14 t498 bt522.2.1 bt522.2.2.1 bt522.2.2.2))))))) = some r := H
              have A29 := Aside0.mk A290
              clear A290
              have HC30 := Aside0.mk H
              clear H
              go_upto_block 0 with (first | ((with_reducible refine gate_callee (f := 26) rfl ?_); refine goesL_ (some 43) rfl rfl Try.func26 (by kernel_rfl) rfl #[.pointer (some ⟨g487, 0, none⟩)] rfl (by (try simp only [List.map_toArray, List.map_cons, List.map_nil]); first | done | rfl | (simp only [List.length_drop, List.length_take]; rfl)) ?_; (with_reducible refine (octet_Reader_Left.calls g487 x488000_14 x488001_14 x488002_14 t498 t499 t500 t501 w _ ?side1 ?side2 A29.out).mono ?_); (case side1 => repeat (first | (with_reducible first | exact HI487.out | apply IsS52.alloc | apply IsS52.drewN | apply IsS52.drew | apply IsS52.set_0 | apply IsS52.set_1 | apply IsS52.set_2) | exact HI487.out)); (case side2 => repeat (first | (with_reducible first | exact HB.out | apply below_alloc | apply pw_below_drewN | apply below_drew1 | refine below_set ?_ (IsS52.ge HI487.out)) | exact HB.out)); rintro e w31 ⟨rfl, hi, hb, hk⟩; refine ⟨_, rfl, ?_⟩; have n0_ := Aside0.mk (hb); have n1_ := Aside0.mk (hi); clear HB; clear HI487; have HB := n0_; have HI487 := n1_; clear n0_ n1_; (try clear hb); (try clear hb2); (try clear hk); (try clear hi)))
              (try simp only [Act.put, List.setIfInBounds_toArray, List.set_cons_zero, List.set_cons_succ])
              go_cut [] (fun wc => ∃ (kq : Nat) (x488000_29 : ByteArray) (x488001_29 : Int) (x488002_29 : Bool), Aside0 (fleuronlaw01_OctetFails.j2 kq (Int.tmod (wrap64 (a1)) (wrap64 ((t483.size : Int) + 1))) x10_14 t498 x488000_29 x488001_29 x488002_29 = some r) ∧ Aside0 (kq ≤ kj14) ∧ Aside0 (IsS52 w wc g487 x488000_29 x488001_29 x488002_29) ∧ Aside0 (Below w.heap.size w wc))
              case first =>
                have H := HC30.out
                clear HC30
                by_cases c32 : (Int.tmod a2 6) = 0
                · rw [if_pos c32] at H
                  have c32b0 : ((Int.tmod a2 6) == 0) = true := beq_iff_eq.mpr c32
                  have c32b1 : ((Int.tmod a2 6) != 0) = false := bne_eq_false_iff_eq.mpr c32
                  clear c32
                  (first | rw [c32b0] | (simp only [i64_w, i32_w]; rw [c32b0]) | skip)
                  replace H := Option.bind_eq_some_iff.mp H
                  obtain ⟨⟨t502, t503, t504, t505⟩, A330, H⟩ := H
                  replace H : (fleuronlaw01_OctetFails.j2 kj14 (Int.tmod (wrap64 (a1)) (wrap64 ((t483.size : Int) + 1))) x10_14 t498 t503 t504 t505) = some r := H
                  have A33 := Aside0.mk A330
                  clear A330
                  have H' := Aside0.mk H
                  clear H
                  go_wp2_with (first | ((with_reducible refine gate_callee (f := 15) rfl ?_); refine goesL_ (some 53) rfl rfl Try.func15 (by kernel_rfl) rfl #[.pointer (some ⟨g487, 0, none⟩), .int .i64 (wrap64 (t498 + 1))] rfl (by (try simp only [List.map_toArray, List.map_cons, List.map_nil]); first | done | rfl | (simp only [List.length_drop, List.length_take]; rfl)) ?_; (with_reducible refine (octet_Reader_Take.calls g487 t499 t500 t501 (wrap64 (t498 + 1)) t502 t503 t504 t505 w _ ?side1 ?side2 A33.out).mono ?_); (case side1 => repeat (first | (with_reducible first | exact HI487.out | apply IsS52.alloc | apply IsS52.drewN | apply IsS52.drew | apply IsS52.set_0 | apply IsS52.set_1 | apply IsS52.set_2) | exact HI487.out)); (case side2 => repeat (first | (with_reducible first | exact HB.out | apply below_alloc | apply pw_below_drewN | apply below_drew1 | refine below_set ?_ (IsS52.ge HI487.out)) | exact HB.out)); rintro e w34 ⟨rfl, hi, hb, hk⟩; refine ⟨_, rfl, ?_⟩; have n0_ := Aside0.mk (hb); have n1_ := Aside0.mk (hi); clear HB; clear HI487; have HB := n0_; have HI487 := n1_; clear n0_ n1_; (try clear hb); (try clear hb2); (try clear hk); (try clear hi)))
                  go_meet
                  case rel => exact ⟨_, (t503), (t504), (t505), H', ⟨by have := HJ6.out; have := HJ14.out; first | omega | exact Nat.le_refl _⟩, ⟨by repeat (first | (with_reducible first | exact HI487.out | apply IsS52.alloc | apply IsS52.drewN | apply IsS52.drew | apply IsS52.set_0 | apply IsS52.set_1 | apply IsS52.set_2) | exact HI487.out)⟩, ⟨by repeat (first | (with_reducible first | exact HB.out | apply below_alloc | apply pw_below_drewN | apply below_drew1 | refine below_set ?_ (IsS52.ge HI487.out)) | exact HB.out)⟩⟩
                · rw [if_neg c32] at H
                  have c32b0 : ((Int.tmod a2 6) == 0) = false := beq_eq_false_iff_ne.mpr c32
                  have c32b1 : ((Int.tmod a2 6) != 0) = true := bne_iff_ne.mpr c32
                  (first | rw [c32b0] | (simp only [i64_w, i32_w]; rw [c32b0]) | skip)
                  by_cases c35 : (Int.tmod a2 6) = 1
                  · rw [if_pos c35] at H
                    have c35b0 : ((Int.tmod a2 6) == 1) = true := beq_iff_eq.mpr c35
                    have c35b1 : ((Int.tmod a2 6) != 1) = false := bne_eq_false_iff_eq.mpr c35
                    clear c35
                    replace H := Option.bind_eq_some_iff.mp H
                    obtain ⟨⟨t506, t507, t508, t509⟩, A360, H⟩ := H
                    replace H : (fleuronlaw01_OctetFails.j2 kj14 (Int.tmod (wrap64 (a1)) (wrap64 ((t483.size : Int) + 1))) x10_14 t498 t507 t508 t509) = some r := H
                    have A36 := Aside0.mk A360
                    clear A360
                    have H' := Aside0.mk H
                    clear H
                    go_wp2_with (first | ((with_reducible refine gate_callee (f := 15) rfl ?_); refine goesL_ (some 57) rfl rfl Try.func15 (by kernel_rfl) rfl #[.pointer (some ⟨g487, 0, none⟩), .int .i64 (-1)] rfl (by (try simp only [List.map_toArray, List.map_cons, List.map_nil]); first | done | rfl | (simp only [List.length_drop, List.length_take]; rfl)) ?_; (with_reducible refine (octet_Reader_Take.calls g487 t499 t500 t501 (-1) t506 t507 t508 t509 w _ ?side1 ?side2 A36.out).mono ?_); (case side1 => repeat (first | (with_reducible first | exact HI487.out | apply IsS52.alloc | apply IsS52.drewN | apply IsS52.drew | apply IsS52.set_0 | apply IsS52.set_1 | apply IsS52.set_2) | exact HI487.out)); (case side2 => repeat (first | (with_reducible first | exact HB.out | apply below_alloc | apply pw_below_drewN | apply below_drew1 | refine below_set ?_ (IsS52.ge HI487.out)) | exact HB.out)); rintro e w37 ⟨rfl, hi, hb, hk⟩; refine ⟨_, rfl, ?_⟩; have n0_ := Aside0.mk (hb); have n1_ := Aside0.mk (hi); clear HB; clear HI487; have HB := n0_; have HI487 := n1_; clear n0_ n1_; (try clear hb); (try clear hb2); (try clear hk); (try clear hi)))
                    go_meet
                    case rel => exact ⟨_, (t507), (t508), (t509), H', ⟨by have := HJ6.out; have := HJ14.out; first | omega | exact Nat.le_refl _⟩, ⟨by repeat (first | (with_reducible first | exact HI487.out | apply IsS52.alloc | apply IsS52.drewN | apply IsS52.drew | apply IsS52.set_0 | apply IsS52.set_1 | apply IsS52.set_2) | exact HI487.out)⟩, ⟨by repeat (first | (with_reducible first | exact HB.out | apply below_alloc | apply pw_below_drewN | apply below_drew1 | refine below_set ?_ (IsS52.ge HI487.out)) | exact HB.out)⟩⟩
                  · rw [if_neg c35] at H
                    have c35b0 : ((Int.tmod a2 6) == 1) = false := beq_eq_false_iff_ne.mpr c35
                    have c35b1 : ((Int.tmod a2 6) != 1) = true := bne_iff_ne.mpr c35
                    by_cases c38 : (Int.tmod a2 6) = 2
                    · rw [if_pos c38] at H
                      have c38b0 : ((Int.tmod a2 6) == 2) = true := beq_iff_eq.mpr c38
                      have c38b1 : ((Int.tmod a2 6) != 2) = false := bne_eq_false_iff_eq.mpr c38
                      clear c38
                      replace H := Option.bind_eq_some_iff.mp H
                      obtain ⟨⟨t510, t511, t512, t513⟩, A390, H⟩ := H
                      replace H : (fleuronlaw01_OctetFails.j2 kj14 (Int.tmod (wrap64 (a1)) (wrap64 ((t483.size : Int) + 1))) x10_14 t498 t511 t512 t513) = some r := H
                      have A39 := Aside0.mk A390
                      clear A390
                      have H' := Aside0.mk H
                      clear H
                      go_wp2_with (first | ((with_reducible refine gate_callee (f := 14) rfl ?_); refine goesL_ (some 61) rfl rfl Try.func14 (by kernel_rfl) rfl #[.pointer (some ⟨g487, 0, none⟩), .int .i64 9] rfl (by (try simp only [List.map_toArray, List.map_cons, List.map_nil]); first | done | rfl | (simp only [List.length_drop, List.length_take]; rfl)) ?_; (with_reducible refine (octet_Reader_Num.calls g487 t499 t500 t501 9 t510 t511 t512 t513 w _ ?side1 ?side2 A39.out).mono ?_); (case side1 => repeat (first | (with_reducible first | exact HI487.out | apply IsS52.alloc | apply IsS52.drewN | apply IsS52.drew | apply IsS52.set_0 | apply IsS52.set_1 | apply IsS52.set_2) | exact HI487.out)); (case side2 => repeat (first | (with_reducible first | exact HB.out | apply below_alloc | apply pw_below_drewN | apply below_drew1 | refine below_set ?_ (IsS52.ge HI487.out)) | exact HB.out)); rintro e w40 ⟨rfl, hi, hb, hk⟩; refine ⟨_, rfl, ?_⟩; have n0_ := Aside0.mk (hb); have n1_ := Aside0.mk (hi); clear HB; clear HI487; have HB := n0_; have HI487 := n1_; clear n0_ n1_; (try clear hb); (try clear hb2); (try clear hk); (try clear hi)))
                      go_meet
                      case rel => exact ⟨_, (t511), (t512), (t513), H', ⟨by have := HJ6.out; have := HJ14.out; first | omega | exact Nat.le_refl _⟩, ⟨by repeat (first | (with_reducible first | exact HI487.out | apply IsS52.alloc | apply IsS52.drewN | apply IsS52.drew | apply IsS52.set_0 | apply IsS52.set_1 | apply IsS52.set_2) | exact HI487.out)⟩, ⟨by repeat (first | (with_reducible first | exact HB.out | apply below_alloc | apply pw_below_drewN | apply below_drew1 | refine below_set ?_ (IsS52.ge HI487.out)) | exact HB.out)⟩⟩
                    · rw [if_neg c38] at H
                      have c38b0 : ((Int.tmod a2 6) == 2) = false := beq_eq_false_iff_ne.mpr c38
                      have c38b1 : ((Int.tmod a2 6) != 2) = true := bne_iff_ne.mpr c38
                      by_cases c41 : (Int.tmod a2 6) = 3
                      · rw [if_pos c41] at H
                        have c41b0 : ((Int.tmod a2 6) == 3) = true := beq_iff_eq.mpr c41
                        have c41b1 : ((Int.tmod a2 6) != 3) = false := bne_eq_false_iff_eq.mpr c41
                        clear c41
                        replace H := Option.bind_eq_some_iff.mp H
                        obtain ⟨⟨t514, t515, t516, t517⟩, A420, H⟩ := H
                        replace H : (fleuronlaw01_OctetFails.j2 kj14 (Int.tmod (wrap64 (a1)) (wrap64 ((t483.size : Int) + 1))) x10_14 t498 t515 t516 t517) = some r := H
                        have A42 := Aside0.mk A420
                        clear A420
                        have H' := Aside0.mk H
                        clear H
                        go_wp2_with (first | ((with_reducible refine gate_callee (f := 24) rfl ?_); refine goesL_ (some 65) rfl rfl Try.func24 (by kernel_rfl) rfl #[.pointer (some ⟨g487, 0, none⟩), .int .i64 (-1)] rfl (by (try simp only [List.map_toArray, List.map_cons, List.map_nil]); first | done | rfl | (simp only [List.length_drop, List.length_take]; rfl)) ?_; (with_reducible refine (octet_Reader_Int.calls g487 t499 t500 t501 (-1) t514 t515 t516 t517 w _ ?side1 ?side2 A42.out).mono ?_); (case side1 => repeat (first | (with_reducible first | exact HI487.out | apply IsS52.alloc | apply IsS52.drewN | apply IsS52.drew | apply IsS52.set_0 | apply IsS52.set_1 | apply IsS52.set_2) | exact HI487.out)); (case side2 => repeat (first | (with_reducible first | exact HB.out | apply below_alloc | apply pw_below_drewN | apply below_drew1 | refine below_set ?_ (IsS52.ge HI487.out)) | exact HB.out)); rintro e w43 ⟨rfl, hi, hb, hk⟩; refine ⟨_, rfl, ?_⟩; have n0_ := Aside0.mk (hb); have n1_ := Aside0.mk (hi); clear HB; clear HI487; have HB := n0_; have HI487 := n1_; clear n0_ n1_; (try clear hb); (try clear hb2); (try clear hk); (try clear hi)))
                        go_meet
                        case rel => exact ⟨_, (t515), (t516), (t517), H', ⟨by have := HJ6.out; have := HJ14.out; first | omega | exact Nat.le_refl _⟩, ⟨by repeat (first | (with_reducible first | exact HI487.out | apply IsS52.alloc | apply IsS52.drewN | apply IsS52.drew | apply IsS52.set_0 | apply IsS52.set_1 | apply IsS52.set_2) | exact HI487.out)⟩, ⟨by repeat (first | (with_reducible first | exact HB.out | apply below_alloc | apply pw_below_drewN | apply below_drew1 | refine below_set ?_ (IsS52.ge HI487.out)) | exact HB.out)⟩⟩
                      · rw [if_neg c41] at H
                        have c41b0 : ((Int.tmod a2 6) == 3) = false := beq_eq_false_iff_ne.mpr c41
                        have c41b1 : ((Int.tmod a2 6) != 3) = true := bne_iff_ne.mpr c41
                        by_cases c44 : (Int.tmod a2 6) = 4
                        · rw [if_pos c44] at H
                          have c44b0 : ((Int.tmod a2 6) == 4) = true := beq_iff_eq.mpr c44
                          have c44b1 : ((Int.tmod a2 6) != 4) = false := bne_eq_false_iff_eq.mpr c44
                          clear c44
                          replace H := Option.bind_eq_some_iff.mp H
                          obtain ⟨⟨t518, t519, t520, t521⟩, A450, H⟩ := H
                          replace H : (fleuronlaw01_OctetFails.j2 kj14 (Int.tmod (wrap64 (a1)) (wrap64 ((t483.size : Int) + 1))) x10_14 t498 t519 t520 t521) = some r := H
                          have A45 := Aside0.mk A450
                          clear A450
                          have H' := Aside0.mk H
                          clear H
                          go_wp2_with (first | ((with_reducible refine gate_callee (f := 15) rfl ?_); refine goesL_ (some 69) rfl rfl Try.func15 (by kernel_rfl) rfl #[.pointer (some ⟨g487, 0, none⟩), .int .i64 4611686018427387904] rfl (by (try simp only [List.map_toArray, List.map_cons, List.map_nil]); first | done | rfl | (simp only [List.length_drop, List.length_take]; rfl)) ?_; (with_reducible refine (octet_Reader_Take.calls g487 t499 t500 t501 4611686018427387904 t518 t519 t520 t521 w _ ?side1 ?side2 A45.out).mono ?_); (case side1 => repeat (first | (with_reducible first | exact HI487.out | apply IsS52.alloc | apply IsS52.drewN | apply IsS52.drew | apply IsS52.set_0 | apply IsS52.set_1 | apply IsS52.set_2) | exact HI487.out)); (case side2 => repeat (first | (with_reducible first | exact HB.out | apply below_alloc | apply pw_below_drewN | apply below_drew1 | refine below_set ?_ (IsS52.ge HI487.out)) | exact HB.out)); rintro e w46 ⟨rfl, hi, hb, hk⟩; refine ⟨_, rfl, ?_⟩; have n0_ := Aside0.mk (hb); have n1_ := Aside0.mk (hi); clear HB; clear HI487; have HB := n0_; have HI487 := n1_; clear n0_ n1_; (try clear hb); (try clear hb2); (try clear hk); (try clear hi)))
                          go_meet
                          case rel => exact ⟨_, (t519), (t520), (t521), H', ⟨by have := HJ6.out; have := HJ14.out; first | omega | exact Nat.le_refl _⟩, ⟨by repeat (first | (with_reducible first | exact HI487.out | apply IsS52.alloc | apply IsS52.drewN | apply IsS52.drew | apply IsS52.set_0 | apply IsS52.set_1 | apply IsS52.set_2) | exact HI487.out)⟩, ⟨by repeat (first | (with_reducible first | exact HB.out | apply below_alloc | apply pw_below_drewN | apply below_drew1 | refine below_set ?_ (IsS52.ge HI487.out)) | exact HB.out)⟩⟩
                        · rw [if_neg c44] at H
                          have c44b0 : ((Int.tmod a2 6) == 4) = false := beq_eq_false_iff_ne.mpr c44
                          have c44b1 : ((Int.tmod a2 6) != 4) = true := bne_iff_ne.mpr c44
                          replace H := Option.bind_eq_some_iff.mp H
                          obtain ⟨⟨t522, t523, t524, t525⟩, A470, H⟩ := H
                          replace H : (fleuronlaw01_OctetFails.j2 kj14 (Int.tmod (wrap64 (a1)) (wrap64 ((t483.size : Int) + 1))) x10_14 t498 t523 t524 t525) = some r := H
                          have A47 := Aside0.mk A470
                          clear A470
                          have H' := Aside0.mk H
                          clear H
                          go_wp2_with (first | ((with_reducible refine gate_callee (f := 14) rfl ?_); refine goesL_ (some 47) rfl rfl Try.func14 (by kernel_rfl) rfl #[.pointer (some ⟨g487, 0, none⟩), .int .i64 (-9223372036854775808)] rfl (by (try simp only [List.map_toArray, List.map_cons, List.map_nil]); first | done | rfl | (simp only [List.length_drop, List.length_take]; rfl)) ?_; (with_reducible refine (octet_Reader_Num.calls g487 t499 t500 t501 (-9223372036854775808) t522 t523 t524 t525 w _ ?side1 ?side2 A47.out).mono ?_); (case side1 => repeat (first | (with_reducible first | exact HI487.out | apply IsS52.alloc | apply IsS52.drewN | apply IsS52.drew | apply IsS52.set_0 | apply IsS52.set_1 | apply IsS52.set_2) | exact HI487.out)); (case side2 => repeat (first | (with_reducible first | exact HB.out | apply below_alloc | apply pw_below_drewN | apply below_drew1 | refine below_set ?_ (IsS52.ge HI487.out)) | exact HB.out)); rintro e w48 ⟨rfl, hi, hb, hk⟩; refine ⟨_, rfl, ?_⟩; have n0_ := Aside0.mk (hb); have n1_ := Aside0.mk (hi); clear HB; clear HI487; have HB := n0_; have HI487 := n1_; clear n0_ n1_; (try clear hb); (try clear hb2); (try clear hk); (try clear hi)))
                          go_meet
                          case rel => exact ⟨_, (t523), (t524), (t525), H', ⟨by have := HJ6.out; have := HJ14.out; first | omega | exact Nat.le_refl _⟩, ⟨by repeat (first | (with_reducible first | exact HI487.out | apply IsS52.alloc | apply IsS52.drewN | apply IsS52.drew | apply IsS52.set_0 | apply IsS52.set_1 | apply IsS52.set_2) | exact HI487.out)⟩, ⟨by repeat (first | (with_reducible first | exact HB.out | apply below_alloc | apply pw_below_drewN | apply below_drew1 | refine below_set ?_ (IsS52.ge HI487.out)) | exact HB.out)⟩⟩
              case rest =>
                clear HC30
                try clear c1
                try clear c2
                try clear p2
                try clear c3
                try clear c4
                try clear p6
                try clear c10
                try clear c11
                try clear c12
                try clear c13
                try clear c14
                try clear c14b0
                try clear c14b1
                try clear c15
                try clear c18
                try clear c20
                try clear c20b0
                try clear c20b1
                try clear c21
                try clear c21b0
                try clear c21b1
                try clear c22
                try clear c22b0
                try clear c22b1
                try clear c24
                try clear c26
                try clear c32
                try clear c32b0
                try clear c32b1
                try clear c35
                try clear c35b0
                try clear c35b1
                try clear c38
                try clear c38b0
                try clear c38b1
                try clear c41
                try clear c41b0
                try clear c41b1
                try clear c44
                try clear c44b0
                try clear c44b1
                try clear p2
                try clear p6
                obtain ⟨kq, x488000_29, x488001_29, x488002_29, HA, HJ29, HI487, HB⟩ := hcut
                cases kq with
                | zero => exact absurd HA.out (by simp [fleuronlaw01_OctetFails.j2])
                | succ kj29 =>
                  have H := HA.out
                  clear HA
                  simp only [fleuronlaw01_OctetFails.j2] at H
                  by_cases c49 : x10_14 = true
                  · subst c49
                    have H1 : ((octet_Reader_Failed.f x488000_29 x488001_29 x488002_29).bind fun bt526 => (if bt526.1 = true then ((octet_Reader_At.f bt526.2.1 bt526.2.2.1 bt526.2.2.2).bind fun bt530 => (if bt530.1 = (Int.tmod (wrap64 (a1)) (wrap64 ((t483.size : Int) + 1))) then ((octet_Reader_Left.f bt530.2.1 bt530.2.2.1 bt530.2.2.2).bind fun bt534 => (if bt534.1 = t498 then ((octet_Reader_Take.f bt534.2.1 bt534.2.2.1 bt534.2.2.2 0).bind fun bt538 => (if bt538.1.toList = ([] : List UInt8) then ((octet_Reader_Num.f bt538.2.1 bt538.2.2.1 bt538.2.2.2 0).bind fun bt542 => (if bt542.1 = 0 then ((octet_Reader_Int.f bt542.2.1 bt542.2.2.1 bt542.2.2.2 1).bind fun bt546 => (if bt546.1 = 0 then ((octet_Reader_Text.f bt546.2.1 bt546.2.2.1 bt546.2.2.2).bind fun bt550 => (if bt550.1.toList = ([] : List UInt8) then ((octet_Reader_Num.f bt550.2.1 bt550.2.2.1 bt550.2.2.2 1).bind fun bt554 => (if bt554.1 = 0 then ((octet_Reader_Take.f bt554.2.1 bt554.2.2.1 bt554.2.2.2 t498).bind fun bt558 => (if bt558.1.toList = ([] : List UInt8) then ((octet_Reader_At.f bt558.2.1 bt558.2.2.1 bt558.2.2.2).bind fun bt562 => (some (bt562.1 == (Int.tmod (wrap64 (a1)) (wrap64 ((t483.size : Int) + 1)))))) else (some false))) else (some false))) else (some false))) else (some false))) else (some false))) else (some false))) else (some false))) else (some false))) else (some false))) = some r := by rw [if_pos rfl] at H; exact H
                    clear H
                    have H := H1
                    clear H1
                    replace H := Option.bind_eq_some_iff.mp H
                    obtain ⟨⟨t526, t527, t528, t529⟩, A500, H⟩ := H
                    replace H : (if t526 = true then ((octet_Reader_At.f t527 t528 t529).bind fun bt530 => (if bt530.1 = (Int.tmod (wrap64 (a1)) (wrap64 ((t483.size : Int) + 1))) then ((octet_Reader_Left.f bt530.2.1 bt530.2.2.1 bt530.2.2.2).bind fun bt534 => (if bt534.1 = t498 then ((octet_Reader_Take.f bt534.2.1 bt534.2.2.1 bt534.2.2.2 0).bind fun bt538 => (if bt538.1.toList = ([] : List UInt8) then ((octet_Reader_Num.f bt538.2.1 bt538.2.2.1 bt538.2.2.2 0).bind fun bt542 => (if bt542.1 = 0 then ((octet_Reader_Int.f bt542.2.1 bt542.2.2.1 bt542.2.2.2 1).bind fun bt546 => (if bt546.1 = 0 then ((octet_Reader_Text.f bt546.2.1 bt546.2.2.1 bt546.2.2.2).bind fun bt550 => (if bt550.1.toList = ([] : List UInt8) then ((octet_Reader_Num.f bt550.2.1 bt550.2.2.1 bt550.2.2.2 1).bind fun bt554 => (if bt554.1 = 0 then ((octet_Reader_Take.f bt554.2.1 bt554.2.2.1 bt554.2.2.2 t498).bind fun bt558 => (if bt558.1.toList = ([] : List UInt8) then ((octet_Reader_At.f bt558.2.1 bt558.2.2.1 bt558.2.2.2).bind fun bt562 => (some (bt562.1 == (Int.tmod (wrap64 (a1)) (wrap64 ((t483.size : Int) + 1)))))) else (some false))) else (some false))) else (some false))) else (some false))) else (some false))) else (some false))) else (some false))) else (some false))) else (some false)) = some r := H
                    have A50 := Aside0.mk A500
                    clear A500
                    by_cases c51 : t526 = true
                    · subst c51
                      have H1 : ((octet_Reader_At.f t527 t528 t529).bind fun bt530 => (if bt530.1 = (Int.tmod (wrap64 (a1)) (wrap64 ((t483.size : Int) + 1))) then ((octet_Reader_Left.f bt530.2.1 bt530.2.2.1 bt530.2.2.2).bind fun bt534 => (if bt534.1 = t498 then ((octet_Reader_Take.f bt534.2.1 bt534.2.2.1 bt534.2.2.2 0).bind fun bt538 => (if bt538.1.toList = ([] : List UInt8) then ((octet_Reader_Num.f bt538.2.1 bt538.2.2.1 bt538.2.2.2 0).bind fun bt542 => (if bt542.1 = 0 then ((octet_Reader_Int.f bt542.2.1 bt542.2.2.1 bt542.2.2.2 1).bind fun bt546 => (if bt546.1 = 0 then ((octet_Reader_Text.f bt546.2.1 bt546.2.2.1 bt546.2.2.2).bind fun bt550 => (if bt550.1.toList = ([] : List UInt8) then ((octet_Reader_Num.f bt550.2.1 bt550.2.2.1 bt550.2.2.2 1).bind fun bt554 => (if bt554.1 = 0 then ((octet_Reader_Take.f bt554.2.1 bt554.2.2.1 bt554.2.2.2 t498).bind fun bt558 => (if bt558.1.toList = ([] : List UInt8) then ((octet_Reader_At.f bt558.2.1 bt558.2.2.1 bt558.2.2.2).bind fun bt562 => (some (bt562.1 == (Int.tmod (wrap64 (a1)) (wrap64 ((t483.size : Int) + 1)))))) else (some false))) else (some false))) else (some false))) else (some false))) else (some false))) else (some false))) else (some false))) else (some false))) = some r := by rw [if_pos rfl] at H; exact H
                      clear H
                      have H := H1
                      clear H1
                      replace H := Option.bind_eq_some_iff.mp H
                      obtain ⟨⟨t530, t531, t532, t533⟩, A520, H⟩ := H
                      replace H : (if t530 = (Int.tmod (wrap64 (a1)) (wrap64 ((t483.size : Int) + 1))) then ((octet_Reader_Left.f t531 t532 t533).bind fun bt534 => (if bt534.1 = t498 then ((octet_Reader_Take.f bt534.2.1 bt534.2.2.1 bt534.2.2.2 0).bind fun bt538 => (if bt538.1.toList = ([] : List UInt8) then ((octet_Reader_Num.f bt538.2.1 bt538.2.2.1 bt538.2.2.2 0).bind fun bt542 => (if bt542.1 = 0 then ((octet_Reader_Int.f bt542.2.1 bt542.2.2.1 bt542.2.2.2 1).bind fun bt546 => (if bt546.1 = 0 then ((octet_Reader_Text.f bt546.2.1 bt546.2.2.1 bt546.2.2.2).bind fun bt550 => (if bt550.1.toList = ([] : List UInt8) then ((octet_Reader_Num.f bt550.2.1 bt550.2.2.1 bt550.2.2.2 1).bind fun bt554 => (if bt554.1 = 0 then ((octet_Reader_Take.f bt554.2.1 bt554.2.2.1 bt554.2.2.2 t498).bind fun bt558 => (if bt558.1.toList = ([] : List UInt8) then ((octet_Reader_At.f bt558.2.1 bt558.2.2.1 bt558.2.2.2).bind fun bt562 => (some (bt562.1 == (Int.tmod (wrap64 (a1)) (wrap64 ((t483.size : Int) + 1)))))) else (some false))) else (some false))) else (some false))) else (some false))) else (some false))) else (some false))) else (some false))) else (some false)) = some r := H
                      have A52 := Aside0.mk A520
                      clear A520
                      by_cases c53 : t530 = (Int.tmod (wrap64 (a1)) (wrap64 ((t483.size : Int) + 1)))
                      · rw [if_pos c53] at H
                        have c53b0 : (t530 == (Int.tmod (wrap64 (a1)) (wrap64 ((t483.size : Int) + 1)))) = true := beq_iff_eq.mpr c53
                        have c53b1 : (t530 != (Int.tmod (wrap64 (a1)) (wrap64 ((t483.size : Int) + 1)))) = false := bne_eq_false_iff_eq.mpr c53
                        clear c53
                        replace H := Option.bind_eq_some_iff.mp H
                        obtain ⟨⟨t534, t535, t536, t537⟩, A540, H⟩ := H
                        replace H : (if t534 = t498 then ((octet_Reader_Take.f t535 t536 t537 0).bind fun bt538 => (if bt538.1.toList = ([] : List UInt8) then ((octet_Reader_Num.f bt538.2.1 bt538.2.2.1 bt538.2.2.2 0).bind fun bt542 => (if bt542.1 = 0 then ((octet_Reader_Int.f bt542.2.1 bt542.2.2.1 bt542.2.2.2 1).bind fun bt546 => (if bt546.1 = 0 then ((octet_Reader_Text.f bt546.2.1 bt546.2.2.1 bt546.2.2.2).bind fun bt550 => (if bt550.1.toList = ([] : List UInt8) then ((octet_Reader_Num.f bt550.2.1 bt550.2.2.1 bt550.2.2.2 1).bind fun bt554 => (if bt554.1 = 0 then ((octet_Reader_Take.f bt554.2.1 bt554.2.2.1 bt554.2.2.2 t498).bind fun bt558 => (if bt558.1.toList = ([] : List UInt8) then ((octet_Reader_At.f bt558.2.1 bt558.2.2.1 bt558.2.2.2).bind fun bt562 => (some (bt562.1 == (Int.tmod (wrap64 (a1)) (wrap64 ((t483.size : Int) + 1)))))) else (some false))) else (some false))) else (some false))) else (some false))) else (some false))) else (some false))) else (some false)) = some r := H
                        have A54 := Aside0.mk A540
                        clear A540
                        by_cases c55 : t534 = t498
                        · rw [if_pos c55] at H
                          have c55b0 : (t534 == t498) = true := beq_iff_eq.mpr c55
                          have c55b1 : (t534 != t498) = false := bne_eq_false_iff_eq.mpr c55
                          clear c55
                          replace H := Option.bind_eq_some_iff.mp H
                          obtain ⟨⟨t538, t539, t540, t541⟩, A560, H⟩ := H
                          replace H : (if t538.toList = ([] : List UInt8) then ((octet_Reader_Num.f t539 t540 t541 0).bind fun bt542 => (if bt542.1 = 0 then ((octet_Reader_Int.f bt542.2.1 bt542.2.2.1 bt542.2.2.2 1).bind fun bt546 => (if bt546.1 = 0 then ((octet_Reader_Text.f bt546.2.1 bt546.2.2.1 bt546.2.2.2).bind fun bt550 => (if bt550.1.toList = ([] : List UInt8) then ((octet_Reader_Num.f bt550.2.1 bt550.2.2.1 bt550.2.2.2 1).bind fun bt554 => (if bt554.1 = 0 then ((octet_Reader_Take.f bt554.2.1 bt554.2.2.1 bt554.2.2.2 t498).bind fun bt558 => (if bt558.1.toList = ([] : List UInt8) then ((octet_Reader_At.f bt558.2.1 bt558.2.2.1 bt558.2.2.2).bind fun bt562 => (some (bt562.1 == (Int.tmod (wrap64 (a1)) (wrap64 ((t483.size : Int) + 1)))))) else (some false))) else (some false))) else (some false))) else (some false))) else (some false))) else (some false)) = some r := H
                          have A56 := Aside0.mk A560
                          clear A560
                          by_cases c57 : t538.toList = ([] : List UInt8)
                          · rw [if_pos c57] at H
                            have c57b0 : (t538.toList == ([] : List UInt8)) = true := beq_iff_eq.mpr c57
                            have c57b1 : (t538.toList != ([] : List UInt8)) = false := bne_eq_false_iff_eq.mpr c57
                            clear c57
                            replace H := Option.bind_eq_some_iff.mp H
                            obtain ⟨⟨t542, t543, t544, t545⟩, A580, H⟩ := H
                            replace H : (if t542 = 0 then ((octet_Reader_Int.f t543 t544 t545 1).bind fun bt546 => (if bt546.1 = 0 then ((octet_Reader_Text.f bt546.2.1 bt546.2.2.1 bt546.2.2.2).bind fun bt550 => (if bt550.1.toList = ([] : List UInt8) then ((octet_Reader_Num.f bt550.2.1 bt550.2.2.1 bt550.2.2.2 1).bind fun bt554 => (if bt554.1 = 0 then ((octet_Reader_Take.f bt554.2.1 bt554.2.2.1 bt554.2.2.2 t498).bind fun bt558 => (if bt558.1.toList = ([] : List UInt8) then ((octet_Reader_At.f bt558.2.1 bt558.2.2.1 bt558.2.2.2).bind fun bt562 => (some (bt562.1 == (Int.tmod (wrap64 (a1)) (wrap64 ((t483.size : Int) + 1)))))) else (some false))) else (some false))) else (some false))) else (some false))) else (some false)) = some r := H
                            have A58 := Aside0.mk A580
                            clear A580
                            by_cases c59 : t542 = 0
                            · rw [if_pos c59] at H
                              have c59b0 : (t542 == 0) = true := beq_iff_eq.mpr c59
                              have c59b1 : (t542 != 0) = false := bne_eq_false_iff_eq.mpr c59
                              clear c59
                              replace H := Option.bind_eq_some_iff.mp H
                              obtain ⟨⟨t546, t547, t548, t549⟩, A600, H⟩ := H
                              replace H : (if t546 = 0 then ((octet_Reader_Text.f t547 t548 t549).bind fun bt550 => (if bt550.1.toList = ([] : List UInt8) then ((octet_Reader_Num.f bt550.2.1 bt550.2.2.1 bt550.2.2.2 1).bind fun bt554 => (if bt554.1 = 0 then ((octet_Reader_Take.f bt554.2.1 bt554.2.2.1 bt554.2.2.2 t498).bind fun bt558 => (if bt558.1.toList = ([] : List UInt8) then ((octet_Reader_At.f bt558.2.1 bt558.2.2.1 bt558.2.2.2).bind fun bt562 => (some (bt562.1 == (Int.tmod (wrap64 (a1)) (wrap64 ((t483.size : Int) + 1)))))) else (some false))) else (some false))) else (some false))) else (some false)) = some r := H
                              have A60 := Aside0.mk A600
                              clear A600
                              by_cases c61 : t546 = 0
                              · rw [if_pos c61] at H
                                have c61b0 : (t546 == 0) = true := beq_iff_eq.mpr c61
                                have c61b1 : (t546 != 0) = false := bne_eq_false_iff_eq.mpr c61
                                clear c61
                                replace H := Option.bind_eq_some_iff.mp H
                                obtain ⟨⟨t550, t551, t552, t553⟩, A620, H⟩ := H
                                replace H : (if t550.toList = ([] : List UInt8) then ((octet_Reader_Num.f t551 t552 t553 1).bind fun bt554 => (if bt554.1 = 0 then ((octet_Reader_Take.f bt554.2.1 bt554.2.2.1 bt554.2.2.2 t498).bind fun bt558 => (if bt558.1.toList = ([] : List UInt8) then ((octet_Reader_At.f bt558.2.1 bt558.2.2.1 bt558.2.2.2).bind fun bt562 => (some (bt562.1 == (Int.tmod (wrap64 (a1)) (wrap64 ((t483.size : Int) + 1)))))) else (some false))) else (some false))) else (some false)) = some r := H
                                have A62 := Aside0.mk A620
                                clear A620
                                by_cases c63 : t550.toList = ([] : List UInt8)
                                · rw [if_pos c63] at H
                                  have c63b0 : (t550.toList == ([] : List UInt8)) = true := beq_iff_eq.mpr c63
                                  have c63b1 : (t550.toList != ([] : List UInt8)) = false := bne_eq_false_iff_eq.mpr c63
                                  clear c63
                                  replace H := Option.bind_eq_some_iff.mp H
                                  obtain ⟨⟨t554, t555, t556, t557⟩, A640, H⟩ := H
                                  replace H : (if t554 = 0 then ((octet_Reader_Take.f t555 t556 t557 t498).bind fun bt558 => (if bt558.1.toList = ([] : List UInt8) then ((octet_Reader_At.f bt558.2.1 bt558.2.2.1 bt558.2.2.2).bind fun bt562 => (some (bt562.1 == (Int.tmod (wrap64 (a1)) (wrap64 ((t483.size : Int) + 1)))))) else (some false))) else (some false)) = some r := H
                                  have A64 := Aside0.mk A640
                                  clear A640
                                  by_cases c65 : t554 = 0
                                  · rw [if_pos c65] at H
                                    have c65b0 : (t554 == 0) = true := beq_iff_eq.mpr c65
                                    have c65b1 : (t554 != 0) = false := bne_eq_false_iff_eq.mpr c65
                                    clear c65
                                    replace H := Option.bind_eq_some_iff.mp H
                                    obtain ⟨⟨t558, t559, t560, t561⟩, A660, H⟩ := H
                                    replace H : (if t558.toList = ([] : List UInt8) then ((octet_Reader_At.f t559 t560 t561).bind fun bt562 => (some (bt562.1 == (Int.tmod (wrap64 (a1)) (wrap64 ((t483.size : Int) + 1)))))) else (some false)) = some r := H
                                    have A66 := Aside0.mk A660
                                    clear A660
                                    by_cases c67 : t558.toList = ([] : List UInt8)
                                    · rw [if_pos c67] at H
                                      have c67b0 : (t558.toList == ([] : List UInt8)) = true := beq_iff_eq.mpr c67
                                      have c67b1 : (t558.toList != ([] : List UInt8)) = false := bne_eq_false_iff_eq.mpr c67
                                      clear c67
                                      replace H := Option.bind_eq_some_iff.mp H
                                      obtain ⟨⟨t562, t563, t564, t565⟩, A680, H⟩ := H
                                      replace H : (some (t562 == (Int.tmod (wrap64 (a1)) (wrap64 ((t483.size : Int) + 1))))) = some r := H
                                      have A68 := Aside0.mk A680
                                      clear A680
                                      obtain rfl := Option.some.inj H
                                      go_wp2_with (first | (go_at_call 16; (with_reducible refine (octet_Reader_Failed.calls g487 x488000_29 x488001_29 x488002_29 true t527 t528 t529 w _ ?side1 ?side2 A50.out).mono ?_); (case side1 => repeat (first | (with_reducible first | exact HI487.out | apply IsS52.alloc | apply IsS52.drewN | apply IsS52.drew | apply IsS52.set_0 | apply IsS52.set_1 | apply IsS52.set_2) | exact HI487.out)); (case side2 => repeat (first | (with_reducible first | exact HB.out | apply below_alloc | apply pw_below_drewN | apply below_drew1 | refine below_set ?_ (IsS52.ge HI487.out)) | exact HB.out)); rintro e w69 ⟨rfl, hi, hb, hk⟩; have n0_ := Aside0.mk (hb); have n1_ := Aside0.mk (hi); clear HB; clear HI487; have HB := n0_; have HI487 := n1_; clear n0_ n1_; (try clear hb); (try clear hb2); (try clear hk); (try clear hi)) | (go_at_call 25; (with_reducible refine (octet_Reader_At.calls g487 t527 t528 t529 t530 t531 t532 t533 w _ ?side1 ?side2 A52.out).mono ?_); (case side1 => repeat (first | (with_reducible first | exact HI487.out | apply IsS52.alloc | apply IsS52.drewN | apply IsS52.drew | apply IsS52.set_0 | apply IsS52.set_1 | apply IsS52.set_2) | exact HI487.out)); (case side2 => repeat (first | (with_reducible first | exact HB.out | apply below_alloc | apply pw_below_drewN | apply below_drew1 | refine below_set ?_ (IsS52.ge HI487.out)) | exact HB.out)); rintro e w70 ⟨rfl, hi, hb, hk⟩; have n0_ := Aside0.mk (hb); have n1_ := Aside0.mk (hi); clear HB; clear HI487; have HB := n0_; have HI487 := n1_; clear n0_ n1_; (try clear hb); (try clear hb2); (try clear hk); (try clear hi)) | (go_at_call 26; (with_reducible refine (octet_Reader_Left.calls g487 t531 t532 t533 t534 t535 t536 t537 w _ ?side1 ?side2 A54.out).mono ?_); (case side1 => repeat (first | (with_reducible first | exact HI487.out | apply IsS52.alloc | apply IsS52.drewN | apply IsS52.drew | apply IsS52.set_0 | apply IsS52.set_1 | apply IsS52.set_2) | exact HI487.out)); (case side2 => repeat (first | (with_reducible first | exact HB.out | apply below_alloc | apply pw_below_drewN | apply below_drew1 | refine below_set ?_ (IsS52.ge HI487.out)) | exact HB.out)); rintro e w71 ⟨rfl, hi, hb, hk⟩; have n0_ := Aside0.mk (hb); have n1_ := Aside0.mk (hi); clear HB; clear HI487; have HB := n0_; have HI487 := n1_; clear n0_ n1_; (try clear hb); (try clear hb2); (try clear hk); (try clear hi)) | (go_at_call 15; (with_reducible refine (octet_Reader_Take.calls g487 t535 t536 t537 0 t538 t539 t540 t541 w _ ?side1 ?side2 A56.out).mono ?_); (case side1 => repeat (first | (with_reducible first | exact HI487.out | apply IsS52.alloc | apply IsS52.drewN | apply IsS52.drew | apply IsS52.set_0 | apply IsS52.set_1 | apply IsS52.set_2) | exact HI487.out)); (case side2 => repeat (first | (with_reducible first | exact HB.out | apply below_alloc | apply pw_below_drewN | apply below_drew1 | refine below_set ?_ (IsS52.ge HI487.out)) | exact HB.out)); rintro e w72 ⟨rfl, hi, hb, hk⟩; have n0_ := Aside0.mk (hb); have n1_ := Aside0.mk (hi); clear HB; clear HI487; have HB := n0_; have HI487 := n1_; clear n0_ n1_; (try clear hb); (try clear hb2); (try clear hk); (try clear hi)) | (go_at_call 14; (with_reducible refine (octet_Reader_Num.calls g487 t539 t540 t541 0 t542 t543 t544 t545 w _ ?side1 ?side2 A58.out).mono ?_); (case side1 => repeat (first | (with_reducible first | exact HI487.out | apply IsS52.alloc | apply IsS52.drewN | apply IsS52.drew | apply IsS52.set_0 | apply IsS52.set_1 | apply IsS52.set_2) | exact HI487.out)); (case side2 => repeat (first | (with_reducible first | exact HB.out | apply below_alloc | apply pw_below_drewN | apply below_drew1 | refine below_set ?_ (IsS52.ge HI487.out)) | exact HB.out)); rintro e w73 ⟨rfl, hi, hb, hk⟩; have n0_ := Aside0.mk (hb); have n1_ := Aside0.mk (hi); clear HB; clear HI487; have HB := n0_; have HI487 := n1_; clear n0_ n1_; (try clear hb); (try clear hb2); (try clear hk); (try clear hi)) | (go_at_call 24; (with_reducible refine (octet_Reader_Int.calls g487 t543 t544 t545 1 t546 t547 t548 t549 w _ ?side1 ?side2 A60.out).mono ?_); (case side1 => repeat (first | (with_reducible first | exact HI487.out | apply IsS52.alloc | apply IsS52.drewN | apply IsS52.drew | apply IsS52.set_0 | apply IsS52.set_1 | apply IsS52.set_2) | exact HI487.out)); (case side2 => repeat (first | (with_reducible first | exact HB.out | apply below_alloc | apply pw_below_drewN | apply below_drew1 | refine below_set ?_ (IsS52.ge HI487.out)) | exact HB.out)); rintro e w74 ⟨rfl, hi, hb, hk⟩; have n0_ := Aside0.mk (hb); have n1_ := Aside0.mk (hi); clear HB; clear HI487; have HB := n0_; have HI487 := n1_; clear n0_ n1_; (try clear hb); (try clear hb2); (try clear hk); (try clear hi)) | (go_at_call 30; (with_reducible refine (octet_Reader_Text.calls g487 t547 t548 t549 t550 t551 t552 t553 w _ ?side1 ?side2 A62.out).mono ?_); (case side1 => repeat (first | (with_reducible first | exact HI487.out | apply IsS52.alloc | apply IsS52.drewN | apply IsS52.drew | apply IsS52.set_0 | apply IsS52.set_1 | apply IsS52.set_2) | exact HI487.out)); (case side2 => repeat (first | (with_reducible first | exact HB.out | apply below_alloc | apply pw_below_drewN | apply below_drew1 | refine below_set ?_ (IsS52.ge HI487.out)) | exact HB.out)); rintro e w75 ⟨rfl, hi, hb, hk⟩; have n0_ := Aside0.mk (hb); have n1_ := Aside0.mk (hi); clear HB; clear HI487; have HB := n0_; have HI487 := n1_; clear n0_ n1_; (try clear hb); (try clear hb2); (try clear hk); (try clear hi)) | (go_at_call 14; (with_reducible refine (octet_Reader_Num.calls g487 t551 t552 t553 1 t554 t555 t556 t557 w _ ?side1 ?side2 A64.out).mono ?_); (case side1 => repeat (first | (with_reducible first | exact HI487.out | apply IsS52.alloc | apply IsS52.drewN | apply IsS52.drew | apply IsS52.set_0 | apply IsS52.set_1 | apply IsS52.set_2) | exact HI487.out)); (case side2 => repeat (first | (with_reducible first | exact HB.out | apply below_alloc | apply pw_below_drewN | apply below_drew1 | refine below_set ?_ (IsS52.ge HI487.out)) | exact HB.out)); rintro e w76 ⟨rfl, hi, hb, hk⟩; have n0_ := Aside0.mk (hb); have n1_ := Aside0.mk (hi); clear HB; clear HI487; have HB := n0_; have HI487 := n1_; clear n0_ n1_; (try clear hb); (try clear hb2); (try clear hk); (try clear hi)) | (go_at_call 15; (with_reducible refine (octet_Reader_Take.calls g487 t555 t556 t557 t498 t558 t559 t560 t561 w _ ?side1 ?side2 A66.out).mono ?_); (case side1 => repeat (first | (with_reducible first | exact HI487.out | apply IsS52.alloc | apply IsS52.drewN | apply IsS52.drew | apply IsS52.set_0 | apply IsS52.set_1 | apply IsS52.set_2) | exact HI487.out)); (case side2 => repeat (first | (with_reducible first | exact HB.out | apply below_alloc | apply pw_below_drewN | apply below_drew1 | refine below_set ?_ (IsS52.ge HI487.out)) | exact HB.out)); rintro e w77 ⟨rfl, hi, hb, hk⟩; have n0_ := Aside0.mk (hb); have n1_ := Aside0.mk (hi); clear HB; clear HI487; have HB := n0_; have HI487 := n1_; clear n0_ n1_; (try clear hb); (try clear hb2); (try clear hk); (try clear hi)) | (go_at_call 25; (with_reducible refine (octet_Reader_At.calls g487 t559 t560 t561 t562 t563 t564 t565 w _ ?side1 ?side2 A68.out).mono ?_); (case side1 => repeat (first | (with_reducible first | exact HI487.out | apply IsS52.alloc | apply IsS52.drewN | apply IsS52.drew | apply IsS52.set_0 | apply IsS52.set_1 | apply IsS52.set_2) | exact HI487.out)); (case side2 => repeat (first | (with_reducible first | exact HB.out | apply below_alloc | apply pw_below_drewN | apply below_drew1 | refine below_set ?_ (IsS52.ge HI487.out)) | exact HB.out)); rintro e w78 ⟨rfl, hi, hb, hk⟩; have n0_ := Aside0.mk (hb); have n1_ := Aside0.mk (hi); clear HB; clear HI487; have HB := n0_; have HI487 := n1_; clear n0_ n1_; (try clear hb); (try clear hb2); (try clear hk); (try clear hi)))
                                      go_ret
                                      exact ⟨by first | rfl | (simp [errW_none, errW_some] <;> rfl) | (simp [*, errW_none, errW_some] <;> rfl), by repeat (first | (with_reducible first | exact HB.out | apply below_alloc | apply pw_below_drewN | apply below_drew1 | refine below_set ?_ (IsS52.ge HI487.out)) | exact HB.out)⟩
                                    · rw [if_neg c67] at H
                                      have c67b0 : (t558.toList == ([] : List UInt8)) = false := beq_eq_false_iff_ne.mpr c67
                                      have c67b1 : (t558.toList != ([] : List UInt8)) = true := bne_iff_ne.mpr c67
                                      obtain rfl := Option.some.inj H
                                      go_wp2_with (first | (go_at_call 16; (with_reducible refine (octet_Reader_Failed.calls g487 x488000_29 x488001_29 x488002_29 true t527 t528 t529 w _ ?side1 ?side2 A50.out).mono ?_); (case side1 => repeat (first | (with_reducible first | exact HI487.out | apply IsS52.alloc | apply IsS52.drewN | apply IsS52.drew | apply IsS52.set_0 | apply IsS52.set_1 | apply IsS52.set_2) | exact HI487.out)); (case side2 => repeat (first | (with_reducible first | exact HB.out | apply below_alloc | apply pw_below_drewN | apply below_drew1 | refine below_set ?_ (IsS52.ge HI487.out)) | exact HB.out)); rintro e w79 ⟨rfl, hi, hb, hk⟩; have n0_ := Aside0.mk (hb); have n1_ := Aside0.mk (hi); clear HB; clear HI487; have HB := n0_; have HI487 := n1_; clear n0_ n1_; (try clear hb); (try clear hb2); (try clear hk); (try clear hi)) | (go_at_call 25; (with_reducible refine (octet_Reader_At.calls g487 t527 t528 t529 t530 t531 t532 t533 w _ ?side1 ?side2 A52.out).mono ?_); (case side1 => repeat (first | (with_reducible first | exact HI487.out | apply IsS52.alloc | apply IsS52.drewN | apply IsS52.drew | apply IsS52.set_0 | apply IsS52.set_1 | apply IsS52.set_2) | exact HI487.out)); (case side2 => repeat (first | (with_reducible first | exact HB.out | apply below_alloc | apply pw_below_drewN | apply below_drew1 | refine below_set ?_ (IsS52.ge HI487.out)) | exact HB.out)); rintro e w80 ⟨rfl, hi, hb, hk⟩; have n0_ := Aside0.mk (hb); have n1_ := Aside0.mk (hi); clear HB; clear HI487; have HB := n0_; have HI487 := n1_; clear n0_ n1_; (try clear hb); (try clear hb2); (try clear hk); (try clear hi)) | (go_at_call 26; (with_reducible refine (octet_Reader_Left.calls g487 t531 t532 t533 t534 t535 t536 t537 w _ ?side1 ?side2 A54.out).mono ?_); (case side1 => repeat (first | (with_reducible first | exact HI487.out | apply IsS52.alloc | apply IsS52.drewN | apply IsS52.drew | apply IsS52.set_0 | apply IsS52.set_1 | apply IsS52.set_2) | exact HI487.out)); (case side2 => repeat (first | (with_reducible first | exact HB.out | apply below_alloc | apply pw_below_drewN | apply below_drew1 | refine below_set ?_ (IsS52.ge HI487.out)) | exact HB.out)); rintro e w81 ⟨rfl, hi, hb, hk⟩; have n0_ := Aside0.mk (hb); have n1_ := Aside0.mk (hi); clear HB; clear HI487; have HB := n0_; have HI487 := n1_; clear n0_ n1_; (try clear hb); (try clear hb2); (try clear hk); (try clear hi)) | (go_at_call 15; (with_reducible refine (octet_Reader_Take.calls g487 t535 t536 t537 0 t538 t539 t540 t541 w _ ?side1 ?side2 A56.out).mono ?_); (case side1 => repeat (first | (with_reducible first | exact HI487.out | apply IsS52.alloc | apply IsS52.drewN | apply IsS52.drew | apply IsS52.set_0 | apply IsS52.set_1 | apply IsS52.set_2) | exact HI487.out)); (case side2 => repeat (first | (with_reducible first | exact HB.out | apply below_alloc | apply pw_below_drewN | apply below_drew1 | refine below_set ?_ (IsS52.ge HI487.out)) | exact HB.out)); rintro e w82 ⟨rfl, hi, hb, hk⟩; have n0_ := Aside0.mk (hb); have n1_ := Aside0.mk (hi); clear HB; clear HI487; have HB := n0_; have HI487 := n1_; clear n0_ n1_; (try clear hb); (try clear hb2); (try clear hk); (try clear hi)) | (go_at_call 14; (with_reducible refine (octet_Reader_Num.calls g487 t539 t540 t541 0 t542 t543 t544 t545 w _ ?side1 ?side2 A58.out).mono ?_); (case side1 => repeat (first | (with_reducible first | exact HI487.out | apply IsS52.alloc | apply IsS52.drewN | apply IsS52.drew | apply IsS52.set_0 | apply IsS52.set_1 | apply IsS52.set_2) | exact HI487.out)); (case side2 => repeat (first | (with_reducible first | exact HB.out | apply below_alloc | apply pw_below_drewN | apply below_drew1 | refine below_set ?_ (IsS52.ge HI487.out)) | exact HB.out)); rintro e w83 ⟨rfl, hi, hb, hk⟩; have n0_ := Aside0.mk (hb); have n1_ := Aside0.mk (hi); clear HB; clear HI487; have HB := n0_; have HI487 := n1_; clear n0_ n1_; (try clear hb); (try clear hb2); (try clear hk); (try clear hi)) | (go_at_call 24; (with_reducible refine (octet_Reader_Int.calls g487 t543 t544 t545 1 t546 t547 t548 t549 w _ ?side1 ?side2 A60.out).mono ?_); (case side1 => repeat (first | (with_reducible first | exact HI487.out | apply IsS52.alloc | apply IsS52.drewN | apply IsS52.drew | apply IsS52.set_0 | apply IsS52.set_1 | apply IsS52.set_2) | exact HI487.out)); (case side2 => repeat (first | (with_reducible first | exact HB.out | apply below_alloc | apply pw_below_drewN | apply below_drew1 | refine below_set ?_ (IsS52.ge HI487.out)) | exact HB.out)); rintro e w84 ⟨rfl, hi, hb, hk⟩; have n0_ := Aside0.mk (hb); have n1_ := Aside0.mk (hi); clear HB; clear HI487; have HB := n0_; have HI487 := n1_; clear n0_ n1_; (try clear hb); (try clear hb2); (try clear hk); (try clear hi)) | (go_at_call 30; (with_reducible refine (octet_Reader_Text.calls g487 t547 t548 t549 t550 t551 t552 t553 w _ ?side1 ?side2 A62.out).mono ?_); (case side1 => repeat (first | (with_reducible first | exact HI487.out | apply IsS52.alloc | apply IsS52.drewN | apply IsS52.drew | apply IsS52.set_0 | apply IsS52.set_1 | apply IsS52.set_2) | exact HI487.out)); (case side2 => repeat (first | (with_reducible first | exact HB.out | apply below_alloc | apply pw_below_drewN | apply below_drew1 | refine below_set ?_ (IsS52.ge HI487.out)) | exact HB.out)); rintro e w85 ⟨rfl, hi, hb, hk⟩; have n0_ := Aside0.mk (hb); have n1_ := Aside0.mk (hi); clear HB; clear HI487; have HB := n0_; have HI487 := n1_; clear n0_ n1_; (try clear hb); (try clear hb2); (try clear hk); (try clear hi)) | (go_at_call 14; (with_reducible refine (octet_Reader_Num.calls g487 t551 t552 t553 1 t554 t555 t556 t557 w _ ?side1 ?side2 A64.out).mono ?_); (case side1 => repeat (first | (with_reducible first | exact HI487.out | apply IsS52.alloc | apply IsS52.drewN | apply IsS52.drew | apply IsS52.set_0 | apply IsS52.set_1 | apply IsS52.set_2) | exact HI487.out)); (case side2 => repeat (first | (with_reducible first | exact HB.out | apply below_alloc | apply pw_below_drewN | apply below_drew1 | refine below_set ?_ (IsS52.ge HI487.out)) | exact HB.out)); rintro e w86 ⟨rfl, hi, hb, hk⟩; have n0_ := Aside0.mk (hb); have n1_ := Aside0.mk (hi); clear HB; clear HI487; have HB := n0_; have HI487 := n1_; clear n0_ n1_; (try clear hb); (try clear hb2); (try clear hk); (try clear hi)) | (go_at_call 15; (with_reducible refine (octet_Reader_Take.calls g487 t555 t556 t557 t498 t558 t559 t560 t561 w _ ?side1 ?side2 A66.out).mono ?_); (case side1 => repeat (first | (with_reducible first | exact HI487.out | apply IsS52.alloc | apply IsS52.drewN | apply IsS52.drew | apply IsS52.set_0 | apply IsS52.set_1 | apply IsS52.set_2) | exact HI487.out)); (case side2 => repeat (first | (with_reducible first | exact HB.out | apply below_alloc | apply pw_below_drewN | apply below_drew1 | refine below_set ?_ (IsS52.ge HI487.out)) | exact HB.out)); rintro e w87 ⟨rfl, hi, hb, hk⟩; have n0_ := Aside0.mk (hb); have n1_ := Aside0.mk (hi); clear HB; clear HI487; have HB := n0_; have HI487 := n1_; clear n0_ n1_; (try clear hb); (try clear hb2); (try clear hk); (try clear hi)))
                                      go_ret
                                      exact ⟨by first | rfl | (simp [errW_none, errW_some] <;> rfl) | (simp [*, errW_none, errW_some] <;> rfl), by repeat (first | (with_reducible first | exact HB.out | apply below_alloc | apply pw_below_drewN | apply below_drew1 | refine below_set ?_ (IsS52.ge HI487.out)) | exact HB.out)⟩
                                  · rw [if_neg c65] at H
                                    have c65b0 : (t554 == 0) = false := beq_eq_false_iff_ne.mpr c65
                                    have c65b1 : (t554 != 0) = true := bne_iff_ne.mpr c65
                                    obtain rfl := Option.some.inj H
                                    go_wp2_with (first | (go_at_call 16; (with_reducible refine (octet_Reader_Failed.calls g487 x488000_29 x488001_29 x488002_29 true t527 t528 t529 w _ ?side1 ?side2 A50.out).mono ?_); (case side1 => repeat (first | (with_reducible first | exact HI487.out | apply IsS52.alloc | apply IsS52.drewN | apply IsS52.drew | apply IsS52.set_0 | apply IsS52.set_1 | apply IsS52.set_2) | exact HI487.out)); (case side2 => repeat (first | (with_reducible first | exact HB.out | apply below_alloc | apply pw_below_drewN | apply below_drew1 | refine below_set ?_ (IsS52.ge HI487.out)) | exact HB.out)); rintro e w88 ⟨rfl, hi, hb, hk⟩; have n0_ := Aside0.mk (hb); have n1_ := Aside0.mk (hi); clear HB; clear HI487; have HB := n0_; have HI487 := n1_; clear n0_ n1_; (try clear hb); (try clear hb2); (try clear hk); (try clear hi)) | (go_at_call 25; (with_reducible refine (octet_Reader_At.calls g487 t527 t528 t529 t530 t531 t532 t533 w _ ?side1 ?side2 A52.out).mono ?_); (case side1 => repeat (first | (with_reducible first | exact HI487.out | apply IsS52.alloc | apply IsS52.drewN | apply IsS52.drew | apply IsS52.set_0 | apply IsS52.set_1 | apply IsS52.set_2) | exact HI487.out)); (case side2 => repeat (first | (with_reducible first | exact HB.out | apply below_alloc | apply pw_below_drewN | apply below_drew1 | refine below_set ?_ (IsS52.ge HI487.out)) | exact HB.out)); rintro e w89 ⟨rfl, hi, hb, hk⟩; have n0_ := Aside0.mk (hb); have n1_ := Aside0.mk (hi); clear HB; clear HI487; have HB := n0_; have HI487 := n1_; clear n0_ n1_; (try clear hb); (try clear hb2); (try clear hk); (try clear hi)) | (go_at_call 26; (with_reducible refine (octet_Reader_Left.calls g487 t531 t532 t533 t534 t535 t536 t537 w _ ?side1 ?side2 A54.out).mono ?_); (case side1 => repeat (first | (with_reducible first | exact HI487.out | apply IsS52.alloc | apply IsS52.drewN | apply IsS52.drew | apply IsS52.set_0 | apply IsS52.set_1 | apply IsS52.set_2) | exact HI487.out)); (case side2 => repeat (first | (with_reducible first | exact HB.out | apply below_alloc | apply pw_below_drewN | apply below_drew1 | refine below_set ?_ (IsS52.ge HI487.out)) | exact HB.out)); rintro e w90 ⟨rfl, hi, hb, hk⟩; have n0_ := Aside0.mk (hb); have n1_ := Aside0.mk (hi); clear HB; clear HI487; have HB := n0_; have HI487 := n1_; clear n0_ n1_; (try clear hb); (try clear hb2); (try clear hk); (try clear hi)) | (go_at_call 15; (with_reducible refine (octet_Reader_Take.calls g487 t535 t536 t537 0 t538 t539 t540 t541 w _ ?side1 ?side2 A56.out).mono ?_); (case side1 => repeat (first | (with_reducible first | exact HI487.out | apply IsS52.alloc | apply IsS52.drewN | apply IsS52.drew | apply IsS52.set_0 | apply IsS52.set_1 | apply IsS52.set_2) | exact HI487.out)); (case side2 => repeat (first | (with_reducible first | exact HB.out | apply below_alloc | apply pw_below_drewN | apply below_drew1 | refine below_set ?_ (IsS52.ge HI487.out)) | exact HB.out)); rintro e w91 ⟨rfl, hi, hb, hk⟩; have n0_ := Aside0.mk (hb); have n1_ := Aside0.mk (hi); clear HB; clear HI487; have HB := n0_; have HI487 := n1_; clear n0_ n1_; (try clear hb); (try clear hb2); (try clear hk); (try clear hi)) | (go_at_call 14; (with_reducible refine (octet_Reader_Num.calls g487 t539 t540 t541 0 t542 t543 t544 t545 w _ ?side1 ?side2 A58.out).mono ?_); (case side1 => repeat (first | (with_reducible first | exact HI487.out | apply IsS52.alloc | apply IsS52.drewN | apply IsS52.drew | apply IsS52.set_0 | apply IsS52.set_1 | apply IsS52.set_2) | exact HI487.out)); (case side2 => repeat (first | (with_reducible first | exact HB.out | apply below_alloc | apply pw_below_drewN | apply below_drew1 | refine below_set ?_ (IsS52.ge HI487.out)) | exact HB.out)); rintro e w92 ⟨rfl, hi, hb, hk⟩; have n0_ := Aside0.mk (hb); have n1_ := Aside0.mk (hi); clear HB; clear HI487; have HB := n0_; have HI487 := n1_; clear n0_ n1_; (try clear hb); (try clear hb2); (try clear hk); (try clear hi)) | (go_at_call 24; (with_reducible refine (octet_Reader_Int.calls g487 t543 t544 t545 1 t546 t547 t548 t549 w _ ?side1 ?side2 A60.out).mono ?_); (case side1 => repeat (first | (with_reducible first | exact HI487.out | apply IsS52.alloc | apply IsS52.drewN | apply IsS52.drew | apply IsS52.set_0 | apply IsS52.set_1 | apply IsS52.set_2) | exact HI487.out)); (case side2 => repeat (first | (with_reducible first | exact HB.out | apply below_alloc | apply pw_below_drewN | apply below_drew1 | refine below_set ?_ (IsS52.ge HI487.out)) | exact HB.out)); rintro e w93 ⟨rfl, hi, hb, hk⟩; have n0_ := Aside0.mk (hb); have n1_ := Aside0.mk (hi); clear HB; clear HI487; have HB := n0_; have HI487 := n1_; clear n0_ n1_; (try clear hb); (try clear hb2); (try clear hk); (try clear hi)) | (go_at_call 30; (with_reducible refine (octet_Reader_Text.calls g487 t547 t548 t549 t550 t551 t552 t553 w _ ?side1 ?side2 A62.out).mono ?_); (case side1 => repeat (first | (with_reducible first | exact HI487.out | apply IsS52.alloc | apply IsS52.drewN | apply IsS52.drew | apply IsS52.set_0 | apply IsS52.set_1 | apply IsS52.set_2) | exact HI487.out)); (case side2 => repeat (first | (with_reducible first | exact HB.out | apply below_alloc | apply pw_below_drewN | apply below_drew1 | refine below_set ?_ (IsS52.ge HI487.out)) | exact HB.out)); rintro e w94 ⟨rfl, hi, hb, hk⟩; have n0_ := Aside0.mk (hb); have n1_ := Aside0.mk (hi); clear HB; clear HI487; have HB := n0_; have HI487 := n1_; clear n0_ n1_; (try clear hb); (try clear hb2); (try clear hk); (try clear hi)) | (go_at_call 14; (with_reducible refine (octet_Reader_Num.calls g487 t551 t552 t553 1 t554 t555 t556 t557 w _ ?side1 ?side2 A64.out).mono ?_); (case side1 => repeat (first | (with_reducible first | exact HI487.out | apply IsS52.alloc | apply IsS52.drewN | apply IsS52.drew | apply IsS52.set_0 | apply IsS52.set_1 | apply IsS52.set_2) | exact HI487.out)); (case side2 => repeat (first | (with_reducible first | exact HB.out | apply below_alloc | apply pw_below_drewN | apply below_drew1 | refine below_set ?_ (IsS52.ge HI487.out)) | exact HB.out)); rintro e w95 ⟨rfl, hi, hb, hk⟩; have n0_ := Aside0.mk (hb); have n1_ := Aside0.mk (hi); clear HB; clear HI487; have HB := n0_; have HI487 := n1_; clear n0_ n1_; (try clear hb); (try clear hb2); (try clear hk); (try clear hi)))
                                    go_ret
                                    exact ⟨by first | rfl | (simp [errW_none, errW_some] <;> rfl) | (simp [*, errW_none, errW_some] <;> rfl), by repeat (first | (with_reducible first | exact HB.out | apply below_alloc | apply pw_below_drewN | apply below_drew1 | refine below_set ?_ (IsS52.ge HI487.out)) | exact HB.out)⟩
                                · rw [if_neg c63] at H
                                  have c63b0 : (t550.toList == ([] : List UInt8)) = false := beq_eq_false_iff_ne.mpr c63
                                  have c63b1 : (t550.toList != ([] : List UInt8)) = true := bne_iff_ne.mpr c63
                                  obtain rfl := Option.some.inj H
                                  go_wp2_with (first | (go_at_call 16; (with_reducible refine (octet_Reader_Failed.calls g487 x488000_29 x488001_29 x488002_29 true t527 t528 t529 w _ ?side1 ?side2 A50.out).mono ?_); (case side1 => repeat (first | (with_reducible first | exact HI487.out | apply IsS52.alloc | apply IsS52.drewN | apply IsS52.drew | apply IsS52.set_0 | apply IsS52.set_1 | apply IsS52.set_2) | exact HI487.out)); (case side2 => repeat (first | (with_reducible first | exact HB.out | apply below_alloc | apply pw_below_drewN | apply below_drew1 | refine below_set ?_ (IsS52.ge HI487.out)) | exact HB.out)); rintro e w96 ⟨rfl, hi, hb, hk⟩; have n0_ := Aside0.mk (hb); have n1_ := Aside0.mk (hi); clear HB; clear HI487; have HB := n0_; have HI487 := n1_; clear n0_ n1_; (try clear hb); (try clear hb2); (try clear hk); (try clear hi)) | (go_at_call 25; (with_reducible refine (octet_Reader_At.calls g487 t527 t528 t529 t530 t531 t532 t533 w _ ?side1 ?side2 A52.out).mono ?_); (case side1 => repeat (first | (with_reducible first | exact HI487.out | apply IsS52.alloc | apply IsS52.drewN | apply IsS52.drew | apply IsS52.set_0 | apply IsS52.set_1 | apply IsS52.set_2) | exact HI487.out)); (case side2 => repeat (first | (with_reducible first | exact HB.out | apply below_alloc | apply pw_below_drewN | apply below_drew1 | refine below_set ?_ (IsS52.ge HI487.out)) | exact HB.out)); rintro e w97 ⟨rfl, hi, hb, hk⟩; have n0_ := Aside0.mk (hb); have n1_ := Aside0.mk (hi); clear HB; clear HI487; have HB := n0_; have HI487 := n1_; clear n0_ n1_; (try clear hb); (try clear hb2); (try clear hk); (try clear hi)) | (go_at_call 26; (with_reducible refine (octet_Reader_Left.calls g487 t531 t532 t533 t534 t535 t536 t537 w _ ?side1 ?side2 A54.out).mono ?_); (case side1 => repeat (first | (with_reducible first | exact HI487.out | apply IsS52.alloc | apply IsS52.drewN | apply IsS52.drew | apply IsS52.set_0 | apply IsS52.set_1 | apply IsS52.set_2) | exact HI487.out)); (case side2 => repeat (first | (with_reducible first | exact HB.out | apply below_alloc | apply pw_below_drewN | apply below_drew1 | refine below_set ?_ (IsS52.ge HI487.out)) | exact HB.out)); rintro e w98 ⟨rfl, hi, hb, hk⟩; have n0_ := Aside0.mk (hb); have n1_ := Aside0.mk (hi); clear HB; clear HI487; have HB := n0_; have HI487 := n1_; clear n0_ n1_; (try clear hb); (try clear hb2); (try clear hk); (try clear hi)) | (go_at_call 15; (with_reducible refine (octet_Reader_Take.calls g487 t535 t536 t537 0 t538 t539 t540 t541 w _ ?side1 ?side2 A56.out).mono ?_); (case side1 => repeat (first | (with_reducible first | exact HI487.out | apply IsS52.alloc | apply IsS52.drewN | apply IsS52.drew | apply IsS52.set_0 | apply IsS52.set_1 | apply IsS52.set_2) | exact HI487.out)); (case side2 => repeat (first | (with_reducible first | exact HB.out | apply below_alloc | apply pw_below_drewN | apply below_drew1 | refine below_set ?_ (IsS52.ge HI487.out)) | exact HB.out)); rintro e w99 ⟨rfl, hi, hb, hk⟩; have n0_ := Aside0.mk (hb); have n1_ := Aside0.mk (hi); clear HB; clear HI487; have HB := n0_; have HI487 := n1_; clear n0_ n1_; (try clear hb); (try clear hb2); (try clear hk); (try clear hi)) | (go_at_call 14; (with_reducible refine (octet_Reader_Num.calls g487 t539 t540 t541 0 t542 t543 t544 t545 w _ ?side1 ?side2 A58.out).mono ?_); (case side1 => repeat (first | (with_reducible first | exact HI487.out | apply IsS52.alloc | apply IsS52.drewN | apply IsS52.drew | apply IsS52.set_0 | apply IsS52.set_1 | apply IsS52.set_2) | exact HI487.out)); (case side2 => repeat (first | (with_reducible first | exact HB.out | apply below_alloc | apply pw_below_drewN | apply below_drew1 | refine below_set ?_ (IsS52.ge HI487.out)) | exact HB.out)); rintro e w100 ⟨rfl, hi, hb, hk⟩; have n0_ := Aside0.mk (hb); have n1_ := Aside0.mk (hi); clear HB; clear HI487; have HB := n0_; have HI487 := n1_; clear n0_ n1_; (try clear hb); (try clear hb2); (try clear hk); (try clear hi)) | (go_at_call 24; (with_reducible refine (octet_Reader_Int.calls g487 t543 t544 t545 1 t546 t547 t548 t549 w _ ?side1 ?side2 A60.out).mono ?_); (case side1 => repeat (first | (with_reducible first | exact HI487.out | apply IsS52.alloc | apply IsS52.drewN | apply IsS52.drew | apply IsS52.set_0 | apply IsS52.set_1 | apply IsS52.set_2) | exact HI487.out)); (case side2 => repeat (first | (with_reducible first | exact HB.out | apply below_alloc | apply pw_below_drewN | apply below_drew1 | refine below_set ?_ (IsS52.ge HI487.out)) | exact HB.out)); rintro e w101 ⟨rfl, hi, hb, hk⟩; have n0_ := Aside0.mk (hb); have n1_ := Aside0.mk (hi); clear HB; clear HI487; have HB := n0_; have HI487 := n1_; clear n0_ n1_; (try clear hb); (try clear hb2); (try clear hk); (try clear hi)) | (go_at_call 30; (with_reducible refine (octet_Reader_Text.calls g487 t547 t548 t549 t550 t551 t552 t553 w _ ?side1 ?side2 A62.out).mono ?_); (case side1 => repeat (first | (with_reducible first | exact HI487.out | apply IsS52.alloc | apply IsS52.drewN | apply IsS52.drew | apply IsS52.set_0 | apply IsS52.set_1 | apply IsS52.set_2) | exact HI487.out)); (case side2 => repeat (first | (with_reducible first | exact HB.out | apply below_alloc | apply pw_below_drewN | apply below_drew1 | refine below_set ?_ (IsS52.ge HI487.out)) | exact HB.out)); rintro e w102 ⟨rfl, hi, hb, hk⟩; have n0_ := Aside0.mk (hb); have n1_ := Aside0.mk (hi); clear HB; clear HI487; have HB := n0_; have HI487 := n1_; clear n0_ n1_; (try clear hb); (try clear hb2); (try clear hk); (try clear hi)))
                                  go_ret
                                  exact ⟨by first | rfl | (simp [errW_none, errW_some] <;> rfl) | (simp [*, errW_none, errW_some] <;> rfl), by repeat (first | (with_reducible first | exact HB.out | apply below_alloc | apply pw_below_drewN | apply below_drew1 | refine below_set ?_ (IsS52.ge HI487.out)) | exact HB.out)⟩
                              · rw [if_neg c61] at H
                                have c61b0 : (t546 == 0) = false := beq_eq_false_iff_ne.mpr c61
                                have c61b1 : (t546 != 0) = true := bne_iff_ne.mpr c61
                                obtain rfl := Option.some.inj H
                                go_wp2_with (first | (go_at_call 16; (with_reducible refine (octet_Reader_Failed.calls g487 x488000_29 x488001_29 x488002_29 true t527 t528 t529 w _ ?side1 ?side2 A50.out).mono ?_); (case side1 => repeat (first | (with_reducible first | exact HI487.out | apply IsS52.alloc | apply IsS52.drewN | apply IsS52.drew | apply IsS52.set_0 | apply IsS52.set_1 | apply IsS52.set_2) | exact HI487.out)); (case side2 => repeat (first | (with_reducible first | exact HB.out | apply below_alloc | apply pw_below_drewN | apply below_drew1 | refine below_set ?_ (IsS52.ge HI487.out)) | exact HB.out)); rintro e w103 ⟨rfl, hi, hb, hk⟩; have n0_ := Aside0.mk (hb); have n1_ := Aside0.mk (hi); clear HB; clear HI487; have HB := n0_; have HI487 := n1_; clear n0_ n1_; (try clear hb); (try clear hb2); (try clear hk); (try clear hi)) | (go_at_call 25; (with_reducible refine (octet_Reader_At.calls g487 t527 t528 t529 t530 t531 t532 t533 w _ ?side1 ?side2 A52.out).mono ?_); (case side1 => repeat (first | (with_reducible first | exact HI487.out | apply IsS52.alloc | apply IsS52.drewN | apply IsS52.drew | apply IsS52.set_0 | apply IsS52.set_1 | apply IsS52.set_2) | exact HI487.out)); (case side2 => repeat (first | (with_reducible first | exact HB.out | apply below_alloc | apply pw_below_drewN | apply below_drew1 | refine below_set ?_ (IsS52.ge HI487.out)) | exact HB.out)); rintro e w104 ⟨rfl, hi, hb, hk⟩; have n0_ := Aside0.mk (hb); have n1_ := Aside0.mk (hi); clear HB; clear HI487; have HB := n0_; have HI487 := n1_; clear n0_ n1_; (try clear hb); (try clear hb2); (try clear hk); (try clear hi)) | (go_at_call 26; (with_reducible refine (octet_Reader_Left.calls g487 t531 t532 t533 t534 t535 t536 t537 w _ ?side1 ?side2 A54.out).mono ?_); (case side1 => repeat (first | (with_reducible first | exact HI487.out | apply IsS52.alloc | apply IsS52.drewN | apply IsS52.drew | apply IsS52.set_0 | apply IsS52.set_1 | apply IsS52.set_2) | exact HI487.out)); (case side2 => repeat (first | (with_reducible first | exact HB.out | apply below_alloc | apply pw_below_drewN | apply below_drew1 | refine below_set ?_ (IsS52.ge HI487.out)) | exact HB.out)); rintro e w105 ⟨rfl, hi, hb, hk⟩; have n0_ := Aside0.mk (hb); have n1_ := Aside0.mk (hi); clear HB; clear HI487; have HB := n0_; have HI487 := n1_; clear n0_ n1_; (try clear hb); (try clear hb2); (try clear hk); (try clear hi)) | (go_at_call 15; (with_reducible refine (octet_Reader_Take.calls g487 t535 t536 t537 0 t538 t539 t540 t541 w _ ?side1 ?side2 A56.out).mono ?_); (case side1 => repeat (first | (with_reducible first | exact HI487.out | apply IsS52.alloc | apply IsS52.drewN | apply IsS52.drew | apply IsS52.set_0 | apply IsS52.set_1 | apply IsS52.set_2) | exact HI487.out)); (case side2 => repeat (first | (with_reducible first | exact HB.out | apply below_alloc | apply pw_below_drewN | apply below_drew1 | refine below_set ?_ (IsS52.ge HI487.out)) | exact HB.out)); rintro e w106 ⟨rfl, hi, hb, hk⟩; have n0_ := Aside0.mk (hb); have n1_ := Aside0.mk (hi); clear HB; clear HI487; have HB := n0_; have HI487 := n1_; clear n0_ n1_; (try clear hb); (try clear hb2); (try clear hk); (try clear hi)) | (go_at_call 14; (with_reducible refine (octet_Reader_Num.calls g487 t539 t540 t541 0 t542 t543 t544 t545 w _ ?side1 ?side2 A58.out).mono ?_); (case side1 => repeat (first | (with_reducible first | exact HI487.out | apply IsS52.alloc | apply IsS52.drewN | apply IsS52.drew | apply IsS52.set_0 | apply IsS52.set_1 | apply IsS52.set_2) | exact HI487.out)); (case side2 => repeat (first | (with_reducible first | exact HB.out | apply below_alloc | apply pw_below_drewN | apply below_drew1 | refine below_set ?_ (IsS52.ge HI487.out)) | exact HB.out)); rintro e w107 ⟨rfl, hi, hb, hk⟩; have n0_ := Aside0.mk (hb); have n1_ := Aside0.mk (hi); clear HB; clear HI487; have HB := n0_; have HI487 := n1_; clear n0_ n1_; (try clear hb); (try clear hb2); (try clear hk); (try clear hi)) | (go_at_call 24; (with_reducible refine (octet_Reader_Int.calls g487 t543 t544 t545 1 t546 t547 t548 t549 w _ ?side1 ?side2 A60.out).mono ?_); (case side1 => repeat (first | (with_reducible first | exact HI487.out | apply IsS52.alloc | apply IsS52.drewN | apply IsS52.drew | apply IsS52.set_0 | apply IsS52.set_1 | apply IsS52.set_2) | exact HI487.out)); (case side2 => repeat (first | (with_reducible first | exact HB.out | apply below_alloc | apply pw_below_drewN | apply below_drew1 | refine below_set ?_ (IsS52.ge HI487.out)) | exact HB.out)); rintro e w108 ⟨rfl, hi, hb, hk⟩; have n0_ := Aside0.mk (hb); have n1_ := Aside0.mk (hi); clear HB; clear HI487; have HB := n0_; have HI487 := n1_; clear n0_ n1_; (try clear hb); (try clear hb2); (try clear hk); (try clear hi)))
                                go_ret
                                exact ⟨by first | rfl | (simp [errW_none, errW_some] <;> rfl) | (simp [*, errW_none, errW_some] <;> rfl), by repeat (first | (with_reducible first | exact HB.out | apply below_alloc | apply pw_below_drewN | apply below_drew1 | refine below_set ?_ (IsS52.ge HI487.out)) | exact HB.out)⟩
                            · rw [if_neg c59] at H
                              have c59b0 : (t542 == 0) = false := beq_eq_false_iff_ne.mpr c59
                              have c59b1 : (t542 != 0) = true := bne_iff_ne.mpr c59
                              obtain rfl := Option.some.inj H
                              go_wp2_with (first | (go_at_call 16; (with_reducible refine (octet_Reader_Failed.calls g487 x488000_29 x488001_29 x488002_29 true t527 t528 t529 w _ ?side1 ?side2 A50.out).mono ?_); (case side1 => repeat (first | (with_reducible first | exact HI487.out | apply IsS52.alloc | apply IsS52.drewN | apply IsS52.drew | apply IsS52.set_0 | apply IsS52.set_1 | apply IsS52.set_2) | exact HI487.out)); (case side2 => repeat (first | (with_reducible first | exact HB.out | apply below_alloc | apply pw_below_drewN | apply below_drew1 | refine below_set ?_ (IsS52.ge HI487.out)) | exact HB.out)); rintro e w109 ⟨rfl, hi, hb, hk⟩; have n0_ := Aside0.mk (hb); have n1_ := Aside0.mk (hi); clear HB; clear HI487; have HB := n0_; have HI487 := n1_; clear n0_ n1_; (try clear hb); (try clear hb2); (try clear hk); (try clear hi)) | (go_at_call 25; (with_reducible refine (octet_Reader_At.calls g487 t527 t528 t529 t530 t531 t532 t533 w _ ?side1 ?side2 A52.out).mono ?_); (case side1 => repeat (first | (with_reducible first | exact HI487.out | apply IsS52.alloc | apply IsS52.drewN | apply IsS52.drew | apply IsS52.set_0 | apply IsS52.set_1 | apply IsS52.set_2) | exact HI487.out)); (case side2 => repeat (first | (with_reducible first | exact HB.out | apply below_alloc | apply pw_below_drewN | apply below_drew1 | refine below_set ?_ (IsS52.ge HI487.out)) | exact HB.out)); rintro e w110 ⟨rfl, hi, hb, hk⟩; have n0_ := Aside0.mk (hb); have n1_ := Aside0.mk (hi); clear HB; clear HI487; have HB := n0_; have HI487 := n1_; clear n0_ n1_; (try clear hb); (try clear hb2); (try clear hk); (try clear hi)) | (go_at_call 26; (with_reducible refine (octet_Reader_Left.calls g487 t531 t532 t533 t534 t535 t536 t537 w _ ?side1 ?side2 A54.out).mono ?_); (case side1 => repeat (first | (with_reducible first | exact HI487.out | apply IsS52.alloc | apply IsS52.drewN | apply IsS52.drew | apply IsS52.set_0 | apply IsS52.set_1 | apply IsS52.set_2) | exact HI487.out)); (case side2 => repeat (first | (with_reducible first | exact HB.out | apply below_alloc | apply pw_below_drewN | apply below_drew1 | refine below_set ?_ (IsS52.ge HI487.out)) | exact HB.out)); rintro e w111 ⟨rfl, hi, hb, hk⟩; have n0_ := Aside0.mk (hb); have n1_ := Aside0.mk (hi); clear HB; clear HI487; have HB := n0_; have HI487 := n1_; clear n0_ n1_; (try clear hb); (try clear hb2); (try clear hk); (try clear hi)) | (go_at_call 15; (with_reducible refine (octet_Reader_Take.calls g487 t535 t536 t537 0 t538 t539 t540 t541 w _ ?side1 ?side2 A56.out).mono ?_); (case side1 => repeat (first | (with_reducible first | exact HI487.out | apply IsS52.alloc | apply IsS52.drewN | apply IsS52.drew | apply IsS52.set_0 | apply IsS52.set_1 | apply IsS52.set_2) | exact HI487.out)); (case side2 => repeat (first | (with_reducible first | exact HB.out | apply below_alloc | apply pw_below_drewN | apply below_drew1 | refine below_set ?_ (IsS52.ge HI487.out)) | exact HB.out)); rintro e w112 ⟨rfl, hi, hb, hk⟩; have n0_ := Aside0.mk (hb); have n1_ := Aside0.mk (hi); clear HB; clear HI487; have HB := n0_; have HI487 := n1_; clear n0_ n1_; (try clear hb); (try clear hb2); (try clear hk); (try clear hi)) | (go_at_call 14; (with_reducible refine (octet_Reader_Num.calls g487 t539 t540 t541 0 t542 t543 t544 t545 w _ ?side1 ?side2 A58.out).mono ?_); (case side1 => repeat (first | (with_reducible first | exact HI487.out | apply IsS52.alloc | apply IsS52.drewN | apply IsS52.drew | apply IsS52.set_0 | apply IsS52.set_1 | apply IsS52.set_2) | exact HI487.out)); (case side2 => repeat (first | (with_reducible first | exact HB.out | apply below_alloc | apply pw_below_drewN | apply below_drew1 | refine below_set ?_ (IsS52.ge HI487.out)) | exact HB.out)); rintro e w113 ⟨rfl, hi, hb, hk⟩; have n0_ := Aside0.mk (hb); have n1_ := Aside0.mk (hi); clear HB; clear HI487; have HB := n0_; have HI487 := n1_; clear n0_ n1_; (try clear hb); (try clear hb2); (try clear hk); (try clear hi)))
                              go_ret
                              exact ⟨by first | rfl | (simp [errW_none, errW_some] <;> rfl) | (simp [*, errW_none, errW_some] <;> rfl), by repeat (first | (with_reducible first | exact HB.out | apply below_alloc | apply pw_below_drewN | apply below_drew1 | refine below_set ?_ (IsS52.ge HI487.out)) | exact HB.out)⟩
                          · rw [if_neg c57] at H
                            have c57b0 : (t538.toList == ([] : List UInt8)) = false := beq_eq_false_iff_ne.mpr c57
                            have c57b1 : (t538.toList != ([] : List UInt8)) = true := bne_iff_ne.mpr c57
                            obtain rfl := Option.some.inj H
                            go_wp2_with (first | (go_at_call 16; (with_reducible refine (octet_Reader_Failed.calls g487 x488000_29 x488001_29 x488002_29 true t527 t528 t529 w _ ?side1 ?side2 A50.out).mono ?_); (case side1 => repeat (first | (with_reducible first | exact HI487.out | apply IsS52.alloc | apply IsS52.drewN | apply IsS52.drew | apply IsS52.set_0 | apply IsS52.set_1 | apply IsS52.set_2) | exact HI487.out)); (case side2 => repeat (first | (with_reducible first | exact HB.out | apply below_alloc | apply pw_below_drewN | apply below_drew1 | refine below_set ?_ (IsS52.ge HI487.out)) | exact HB.out)); rintro e w114 ⟨rfl, hi, hb, hk⟩; have n0_ := Aside0.mk (hb); have n1_ := Aside0.mk (hi); clear HB; clear HI487; have HB := n0_; have HI487 := n1_; clear n0_ n1_; (try clear hb); (try clear hb2); (try clear hk); (try clear hi)) | (go_at_call 25; (with_reducible refine (octet_Reader_At.calls g487 t527 t528 t529 t530 t531 t532 t533 w _ ?side1 ?side2 A52.out).mono ?_); (case side1 => repeat (first | (with_reducible first | exact HI487.out | apply IsS52.alloc | apply IsS52.drewN | apply IsS52.drew | apply IsS52.set_0 | apply IsS52.set_1 | apply IsS52.set_2) | exact HI487.out)); (case side2 => repeat (first | (with_reducible first | exact HB.out | apply below_alloc | apply pw_below_drewN | apply below_drew1 | refine below_set ?_ (IsS52.ge HI487.out)) | exact HB.out)); rintro e w115 ⟨rfl, hi, hb, hk⟩; have n0_ := Aside0.mk (hb); have n1_ := Aside0.mk (hi); clear HB; clear HI487; have HB := n0_; have HI487 := n1_; clear n0_ n1_; (try clear hb); (try clear hb2); (try clear hk); (try clear hi)) | (go_at_call 26; (with_reducible refine (octet_Reader_Left.calls g487 t531 t532 t533 t534 t535 t536 t537 w _ ?side1 ?side2 A54.out).mono ?_); (case side1 => repeat (first | (with_reducible first | exact HI487.out | apply IsS52.alloc | apply IsS52.drewN | apply IsS52.drew | apply IsS52.set_0 | apply IsS52.set_1 | apply IsS52.set_2) | exact HI487.out)); (case side2 => repeat (first | (with_reducible first | exact HB.out | apply below_alloc | apply pw_below_drewN | apply below_drew1 | refine below_set ?_ (IsS52.ge HI487.out)) | exact HB.out)); rintro e w116 ⟨rfl, hi, hb, hk⟩; have n0_ := Aside0.mk (hb); have n1_ := Aside0.mk (hi); clear HB; clear HI487; have HB := n0_; have HI487 := n1_; clear n0_ n1_; (try clear hb); (try clear hb2); (try clear hk); (try clear hi)) | (go_at_call 15; (with_reducible refine (octet_Reader_Take.calls g487 t535 t536 t537 0 t538 t539 t540 t541 w _ ?side1 ?side2 A56.out).mono ?_); (case side1 => repeat (first | (with_reducible first | exact HI487.out | apply IsS52.alloc | apply IsS52.drewN | apply IsS52.drew | apply IsS52.set_0 | apply IsS52.set_1 | apply IsS52.set_2) | exact HI487.out)); (case side2 => repeat (first | (with_reducible first | exact HB.out | apply below_alloc | apply pw_below_drewN | apply below_drew1 | refine below_set ?_ (IsS52.ge HI487.out)) | exact HB.out)); rintro e w117 ⟨rfl, hi, hb, hk⟩; have n0_ := Aside0.mk (hb); have n1_ := Aside0.mk (hi); clear HB; clear HI487; have HB := n0_; have HI487 := n1_; clear n0_ n1_; (try clear hb); (try clear hb2); (try clear hk); (try clear hi)))
                            go_ret
                            exact ⟨by first | rfl | (simp [errW_none, errW_some] <;> rfl) | (simp [*, errW_none, errW_some] <;> rfl), by repeat (first | (with_reducible first | exact HB.out | apply below_alloc | apply pw_below_drewN | apply below_drew1 | refine below_set ?_ (IsS52.ge HI487.out)) | exact HB.out)⟩
                        · rw [if_neg c55] at H
                          have c55b0 : (t534 == t498) = false := beq_eq_false_iff_ne.mpr c55
                          have c55b1 : (t534 != t498) = true := bne_iff_ne.mpr c55
                          obtain rfl := Option.some.inj H
                          go_wp2_with (first | (go_at_call 16; (with_reducible refine (octet_Reader_Failed.calls g487 x488000_29 x488001_29 x488002_29 true t527 t528 t529 w _ ?side1 ?side2 A50.out).mono ?_); (case side1 => repeat (first | (with_reducible first | exact HI487.out | apply IsS52.alloc | apply IsS52.drewN | apply IsS52.drew | apply IsS52.set_0 | apply IsS52.set_1 | apply IsS52.set_2) | exact HI487.out)); (case side2 => repeat (first | (with_reducible first | exact HB.out | apply below_alloc | apply pw_below_drewN | apply below_drew1 | refine below_set ?_ (IsS52.ge HI487.out)) | exact HB.out)); rintro e w118 ⟨rfl, hi, hb, hk⟩; have n0_ := Aside0.mk (hb); have n1_ := Aside0.mk (hi); clear HB; clear HI487; have HB := n0_; have HI487 := n1_; clear n0_ n1_; (try clear hb); (try clear hb2); (try clear hk); (try clear hi)) | (go_at_call 25; (with_reducible refine (octet_Reader_At.calls g487 t527 t528 t529 t530 t531 t532 t533 w _ ?side1 ?side2 A52.out).mono ?_); (case side1 => repeat (first | (with_reducible first | exact HI487.out | apply IsS52.alloc | apply IsS52.drewN | apply IsS52.drew | apply IsS52.set_0 | apply IsS52.set_1 | apply IsS52.set_2) | exact HI487.out)); (case side2 => repeat (first | (with_reducible first | exact HB.out | apply below_alloc | apply pw_below_drewN | apply below_drew1 | refine below_set ?_ (IsS52.ge HI487.out)) | exact HB.out)); rintro e w119 ⟨rfl, hi, hb, hk⟩; have n0_ := Aside0.mk (hb); have n1_ := Aside0.mk (hi); clear HB; clear HI487; have HB := n0_; have HI487 := n1_; clear n0_ n1_; (try clear hb); (try clear hb2); (try clear hk); (try clear hi)) | (go_at_call 26; (with_reducible refine (octet_Reader_Left.calls g487 t531 t532 t533 t534 t535 t536 t537 w _ ?side1 ?side2 A54.out).mono ?_); (case side1 => repeat (first | (with_reducible first | exact HI487.out | apply IsS52.alloc | apply IsS52.drewN | apply IsS52.drew | apply IsS52.set_0 | apply IsS52.set_1 | apply IsS52.set_2) | exact HI487.out)); (case side2 => repeat (first | (with_reducible first | exact HB.out | apply below_alloc | apply pw_below_drewN | apply below_drew1 | refine below_set ?_ (IsS52.ge HI487.out)) | exact HB.out)); rintro e w120 ⟨rfl, hi, hb, hk⟩; have n0_ := Aside0.mk (hb); have n1_ := Aside0.mk (hi); clear HB; clear HI487; have HB := n0_; have HI487 := n1_; clear n0_ n1_; (try clear hb); (try clear hb2); (try clear hk); (try clear hi)))
                          go_ret
                          exact ⟨by first | rfl | (simp [errW_none, errW_some] <;> rfl) | (simp [*, errW_none, errW_some] <;> rfl), by repeat (first | (with_reducible first | exact HB.out | apply below_alloc | apply pw_below_drewN | apply below_drew1 | refine below_set ?_ (IsS52.ge HI487.out)) | exact HB.out)⟩
                      · rw [if_neg c53] at H
                        have c53b0 : (t530 == (Int.tmod (wrap64 (a1)) (wrap64 ((t483.size : Int) + 1)))) = false := beq_eq_false_iff_ne.mpr c53
                        have c53b1 : (t530 != (Int.tmod (wrap64 (a1)) (wrap64 ((t483.size : Int) + 1)))) = true := bne_iff_ne.mpr c53
                        obtain rfl := Option.some.inj H
                        go_wp2_with (first | (go_at_call 16; (with_reducible refine (octet_Reader_Failed.calls g487 x488000_29 x488001_29 x488002_29 true t527 t528 t529 w _ ?side1 ?side2 A50.out).mono ?_); (case side1 => repeat (first | (with_reducible first | exact HI487.out | apply IsS52.alloc | apply IsS52.drewN | apply IsS52.drew | apply IsS52.set_0 | apply IsS52.set_1 | apply IsS52.set_2) | exact HI487.out)); (case side2 => repeat (first | (with_reducible first | exact HB.out | apply below_alloc | apply pw_below_drewN | apply below_drew1 | refine below_set ?_ (IsS52.ge HI487.out)) | exact HB.out)); rintro e w121 ⟨rfl, hi, hb, hk⟩; have n0_ := Aside0.mk (hb); have n1_ := Aside0.mk (hi); clear HB; clear HI487; have HB := n0_; have HI487 := n1_; clear n0_ n1_; (try clear hb); (try clear hb2); (try clear hk); (try clear hi)) | (go_at_call 25; (with_reducible refine (octet_Reader_At.calls g487 t527 t528 t529 t530 t531 t532 t533 w _ ?side1 ?side2 A52.out).mono ?_); (case side1 => repeat (first | (with_reducible first | exact HI487.out | apply IsS52.alloc | apply IsS52.drewN | apply IsS52.drew | apply IsS52.set_0 | apply IsS52.set_1 | apply IsS52.set_2) | exact HI487.out)); (case side2 => repeat (first | (with_reducible first | exact HB.out | apply below_alloc | apply pw_below_drewN | apply below_drew1 | refine below_set ?_ (IsS52.ge HI487.out)) | exact HB.out)); rintro e w122 ⟨rfl, hi, hb, hk⟩; have n0_ := Aside0.mk (hb); have n1_ := Aside0.mk (hi); clear HB; clear HI487; have HB := n0_; have HI487 := n1_; clear n0_ n1_; (try clear hb); (try clear hb2); (try clear hk); (try clear hi)))
                        go_ret
                        exact ⟨by first | rfl | (simp [errW_none, errW_some] <;> rfl) | (simp [*, errW_none, errW_some] <;> rfl), by repeat (first | (with_reducible first | exact HB.out | apply below_alloc | apply pw_below_drewN | apply below_drew1 | refine below_set ?_ (IsS52.ge HI487.out)) | exact HB.out)⟩
                    · replace c51 := Bool.eq_false_iff.mpr c51
                      subst c51
                      have H1 : (some false) = some r := by rw [if_neg (show ¬ (false = true) by decide)] at H; exact H
                      clear H
                      have H := H1
                      clear H1
                      obtain rfl := Option.some.inj H
                      go_wp2_with (first | (go_at_call 16; (with_reducible refine (octet_Reader_Failed.calls g487 x488000_29 x488001_29 x488002_29 false t527 t528 t529 w _ ?side1 ?side2 A50.out).mono ?_); (case side1 => repeat (first | (with_reducible first | exact HI487.out | apply IsS52.alloc | apply IsS52.drewN | apply IsS52.drew | apply IsS52.set_0 | apply IsS52.set_1 | apply IsS52.set_2) | exact HI487.out)); (case side2 => repeat (first | (with_reducible first | exact HB.out | apply below_alloc | apply pw_below_drewN | apply below_drew1 | refine below_set ?_ (IsS52.ge HI487.out)) | exact HB.out)); rintro e w123 ⟨rfl, hi, hb, hk⟩; have n0_ := Aside0.mk (hb); have n1_ := Aside0.mk (hi); clear HB; clear HI487; have HB := n0_; have HI487 := n1_; clear n0_ n1_; (try clear hb); (try clear hb2); (try clear hk); (try clear hi)))
                      go_ret
                      exact ⟨by first | rfl | (simp [errW_none, errW_some] <;> rfl) | (simp [*, errW_none, errW_some] <;> rfl), by repeat (first | (with_reducible first | exact HB.out | apply below_alloc | apply pw_below_drewN | apply below_drew1 | refine below_set ?_ (IsS52.ge HI487.out)) | exact HB.out)⟩
                  · replace c49 := Bool.eq_false_iff.mpr c49
                    subst c49
                    have H1 : (some false) = some r := by rw [if_neg (show ¬ (false = true) by decide)] at H; exact H
                    clear H
                    have H := H1
                    clear H1
                    obtain rfl := Option.some.inj H
                    go_wp2
                    go_ret
                    exact ⟨by first | rfl | (simp [errW_none, errW_some] <;> rfl) | (simp [*, errW_none, errW_some] <;> rfl), by repeat (first | (with_reducible first | exact HB.out | apply below_alloc | apply pw_below_drewN | apply below_drew1 | refine below_set ?_ (IsS52.ge HI487.out)) | exact HB.out)⟩

/-- THE ONE PURE STATEMENT of fleuronlaw01_OctetFails: yours. -/
def fleuronlaw01_OctetFails.Pure : Prop := ∀ (a0 : ByteArray) (a1 : Int) (a2 : Int), a0.size ≤ 140737488351232 → (Lit.int .u8 a1).wf = true → (Lit.int .u8 a2).wf = true → ∃ k, fleuronlaw01_OctetFails.f k a0 a1 a2 = some true
theorem fleuronlaw01_OctetFails.walk (P : fleuronlaw01_OctetFails.Pure) (a0 : ByteArray) (a1 : Int) (a2 : Int) (w : World) (w0 : a0.size ≤ 140737488351232) (w1 : (Lit.int .u8 a1).wf = true) (w2 : (Lit.int .u8 a2).wf = true) :
    Calls Try.prog 10 #[.string a0, .int .u8 a1, .int .u8 a2] w fun e w' => e = .returned (.bool true) ∧ Below w.heap.size w w' := by
  obtain ⟨k, h⟩ := P a0 a1 a2 w0 w1 w2
  refine (fleuronlaw01_OctetFails.calls k a0 a1 a2 true w h).mono ?_
  rintro e w' ⟨rfl, hd⟩
  exact ⟨rfl, hd⟩

-- NOT PRINTED: function 11 (fleuronlaw01_OctetNil)

end Go.Proofs.Ytfnbaepioignaaa.POct
