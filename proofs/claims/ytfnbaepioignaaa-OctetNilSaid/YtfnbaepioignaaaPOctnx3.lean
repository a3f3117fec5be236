-- Written for this claim by a program of this seat (wip/tools: a turned copy of the kit's print). Not trusted: Lean checks it.
import Derived.Test.YtfnbaepioignaaaPOctnx0
import Derived.Test.YtfnbaepioignaaaPOctnx1
import Derived.Test.YtfnbaepioignaaaPOctnx2
namespace Go.Proofs.Ytfnbaepioignaaa.POctn
open Go.RowKit Go.Proofs.YtfnbaepioignaaaW.PrintWords Go.Proofs.YtfnbaepioignaaaW.PrintLast Go.Proofs.YtfnbaepioignaaaW.PrintMore
attribute [local go_sem] max2_int min2_int max_two min_two max_three min_three max_four min_four   -- for this text's walks alone
set_option linter.unusedVariables false
set_option linter.unusedSimpArgs false

/-! ### fleuronlaw01_OctetNil: function 11 -/
def fleuronlaw01_OctetNil.j0 : Nat → Int → Bool → Bool → Option (Bool)
  | 0, _, _, _ => none
  | k + 1, x0, x5, x58 => if x58 = true then (some false) else (if 0 ≤ (wrap64 (65528 + (wrap64 (Int.tmod x0 15)))) then (if (wrap64 (65528 + (wrap64 (Int.tmod x0 15))) : Int).toNat ≤ 281474976710656 then ((octet_Text.f k (strOfNums (List.replicate (wrap64 (65528 + (wrap64 (Int.tmod x0 15))) : Int).toNat 0))).bind fun t195 => (if (wrap64 (65528 + (wrap64 (Int.tmod x0 15)))) > 65535 then (if x5 = true then (some (t195.toList == ([] : List UInt8))) else (some false)) else (if x5 = true then (if (t195.size : Int) = (wrap64 ((wrap64 (65528 + (wrap64 (Int.tmod x0 15)))) + 2)) then (if 0 ≤ 2 then (if 2 ≤ (t195.size : Int) then ((octet_Put.f k (wrap64 (65528 + (wrap64 (Int.tmod x0 15)))) 2).bind fun t196 => (some ((t195.extract 0 2).toList == t196.toList))) else (none)) else (none)) else (some false)) else (some false)))) else (none)) else (none))
def fleuronlaw01_OctetNil.f (k : Nat) (a0 : Int) (a1_0 : Int) (a1_1 : Int) : Option (Bool) := (fleuronlaw01_shown.f k).bind fun t165 => ((fleuronlaw01_one_nil.f a1_0 a1_1).bind fun bt167 => (if bt167.1 = 0 then (if bt167.2.toList = ([] : List UInt8) then ((octet_Reader_Failed_nil.f).bind fun t169 => (if t169 = true then ((octet_Reader_At_nil.f).bind fun t170 => (if t170 = 0 then ((octet_Reader_Left_nil.f).bind fun t171 => (if t171 = 0 then ((octet_Reader_Left.f (⟨#[]⟩ : ByteArray) 0 false).bind fun bt172 => (if bt172.1 = 0 then ((octet_Reader_At.f bt172.2.1 bt172.2.2.1 bt172.2.2.2).bind fun bt176 => (if bt176.1 = 0 then ((octet_Reader_Failed.f bt176.2.1 bt176.2.2.1 bt176.2.2.2).bind fun bt180 => (if bt180.1 = true then (fleuronlaw01_OctetNil.j0 k a0 t165 true) else ((octet_Reader_Num.f bt180.2.1 bt180.2.2.1 bt180.2.2.2 1).bind fun bt184 => (if bt184.1 = 0 then ((octet_Reader_Failed.f bt184.2.1 bt184.2.2.1 bt184.2.2.2).bind fun bt188 => (fleuronlaw01_OctetNil.j0 k a0 t165 (!bt188.1))) else (fleuronlaw01_OctetNil.j0 k a0 t165 true))))) else (fleuronlaw01_OctetNil.j0 k a0 t165 true))) else (fleuronlaw01_OctetNil.j0 k a0 t165 true))) else (fleuronlaw01_OctetNil.j0 k a0 t165 true))) else (fleuronlaw01_OctetNil.j0 k a0 t165 true))) else (fleuronlaw01_OctetNil.j0 k a0 t165 true))) else (fleuronlaw01_OctetNil.j0 k a0 t165 true)) else (fleuronlaw01_OctetNil.j0 k a0 t165 true)))
theorem fleuronlaw01_OctetNil.mono_l : ∀ k, (∀ y0 y1 y2, LeO (fleuronlaw01_OctetNil.j0 k y0 y1 y2) (fleuronlaw01_OctetNil.j0 (k + 1) y0 y1 y2))
  | 0 => fun _ _ _ r h => by simp [fleuronlaw01_OctetNil.j0] at h
  | k + 1 => by
    have ih0 := fleuronlaw01_OctetNil.mono_l k
    · intro y0 y1 y2
      unfold fleuronlaw01_OctetNil.j0
      repeat' first
      | (with_reducible exact ih0 _ _ _)
      | (with_reducible exact fleuronlaw01_shown.mono _)
      | (with_reducible exact octet_Put.mono _ _ _)
      | (with_reducible exact octet_Text.mono _ _)
      | (with_reducible exact LeO.refl _)
      | (with_reducible exact LeO.none _)
      | (with_reducible refine LeO.ite ?_ ?_)
      | (with_reducible refine LeO.bind ?_ (fun _ => ?_))
      | exact ih0 _ _ _
      | exact fleuronlaw01_shown.mono _
      | exact octet_Put.mono _ _ _
      | exact octet_Text.mono _ _
      | exact LeO.none _
      | refine LeO.ite ?_ ?_
      | refine LeO.bind ?_ (fun _ => ?_)
theorem fleuronlaw01_OctetNil.mono : ∀ a0 a1 a2 k, LeO (fleuronlaw01_OctetNil.f k a0 a1 a2) (fleuronlaw01_OctetNil.f (k + 1) a0 a1 a2) := by
  intro a0 a1 a2 k
  have ih0 := fleuronlaw01_OctetNil.mono_l k
  unfold fleuronlaw01_OctetNil.f
  repeat' first
      | (with_reducible exact ih0 _ _ _)
      | (with_reducible exact fleuronlaw01_shown.mono _)
      | (with_reducible exact octet_Put.mono _ _ _)
      | (with_reducible exact octet_Text.mono _ _)
      | (with_reducible exact LeO.refl _)
      | (with_reducible exact LeO.none _)
      | (with_reducible refine LeO.ite ?_ ?_)
      | (with_reducible refine LeO.bind ?_ (fun _ => ?_))
      | exact ih0 _ _ _
      | exact fleuronlaw01_shown.mono _
      | exact octet_Put.mono _ _ _
      | exact octet_Text.mono _ _
      | exact LeO.none _
      | refine LeO.ite ?_ ?_
      | refine LeO.bind ?_ (fun _ => ?_)
def fleuronlaw01_OctetNil.T11 : Bool × List (List Nat × List Nat) := (true, [([], []), ([0], [0]), ([1], [1]), ([2, 1], [1, 2]), ([1], [1]), ([4, 1], [1, 4]), ([3, 5, 1], [1, 3, 5]), ([1, 6], [1, 6]), ([7, 1], [7]), ([8], [8]), ([9, 8], [8, 9]), ([8], [8]), ([11, 8, 8], [8, 11]), ([10, 12, 8], [8, 10, 12]), ([8, 13], [8, 13]), ([14, 12, 0, 1, 2, 3, 4, 5, 6, 7, 8, 9, 10, 11, 12, 13, 14], [14])])
def fleuronlaw01_OctetNil.B11 : List Nat := [0, 1, 3, 7, 3, 19, 63, 127, 255, 511, 1023, 511, 2559, 8191, 16383, 32767]
theorem fleuronlaw01_OctetNil.tab11 : rtab .any (opsOf Try.f11 11) = fleuronlaw01_OctetNil.T11 := by kernel_rfl
theorem fleuronlaw01_OctetNil.bits11 : waitsOk fleuronlaw01_OctetNil.T11.2 fleuronlaw01_OctetNil.B11 = true := by kernel_rfl
set_option maxHeartbeats 8000000 in
set_option maxRecDepth 100000 in
theorem fleuronlaw01_OctetNil.calls (k : Nat) (a0 : Int) (a1_0 : Int) (a1_1 : Int) (r : Bool) (w : World) (h : fleuronlaw01_OctetNil.f k a0 a1_0 a1_1 = some r) :
    Calls Try.prog 11 #[.int .u8 a0, .agg #[.int .i64 a1_0, .int .i64 a1_1]] w fun e w' => e = .returned (.bool r) ∧ Below w.heap.size w w' := by
  have hu45 := Try.underlying45
  have hu52 := Try.underlying52
  have HB := Aside0.mk (Below.refl w.heap.size w)
  have H : ((fleuronlaw01_shown.f k).bind fun t165 => ((fleuronlaw01_one_nil.f a1_0 a1_1).bind fun bt167 => (if bt167.1 = 0 then (if bt167.2.toList = ([] : List UInt8) then ((octet_Reader_Failed_nil.f).bind fun t169 => (if t169 = true then ((octet_Reader_At_nil.f).bind fun t170 => (if t170 = 0 then ((octet_Reader_Left_nil.f).bind fun t171 => (if t171 = 0 then ((octet_Reader_Left.f (⟨#[]⟩ : ByteArray) 0 false).bind fun bt172 => (if bt172.1 = 0 then ((octet_Reader_At.f bt172.2.1 bt172.2.2.1 bt172.2.2.2).bind fun bt176 => (if bt176.1 = 0 then ((octet_Reader_Failed.f bt176.2.1 bt176.2.2.1 bt176.2.2.2).bind fun bt180 => (if bt180.1 = true then (fleuronlaw01_OctetNil.j0 k a0 t165 true) else ((octet_Reader_Num.f bt180.2.1 bt180.2.2.1 bt180.2.2.2 1).bind fun bt184 => (if bt184.1 = 0 then ((octet_Reader_Failed.f bt184.2.1 bt184.2.2.1 bt184.2.2.2).bind fun bt188 => (fleuronlaw01_OctetNil.j0 k a0 t165 (!bt188.1))) else (fleuronlaw01_OctetNil.j0 k a0 t165 true))))) else (fleuronlaw01_OctetNil.j0 k a0 t165 true))) else (fleuronlaw01_OctetNil.j0 k a0 t165 true))) else (fleuronlaw01_OctetNil.j0 k a0 t165 true))) else (fleuronlaw01_OctetNil.j0 k a0 t165 true))) else (fleuronlaw01_OctetNil.j0 k a0 t165 true))) else (fleuronlaw01_OctetNil.j0 k a0 t165 true)) else (fleuronlaw01_OctetNil.j0 k a0 t165 true)))) = some r := h
  clear h
  replace H := Option.bind_eq_some_iff.mp H
  obtain ⟨t165, A30, H⟩ := H
  replace H : ((fleuronlaw01_one_nil.f a1_0 a1_1).bind fun bt167 => (if bt167.1 = 0 then (if bt167.2.toList = ([] : List UInt8) then ((octet_Reader_Failed_nil.f).bind fun t169 => (if t169 = true then ((octet_Reader_At_nil.f).bind fun t170 => (if t170 = 0 then ((octet_Reader_Left_nil.f).bind fun t171 => (if t171 = 0 then ((octet_Reader_Left.f (⟨#[]⟩ : ByteArray) 0 false).bind fun bt172 => (if bt172.1 = 0 then ((octet_Reader_At.f bt172.2.1 bt172.2.2.1 bt172.2.2.2).bind fun bt176 => (if bt176.1 = 0 then ((octet_Reader_Failed.f bt176.2.1 bt176.2.2.1 bt176.2.2.2).bind fun bt180 => (if bt180.1 = true then (fleuronlaw01_OctetNil.j0 k a0 t165 true) else ((octet_Reader_Num.f bt180.2.1 bt180.2.2.1 bt180.2.2.2 1).bind fun bt184 => (if bt184.1 = 0 then ((octet_Reader_Failed.f bt184.2.1 bt184.2.2.1 bt184.2.2.2).bind fun bt188 => (fleuronlaw01_OctetNil.j0 k a0 t165 (!bt188.1))) else (fleuronlaw01_OctetNil.j0 k a0 t165 true))))) else (fleuronlaw01_OctetNil.j0 k a0 t165 true))) else (fleuronlaw01_OctetNil.j0 k a0 t165 true))) else (fleuronlaw01_OctetNil.j0 k a0 t165 true))) else (fleuronlaw01_OctetNil.j0 k a0 t165 true))) else (fleuronlaw01_OctetNil.j0 k a0 t165 true))) else (fleuronlaw01_OctetNil.j0 k a0 t165 true)) else (fleuronlaw01_OctetNil.j0 k a0 t165 true))) = some r := H
  have A3 := Aside0.mk A30
  clear A30
  replace H := Option.bind_eq_some_iff.mp H
  obtain ⟨⟨t167, t168⟩, A40, H⟩ := H
  replace H : (if t167 = 0 then (if t168.toList = ([] : List UInt8) then ((octet_Reader_Failed_nil.f).bind fun t169 => (if t169 = true then ((octet_Reader_At_nil.f).bind fun t170 => (if t170 = 0 then ((octet_Reader_Left_nil.f).bind fun t171 => (if t171 = 0 then ((octet_Reader_Left.f (⟨#[]⟩ : ByteArray) 0 false).bind fun bt172 => (if bt172.1 = 0 then ((octet_Reader_At.f bt172.2.1 bt172.2.2.1 bt172.2.2.2).bind fun bt176 => (if bt176.1 = 0 then ((octet_Reader_Failed.f bt176.2.1 bt176.2.2.1 bt176.2.2.2).bind fun bt180 => (if bt180.1 = true then (fleuronlaw01_OctetNil.j0 k a0 t165 true) else ((octet_Reader_Num.f bt180.2.1 bt180.2.2.1 bt180.2.2.2 1).bind fun bt184 => (if bt184.1 = 0 then ((octet_Reader_Failed.f bt184.2.1 bt184.2.2.1 bt184.2.2.2).bind fun bt188 => (fleuronlaw01_OctetNil.j0 k a0 t165 (!bt188.1))) else (fleuronlaw01_OctetNil.j0 k a0 t165 true))))) else (fleuronlaw01_OctetNil.j0 k a0 t165 true))) else (fleuronlaw01_OctetNil.j0 k a0 t165 true))) else (fleuronlaw01_OctetNil.j0 k a0 t165 true))) else (fleuronlaw01_OctetNil.j0 k a0 t165 true))) else (fleuronlaw01_OctetNil.j0 k a0 t165 true))) else (fleuronlaw01_OctetNil.j0 k a0 t165 true)) else (fleuronlaw01_OctetNil.j0 k a0 t165 true)) = some r := H
  have A4 := Aside0.mk A40
  clear A40
  have HC5 := Aside0.mk H
  clear H
  go_enter Try.func11, Try.ntmps11
  go_upto_region 5 with (first | ((with_reducible refine gate_dst (N := 3) rfl ?_); (try (refine gate_guard (by rfl) ?_; dsimp only)); refine box_event ?hg (N := 3) ?hd (cs := #[.int .i64 a1_0, .int .i64 a1_1]) (t := 45) ?hr ?_; (case hd => rfl); (case hg => rfl); (case hr => first | (go_simp; done) | (go_simp; rfl)); intro gb164 hg w6 hbox hb; have n0_ := Aside0.mk (below_step (by repeat (first | (with_reducible first | exact HB.out | apply below_alloc | apply pw_below_drewN | apply below_drew1) | exact HB.out)) hb); have n1_ := Aside0.mk (hbox); have n2_ := Aside0.mk ((by rw [hg]; exact (below_size (by repeat (first | (with_reducible first | exact HB.out | apply below_alloc | apply pw_below_drewN | apply below_drew1) | exact HB.out))) : w.heap.size ≤ gb164)); have n3_ := Aside0.mk ((by rw [hg]; exact (below_size (by repeat (first | (with_reducible first | exact HB.out | apply below_alloc | apply pw_below_drewN | apply below_drew1) | exact HB.out))) : w.heap.size ≤ gb164)); clear HB; have HB := n0_; have BK164 := n1_; have GW164 := n2_; have GE164 := n3_; clear n0_ n1_ n2_ n3_; clear hb hbox hg) | ((with_reducible refine gate_callee (f := 12) rfl ?_); refine goesL_ (some 12) rfl rfl Try.func12 (by kernel_rfl) rfl #[] rfl (by (try simp only [List.map_toArray, List.map_cons, List.map_nil]); first | done | rfl | (simp only [List.length_drop, List.length_take]; rfl) | (simp only [ByteArray.size_extract, Nat.sub_zero]; rfl)) ?_; (with_reducible refine (fleuronlaw01_shown.calls k  t165 _ A3.out).mono ?_); rintro e w7 ⟨rfl, hb⟩; refine ⟨_, rfl, ?_⟩; have n0_ := Aside0.mk (blk_below (g := gb164) (o := .cells #[.int .i64 a1_0, .int .i64 a1_1] 45 (0, 0)) (by (with_reducible repeat (first | refine blk_drewN ?_ _ | refine blk_drew ?_ | refine blk_alloc ?_ _)); exact BK164.out) hb); have n1_ := Aside0.mk (below_step (by repeat (first | (with_reducible first | exact HB.out | apply below_alloc | apply pw_below_drewN | apply below_drew1 | refine below_set ?_ GE164.out) | exact HB.out)) hb); clear BK164; clear HB; have BK164 := n0_; have HB := n1_; clear n0_ n1_; (try clear hb); (try clear hb2); (try clear hk); (try clear hi)) | ((with_reducible refine gate_dst (N := 7) rfl ?_); (try (refine gate_guard (by rfl) ?_; dsimp only)); refine box_event ?hg (N := 7) ?hd (cs := #[.string (⟨#[]⟩ : ByteArray), .int .i64 0, .bool false]) (t := 52) ?hr ?_; (case hd => rfl); (case hg => rfl); (case hr => first | (go_simp; done) | (go_simp; rfl)); intro gb166 hg w8 hbox hb; have n0_ := Aside0.mk (blk_below (g := gb164) (o := .cells #[.int .i64 a1_0, .int .i64 a1_1] 45 (0, 0)) (by (with_reducible repeat (first | refine blk_drewN ?_ _ | refine blk_drew ?_ | refine blk_alloc ?_ _)); exact BK164.out) hb); have n1_ := Aside0.mk (below_step (by repeat (first | (with_reducible first | exact HB.out | apply below_alloc | apply pw_below_drewN | apply below_drew1 | refine below_set ?_ GE164.out) | exact HB.out)) hb); have n2_ := Aside0.mk ((by rw [hg]; exact (below_size (by repeat (first | (with_reducible first | exact HB.out | apply below_alloc | apply pw_below_drewN | apply below_drew1 | refine below_set ?_ GE164.out) | exact HB.out))) : w.heap.size ≤ gb166)); have n3_ := Aside0.mk ((by rw [hg]; exact (below_size (by repeat (first | (with_reducible first | exact HB.out | apply below_alloc | apply pw_below_drewN | apply below_drew1 | refine below_set ?_ GE164.out) | exact HB.out))) : w.heap.size ≤ gb166)); have n4_ := Aside0.mk ((by rw [hg]; exact Nat.ne_of_lt (blk_lt (g := gb164) (o := .cells #[.int .i64 a1_0, .int .i64 a1_1] 45 (0, 0)) (by (with_reducible repeat (first | refine blk_drewN ?_ _ | refine blk_drew ?_ | refine blk_alloc ?_ _)); exact BK164.out)) : gb164 ≠ gb166)); have n5_ := Aside0.mk ((by rw [hg]; exact Nat.ne_of_gt (blk_lt (g := gb164) (o := .cells #[.int .i64 a1_0, .int .i64 a1_1] 45 (0, 0)) (by (with_reducible repeat (first | refine blk_drewN ?_ _ | refine blk_drew ?_ | refine blk_alloc ?_ _)); exact BK164.out)) : gb166 ≠ gb164)); have n6_ := Aside0.mk ((show IsS52 w _ gb166 (⟨#[]⟩ : ByteArray) 0 false from ⟨hbox, (by rw [hg]; exact (below_size (by repeat (first | (with_reducible first | exact HB.out | apply below_alloc | apply pw_below_drewN | apply below_drew1 | refine below_set ?_ GE164.out) | exact HB.out))) : w.heap.size ≤ gb166)⟩)); clear BK164; clear HB; have BK164 := n0_; have HB := n1_; have GW166 := n2_; have GE166 := n3_; have NB164_166 := n4_; have NB166_164 := n5_; have HI166 := n6_; clear n0_ n1_ n2_ n3_ n4_ n5_ n6_; clear hb hbox hg; have hnb9 := NB164_166.out; have hnc9 := NB166_164.out; have hcz10_0 : w8.cell? ⟨gb164, 0, none⟩ = some (.int .i64 a1_0) := (blk_cell BK164.out 0).trans rfl; have hcz10_1 : w8.cell? ⟨gb164, 1, none⟩ = some (.int .i64 a1_1) := (blk_cell BK164.out 1).trans rfl; have hfz10_0 := blk_frozen BK164.out 0; have hfz10_1 := blk_frozen BK164.out 1) | ((with_reducible refine gate_callee (f := 27) rfl ?_); refine goesL_ (some 16) rfl rfl Try.func27 (by kernel_rfl) rfl #[.pointer none, .agg #[.int .i64 a1_0, .int .i64 a1_1]] rfl (by (try simp only [List.map_toArray, List.map_cons, List.map_nil]); first | done | rfl | (simp only [List.length_drop, List.length_take]; rfl) | (simp only [ByteArray.size_extract, Nat.sub_zero]; rfl)) ?_; (with_reducible refine (fleuronlaw01_one_nil.calls  a1_0 a1_1 t167 t168 _ A4.out).mono ?_); rintro e w11 ⟨rfl, hb⟩; refine ⟨_, rfl, ?_⟩; have n0_ := Aside0.mk (blk_below (g := gb164) (o := .cells #[.int .i64 a1_0, .int .i64 a1_1] 45 (0, 0)) (by (with_reducible repeat (first | refine blk_drewN ?_ _ | refine blk_drew ?_ | refine blk_alloc ?_ _)); exact BK164.out) hb); have n1_ := Aside0.mk (IsS52.below (by repeat (first | (with_reducible first | exact HI166.out | apply IsS52.alloc | apply IsS52.drewN | apply IsS52.drew | apply IsS52.set_0 | apply IsS52.set_1 | apply IsS52.set_2 | refine IsS52.far ?_ NB166_164.out _) | exact HI166.out)) hb); have n2_ := Aside0.mk (below_step (by repeat (first | (with_reducible first | exact HB.out | apply below_alloc | apply pw_below_drewN | apply below_drew1 | refine below_set ?_ (IsS52.ge HI166.out) | refine below_set ?_ GE164.out) | exact HB.out)) hb); clear BK164; clear HI166; clear HB; have BK164 := n0_; have HI166 := n1_; have HB := n2_; clear n0_ n1_ n2_; (try clear hb); (try clear hb2); (try clear hk); (try clear hi)))
  (try simp only [Act.put, List.setIfInBounds_toArray, List.set_cons_zero, List.set_cons_succ])
  go_cut [58] (fun v58 wc => ∃ (kq : Nat) (x58_4 : Bool), v58 = .bool x58_4 ∧ Aside0 (fleuronlaw01_OctetNil.j0 kq a0 t165 x58_4 = some r) ∧ Aside0 (kq ≤ k) ∧ Aside0 (wc.heap[gb164]? = some (.cells #[.int .i64 a1_0, .int .i64 a1_1] 45 (0, 0))) ∧ Aside0 (Below w.heap.size w wc))
  case first =>
    have H := HC5.out
    clear HC5
    by_cases c12 : t167 = 0
    · rw [if_pos c12] at H
      have c12b0 : (t167 == 0) = true := beq_iff_eq.mpr c12
      have c12b1 : (t167 != 0) = false := bne_eq_false_iff_eq.mpr c12
      clear c12
      (first | rw [c12b0] | (simp only [i64_w, i32_w]; rw [c12b0]) | skip)
      by_cases c13 : t168.toList = ([] : List UInt8)
      · rw [if_pos c13] at H
        have c13b0 : (t168.toList == ([] : List UInt8)) = true := beq_iff_eq.mpr c13
        have c13b1 : (t168.toList != ([] : List UInt8)) = false := bne_eq_false_iff_eq.mpr c13
        clear c13
        replace H := Option.bind_eq_some_iff.mp H
        obtain ⟨t169, A140, H⟩ := H
        replace H : (if t169 = true then ((octet_Reader_At_nil.f).bind fun t170 => (if t170 = 0 then ((octet_Reader_Left_nil.f).bind fun t171 => (if t171 = 0 then ((octet_Reader_Left.f (⟨#[]⟩ : ByteArray) 0 false).bind fun bt172 => (if bt172.1 = 0 then ((octet_Reader_At.f bt172.2.1 bt172.2.2.1 bt172.2.2.2).bind fun bt176 => (if bt176.1 = 0 then ((octet_Reader_Failed.f bt176.2.1 bt176.2.2.1 bt176.2.2.2).bind fun bt180 => (if bt180.1 = true then (fleuronlaw01_OctetNil.j0 k a0 t165 true) else ((octet_Reader_Num.f bt180.2.1 bt180.2.2.1 bt180.2.2.2 1).bind fun bt184 => (if bt184.1 = 0 then ((octet_Reader_Failed.f bt184.2.1 bt184.2.2.1 bt184.2.2.2).bind fun bt188 => (fleuronlaw01_OctetNil.j0 k a0 t165 (!bt188.1))) else (fleuronlaw01_OctetNil.j0 k a0 t165 true))))) else (fleuronlaw01_OctetNil.j0 k a0 t165 true))) else (fleuronlaw01_OctetNil.j0 k a0 t165 true))) else (fleuronlaw01_OctetNil.j0 k a0 t165 true))) else (fleuronlaw01_OctetNil.j0 k a0 t165 true))) else (fleuronlaw01_OctetNil.j0 k a0 t165 true)) = some r := H
        have A14 := Aside0.mk A140
        clear A140
        by_cases c15 : t169 = true
        · subst c15
          have H1 : ((octet_Reader_At_nil.f).bind fun t170 => (if t170 = 0 then ((octet_Reader_Left_nil.f).bind fun t171 => (if t171 = 0 then ((octet_Reader_Left.f (⟨#[]⟩ : ByteArray) 0 false).bind fun bt172 => (if bt172.1 = 0 then ((octet_Reader_At.f bt172.2.1 bt172.2.2.1 bt172.2.2.2).bind fun bt176 => (if bt176.1 = 0 then ((octet_Reader_Failed.f bt176.2.1 bt176.2.2.1 bt176.2.2.2).bind fun bt180 => (if bt180.1 = true then (fleuronlaw01_OctetNil.j0 k a0 t165 true) else ((octet_Reader_Num.f bt180.2.1 bt180.2.2.1 bt180.2.2.2 1).bind fun bt184 => (if bt184.1 = 0 then ((octet_Reader_Failed.f bt184.2.1 bt184.2.2.1 bt184.2.2.2).bind fun bt188 => (fleuronlaw01_OctetNil.j0 k a0 t165 (!bt188.1))) else (fleuronlaw01_OctetNil.j0 k a0 t165 true))))) else (fleuronlaw01_OctetNil.j0 k a0 t165 true))) else (fleuronlaw01_OctetNil.j0 k a0 t165 true))) else (fleuronlaw01_OctetNil.j0 k a0 t165 true))) else (fleuronlaw01_OctetNil.j0 k a0 t165 true))) = some r := by rw [if_pos rfl] at H; exact H
          clear H
          have H := H1
          clear H1
          replace H := Option.bind_eq_some_iff.mp H
          obtain ⟨t170, A160, H⟩ := H
          replace H : (if t170 = 0 then ((octet_Reader_Left_nil.f).bind fun t171 => (if t171 = 0 then ((octet_Reader_Left.f (⟨#[]⟩ : ByteArray) 0 false).bind fun bt172 => (if bt172.1 = 0 then ((octet_Reader_At.f bt172.2.1 bt172.2.2.1 bt172.2.2.2).bind fun bt176 => (if bt176.1 = 0 then ((octet_Reader_Failed.f bt176.2.1 bt176.2.2.1 bt176.2.2.2).bind fun bt180 => (if bt180.1 = true then (fleuronlaw01_OctetNil.j0 k a0 t165 true) else ((octet_Reader_Num.f bt180.2.1 bt180.2.2.1 bt180.2.2.2 1).bind fun bt184 => (if bt184.1 = 0 then ((octet_Reader_Failed.f bt184.2.1 bt184.2.2.1 bt184.2.2.2).bind fun bt188 => (fleuronlaw01_OctetNil.j0 k a0 t165 (!bt188.1))) else (fleuronlaw01_OctetNil.j0 k a0 t165 true))))) else (fleuronlaw01_OctetNil.j0 k a0 t165 true))) else (fleuronlaw01_OctetNil.j0 k a0 t165 true))) else (fleuronlaw01_OctetNil.j0 k a0 t165 true))) else (fleuronlaw01_OctetNil.j0 k a0 t165 true)) = some r := H
          have A16 := Aside0.mk A160
          clear A160
          by_cases c17 : t170 = 0
          · rw [if_pos c17] at H
            have c17b0 : (t170 == 0) = true := beq_iff_eq.mpr c17
            have c17b1 : (t170 != 0) = false := bne_eq_false_iff_eq.mpr c17
            clear c17
            replace H := Option.bind_eq_some_iff.mp H
            obtain ⟨t171, A180, H⟩ := H
            replace H : (if t171 = 0 then ((octet_Reader_Left.f (⟨#[]⟩ : ByteArray) 0 false).bind fun bt172 => (if bt172.1 = 0 then ((octet_Reader_At.f bt172.2.1 bt172.2.2.1 bt172.2.2.2).bind fun bt176 => (if bt176.1 = 0 then ((octet_Reader_Failed.f bt176.2.1 bt176.2.2.1 bt176.2.2.2).bind fun bt180 => (if bt180.1 = true then (fleuronlaw01_OctetNil.j0 k a0 t165 true) else ((octet_Reader_Num.f bt180.2.1 bt180.2.2.1 bt180.2.2.2 1).bind fun bt184 => (if bt184.1 = 0 then ((octet_Reader_Failed.f bt184.2.1 bt184.2.2.1 bt184.2.2.2).bind fun bt188 => (fleuronlaw01_OctetNil.j0 k a0 t165 (!bt188.1))) else (fleuronlaw01_OctetNil.j0 k a0 t165 true))))) else (fleuronlaw01_OctetNil.j0 k a0 t165 true))) else (fleuronlaw01_OctetNil.j0 k a0 t165 true))) else (fleuronlaw01_OctetNil.j0 k a0 t165 true)) = some r := H
            have A18 := Aside0.mk A180
            clear A180
            by_cases c19 : t171 = 0
            · rw [if_pos c19] at H
              have c19b0 : (t171 == 0) = true := beq_iff_eq.mpr c19
              have c19b1 : (t171 != 0) = false := bne_eq_false_iff_eq.mpr c19
              clear c19
              replace H := Option.bind_eq_some_iff.mp H
              obtain ⟨⟨t172, t173, t174, t175⟩, A200, H⟩ := H
              replace H : (if t172 = 0 then ((octet_Reader_At.f t173 t174 t175).bind fun bt176 => (if bt176.1 = 0 then ((octet_Reader_Failed.f bt176.2.1 bt176.2.2.1 bt176.2.2.2).bind fun bt180 => (if bt180.1 = true then (fleuronlaw01_OctetNil.j0 k a0 t165 true) else ((octet_Reader_Num.f bt180.2.1 bt180.2.2.1 bt180.2.2.2 1).bind fun bt184 => (if bt184.1 = 0 then ((octet_Reader_Failed.f bt184.2.1 bt184.2.2.1 bt184.2.2.2).bind fun bt188 => (fleuronlaw01_OctetNil.j0 k a0 t165 (!bt188.1))) else (fleuronlaw01_OctetNil.j0 k a0 t165 true))))) else (fleuronlaw01_OctetNil.j0 k a0 t165 true))) else (fleuronlaw01_OctetNil.j0 k a0 t165 true)) = some r := H
              have A20 := Aside0.mk A200
              clear A200
              by_cases c21 : t172 = 0
              · rw [if_pos c21] at H
                have c21b0 : (t172 == 0) = true := beq_iff_eq.mpr c21
                have c21b1 : (t172 != 0) = false := bne_eq_false_iff_eq.mpr c21
                clear c21
                replace H := Option.bind_eq_some_iff.mp H
                obtain ⟨⟨t176, t177, t178, t179⟩, A220, H⟩ := H
                obtain ⟨rfl, rfl, rfl⟩ := octet_Reader_At.still A220
                replace H : (if t176 = 0 then ((octet_Reader_Failed.f t173 t174 t175).bind fun bt180 => (if bt180.1 = true then (fleuronlaw01_OctetNil.j0 k a0 t165 true) else ((octet_Reader_Num.f bt180.2.1 bt180.2.2.1 bt180.2.2.2 1).bind fun bt184 => (if bt184.1 = 0 then ((octet_Reader_Failed.f bt184.2.1 bt184.2.2.1 bt184.2.2.2).bind fun bt188 => (fleuronlaw01_OctetNil.j0 k a0 t165 (!bt188.1))) else (fleuronlaw01_OctetNil.j0 k a0 t165 true))))) else (fleuronlaw01_OctetNil.j0 k a0 t165 true)) = some r := H
                have A22 := Aside0.mk A220
                clear A220
                by_cases c23 : t176 = 0
                · rw [if_pos c23] at H
                  have c23b0 : (t176 == 0) = true := beq_iff_eq.mpr c23
                  have c23b1 : (t176 != 0) = false := bne_eq_false_iff_eq.mpr c23
                  clear c23
                  replace H := Option.bind_eq_some_iff.mp H
                  obtain ⟨⟨t180, t181, t182, t183⟩, A240, H⟩ := H
                  obtain ⟨rfl, rfl, rfl⟩ := octet_Reader_Failed.still A240
                  replace H : (if t180 = true then (fleuronlaw01_OctetNil.j0 k a0 t165 true) else ((octet_Reader_Num.f t173 t174 t175 1).bind fun bt184 => (if bt184.1 = 0 then ((octet_Reader_Failed.f bt184.2.1 bt184.2.2.1 bt184.2.2.2).bind fun bt188 => (fleuronlaw01_OctetNil.j0 k a0 t165 (!bt188.1))) else (fleuronlaw01_OctetNil.j0 k a0 t165 true)))) = some r := H
                  have A24 := Aside0.mk A240
                  clear A240
                  by_cases c25 : t180 = true
                  · subst c25
                    have H1 : (fleuronlaw01_OctetNil.j0 k a0 t165 true) = some r := by rw [if_pos rfl] at H; exact H
                    clear H
                    have H := H1
                    clear H1
                    have H' := Aside0.mk H
                    clear H
                    go_wp2_with (first | (go_at_call 16; (with_reducible refine (octet_Reader_Failed_nil.calls  true _ A14.out).mono ?_); rintro e w26 ⟨rfl, hb⟩; have n0_ := Aside0.mk (blk_below (g := gb164) (o := .cells #[.int .i64 a1_0, .int .i64 a1_1] 45 (0, 0)) (by (with_reducible repeat (first | refine blk_drewN ?_ _ | refine blk_drew ?_ | refine blk_alloc ?_ _)); exact BK164.out) hb); have n1_ := Aside0.mk (IsS52.below (by repeat (first | (with_reducible first | exact HI166.out | apply IsS52.alloc | apply IsS52.drewN | apply IsS52.drew | apply IsS52.set_0 | apply IsS52.set_1 | apply IsS52.set_2 | refine IsS52.far ?_ NB166_164.out _) | exact HI166.out)) hb); have n2_ := Aside0.mk (below_step (by repeat (first | (with_reducible first | exact HB.out | apply below_alloc | apply pw_below_drewN | apply below_drew1 | refine below_set ?_ (IsS52.ge HI166.out) | refine below_set ?_ GE164.out) | exact HB.out)) hb); clear BK164; clear HI166; clear HB; have BK164 := n0_; have HI166 := n1_; have HB := n2_; clear n0_ n1_ n2_; (try clear hb); (try clear hb2); (try clear hk); (try clear hi)) | (go_at_call 25; (with_reducible refine (octet_Reader_At_nil.calls  t170 _ A16.out).mono ?_); rintro e w27 ⟨rfl, hb⟩; have n0_ := Aside0.mk (blk_below (g := gb164) (o := .cells #[.int .i64 a1_0, .int .i64 a1_1] 45 (0, 0)) (by (with_reducible repeat (first | refine blk_drewN ?_ _ | refine blk_drew ?_ | refine blk_alloc ?_ _)); exact BK164.out) hb); have n1_ := Aside0.mk (IsS52.below (by repeat (first | (with_reducible first | exact HI166.out | apply IsS52.alloc | apply IsS52.drewN | apply IsS52.drew | apply IsS52.set_0 | apply IsS52.set_1 | apply IsS52.set_2 | refine IsS52.far ?_ NB166_164.out _) | exact HI166.out)) hb); have n2_ := Aside0.mk (below_step (by repeat (first | (with_reducible first | exact HB.out | apply below_alloc | apply pw_below_drewN | apply below_drew1 | refine below_set ?_ (IsS52.ge HI166.out) | refine below_set ?_ GE164.out) | exact HB.out)) hb); clear BK164; clear HI166; clear HB; have BK164 := n0_; have HI166 := n1_; have HB := n2_; clear n0_ n1_ n2_; (try clear hb); (try clear hb2); (try clear hk); (try clear hi)) | (go_at_call 26; (with_reducible refine (octet_Reader_Left_nil.calls  t171 _ A18.out).mono ?_); rintro e w28 ⟨rfl, hb⟩; have n0_ := Aside0.mk (blk_below (g := gb164) (o := .cells #[.int .i64 a1_0, .int .i64 a1_1] 45 (0, 0)) (by (with_reducible repeat (first | refine blk_drewN ?_ _ | refine blk_drew ?_ | refine blk_alloc ?_ _)); exact BK164.out) hb); have n1_ := Aside0.mk (IsS52.below (by repeat (first | (with_reducible first | exact HI166.out | apply IsS52.alloc | apply IsS52.drewN | apply IsS52.drew | apply IsS52.set_0 | apply IsS52.set_1 | apply IsS52.set_2 | refine IsS52.far ?_ NB166_164.out _) | exact HI166.out)) hb); have n2_ := Aside0.mk (below_step (by repeat (first | (with_reducible first | exact HB.out | apply below_alloc | apply pw_below_drewN | apply below_drew1 | refine below_set ?_ (IsS52.ge HI166.out) | refine below_set ?_ GE164.out) | exact HB.out)) hb); clear BK164; clear HI166; clear HB; have BK164 := n0_; have HI166 := n1_; have HB := n2_; clear n0_ n1_ n2_; (try clear hb); (try clear hb2); (try clear hk); (try clear hi)) | (go_at_call 26; (with_reducible refine (octet_Reader_Left.calls gb166 (⟨#[]⟩ : ByteArray) 0 false t172 t173 t174 t175 w _ ?side1 ?side2 A20.out).mono ?_); (case side1 => repeat (first | (with_reducible first | exact HI166.out | apply IsS52.alloc | apply IsS52.drewN | apply IsS52.drew | apply IsS52.set_0 | apply IsS52.set_1 | apply IsS52.set_2 | refine IsS52.far ?_ NB166_164.out _) | exact HI166.out)); (case side2 => repeat (first | (with_reducible first | exact HB.out | apply below_alloc | apply pw_below_drewN | apply below_drew1 | refine below_set ?_ (IsS52.ge HI166.out) | refine below_set ?_ GE164.out) | exact HB.out)); rintro e w29 ⟨rfl, hi, hb, hk⟩; have n0_ := Aside0.mk (KeepBut.blk hk (g' := gb164) (o := .cells #[.int .i64 a1_0, .int .i64 a1_1] 45 (0, 0)) (by (with_reducible repeat (first | refine blk_drewN ?_ _ | refine blk_drew ?_ | refine blk_alloc ?_ _)); exact BK164.out) NB164_166.out (by simp)); have n1_ := Aside0.mk (hb); have n2_ := Aside0.mk (hi); clear BK164; clear HB; clear HI166; have BK164 := n0_; have HB := n1_; have HI166 := n2_; clear n0_ n1_ n2_; (try clear hb); (try clear hb2); (try clear hk); (try clear hi)) | (go_at_call 25; (with_reducible refine (octet_Reader_At.calls gb166 t173 t174 t175 t176 t173 t174 t175 w _ ?side1 ?side2 A22.out).mono ?_); (case side1 => repeat (first | (with_reducible first | exact HI166.out | apply IsS52.alloc | apply IsS52.drewN | apply IsS52.drew | apply IsS52.set_0 | apply IsS52.set_1 | apply IsS52.set_2 | refine IsS52.far ?_ NB166_164.out _) | exact HI166.out)); (case side2 => repeat (first | (with_reducible first | exact HB.out | apply below_alloc | apply pw_below_drewN | apply below_drew1 | refine below_set ?_ (IsS52.ge HI166.out) | refine below_set ?_ GE164.out) | exact HB.out)); rintro e w30 ⟨rfl, hi, hb, hk⟩; have n0_ := Aside0.mk (KeepBut.blk hk (g' := gb164) (o := .cells #[.int .i64 a1_0, .int .i64 a1_1] 45 (0, 0)) (by (with_reducible repeat (first | refine blk_drewN ?_ _ | refine blk_drew ?_ | refine blk_alloc ?_ _)); exact BK164.out) NB164_166.out (by simp)); have n1_ := Aside0.mk (hb); have n2_ := Aside0.mk (hi); clear BK164; clear HB; clear HI166; have BK164 := n0_; have HB := n1_; have HI166 := n2_; clear n0_ n1_ n2_; (try clear hb); (try clear hb2); (try clear hk); (try clear hi)) | (go_at_call 16; (with_reducible refine (octet_Reader_Failed.calls gb166 t173 t174 t175 true t173 t174 t175 w _ ?side1 ?side2 A24.out).mono ?_); (case side1 => repeat (first | (with_reducible first | exact HI166.out | apply IsS52.alloc | apply IsS52.drewN | apply IsS52.drew | apply IsS52.set_0 | apply IsS52.set_1 | apply IsS52.set_2 | refine IsS52.far ?_ NB166_164.out _) | exact HI166.out)); (case side2 => repeat (first | (with_reducible first | exact HB.out | apply below_alloc | apply pw_below_drewN | apply below_drew1 | refine below_set ?_ (IsS52.ge HI166.out) | refine below_set ?_ GE164.out) | exact HB.out)); rintro e w31 ⟨rfl, hi, hb, hk⟩; have n0_ := Aside0.mk (KeepBut.blk hk (g' := gb164) (o := .cells #[.int .i64 a1_0, .int .i64 a1_1] 45 (0, 0)) (by (with_reducible repeat (first | refine blk_drewN ?_ _ | refine blk_drew ?_ | refine blk_alloc ?_ _)); exact BK164.out) NB164_166.out (by simp)); have n1_ := Aside0.mk (hb); have n2_ := Aside0.mk (hi); clear BK164; clear HB; clear HI166; have BK164 := n0_; have HB := n1_; have HI166 := n2_; clear n0_ n1_ n2_; (try clear hb); (try clear hb2); (try clear hk); (try clear hi)))
                    go_meet
                    case rel => exact ⟨_, (true), (by first | rfl | (simp; done) | (simp [*]; done)), H', ⟨by first | omega | exact Nat.le_refl _⟩, ⟨by (with_reducible repeat (first | refine blk_drewN ?_ _ | refine blk_drew ?_ | refine blk_alloc ?_ _)); exact BK164.out⟩, ⟨by repeat (first | (with_reducible first | exact HB.out | apply below_alloc | apply pw_below_drewN | apply below_drew1 | refine below_set ?_ (IsS52.ge HI166.out) | refine below_set ?_ GE164.out) | exact HB.out)⟩⟩
                  · replace c25 := Bool.eq_false_iff.mpr c25
                    subst c25
                    have H1 : ((octet_Reader_Num.f t173 t174 t175 1).bind fun bt184 => (if bt184.1 = 0 then ((octet_Reader_Failed.f bt184.2.1 bt184.2.2.1 bt184.2.2.2).bind fun bt188 => (fleuronlaw01_OctetNil.j0 k a0 t165 (!bt188.1))) else (fleuronlaw01_OctetNil.j0 k a0 t165 true))) = some r := by rw [if_neg (show ¬ (false = true) by decide)] at H; exact H
                    clear H
                    have H := H1
                    clear H1
                    replace H := Option.bind_eq_some_iff.mp H
                    obtain ⟨⟨t184, t185, t186, t187⟩, A320, H⟩ := H
                    replace H : (if t184 = 0 then ((octet_Reader_Failed.f t185 t186 t187).bind fun bt188 => (fleuronlaw01_OctetNil.j0 k a0 t165 (!bt188.1))) else (fleuronlaw01_OctetNil.j0 k a0 t165 true)) = some r := H
                    have A32 := Aside0.mk A320
                    clear A320
                    by_cases c33 : t184 = 0
                    · rw [if_pos c33] at H
                      have c33b0 : (t184 == 0) = true := beq_iff_eq.mpr c33
                      have c33b1 : (t184 != 0) = false := bne_eq_false_iff_eq.mpr c33
                      clear c33
                      replace H := Option.bind_eq_some_iff.mp H
                      obtain ⟨⟨t188, t189, t190, t191⟩, A340, H⟩ := H
                      obtain ⟨rfl, rfl, rfl⟩ := octet_Reader_Failed.still A340
                      replace H : (fleuronlaw01_OctetNil.j0 k a0 t165 (!t188)) = some r := H
                      have A34 := Aside0.mk A340
                      clear A340
                      have H' := Aside0.mk H
                      clear H
                      go_wp2_with (first | (go_at_call 16; (with_reducible refine (octet_Reader_Failed_nil.calls  true _ A14.out).mono ?_); rintro e w35 ⟨rfl, hb⟩; have n0_ := Aside0.mk (blk_below (g := gb164) (o := .cells #[.int .i64 a1_0, .int .i64 a1_1] 45 (0, 0)) (by (with_reducible repeat (first | refine blk_drewN ?_ _ | refine blk_drew ?_ | refine blk_alloc ?_ _)); exact BK164.out) hb); have n1_ := Aside0.mk (IsS52.below (by repeat (first | (with_reducible first | exact HI166.out | apply IsS52.alloc | apply IsS52.drewN | apply IsS52.drew | apply IsS52.set_0 | apply IsS52.set_1 | apply IsS52.set_2 | refine IsS52.far ?_ NB166_164.out _) | exact HI166.out)) hb); have n2_ := Aside0.mk (below_step (by repeat (first | (with_reducible first | exact HB.out | apply below_alloc | apply pw_below_drewN | apply below_drew1 | refine below_set ?_ (IsS52.ge HI166.out) | refine below_set ?_ GE164.out) | exact HB.out)) hb); clear BK164; clear HI166; clear HB; have BK164 := n0_; have HI166 := n1_; have HB := n2_; clear n0_ n1_ n2_; (try clear hb); (try clear hb2); (try clear hk); (try clear hi)) | (go_at_call 25; (with_reducible refine (octet_Reader_At_nil.calls  t170 _ A16.out).mono ?_); rintro e w36 ⟨rfl, hb⟩; have n0_ := Aside0.mk (blk_below (g := gb164) (o := .cells #[.int .i64 a1_0, .int .i64 a1_1] 45 (0, 0)) (by (with_reducible repeat (first | refine blk_drewN ?_ _ | refine blk_drew ?_ | refine blk_alloc ?_ _)); exact BK164.out) hb); have n1_ := Aside0.mk (IsS52.below (by repeat (first | (with_reducible first | exact HI166.out | apply IsS52.alloc | apply IsS52.drewN | apply IsS52.drew | apply IsS52.set_0 | apply IsS52.set_1 | apply IsS52.set_2 | refine IsS52.far ?_ NB166_164.out _) | exact HI166.out)) hb); have n2_ := Aside0.mk (below_step (by repeat (first | (with_reducible first | exact HB.out | apply below_alloc | apply pw_below_drewN | apply below_drew1 | refine below_set ?_ (IsS52.ge HI166.out) | refine below_set ?_ GE164.out) | exact HB.out)) hb); clear BK164; clear HI166; clear HB; have BK164 := n0_; have HI166 := n1_; have HB := n2_; clear n0_ n1_ n2_; (try clear hb); (try clear hb2); (try clear hk); (try clear hi)) | (go_at_call 26; (with_reducible refine (octet_Reader_Left_nil.calls  t171 _ A18.out).mono ?_); rintro e w37 ⟨rfl, hb⟩; have n0_ := Aside0.mk (blk_below (g := gb164) (o := .cells #[.int .i64 a1_0, .int .i64 a1_1] 45 (0, 0)) (by (with_reducible repeat (first | refine blk_drewN ?_ _ | refine blk_drew ?_ | refine blk_alloc ?_ _)); exact BK164.out) hb); have n1_ := Aside0.mk (IsS52.below (by repeat (first | (with_reducible first | exact HI166.out | apply IsS52.alloc | apply IsS52.drewN | apply IsS52.drew | apply IsS52.set_0 | apply IsS52.set_1 | apply IsS52.set_2 | refine IsS52.far ?_ NB166_164.out _) | exact HI166.out)) hb); have n2_ := Aside0.mk (below_step (by repeat (first | (with_reducible first | exact HB.out | apply below_alloc | apply pw_below_drewN | apply below_drew1 | refine below_set ?_ (IsS52.ge HI166.out) | refine below_set ?_ GE164.out) | exact HB.out)) hb); clear BK164; clear HI166; clear HB; have BK164 := n0_; have HI166 := n1_; have HB := n2_; clear n0_ n1_ n2_; (try clear hb); (try clear hb2); (try clear hk); (try clear hi)) | (go_at_call 26; (with_reducible refine (octet_Reader_Left.calls gb166 (⟨#[]⟩ : ByteArray) 0 false t172 t173 t174 t175 w _ ?side1 ?side2 A20.out).mono ?_); (case side1 => repeat (first | (with_reducible first | exact HI166.out | apply IsS52.alloc | apply IsS52.drewN | apply IsS52.drew | apply IsS52.set_0 | apply IsS52.set_1 | apply IsS52.set_2 | refine IsS52.far ?_ NB166_164.out _) | exact HI166.out)); (case side2 => repeat (first | (with_reducible first | exact HB.out | apply below_alloc | apply pw_below_drewN | apply below_drew1 | refine below_set ?_ (IsS52.ge HI166.out) | refine below_set ?_ GE164.out) | exact HB.out)); rintro e w38 ⟨rfl, hi, hb, hk⟩; have n0_ := Aside0.mk (KeepBut.blk hk (g' := gb164) (o := .cells #[.int .i64 a1_0, .int .i64 a1_1] 45 (0, 0)) (by (with_reducible repeat (first | refine blk_drewN ?_ _ | refine blk_drew ?_ | refine blk_alloc ?_ _)); exact BK164.out) NB164_166.out (by simp)); have n1_ := Aside0.mk (hb); have n2_ := Aside0.mk (hi); clear BK164; clear HB; clear HI166; have BK164 := n0_; have HB := n1_; have HI166 := n2_; clear n0_ n1_ n2_; (try clear hb); (try clear hb2); (try clear hk); (try clear hi)) | (go_at_call 25; (with_reducible refine (octet_Reader_At.calls gb166 t173 t174 t175 t176 t173 t174 t175 w _ ?side1 ?side2 A22.out).mono ?_); (case side1 => repeat (first | (with_reducible first | exact HI166.out | apply IsS52.alloc | apply IsS52.drewN | apply IsS52.drew | apply IsS52.set_0 | apply IsS52.set_1 | apply IsS52.set_2 | refine IsS52.far ?_ NB166_164.out _) | exact HI166.out)); (case side2 => repeat (first | (with_reducible first | exact HB.out | apply below_alloc | apply pw_below_drewN | apply below_drew1 | refine below_set ?_ (IsS52.ge HI166.out) | refine below_set ?_ GE164.out) | exact HB.out)); rintro e w39 ⟨rfl, hi, hb, hk⟩; have n0_ := Aside0.mk (KeepBut.blk hk (g' := gb164) (o := .cells #[.int .i64 a1_0, .int .i64 a1_1] 45 (0, 0)) (by (with_reducible repeat (first | refine blk_drewN ?_ _ | refine blk_drew ?_ | refine blk_alloc ?_ _)); exact BK164.out) NB164_166.out (by simp)); have n1_ := Aside0.mk (hb); have n2_ := Aside0.mk (hi); clear BK164; clear HB; clear HI166; have BK164 := n0_; have HB := n1_; have HI166 := n2_; clear n0_ n1_ n2_; (try clear hb); (try clear hb2); (try clear hk); (try clear hi)) | (go_at_call 16; (with_reducible refine (octet_Reader_Failed.calls gb166 t173 t174 t175 false t173 t174 t175 w _ ?side1 ?side2 A24.out).mono ?_); (case side1 => repeat (first | (with_reducible first | exact HI166.out | apply IsS52.alloc | apply IsS52.drewN | apply IsS52.drew | apply IsS52.set_0 | apply IsS52.set_1 | apply IsS52.set_2 | refine IsS52.far ?_ NB166_164.out _) | exact HI166.out)); (case side2 => repeat (first | (with_reducible first | exact HB.out | apply below_alloc | apply pw_below_drewN | apply below_drew1 | refine below_set ?_ (IsS52.ge HI166.out) | refine below_set ?_ GE164.out) | exact HB.out)); rintro e w40 ⟨rfl, hi, hb, hk⟩; have n0_ := Aside0.mk (KeepBut.blk hk (g' := gb164) (o := .cells #[.int .i64 a1_0, .int .i64 a1_1] 45 (0, 0)) (by (with_reducible repeat (first | refine blk_drewN ?_ _ | refine blk_drew ?_ | refine blk_alloc ?_ _)); exact BK164.out) NB164_166.out (by simp)); have n1_ := Aside0.mk (hb); have n2_ := Aside0.mk (hi); clear BK164; clear HB; clear HI166; have BK164 := n0_; have HB := n1_; have HI166 := n2_; clear n0_ n1_ n2_; (try clear hb); (try clear hb2); (try clear hk); (try clear hi)) | (go_at_call 14; (with_reducible refine (octet_Reader_Num.calls gb166 t173 t174 t175 1 t184 t185 t186 t187 w _ ?side1 ?side2 A32.out).mono ?_); (case side1 => repeat (first | (with_reducible first | exact HI166.out | apply IsS52.alloc | apply IsS52.drewN | apply IsS52.drew | apply IsS52.set_0 | apply IsS52.set_1 | apply IsS52.set_2 | refine IsS52.far ?_ NB166_164.out _) | exact HI166.out)); (case side2 => repeat (first | (with_reducible first | exact HB.out | apply below_alloc | apply pw_below_drewN | apply below_drew1 | refine below_set ?_ (IsS52.ge HI166.out) | refine below_set ?_ GE164.out) | exact HB.out)); rintro e w41 ⟨rfl, hi, hb, hk⟩; have n0_ := Aside0.mk (KeepBut.blk hk (g' := gb164) (o := .cells #[.int .i64 a1_0, .int .i64 a1_1] 45 (0, 0)) (by (with_reducible repeat (first | refine blk_drewN ?_ _ | refine blk_drew ?_ | refine blk_alloc ?_ _)); exact BK164.out) NB164_166.out (by simp)); have n1_ := Aside0.mk (hb); have n2_ := Aside0.mk (hi); clear BK164; clear HB; clear HI166; have BK164 := n0_; have HB := n1_; have HI166 := n2_; clear n0_ n1_ n2_; (try clear hb); (try clear hb2); (try clear hk); (try clear hi)) | (go_at_call 16; (with_reducible refine (octet_Reader_Failed.calls gb166 t185 t186 t187 t188 t185 t186 t187 w _ ?side1 ?side2 A34.out).mono ?_); (case side1 => repeat (first | (with_reducible first | exact HI166.out | apply IsS52.alloc | apply IsS52.drewN | apply IsS52.drew | apply IsS52.set_0 | apply IsS52.set_1 | apply IsS52.set_2 | refine IsS52.far ?_ NB166_164.out _) | exact HI166.out)); (case side2 => repeat (first | (with_reducible first | exact HB.out | apply below_alloc | apply pw_below_drewN | apply below_drew1 | refine below_set ?_ (IsS52.ge HI166.out) | refine below_set ?_ GE164.out) | exact HB.out)); rintro e w42 ⟨rfl, hi, hb, hk⟩; have n0_ := Aside0.mk (KeepBut.blk hk (g' := gb164) (o := .cells #[.int .i64 a1_0, .int .i64 a1_1] 45 (0, 0)) (by (with_reducible repeat (first | refine blk_drewN ?_ _ | refine blk_drew ?_ | refine blk_alloc ?_ _)); exact BK164.out) NB164_166.out (by simp)); have n1_ := Aside0.mk (hb); have n2_ := Aside0.mk (hi); clear BK164; clear HB; clear HI166; have BK164 := n0_; have HB := n1_; have HI166 := n2_; clear n0_ n1_ n2_; (try clear hb); (try clear hb2); (try clear hk); (try clear hi)))
                      go_meet
                      case rel => exact ⟨_, (!t188), (by first | rfl | (simp; done) | (simp [*]; done)), H', ⟨by first | omega | exact Nat.le_refl _⟩, ⟨by (with_reducible repeat (first | refine blk_drewN ?_ _ | refine blk_drew ?_ | refine blk_alloc ?_ _)); exact BK164.out⟩, ⟨by repeat (first | (with_reducible first | exact HB.out | apply below_alloc | apply pw_below_drewN | apply below_drew1 | refine below_set ?_ (IsS52.ge HI166.out) | refine below_set ?_ GE164.out) | exact HB.out)⟩⟩
                    · rw [if_neg c33] at H
                      have c33b0 : (t184 == 0) = false := beq_eq_false_iff_ne.mpr c33
                      have c33b1 : (t184 != 0) = true := bne_iff_ne.mpr c33
                      have H' := Aside0.mk H
                      clear H
                      go_wp2_with (first | (go_at_call 16; (with_reducible refine (octet_Reader_Failed_nil.calls  true _ A14.out).mono ?_); rintro e w43 ⟨rfl, hb⟩; have n0_ := Aside0.mk (blk_below (g := gb164) (o := .cells #[.int .i64 a1_0, .int .i64 a1_1] 45 (0, 0)) (by (with_reducible repeat (first | refine blk_drewN ?_ _ | refine blk_drew ?_ | refine blk_alloc ?_ _)); exact BK164.out) hb); have n1_ := Aside0.mk (IsS52.below (by repeat (first | (with_reducible first | exact HI166.out | apply IsS52.alloc | apply IsS52.drewN | apply IsS52.drew | apply IsS52.set_0 | apply IsS52.set_1 | apply IsS52.set_2 | refine IsS52.far ?_ NB166_164.out _) | exact HI166.out)) hb); have n2_ := Aside0.mk (below_step (by repeat (first | (with_reducible first | exact HB.out | apply below_alloc | apply pw_below_drewN | apply below_drew1 | refine below_set ?_ (IsS52.ge HI166.out) | refine below_set ?_ GE164.out) | exact HB.out)) hb); clear BK164; clear HI166; clear HB; have BK164 := n0_; have HI166 := n1_; have HB := n2_; clear n0_ n1_ n2_; (try clear hb); (try clear hb2); (try clear hk); (try clear hi)) | (go_at_call 25; (with_reducible refine (octet_Reader_At_nil.calls  t170 _ A16.out).mono ?_); rintro e w44 ⟨rfl, hb⟩; have n0_ := Aside0.mk (blk_below (g := gb164) (o := .cells #[.int .i64 a1_0, .int .i64 a1_1] 45 (0, 0)) (by (with_reducible repeat (first | refine blk_drewN ?_ _ | refine blk_drew ?_ | refine blk_alloc ?_ _)); exact BK164.out) hb); have n1_ := Aside0.mk (IsS52.below (by repeat (first | (with_reducible first | exact HI166.out | apply IsS52.alloc | apply IsS52.drewN | apply IsS52.drew | apply IsS52.set_0 | apply IsS52.set_1 | apply IsS52.set_2 | refine IsS52.far ?_ NB166_164.out _) | exact HI166.out)) hb); have n2_ := Aside0.mk (below_step (by repeat (first | (with_reducible first | exact HB.out | apply below_alloc | apply pw_below_drewN | apply below_drew1 | refine below_set ?_ (IsS52.ge HI166.out) | refine below_set ?_ GE164.out) | exact HB.out)) hb); clear BK164; clear HI166; clear HB; have BK164 := n0_; have HI166 := n1_; have HB := n2_; clear n0_ n1_ n2_; (try clear hb); (try clear hb2); (try clear hk); (try clear hi)) | (go_at_call 26; (with_reducible refine (octet_Reader_Left_nil.calls  t171 _ A18.out).mono ?_); rintro e w45 ⟨rfl, hb⟩; have n0_ := Aside0.mk (blk_below (g := gb164) (o := .cells #[.int .i64 a1_0, .int .i64 a1_1] 45 (0, 0)) (by (with_reducible repeat (first | refine blk_drewN ?_ _ | refine blk_drew ?_ | refine blk_alloc ?_ _)); exact BK164.out) hb); have n1_ := Aside0.mk (IsS52.below (by repeat (first | (with_reducible first | exact HI166.out | apply IsS52.alloc | apply IsS52.drewN | apply IsS52.drew | apply IsS52.set_0 | apply IsS52.set_1 | apply IsS52.set_2 | refine IsS52.far ?_ NB166_164.out _) | exact HI166.out)) hb); have n2_ := Aside0.mk (below_step (by repeat (first | (with_reducible first | exact HB.out | apply below_alloc | apply pw_below_drewN | apply below_drew1 | refine below_set ?_ (IsS52.ge HI166.out) | refine below_set ?_ GE164.out) | exact HB.out)) hb); clear BK164; clear HI166; clear HB; have BK164 := n0_; have HI166 := n1_; have HB := n2_; clear n0_ n1_ n2_; (try clear hb); (try clear hb2); (try clear hk); (try clear hi)) | (go_at_call 26; (with_reducible refine (octet_Reader_Left.calls gb166 (⟨#[]⟩ : ByteArray) 0 false t172 t173 t174 t175 w _ ?side1 ?side2 A20.out).mono ?_); (case side1 => repeat (first | (with_reducible first | exact HI166.out | apply IsS52.alloc | apply IsS52.drewN | apply IsS52.drew | apply IsS52.set_0 | apply IsS52.set_1 | apply IsS52.set_2 | refine IsS52.far ?_ NB166_164.out _) | exact HI166.out)); (case side2 => repeat (first | (with_reducible first | exact HB.out | apply below_alloc | apply pw_below_drewN | apply below_drew1 | refine below_set ?_ (IsS52.ge HI166.out) | refine below_set ?_ GE164.out) | exact HB.out)); rintro e w46 ⟨rfl, hi, hb, hk⟩; have n0_ := Aside0.mk (KeepBut.blk hk (g' := gb164) (o := .cells #[.int .i64 a1_0, .int .i64 a1_1] 45 (0, 0)) (by (with_reducible repeat (first | refine blk_drewN ?_ _ | refine blk_drew ?_ | refine blk_alloc ?_ _)); exact BK164.out) NB164_166.out (by simp)); have n1_ := Aside0.mk (hb); have n2_ := Aside0.mk (hi); clear BK164; clear HB; clear HI166; have BK164 := n0_; have HB := n1_; have HI166 := n2_; clear n0_ n1_ n2_; (try clear hb); (try clear hb2); (try clear hk); (try clear hi)) | (go_at_call 25; (with_reducible refine (octet_Reader_At.calls gb166 t173 t174 t175 t176 t173 t174 t175 w _ ?side1 ?side2 A22.out).mono ?_); (case side1 => repeat (first | (with_reducible first | exact HI166.out | apply IsS52.alloc | apply IsS52.drewN | apply IsS52.drew | apply IsS52.set_0 | apply IsS52.set_1 | apply IsS52.set_2 | refine IsS52.far ?_ NB166_164.out _) | exact HI166.out)); (case side2 => repeat (first | (with_reducible first | exact HB.out | apply below_alloc | apply pw_below_drewN | apply below_drew1 | refine below_set ?_ (IsS52.ge HI166.out) | refine below_set ?_ GE164.out) | exact HB.out)); rintro e w47 ⟨rfl, hi, hb, hk⟩; have n0_ := Aside0.mk (KeepBut.blk hk (g' := gb164) (o := .cells #[.int .i64 a1_0, .int .i64 a1_1] 45 (0, 0)) (by (with_reducible repeat (first | refine blk_drewN ?_ _ | refine blk_drew ?_ | refine blk_alloc ?_ _)); exact BK164.out) NB164_166.out (by simp)); have n1_ := Aside0.mk (hb); have n2_ := Aside0.mk (hi); clear BK164; clear HB; clear HI166; have BK164 := n0_; have HB := n1_; have HI166 := n2_; clear n0_ n1_ n2_; (try clear hb); (try clear hb2); (try clear hk); (try clear hi)) | (go_at_call 16; (with_reducible refine (octet_Reader_Failed.calls gb166 t173 t174 t175 false t173 t174 t175 w _ ?side1 ?side2 A24.out).mono ?_); (case side1 => repeat (first | (with_reducible first | exact HI166.out | apply IsS52.alloc | apply IsS52.drewN | apply IsS52.drew | apply IsS52.set_0 | apply IsS52.set_1 | apply IsS52.set_2 | refine IsS52.far ?_ NB166_164.out _) | exact HI166.out)); (case side2 => repeat (first | (with_reducible first | exact HB.out | apply below_alloc | apply pw_below_drewN | apply below_drew1 | refine below_set ?_ (IsS52.ge HI166.out) | refine below_set ?_ GE164.out) | exact HB.out)); rintro e w48 ⟨rfl, hi, hb, hk⟩; have n0_ := Aside0.mk (KeepBut.blk hk (g' := gb164) (o := .cells #[.int .i64 a1_0, .int .i64 a1_1] 45 (0, 0)) (by (with_reducible repeat (first | refine blk_drewN ?_ _ | refine blk_drew ?_ | refine blk_alloc ?_ _)); exact BK164.out) NB164_166.out (by simp)); have n1_ := Aside0.mk (hb); have n2_ := Aside0.mk (hi); clear BK164; clear HB; clear HI166; have BK164 := n0_; have HB := n1_; have HI166 := n2_; clear n0_ n1_ n2_; (try clear hb); (try clear hb2); (try clear hk); (try clear hi)) | (go_at_call 14; (with_reducible refine (octet_Reader_Num.calls gb166 t173 t174 t175 1 t184 t185 t186 t187 w _ ?side1 ?side2 A32.out).mono ?_); (case side1 => repeat (first | (with_reducible first | exact HI166.out | apply IsS52.alloc | apply IsS52.drewN | apply IsS52.drew | apply IsS52.set_0 | apply IsS52.set_1 | apply IsS52.set_2 | refine IsS52.far ?_ NB166_164.out _) | exact HI166.out)); (case side2 => repeat (first | (with_reducible first | exact HB.out | apply below_alloc | apply pw_below_drewN | apply below_drew1 | refine below_set ?_ (IsS52.ge HI166.out) | refine below_set ?_ GE164.out) | exact HB.out)); rintro e w49 ⟨rfl, hi, hb, hk⟩; have n0_ := Aside0.mk (KeepBut.blk hk (g' := gb164) (o := .cells #[.int .i64 a1_0, .int .i64 a1_1] 45 (0, 0)) (by (with_reducible repeat (first | refine blk_drewN ?_ _ | refine blk_drew ?_ | refine blk_alloc ?_ _)); exact BK164.out) NB164_166.out (by simp)); have n1_ := Aside0.mk (hb); have n2_ := Aside0.mk (hi); clear BK164; clear HB; clear HI166; have BK164 := n0_; have HB := n1_; have HI166 := n2_; clear n0_ n1_ n2_; (try clear hb); (try clear hb2); (try clear hk); (try clear hi)))
                      go_meet
                      case rel => exact ⟨_, (true), (by first | rfl | (simp; done) | (simp [*]; done)), H', ⟨by first | omega | exact Nat.le_refl _⟩, ⟨by (with_reducible repeat (first | refine blk_drewN ?_ _ | refine blk_drew ?_ | refine blk_alloc ?_ _)); exact BK164.out⟩, ⟨by repeat (first | (with_reducible first | exact HB.out | apply below_alloc | apply pw_below_drewN | apply below_drew1 | refine below_set ?_ (IsS52.ge HI166.out) | refine below_set ?_ GE164.out) | exact HB.out)⟩⟩
                · rw [if_neg c23] at H
                  have c23b0 : (t176 == 0) = false := beq_eq_false_iff_ne.mpr c23
                  have c23b1 : (t176 != 0) = true := bne_iff_ne.mpr c23
                  have H' := Aside0.mk H
                  clear H
                  go_wp2_with (first | (go_at_call 16; (with_reducible refine (octet_Reader_Failed_nil.calls  true _ A14.out).mono ?_); rintro e w50 ⟨rfl, hb⟩; have n0_ := Aside0.mk (blk_below (g := gb164) (o := .cells #[.int .i64 a1_0, .int .i64 a1_1] 45 (0, 0)) (by (with_reducible repeat (first | refine blk_drewN ?_ _ | refine blk_drew ?_ | refine blk_alloc ?_ _)); exact BK164.out) hb); have n1_ := Aside0.mk (IsS52.below (by repeat (first | (with_reducible first | exact HI166.out | apply IsS52.alloc | apply IsS52.drewN | apply IsS52.drew | apply IsS52.set_0 | apply IsS52.set_1 | apply IsS52.set_2 | refine IsS52.far ?_ NB166_164.out _) | exact HI166.out)) hb); have n2_ := Aside0.mk (below_step (by repeat (first | (with_reducible first | exact HB.out | apply below_alloc | apply pw_below_drewN | apply below_drew1 | refine below_set ?_ (IsS52.ge HI166.out) | refine below_set ?_ GE164.out) | exact HB.out)) hb); clear BK164; clear HI166; clear HB; have BK164 := n0_; have HI166 := n1_; have HB := n2_; clear n0_ n1_ n2_; (try clear hb); (try clear hb2); (try clear hk); (try clear hi)) | (go_at_call 25; (with_reducible refine (octet_Reader_At_nil.calls  t170 _ A16.out).mono ?_); rintro e w51 ⟨rfl, hb⟩; have n0_ := Aside0.mk (blk_below (g := gb164) (o := .cells #[.int .i64 a1_0, .int .i64 a1_1] 45 (0, 0)) (by (with_reducible repeat (first | refine blk_drewN ?_ _ | refine blk_drew ?_ | refine blk_alloc ?_ _)); exact BK164.out) hb); have n1_ := Aside0.mk (IsS52.below (by repeat (first | (with_reducible first | exact HI166.out | apply IsS52.alloc | apply IsS52.drewN | apply IsS52.drew | apply IsS52.set_0 | apply IsS52.set_1 | apply IsS52.set_2 | refine IsS52.far ?_ NB166_164.out _) | exact HI166.out)) hb); have n2_ := Aside0.mk (below_step (by repeat (first | (with_reducible first | exact HB.out | apply below_alloc | apply pw_below_drewN | apply below_drew1 | refine below_set ?_ (IsS52.ge HI166.out) | refine below_set ?_ GE164.out) | exact HB.out)) hb); clear BK164; clear HI166; clear HB; have BK164 := n0_; have HI166 := n1_; have HB := n2_; clear n0_ n1_ n2_; (try clear hb); (try clear hb2); (try clear hk); (try clear hi)) | (go_at_call 26; (with_reducible refine (octet_Reader_Left_nil.calls  t171 _ A18.out).mono ?_); rintro e w52 ⟨rfl, hb⟩; have n0_ := Aside0.mk (blk_below (g := gb164) (o := .cells #[.int .i64 a1_0, .int .i64 a1_1] 45 (0, 0)) (by (with_reducible repeat (first | refine blk_drewN ?_ _ | refine blk_drew ?_ | refine blk_alloc ?_ _)); exact BK164.out) hb); have n1_ := Aside0.mk (IsS52.below (by repeat (first | (with_reducible first | exact HI166.out | apply IsS52.alloc | apply IsS52.drewN | apply IsS52.drew | apply IsS52.set_0 | apply IsS52.set_1 | apply IsS52.set_2 | refine IsS52.far ?_ NB166_164.out _) | exact HI166.out)) hb); have n2_ := Aside0.mk (below_step (by repeat (first | (with_reducible first | exact HB.out | apply below_alloc | apply pw_below_drewN | apply below_drew1 | refine below_set ?_ (IsS52.ge HI166.out) | refine below_set ?_ GE164.out) | exact HB.out)) hb); clear BK164; clear HI166; clear HB; have BK164 := n0_; have HI166 := n1_; have HB := n2_; clear n0_ n1_ n2_; (try clear hb); (try clear hb2); (try clear hk); (try clear hi)) | (go_at_call 26; (with_reducible refine (octet_Reader_Left.calls gb166 (⟨#[]⟩ : ByteArray) 0 false t172 t173 t174 t175 w _ ?side1 ?side2 A20.out).mono ?_); (case side1 => repeat (first | (with_reducible first | exact HI166.out | apply IsS52.alloc | apply IsS52.drewN | apply IsS52.drew | apply IsS52.set_0 | apply IsS52.set_1 | apply IsS52.set_2 | refine IsS52.far ?_ NB166_164.out _) | exact HI166.out)); (case side2 => repeat (first | (with_reducible first | exact HB.out | apply below_alloc | apply pw_below_drewN | apply below_drew1 | refine below_set ?_ (IsS52.ge HI166.out) | refine below_set ?_ GE164.out) | exact HB.out)); rintro e w53 ⟨rfl, hi, hb, hk⟩; have n0_ := Aside0.mk (KeepBut.blk hk (g' := gb164) (o := .cells #[.int .i64 a1_0, .int .i64 a1_1] 45 (0, 0)) (by (with_reducible repeat (first | refine blk_drewN ?_ _ | refine blk_drew ?_ | refine blk_alloc ?_ _)); exact BK164.out) NB164_166.out (by simp)); have n1_ := Aside0.mk (hb); have n2_ := Aside0.mk (hi); clear BK164; clear HB; clear HI166; have BK164 := n0_; have HB := n1_; have HI166 := n2_; clear n0_ n1_ n2_; (try clear hb); (try clear hb2); (try clear hk); (try clear hi)) | (go_at_call 25; (with_reducible refine (octet_Reader_At.calls gb166 t173 t174 t175 t176 t173 t174 t175 w _ ?side1 ?side2 A22.out).mono ?_); (case side1 => repeat (first | (with_reducible first | exact HI166.out | apply IsS52.alloc | apply IsS52.drewN | apply IsS52.drew | apply IsS52.set_0 | apply IsS52.set_1 | apply IsS52.set_2 | refine IsS52.far ?_ NB166_164.out _) | exact HI166.out)); (case side2 => repeat (first | (with_reducible first | exact HB.out | apply below_alloc | apply pw_below_drewN | apply below_drew1 | refine below_set ?_ (IsS52.ge HI166.out) | refine below_set ?_ GE164.out) | exact HB.out)); rintro e w54 ⟨rfl, hi, hb, hk⟩; have n0_ := Aside0.mk (KeepBut.blk hk (g' := gb164) (o := .cells #[.int .i64 a1_0, .int .i64 a1_1] 45 (0, 0)) (by (with_reducible repeat (first | refine blk_drewN ?_ _ | refine blk_drew ?_ | refine blk_alloc ?_ _)); exact BK164.out) NB164_166.out (by simp)); have n1_ := Aside0.mk (hb); have n2_ := Aside0.mk (hi); clear BK164; clear HB; clear HI166; have BK164 := n0_; have HB := n1_; have HI166 := n2_; clear n0_ n1_ n2_; (try clear hb); (try clear hb2); (try clear hk); (try clear hi)))
                  go_meet
                  case rel => exact ⟨_, (true), (by first | rfl | (simp; done) | (simp [*]; done)), H', ⟨by first | omega | exact Nat.le_refl _⟩, ⟨by (with_reducible repeat (first | refine blk_drewN ?_ _ | refine blk_drew ?_ | refine blk_alloc ?_ _)); exact BK164.out⟩, ⟨by repeat (first | (with_reducible first | exact HB.out | apply below_alloc | apply pw_below_drewN | apply below_drew1 | refine below_set ?_ (IsS52.ge HI166.out) | refine below_set ?_ GE164.out) | exact HB.out)⟩⟩
              · rw [if_neg c21] at H
                have c21b0 : (t172 == 0) = false := beq_eq_false_iff_ne.mpr c21
                have c21b1 : (t172 != 0) = true := bne_iff_ne.mpr c21
                have H' := Aside0.mk H
                clear H
                go_wp2_with (first | (go_at_call 16; (with_reducible refine (octet_Reader_Failed_nil.calls  true _ A14.out).mono ?_); rintro e w55 ⟨rfl, hb⟩; have n0_ := Aside0.mk (blk_below (g := gb164) (o := .cells #[.int .i64 a1_0, .int .i64 a1_1] 45 (0, 0)) (by (with_reducible repeat (first | refine blk_drewN ?_ _ | refine blk_drew ?_ | refine blk_alloc ?_ _)); exact BK164.out) hb); have n1_ := Aside0.mk (IsS52.below (by repeat (first | (with_reducible first | exact HI166.out | apply IsS52.alloc | apply IsS52.drewN | apply IsS52.drew | apply IsS52.set_0 | apply IsS52.set_1 | apply IsS52.set_2 | refine IsS52.far ?_ NB166_164.out _) | exact HI166.out)) hb); have n2_ := Aside0.mk (below_step (by repeat (first | (with_reducible first | exact HB.out | apply below_alloc | apply pw_below_drewN | apply below_drew1 | refine below_set ?_ (IsS52.ge HI166.out) | refine below_set ?_ GE164.out) | exact HB.out)) hb); clear BK164; clear HI166; clear HB; have BK164 := n0_; have HI166 := n1_; have HB := n2_; clear n0_ n1_ n2_; (try clear hb); (try clear hb2); (try clear hk); (try clear hi)) | (go_at_call 25; (with_reducible refine (octet_Reader_At_nil.calls  t170 _ A16.out).mono ?_); rintro e w56 ⟨rfl, hb⟩; have n0_ := Aside0.mk (blk_below (g := gb164) (o := .cells #[.int .i64 a1_0, .int .i64 a1_1] 45 (0, 0)) (by (with_reducible repeat (first | refine blk_drewN ?_ _ | refine blk_drew ?_ | refine blk_alloc ?_ _)); exact BK164.out) hb); have n1_ := Aside0.mk (IsS52.below (by repeat (first | (with_reducible first | exact HI166.out | apply IsS52.alloc | apply IsS52.drewN | apply IsS52.drew | apply IsS52.set_0 | apply IsS52.set_1 | apply IsS52.set_2 | refine IsS52.far ?_ NB166_164.out _) | exact HI166.out)) hb); have n2_ := Aside0.mk (below_step (by repeat (first | (with_reducible first | exact HB.out | apply below_alloc | apply pw_below_drewN | apply below_drew1 | refine below_set ?_ (IsS52.ge HI166.out) | refine below_set ?_ GE164.out) | exact HB.out)) hb); clear BK164; clear HI166; clear HB; have BK164 := n0_; have HI166 := n1_; have HB := n2_; clear n0_ n1_ n2_; (try clear hb); (try clear hb2); (try clear hk); (try clear hi)) | (go_at_call 26; (with_reducible refine (octet_Reader_Left_nil.calls  t171 _ A18.out).mono ?_); rintro e w57 ⟨rfl, hb⟩; have n0_ := Aside0.mk (blk_below (g := gb164) (o := .cells #[.int .i64 a1_0, .int .i64 a1_1] 45 (0, 0)) (by (with_reducible repeat (first | refine blk_drewN ?_ _ | refine blk_drew ?_ | refine blk_alloc ?_ _)); exact BK164.out) hb); have n1_ := Aside0.mk (IsS52.below (by repeat (first | (with_reducible first | exact HI166.out | apply IsS52.alloc | apply IsS52.drewN | apply IsS52.drew | apply IsS52.set_0 | apply IsS52.set_1 | apply IsS52.set_2 | refine IsS52.far ?_ NB166_164.out _) | exact HI166.out)) hb); have n2_ := Aside0.mk (below_step (by repeat (first | (with_reducible first | exact HB.out | apply below_alloc | apply pw_below_drewN | apply below_drew1 | refine below_set ?_ (IsS52.ge HI166.out) | refine below_set ?_ GE164.out) | exact HB.out)) hb); clear BK164; clear HI166; clear HB; have BK164 := n0_; have HI166 := n1_; have HB := n2_; clear n0_ n1_ n2_; (try clear hb); (try clear hb2); (try clear hk); (try clear hi)) | (go_at_call 26; (with_reducible refine (octet_Reader_Left.calls gb166 (⟨#[]⟩ : ByteArray) 0 false t172 t173 t174 t175 w _ ?side1 ?side2 A20.out).mono ?_); (case side1 => repeat (first | (with_reducible first | exact HI166.out | apply IsS52.alloc | apply IsS52.drewN | apply IsS52.drew | apply IsS52.set_0 | apply IsS52.set_1 | apply IsS52.set_2 | refine IsS52.far ?_ NB166_164.out _) | exact HI166.out)); (case side2 => repeat (first | (with_reducible first | exact HB.out | apply below_alloc | apply pw_below_drewN | apply below_drew1 | refine below_set ?_ (IsS52.ge HI166.out) | refine below_set ?_ GE164.out) | exact HB.out)); rintro e w58 ⟨rfl, hi, hb, hk⟩; have n0_ := Aside0.mk (KeepBut.blk hk (g' := gb164) (o := .cells #[.int .i64 a1_0, .int .i64 a1_1] 45 (0, 0)) (by (with_reducible repeat (first | refine blk_drewN ?_ _ | refine blk_drew ?_ | refine blk_alloc ?_ _)); exact BK164.out) NB164_166.out (by simp)); have n1_ := Aside0.mk (hb); have n2_ := Aside0.mk (hi); clear BK164; clear HB; clear HI166; have BK164 := n0_; have HB := n1_; have HI166 := n2_; clear n0_ n1_ n2_; (try clear hb); (try clear hb2); (try clear hk); (try clear hi)))
                go_meet
                case rel => exact ⟨_, (true), (by first | rfl | (simp; done) | (simp [*]; done)), H', ⟨by first | omega | exact Nat.le_refl _⟩, ⟨by (with_reducible repeat (first | refine blk_drewN ?_ _ | refine blk_drew ?_ | refine blk_alloc ?_ _)); exact BK164.out⟩, ⟨by repeat (first | (with_reducible first | exact HB.out | apply below_alloc | apply pw_below_drewN | apply below_drew1 | refine below_set ?_ (IsS52.ge HI166.out) | refine below_set ?_ GE164.out) | exact HB.out)⟩⟩
            · rw [if_neg c19] at H
              have c19b0 : (t171 == 0) = false := beq_eq_false_iff_ne.mpr c19
              have c19b1 : (t171 != 0) = true := bne_iff_ne.mpr c19
              have H' := Aside0.mk H
              clear H
              go_wp2_with (first | (go_at_call 16; (with_reducible refine (octet_Reader_Failed_nil.calls  true _ A14.out).mono ?_); rintro e w59 ⟨rfl, hb⟩; have n0_ := Aside0.mk (blk_below (g := gb164) (o := .cells #[.int .i64 a1_0, .int .i64 a1_1] 45 (0, 0)) (by (with_reducible repeat (first | refine blk_drewN ?_ _ | refine blk_drew ?_ | refine blk_alloc ?_ _)); exact BK164.out) hb); have n1_ := Aside0.mk (IsS52.below (by repeat (first | (with_reducible first | exact HI166.out | apply IsS52.alloc | apply IsS52.drewN | apply IsS52.drew | apply IsS52.set_0 | apply IsS52.set_1 | apply IsS52.set_2 | refine IsS52.far ?_ NB166_164.out _) | exact HI166.out)) hb); have n2_ := Aside0.mk (below_step (by repeat (first | (with_reducible first | exact HB.out | apply below_alloc | apply pw_below_drewN | apply below_drew1 | refine below_set ?_ (IsS52.ge HI166.out) | refine below_set ?_ GE164.out) | exact HB.out)) hb); clear BK164; clear HI166; clear HB; have BK164 := n0_; have HI166 := n1_; have HB := n2_; clear n0_ n1_ n2_; (try clear hb); (try clear hb2); (try clear hk); (try clear hi)) | (go_at_call 25; (with_reducible refine (octet_Reader_At_nil.calls  t170 _ A16.out).mono ?_); rintro e w60 ⟨rfl, hb⟩; have n0_ := Aside0.mk (blk_below (g := gb164) (o := .cells #[.int .i64 a1_0, .int .i64 a1_1] 45 (0, 0)) (by (with_reducible repeat (first | refine blk_drewN ?_ _ | refine blk_drew ?_ | refine blk_alloc ?_ _)); exact BK164.out) hb); have n1_ := Aside0.mk (IsS52.below (by repeat (first | (with_reducible first | exact HI166.out | apply IsS52.alloc | apply IsS52.drewN | apply IsS52.drew | apply IsS52.set_0 | apply IsS52.set_1 | apply IsS52.set_2 | refine IsS52.far ?_ NB166_164.out _) | exact HI166.out)) hb); have n2_ := Aside0.mk (below_step (by repeat (first | (with_reducible first | exact HB.out | apply below_alloc | apply pw_below_drewN | apply below_drew1 | refine below_set ?_ (IsS52.ge HI166.out) | refine below_set ?_ GE164.out) | exact HB.out)) hb); clear BK164; clear HI166; clear HB; have BK164 := n0_; have HI166 := n1_; have HB := n2_; clear n0_ n1_ n2_; (try clear hb); (try clear hb2); (try clear hk); (try clear hi)) | (go_at_call 26; (with_reducible refine (octet_Reader_Left_nil.calls  t171 _ A18.out).mono ?_); rintro e w61 ⟨rfl, hb⟩; have n0_ := Aside0.mk (blk_below (g := gb164) (o := .cells #[.int .i64 a1_0, .int .i64 a1_1] 45 (0, 0)) (by (with_reducible repeat (first | refine blk_drewN ?_ _ | refine blk_drew ?_ | refine blk_alloc ?_ _)); exact BK164.out) hb); have n1_ := Aside0.mk (IsS52.below (by repeat (first | (with_reducible first | exact HI166.out | apply IsS52.alloc | apply IsS52.drewN | apply IsS52.drew | apply IsS52.set_0 | apply IsS52.set_1 | apply IsS52.set_2 | refine IsS52.far ?_ NB166_164.out _) | exact HI166.out)) hb); have n2_ := Aside0.mk (below_step (by repeat (first | (with_reducible first | exact HB.out | apply below_alloc | apply pw_below_drewN | apply below_drew1 | refine below_set ?_ (IsS52.ge HI166.out) | refine below_set ?_ GE164.out) | exact HB.out)) hb); clear BK164; clear HI166; clear HB; have BK164 := n0_; have HI166 := n1_; have HB := n2_; clear n0_ n1_ n2_; (try clear hb); (try clear hb2); (try clear hk); (try clear hi)))
              go_meet
              case rel => exact ⟨_, (true), (by first | rfl | (simp; done) | (simp [*]; done)), H', ⟨by first | omega | exact Nat.le_refl _⟩, ⟨by (with_reducible repeat (first | refine blk_drewN ?_ _ | refine blk_drew ?_ | refine blk_alloc ?_ _)); exact BK164.out⟩, ⟨by repeat (first | (with_reducible first | exact HB.out | apply below_alloc | apply pw_below_drewN | apply below_drew1 | refine below_set ?_ (IsS52.ge HI166.out) | refine below_set ?_ GE164.out) | exact HB.out)⟩⟩
          · rw [if_neg c17] at H
            have c17b0 : (t170 == 0) = false := beq_eq_false_iff_ne.mpr c17
            have c17b1 : (t170 != 0) = true := bne_iff_ne.mpr c17
            have H' := Aside0.mk H
            clear H
            go_wp2_with (first | (go_at_call 16; (with_reducible refine (octet_Reader_Failed_nil.calls  true _ A14.out).mono ?_); rintro e w62 ⟨rfl, hb⟩; have n0_ := Aside0.mk (blk_below (g := gb164) (o := .cells #[.int .i64 a1_0, .int .i64 a1_1] 45 (0, 0)) (by (with_reducible repeat (first | refine blk_drewN ?_ _ | refine blk_drew ?_ | refine blk_alloc ?_ _)); exact BK164.out) hb); have n1_ := Aside0.mk (IsS52.below (by repeat (first | (with_reducible first | exact HI166.out | apply IsS52.alloc | apply IsS52.drewN | apply IsS52.drew | apply IsS52.set_0 | apply IsS52.set_1 | apply IsS52.set_2 | refine IsS52.far ?_ NB166_164.out _) | exact HI166.out)) hb); have n2_ := Aside0.mk (below_step (by repeat (first | (with_reducible first | exact HB.out | apply below_alloc | apply pw_below_drewN | apply below_drew1 | refine below_set ?_ (IsS52.ge HI166.out) | refine below_set ?_ GE164.out) | exact HB.out)) hb); clear BK164; clear HI166; clear HB; have BK164 := n0_; have HI166 := n1_; have HB := n2_; clear n0_ n1_ n2_; (try clear hb); (try clear hb2); (try clear hk); (try clear hi)) | (go_at_call 25; (with_reducible refine (octet_Reader_At_nil.calls  t170 _ A16.out).mono ?_); rintro e w63 ⟨rfl, hb⟩; have n0_ := Aside0.mk (blk_below (g := gb164) (o := .cells #[.int .i64 a1_0, .int .i64 a1_1] 45 (0, 0)) (by (with_reducible repeat (first | refine blk_drewN ?_ _ | refine blk_drew ?_ | refine blk_alloc ?_ _)); exact BK164.out) hb); have n1_ := Aside0.mk (IsS52.below (by repeat (first | (with_reducible first | exact HI166.out | apply IsS52.alloc | apply IsS52.drewN | apply IsS52.drew | apply IsS52.set_0 | apply IsS52.set_1 | apply IsS52.set_2 | refine IsS52.far ?_ NB166_164.out _) | exact HI166.out)) hb); have n2_ := Aside0.mk (below_step (by repeat (first | (with_reducible first | exact HB.out | apply below_alloc | apply pw_below_drewN | apply below_drew1 | refine below_set ?_ (IsS52.ge HI166.out) | refine below_set ?_ GE164.out) | exact HB.out)) hb); clear BK164; clear HI166; clear HB; have BK164 := n0_; have HI166 := n1_; have HB := n2_; clear n0_ n1_ n2_; (try clear hb); (try clear hb2); (try clear hk); (try clear hi)))
            go_meet
            case rel => exact ⟨_, (true), (by first | rfl | (simp; done) | (simp [*]; done)), H', ⟨by first | omega | exact Nat.le_refl _⟩, ⟨by (with_reducible repeat (first | refine blk_drewN ?_ _ | refine blk_drew ?_ | refine blk_alloc ?_ _)); exact BK164.out⟩, ⟨by repeat (first | (with_reducible first | exact HB.out | apply below_alloc | apply pw_below_drewN | apply below_drew1 | refine below_set ?_ (IsS52.ge HI166.out) | refine below_set ?_ GE164.out) | exact HB.out)⟩⟩
        · replace c15 := Bool.eq_false_iff.mpr c15
          subst c15
          have H1 : (fleuronlaw01_OctetNil.j0 k a0 t165 true) = some r := by rw [if_neg (show ¬ (false = true) by decide)] at H; exact H
          clear H
          have H := H1
          clear H1
          have H' := Aside0.mk H
          clear H
          go_wp2_with (first | (go_at_call 16; (with_reducible refine (octet_Reader_Failed_nil.calls  false _ A14.out).mono ?_); rintro e w64 ⟨rfl, hb⟩; have n0_ := Aside0.mk (blk_below (g := gb164) (o := .cells #[.int .i64 a1_0, .int .i64 a1_1] 45 (0, 0)) (by (with_reducible repeat (first | refine blk_drewN ?_ _ | refine blk_drew ?_ | refine blk_alloc ?_ _)); exact BK164.out) hb); have n1_ := Aside0.mk (IsS52.below (by repeat (first | (with_reducible first | exact HI166.out | apply IsS52.alloc | apply IsS52.drewN | apply IsS52.drew | apply IsS52.set_0 | apply IsS52.set_1 | apply IsS52.set_2 | refine IsS52.far ?_ NB166_164.out _) | exact HI166.out)) hb); have n2_ := Aside0.mk (below_step (by repeat (first | (with_reducible first | exact HB.out | apply below_alloc | apply pw_below_drewN | apply below_drew1 | refine below_set ?_ (IsS52.ge HI166.out) | refine below_set ?_ GE164.out) | exact HB.out)) hb); clear BK164; clear HI166; clear HB; have BK164 := n0_; have HI166 := n1_; have HB := n2_; clear n0_ n1_ n2_; (try clear hb); (try clear hb2); (try clear hk); (try clear hi)))
          go_meet
          case rel => exact ⟨_, (true), (by first | rfl | (simp; done) | (simp [*]; done)), H', ⟨by first | omega | exact Nat.le_refl _⟩, ⟨by (with_reducible repeat (first | refine blk_drewN ?_ _ | refine blk_drew ?_ | refine blk_alloc ?_ _)); exact BK164.out⟩, ⟨by repeat (first | (with_reducible first | exact HB.out | apply below_alloc | apply pw_below_drewN | apply below_drew1 | refine below_set ?_ (IsS52.ge HI166.out) | refine below_set ?_ GE164.out) | exact HB.out)⟩⟩
      · rw [if_neg c13] at H
        have c13b0 : (t168.toList == ([] : List UInt8)) = false := beq_eq_false_iff_ne.mpr c13
        have c13b1 : (t168.toList != ([] : List UInt8)) = true := bne_iff_ne.mpr c13
        have H' := Aside0.mk H
        clear H
        go_wp2
        go_meet
        case rel => exact ⟨_, (true), (by first | rfl | (simp; done) | (simp [*]; done)), H', ⟨by first | omega | exact Nat.le_refl _⟩, ⟨by (with_reducible repeat (first | refine blk_drewN ?_ _ | refine blk_drew ?_ | refine blk_alloc ?_ _)); exact BK164.out⟩, ⟨by repeat (first | (with_reducible first | exact HB.out | apply below_alloc | apply pw_below_drewN | apply below_drew1 | refine below_set ?_ (IsS52.ge HI166.out) | refine below_set ?_ GE164.out) | exact HB.out)⟩⟩
    · rw [if_neg c12] at H
      have c12b0 : (t167 == 0) = false := beq_eq_false_iff_ne.mpr c12
      have c12b1 : (t167 != 0) = true := bne_iff_ne.mpr c12
      (first | rw [c12b0] | (simp only [i64_w, i32_w]; rw [c12b0]) | skip)
      have H' := Aside0.mk H
      clear H
      go_wp2
      go_meet
      case rel => exact ⟨_, (true), (by first | rfl | (simp; done) | (simp [*]; done)), H', ⟨by first | omega | exact Nat.le_refl _⟩, ⟨by (with_reducible repeat (first | refine blk_drewN ?_ _ | refine blk_drew ?_ | refine blk_alloc ?_ _)); exact BK164.out⟩, ⟨by repeat (first | (with_reducible first | exact HB.out | apply below_alloc | apply pw_below_drewN | apply below_drew1 | refine below_set ?_ (IsS52.ge HI166.out) | refine below_set ?_ GE164.out) | exact HB.out)⟩⟩
  case rest =>
    clear HC5
    try clear c1
    try clear c2
    try clear p2
    try clear c3
    try clear c9
    try clear c11
    try clear c12
    try clear c12b0
    try clear c12b1
    try clear c13
    try clear c13b0
    try clear c13b1
    try clear c15
    try clear c17
    try clear c17b0
    try clear c17b1
    try clear c19
    try clear c19b0
    try clear c19b1
    try clear c21
    try clear c21b0
    try clear c21b1
    try clear c23
    try clear c23b0
    try clear c23b1
    try clear c25
    try clear c27
    try clear c33
    try clear c33b0
    try clear c33b1
    try clear hcz10_0
    try clear hcz10_1
    try clear hfz10_0
    try clear hfz10_1
    obtain ⟨kq, x58_4, rfl, HA, HJ4, BK164, HB⟩ := hcut
    cases kq with
    | zero => exact absurd HA.out (by simp [fleuronlaw01_OctetNil.j0])
    | succ kj4 =>
      have H := HA.out
      clear HA
      simp only [fleuronlaw01_OctetNil.j0] at H
      by_cases c65 : x58_4 = true
      · subst c65
        have H1 : (some false) = some r := by rw [if_pos rfl] at H; exact H
        clear H
        have H := H1
        clear H1
        obtain rfl := Option.some.inj H
        go_wp2
        go_ret
        exact ⟨by first | rfl | (simp [errW_none, errW_some] <;> rfl) | (simp [*, errW_none, errW_some] <;> rfl), by repeat (first | (with_reducible first | exact HB.out | apply below_alloc | apply pw_below_drewN | apply below_drew1 | refine below_set ?_ GE164.out) | exact HB.out)⟩
      · replace c65 := Bool.eq_false_iff.mpr c65
        subst c65
        have H1 : (if 0 ≤ (wrap64 (65528 + (wrap64 (Int.tmod a0 15)))) then (if (wrap64 (65528 + (wrap64 (Int.tmod a0 15))) : Int).toNat ≤ 281474976710656 then ((octet_Text.f kj4 (strOfNums (List.replicate (wrap64 (65528 + (wrap64 (Int.tmod a0 15))) : Int).toNat 0))).bind fun t195 => (if (wrap64 (65528 + (wrap64 (Int.tmod a0 15)))) > 65535 then (if t165 = true then (some (t195.toList == ([] : List UInt8))) else (some false)) else (if t165 = true then (if (t195.size : Int) = (wrap64 ((wrap64 (65528 + (wrap64 (Int.tmod a0 15)))) + 2)) then (if 0 ≤ 2 then (if 2 ≤ (t195.size : Int) then ((octet_Put.f kj4 (wrap64 (65528 + (wrap64 (Int.tmod a0 15)))) 2).bind fun t196 => (some ((t195.extract 0 2).toList == t196.toList))) else (none)) else (none)) else (some false)) else (some false)))) else (none)) else (none)) = some r := by rw [if_neg (show ¬ (false = true) by decide)] at H; exact H
        clear H
        have H := H1
        clear H1
        obtain ⟨ji66, hji66⟩ : ∃ j_ : Int, (wrap64 (65528 + (wrap64 (Int.tmod a0 15)))) = j_ := ⟨_, rfl⟩
        replace H : (if 0 ≤ (ji66) then (if (ji66 : Int).toNat ≤ 281474976710656 then ((octet_Text.f kj4 (strOfNums (List.replicate (ji66 : Int).toNat 0))).bind fun t195 => (if (ji66) > 65535 then (if t165 = true then (some (t195.toList == ([] : List UInt8))) else (some false)) else (if t165 = true then (if (t195.size : Int) = (wrap64 ((ji66) + 2)) then (if 0 ≤ 2 then (if 2 ≤ (t195.size : Int) then ((octet_Put.f kj4 (ji66) 2).bind fun t196 => (some ((t195.extract 0 2).toList == t196.toList))) else (none)) else (none)) else (some false)) else (some false)))) else (none)) else (none)) = some r := by first | (rw [hji66] at H; exact H) | (simp only [hji66] at H ⊢; exact H)
        have hji66w : (IntKind.i64.wrap (65528 + (wrap64 (Int.tmod a0 15)))) = ji66 := (i64_w _).trans hji66
        by_cases c67 : 0 ≤ (ji66)
        · rw [if_pos c67] at H
          have c67b0 := eq_true c67
          have c67b1 : decide (0 ≤ (ji66)) = true := decide_eq_true c67
          clear c67
          by_cases c68 : (ji66 : Int).toNat ≤ 281474976710656
          · rw [if_pos c68] at H
            have c68b0 := eq_true c68
            have c68b1 : decide ((ji66 : Int).toNat ≤ 281474976710656) = true := decide_eq_true c68
            clear c68
            obtain ⟨y192, hy192⟩ : ∃ y_ : List Int, y_ = (List.replicate (ji66 : Int).toNat 0) := ⟨_, rfl⟩
            replace H : ((octet_Text.f kj4 (strOfNums y192)).bind fun t195 => (if (ji66) > 65535 then (if t165 = true then (some (t195.toList == ([] : List UInt8))) else (some false)) else (if t165 = true then (if (t195.size : Int) = (wrap64 ((ji66) + 2)) then (if 0 ≤ 2 then (if 2 ≤ (t195.size : Int) then ((octet_Put.f kj4 (ji66) 2).bind fun t196 => (some ((t195.extract 0 2).toList == t196.toList))) else (none)) else (none)) else (some false)) else (some false)))) = some r := by first | (rw [hy192]; with_reducible exact H) | (have H2_ := (Option.bind_some _ _).symm.trans H; rw [hy192]; with_reducible exact H2_) | (have H2_ := (Option.bind_some _ _).symm.trans H; with_reducible exact H2_) | with_reducible exact H | (rw [hy192]; exact H) | exact H
            have Ny192 := Aside0.mk hy192
            clear hy192
            replace H := Option.bind_eq_some_iff.mp H
            obtain ⟨t195, A690, H⟩ := H
            replace H : (if (ji66) > 65535 then (if t165 = true then (some (t195.toList == ([] : List UInt8))) else (some false)) else (if t165 = true then (if (t195.size : Int) = (wrap64 ((ji66) + 2)) then (if 0 ≤ 2 then (if 2 ≤ (t195.size : Int) then ((octet_Put.f kj4 (ji66) 2).bind fun t196 => (some ((t195.extract 0 2).toList == t196.toList))) else (none)) else (none)) else (some false)) else (some false))) = some r := H
            have A69 := Aside0.mk A690
            clear A690
            by_cases c70 : (ji66) > 65535
            · rw [if_pos c70] at H
              have c70b0 : decide (65535 < (ji66)) = true := decide_eq_true c70
              clear c70
              by_cases c71 : t165 = true
              · subst c71
                have H1 : (some (t195.toList == ([] : List UInt8))) = some r := by rw [if_pos rfl] at H; exact H
                clear H
                have H := H1
                clear H1
                obtain rfl := Option.some.inj H
                go_wp2_with (first | ((with_reducible refine gate_dst (N := 64) rfl ?_); (try (refine gate_guard (by rfl) ?_; dsimp only)); refine Kd.R_make (Kd.int .u8) _ 5 rfl (N := 64) rfl 33 _ _ rfl ji66 rfl rfl Try.underlying33 (.int .u8 0) 1 info5 rfl (by decide) (by omega) 0 (ok := fun _ => True) (okp := fun _ => True) rfl (fun _ hk => hk) trivial (of_decide_eq_true (by first | (with_reducible assumption) | assumption)) (Nat.le_trans (Nat.mul_le_mul_right _ (of_decide_eq_true (by first | (with_reducible assumption) | assumption) : ji66.toNat ≤ 281474976710656)) (by omega)) (Below.refl _ _) (Nat.le_refl _) ?_; intro v193 w72 ho73 hb hg_ hnew_; clear hg_ hnew_; (first | rw [← Ny192.out] at ho73 | (simp only [Int.reduceToNat] at ho73; rw [← Ny192.out] at ho73)); have n0_ := Aside0.mk (Kd.R_lower ho73 (below_size (by repeat (first | (with_reducible first | exact HB.out | apply below_alloc | apply pw_below_drewN | apply below_drew1 | refine below_set ?_ GE164.out) | exact HB.out)))); have n1_ := Aside0.mk (blk_below (g := gb164) (o := .cells #[.int .i64 a1_0, .int .i64 a1_1] 45 (0, 0)) (by (with_reducible repeat (first | refine blk_drewN ?_ _ | refine blk_drew ?_ | refine blk_alloc ?_ _)); exact BK164.out) hb); have n2_ := Aside0.mk (below_step (by repeat (first | (with_reducible first | exact HB.out | apply below_alloc | apply pw_below_drewN | apply below_drew1 | refine below_set ?_ GE164.out) | exact HB.out)) hb); clear BK164; clear HB; have HO194 := n0_; have BK164 := n1_; have HB := n2_; clear n0_ n1_ n2_; clear hb ho73; have hcv74 := own_string (P := Try.prog) Try.underlying33 Try.underlying5 Try.underlying9 (Kd.own_of_R HO194.out)) | ((with_reducible refine gate_callee (f := 21) rfl ?_); refine goesL_ (some 66) rfl rfl Try.func21 (by kernel_rfl) rfl #[.string (strOfNums y192)] rfl (by (try simp only [List.map_toArray, List.map_cons, List.map_nil]); first | done | rfl | (simp only [List.length_drop, List.length_take]; rfl) | (simp only [ByteArray.size_extract, Nat.sub_zero]; rfl)) ?_; (with_reducible refine (octet_Text.calls kj4 (strOfNums y192) t195 _ A69.out).mono ?_); rintro e w75 ⟨rfl, hb⟩; refine ⟨_, rfl, ?_⟩; have n0_ := Aside0.mk (Kd.R_below (by (with_reducible repeat (first | apply Kd.R_alloc | apply Kd.R_drewN | apply Kd.R_drew)); exact HO194.out) hb); have n1_ := Aside0.mk (blk_below (g := gb164) (o := .cells #[.int .i64 a1_0, .int .i64 a1_1] 45 (0, 0)) (by (with_reducible repeat (first | refine blk_drewN ?_ _ | refine blk_drew ?_ | refine blk_alloc ?_ _)); exact BK164.out) hb); have n2_ := Aside0.mk (below_step (by repeat (first | (with_reducible first | exact HB.out | apply below_alloc | apply pw_below_drewN | apply below_drew1 | refine below_set ?_ GE164.out) | exact HB.out)) hb); clear HO194; clear BK164; clear HB; have HO194 := n0_; have BK164 := n1_; have HB := n2_; clear n0_ n1_ n2_; (try clear hb); (try clear hb2); (try clear hk); (try clear hi)))
                go_ret
                exact ⟨by first | rfl | (simp [errW_none, errW_some] <;> rfl) | (simp only [← hji66]; first | rfl | (simp [errW_none, errW_some] <;> rfl)) | (simp [*, errW_none, errW_some] <;> rfl), by repeat (first | (with_reducible first | exact HB.out | apply below_alloc | apply pw_below_drewN | apply below_drew1 | refine below_set ?_ GE164.out) | exact HB.out)⟩
              · replace c71 := Bool.eq_false_iff.mpr c71
                subst c71
                have H1 : (some false) = some r := by rw [if_neg (show ¬ (false = true) by decide)] at H; exact H
                clear H
                have H := H1
                clear H1
                obtain rfl := Option.some.inj H
                go_wp2_with (first | ((with_reducible refine gate_dst (N := 64) rfl ?_); (try (refine gate_guard (by rfl) ?_; dsimp only)); refine Kd.R_make (Kd.int .u8) _ 5 rfl (N := 64) rfl 33 _ _ rfl ji66 rfl rfl Try.underlying33 (.int .u8 0) 1 info5 rfl (by decide) (by omega) 0 (ok := fun _ => True) (okp := fun _ => True) rfl (fun _ hk => hk) trivial (of_decide_eq_true (by first | (with_reducible assumption) | assumption)) (Nat.le_trans (Nat.mul_le_mul_right _ (of_decide_eq_true (by first | (with_reducible assumption) | assumption) : ji66.toNat ≤ 281474976710656)) (by omega)) (Below.refl _ _) (Nat.le_refl _) ?_; intro v193 w76 ho77 hb hg_ hnew_; clear hg_ hnew_; (first | rw [← Ny192.out] at ho77 | (simp only [Int.reduceToNat] at ho77; rw [← Ny192.out] at ho77)); have n0_ := Aside0.mk (Kd.R_lower ho77 (below_size (by repeat (first | (with_reducible first | exact HB.out | apply below_alloc | apply pw_below_drewN | apply below_drew1 | refine below_set ?_ GE164.out) | exact HB.out)))); have n1_ := Aside0.mk (blk_below (g := gb164) (o := .cells #[.int .i64 a1_0, .int .i64 a1_1] 45 (0, 0)) (by (with_reducible repeat (first | refine blk_drewN ?_ _ | refine blk_drew ?_ | refine blk_alloc ?_ _)); exact BK164.out) hb); have n2_ := Aside0.mk (below_step (by repeat (first | (with_reducible first | exact HB.out | apply below_alloc | apply pw_below_drewN | apply below_drew1 | refine below_set ?_ GE164.out) | exact HB.out)) hb); clear BK164; clear HB; have HO194 := n0_; have BK164 := n1_; have HB := n2_; clear n0_ n1_ n2_; clear hb ho77; have hcv78 := own_string (P := Try.prog) Try.underlying33 Try.underlying5 Try.underlying9 (Kd.own_of_R HO194.out)) | ((with_reducible refine gate_callee (f := 21) rfl ?_); refine goesL_ (some 66) rfl rfl Try.func21 (by kernel_rfl) rfl #[.string (strOfNums y192)] rfl (by (try simp only [List.map_toArray, List.map_cons, List.map_nil]); first | done | rfl | (simp only [List.length_drop, List.length_take]; rfl) | (simp only [ByteArray.size_extract, Nat.sub_zero]; rfl)) ?_; (with_reducible refine (octet_Text.calls kj4 (strOfNums y192) t195 _ A69.out).mono ?_); rintro e w79 ⟨rfl, hb⟩; refine ⟨_, rfl, ?_⟩; have n0_ := Aside0.mk (Kd.R_below (by (with_reducible repeat (first | apply Kd.R_alloc | apply Kd.R_drewN | apply Kd.R_drew)); exact HO194.out) hb); have n1_ := Aside0.mk (blk_below (g := gb164) (o := .cells #[.int .i64 a1_0, .int .i64 a1_1] 45 (0, 0)) (by (with_reducible repeat (first | refine blk_drewN ?_ _ | refine blk_drew ?_ | refine blk_alloc ?_ _)); exact BK164.out) hb); have n2_ := Aside0.mk (below_step (by repeat (first | (with_reducible first | exact HB.out | apply below_alloc | apply pw_below_drewN | apply below_drew1 | refine below_set ?_ GE164.out) | exact HB.out)) hb); clear HO194; clear BK164; clear HB; have HO194 := n0_; have BK164 := n1_; have HB := n2_; clear n0_ n1_ n2_; (try clear hb); (try clear hb2); (try clear hk); (try clear hi)))
                go_ret
                exact ⟨by first | rfl | (simp [errW_none, errW_some] <;> rfl) | (simp only [← hji66]; first | rfl | (simp [errW_none, errW_some] <;> rfl)) | (simp [*, errW_none, errW_some] <;> rfl), by repeat (first | (with_reducible first | exact HB.out | apply below_alloc | apply pw_below_drewN | apply below_drew1 | refine below_set ?_ GE164.out) | exact HB.out)⟩
            · rw [if_neg c70] at H
              have c70b0 : decide (65535 < (ji66)) = false := decide_eq_false c70
              clear c70
              by_cases c80 : t165 = true
              · subst c80
                have H1 : (if (t195.size : Int) = (wrap64 ((ji66) + 2)) then (if 0 ≤ 2 then (if 2 ≤ (t195.size : Int) then ((octet_Put.f kj4 (ji66) 2).bind fun t196 => (some ((t195.extract 0 2).toList == t196.toList))) else (none)) else (none)) else (some false)) = some r := by rw [if_pos rfl] at H; exact H
                clear H
                have H := H1
                clear H1
                by_cases c81 : (t195.size : Int) = (wrap64 ((ji66) + 2))
                · rw [if_pos c81] at H
                  have c81b0 : ((t195.size : Int) == (wrap64 ((ji66) + 2))) = true := beq_iff_eq.mpr c81
                  have c81b1 : ((t195.size : Int) != (wrap64 ((ji66) + 2))) = false := bne_eq_false_iff_eq.mpr c81
                  clear c81
                  by_cases c82 : 0 ≤ 2
                  · rw [if_pos c82] at H
                    have c82b0 := eq_true c82
                    have c82b1 : decide (0 ≤ 2) = true := decide_eq_true c82
                    clear c82
                    by_cases c83 : 2 ≤ (t195.size : Int)
                    · rw [if_pos c83] at H
                      have c83b0 := eq_true c83
                      have c83b1 : decide (2 ≤ (t195.size : Int)) = true := decide_eq_true c83
                      clear c83
                      replace H := Option.bind_eq_some_iff.mp H
                      obtain ⟨t196, A840, H⟩ := H
                      replace H : (some ((t195.extract 0 2).toList == t196.toList)) = some r := H
                      have A84 := Aside0.mk A840
                      clear A840
                      obtain rfl := Option.some.inj H
                      try go_wp2_with (first | ((with_reducible refine gate_dst (N := 64) rfl ?_); (try (refine gate_guard (by rfl) ?_; dsimp only)); refine Kd.R_make (Kd.int .u8) _ 5 rfl (N := 64) rfl 33 _ _ rfl ji66 rfl rfl Try.underlying33 (.int .u8 0) 1 info5 rfl (by decide) (by omega) 0 (ok := fun _ => True) (okp := fun _ => True) rfl (fun _ hk => hk) trivial (of_decide_eq_true (by first | (with_reducible assumption) | assumption)) (Nat.le_trans (Nat.mul_le_mul_right _ (of_decide_eq_true (by first | (with_reducible assumption) | assumption) : ji66.toNat ≤ 281474976710656)) (by omega)) (Below.refl _ _) (Nat.le_refl _) ?_; intro v193 w85 ho86 hb hg_ hnew_; clear hg_ hnew_; (first | rw [← Ny192.out] at ho86 | (simp only [Int.reduceToNat] at ho86; rw [← Ny192.out] at ho86)); have n0_ := Aside0.mk (Kd.R_lower ho86 (below_size (by repeat (first | (with_reducible first | exact HB.out | apply below_alloc | apply pw_below_drewN | apply below_drew1 | refine below_set ?_ GE164.out) | exact HB.out)))); have n1_ := Aside0.mk (blk_below (g := gb164) (o := .cells #[.int .i64 a1_0, .int .i64 a1_1] 45 (0, 0)) (by (with_reducible repeat (first | refine blk_drewN ?_ _ | refine blk_drew ?_ | refine blk_alloc ?_ _)); exact BK164.out) hb); have n2_ := Aside0.mk (below_step (by repeat (first | (with_reducible first | exact HB.out | apply below_alloc | apply pw_below_drewN | apply below_drew1 | refine below_set ?_ GE164.out) | exact HB.out)) hb); clear BK164; clear HB; have HO194 := n0_; have BK164 := n1_; have HB := n2_; clear n0_ n1_ n2_; clear hb ho86; have hcv87 := own_string (P := Try.prog) Try.underlying33 Try.underlying5 Try.underlying9 (Kd.own_of_R HO194.out)) | ((with_reducible refine gate_callee (f := 21) rfl ?_); refine goesL_ (some 66) rfl rfl Try.func21 (by kernel_rfl) rfl #[.string (strOfNums y192)] rfl (by (try simp only [List.map_toArray, List.map_cons, List.map_nil]); first | done | rfl | (simp only [List.length_drop, List.length_take]; rfl) | (simp only [ByteArray.size_extract, Nat.sub_zero]; rfl)) ?_; (with_reducible refine (octet_Text.calls kj4 (strOfNums y192) t195 _ A69.out).mono ?_); rintro e w88 ⟨rfl, hb⟩; refine ⟨_, rfl, ?_⟩; have n0_ := Aside0.mk (Kd.R_below (by (with_reducible repeat (first | apply Kd.R_alloc | apply Kd.R_drewN | apply Kd.R_drew)); exact HO194.out) hb); have n1_ := Aside0.mk (blk_below (g := gb164) (o := .cells #[.int .i64 a1_0, .int .i64 a1_1] 45 (0, 0)) (by (with_reducible repeat (first | refine blk_drewN ?_ _ | refine blk_drew ?_ | refine blk_alloc ?_ _)); exact BK164.out) hb); have n2_ := Aside0.mk (below_step (by repeat (first | (with_reducible first | exact HB.out | apply below_alloc | apply pw_below_drewN | apply below_drew1 | refine below_set ?_ GE164.out) | exact HB.out)) hb); clear HO194; clear BK164; clear HB; have HO194 := n0_; have BK164 := n1_; have HB := n2_; clear n0_ n1_ n2_; (try clear hb); (try clear hb2); (try clear hk); (try clear hi)))
                      have n0_ := Aside0.mk (Kd.R_drew HO194.out)
                      have n1_ := Aside0.mk (blk_drew BK164.out)
                      have n2_ := Aside0.mk (below_drew1 HB.out)
                      clear HO194
                      clear BK164
                      clear HB
                      have HO194 := n0_
                      have BK164 := n1_
                      have HB := n2_
                      clear n0_ n1_ n2_
                      refine start_ (n := 16) (S := fun w' => True) (ds := []) #[false, false, false, false, false, false, false, false, false, false, false, false, false, false, false, false] (by kernel_rfl) rfl rfl trivial (fun hHeld => ?_); refine with_tabW fleuronlaw01_OctetNil.tab11 fleuronlaw01_OctetNil.bits11 (fun HT_ HW_ => ?_)
                      generalize w88.drew = w89 at HO194 BK164 HB hHeld ⊢
                      refine pure_ (i := 0) (N := some 74) (v := ?_) (a' := ?_) #[true, false, false, false, false, false, false, false, false, false, false, false, false, false, false, false] rfl rfl (any_of HT_.out (by kernel_rfl)) (fun _ _ _ h => h) (Or.inl ⟨by rfl, ?_⟩) ?_ ?_
                      rotate_left
                      · intro w'
                        go_simp
                        with_reducible rfl
                      rotate_left
                      · simp only [Act.put, List.setIfInBounds_toArray, List.set_cons_zero, List.set_cons_succ, i64_w, i32_w]
                        rfl
                      refine pure_ (i := 1) (N := some 75) (v := ?_) (a' := ?_) #[true, true, false, false, false, false, false, false, false, false, false, false, false, false, false, false] rfl rfl (any_of HT_.out (by kernel_rfl)) (fun _ _ _ h => h) (Or.inl ⟨by rfl, ?_⟩) ?_ ?_
                      rotate_left
                      · intro w'
                        go_simp
                        with_reducible rfl
                      rotate_left
                      · simp only [Act.put, List.setIfInBounds_toArray, List.set_cons_zero, List.set_cons_succ, i64_w, i32_w]
                        rfl
                      refine pure_ (i := 2) (N := some 76) (v := ?_) (a' := ?_) #[true, true, true, false, false, false, false, false, false, false, false, false, false, false, false, false] rfl rfl (any_of HT_.out (by kernel_rfl)) (fun _ _ _ h => h) (Or.inl ⟨by rfl, ?_⟩) ?_ ?_
                      rotate_left
                      · intro w'
                        go_simp
                        with_reducible rfl
                      rotate_left
                      · simp only [Act.put, List.setIfInBounds_toArray, List.set_cons_zero, List.set_cons_succ, i64_w, i32_w]
                        rfl
                      refine pure_ (i := 3) (N := some 77) (v := ?_) (a' := ?_) #[true, true, true, true, false, false, false, false, false, false, false, false, false, false, false, false] rfl rfl (any_of HT_.out (by kernel_rfl)) (fun _ _ _ h => h) (Or.inl ⟨by rfl, ?_⟩) ?_ ?_
                      rotate_left
                      · intro w'
                        go_simp
                        with_reducible rfl
                      rotate_left
                      · simp only [Act.put, List.setIfInBounds_toArray, List.set_cons_zero, List.set_cons_succ, i64_w, i32_w]
                        rfl
                      refine pure_ (i := 4) (N := some 78) (v := ?_) (a' := ?_) #[true, true, true, true, true, false, false, false, false, false, false, false, false, false, false, false] rfl rfl (any_of HT_.out (by kernel_rfl)) (fun _ _ _ h => h) (Or.inl ⟨by rfl, ?_⟩) ?_ ?_
                      rotate_left
                      · intro w'
                        go_simp
                        with_reducible rfl
                      rotate_left
                      · simp only [Act.put, List.setIfInBounds_toArray, List.set_cons_zero, List.set_cons_succ, i64_w, i32_w]
                        rfl
                      refine pure_ (i := 5) (N := some 79) (v := ?_) (a' := ?_) #[true, true, true, true, true, true, false, false, false, false, false, false, false, false, false, false] rfl rfl (any_of HT_.out (by kernel_rfl)) (fun _ _ _ h => h) (Or.inl ⟨by rfl, ?_⟩) ?_ ?_
                      rotate_left
                      · intro w'
                        go_simp
                        with_reducible rfl
                      rotate_left
                      · simp only [Act.put, List.setIfInBounds_toArray, List.set_cons_zero, List.set_cons_succ, i64_w, i32_w]
                        rfl
                      refine pure_ (i := 6) (N := some 80) (v := ?_) (a' := ?_) #[true, true, true, true, true, true, true, false, false, false, false, false, false, false, false, false] rfl rfl (any_of HT_.out (by kernel_rfl)) (fun _ _ _ h => h) (Or.inl ⟨by rfl, ?_⟩) ?_ ?_
                      rotate_left
                      · intro w'
                        go_simp
                        with_reducible rfl
                      rotate_left
                      · simp only [Act.put, List.setIfInBounds_toArray, List.set_cons_zero, List.set_cons_succ, i64_w, i32_w]
                        rfl
                      refine pure_ (i := 7) (N := some 81) (v := ?_) (a' := ?_) #[true, true, true, true, true, true, true, true, false, false, false, false, false, false, false, false] rfl rfl (any_of HT_.out (by kernel_rfl)) (fun _ _ _ h => h) (Or.inl ⟨by rfl, ?_⟩) ?_ ?_
                      rotate_left
                      · intro w'
                        go_simp
                        with_reducible rfl
                      rotate_left
                      · simp only [Act.put, List.setIfInBounds_toArray, List.set_cons_zero, List.set_cons_succ, i64_w, i32_w]
                        rfl
                      refine pure_ (i := 8) (N := some 82) (v := ?_) (a' := ?_) #[true, true, true, true, true, true, true, true, true, false, false, false, false, false, false, false] rfl rfl (any_of HT_.out (by kernel_rfl)) (fun _ _ _ h => h) (Or.inl ⟨by rfl, ?_⟩) ?_ ?_
                      rotate_left
                      · intro w'
                        go_simp
                        with_reducible rfl
                      rotate_left
                      · simp only [Act.put, List.setIfInBounds_toArray, List.set_cons_zero, List.set_cons_succ, i64_w, i32_w]
                        rfl
                      refine pure_ (i := 9) (N := some 83) (v := ?_) (a' := ?_) #[true, true, true, true, true, true, true, true, true, true, false, false, false, false, false, false] rfl rfl (any_of HT_.out (by kernel_rfl)) (fun _ _ _ h => h) (Or.inl ⟨by rfl, ?_⟩) ?_ ?_
                      rotate_left
                      · intro w'
                        go_simp
                        with_reducible rfl
                      rotate_left
                      · simp only [Act.put, List.setIfInBounds_toArray, List.set_cons_zero, List.set_cons_succ, i64_w, i32_w]
                        rfl
                      refine pure_ (i := 10) (N := some 84) (v := ?_) (a' := ?_) #[true, true, true, true, true, true, true, true, true, true, true, false, false, false, false, false] rfl rfl (any_of HT_.out (by kernel_rfl)) (fun _ _ _ h => h) (Or.inl ⟨by rfl, ?_⟩) ?_ ?_
                      rotate_left
                      · intro w'
                        go_simp
                        with_reducible rfl
                      rotate_left
                      · simp only [Act.put, List.setIfInBounds_toArray, List.set_cons_zero, List.set_cons_succ, i64_w, i32_w]
                        rfl
                      refine pure_ (i := 11) (N := some 85) (v := ?_) (a' := ?_) #[true, true, true, true, true, true, true, true, true, true, true, true, false, false, false, false] rfl rfl (any_of HT_.out (by kernel_rfl)) (fun _ _ _ h => h) (Or.inl ⟨by rfl, ?_⟩) ?_ ?_
                      rotate_left
                      · intro w'
                        go_simp
                        with_reducible rfl
                      rotate_left
                      · simp only [Act.put, List.setIfInBounds_toArray, List.set_cons_zero, List.set_cons_succ, i64_w, i32_w]
                        rfl
                      refine one_ (i := 12) (N := some 86) #[true, true, true, true, true, true, true, true, true, true, true, true, true, false, false, false] rfl rfl (one_of HT_.out (by kernel_rfl)) (by decide) (fun K hK => ?_)
                      refine goes_ Try.func17 (by kernel_rfl) rfl #[.int .i64 ji66, .int .i64 2] (by rfl) rfl rfl (by (try simp only [List.map_toArray, List.map_cons, List.map_nil]); first | done | (simp only [hji66]; rfl) | rfl | (simp only [List.length_drop, List.length_take]; rfl) | (simp only [ByteArray.size_extract, Nat.sub_zero]; rfl)) ?_
                      with_reducible refine (octet_Put.calls kj4 ji66 2 t196 _ A84.out).mono ?_
                      rintro e w90 ⟨rfl, hb⟩
                      refine ⟨_, rfl, ?_⟩
                      have n0_ := Aside0.mk (Kd.R_below (by (with_reducible repeat (first | apply Kd.R_alloc | apply Kd.R_drewN | apply Kd.R_drew)); exact HO194.out) hb)
                      have n1_ := Aside0.mk (blk_below (g := gb164) (o := .cells #[.int .i64 a1_0, .int .i64 a1_1] 45 (0, 0)) (by (with_reducible repeat (first | refine blk_drewN ?_ _ | refine blk_drew ?_ | refine blk_alloc ?_ _)); exact BK164.out) hb)
                      have n2_ := Aside0.mk (below_step (by repeat (first | (with_reducible first | exact HB.out | apply below_alloc | apply pw_below_drewN | apply below_drew1 | refine below_set ?_ GE164.out) | exact HB.out)) hb)
                      clear HO194
                      clear BK164
                      clear HB
                      have HO194 := n0_
                      have BK164 := n1_
                      have HB := n2_
                      clear n0_ n1_ n2_
                      (try clear hb)
                      (try clear hb2)
                      (try clear hk)
                      (try clear hi)
                      refine hK.out _ _ trivial (fun hHeld => ?_)
                      clear hK K
                      refine norm_ (a' := ?_) ?_ ?_
                      rotate_left
                      · show Act.put _ (some 86) _ = _
                        simp only [Act.put, List.setIfInBounds_toArray, List.set_cons_zero, List.set_cons_succ, i64_w, i32_w]
                        rfl
                      refine pure_ (i := 13) (N := some 87) (v := ?_) (a' := ?_) #[true, true, true, true, true, true, true, true, true, true, true, true, true, true, false, false] rfl rfl (any_of HT_.out (by kernel_rfl)) (fun _ _ _ h => h) (Or.inl ⟨by rfl, ?_⟩) ?_ ?_
                      rotate_left
                      · intro w'
                        go_simp
                        with_reducible rfl
                      rotate_left
                      · simp only [Act.put, List.setIfInBounds_toArray, List.set_cons_zero, List.set_cons_succ, i64_w, i32_w]
                        rfl
                      refine pure_ (i := 14) (N := some 88) (v := ?_) (a' := ?_) #[true, true, true, true, true, true, true, true, true, true, true, true, true, true, true, false] rfl rfl (any_of HT_.out (by kernel_rfl)) (fun _ _ _ h => h) (Or.inl ⟨by rfl, ?_⟩) ?_ ?_
                      rotate_left
                      · intro w'
                        go_simp
                        with_reducible rfl
                      rotate_left
                      · simp only [Act.put, List.setIfInBounds_toArray, List.set_cons_zero, List.set_cons_succ, i64_w, i32_w]
                        rfl
                      refine pure_ (i := 15) (N := some 4) (v := ?_) (a' := ?_) #[true, true, true, true, true, true, true, true, true, true, true, true, true, true, true, true] rfl rfl (any_of HT_.out (by kernel_rfl)) (fun _ _ _ h => h) (Or.inl ⟨by rfl, ?_⟩) ?_ ?_
                      rotate_left
                      · intro w'
                        go_simp
                        with_reducible rfl
                      rotate_left
                      · simp only [Act.put, List.setIfInBounds_toArray, List.set_cons_zero, List.set_cons_succ, i64_w, i32_w]
                        rfl
                      refine done_ (done_of HT_.out (by kernel_rfl)) ?_
                      try go_wp2
                      go_ret
                      exact ⟨by first | rfl | (simp [errW_none, errW_some] <;> rfl) | (simp only [← hji66]; first | rfl | (simp [errW_none, errW_some] <;> rfl)) | (simp [*, errW_none, errW_some] <;> rfl), by repeat (first | (with_reducible first | exact HB.out | apply below_alloc | apply pw_below_drewN | apply below_drew1 | refine below_set ?_ GE164.out) | exact HB.out)⟩
                    · rw [if_neg c83] at H
                      exact absurd H (by simp)
                  · rw [if_neg c82] at H
                    exact absurd H (by simp)
                · rw [if_neg c81] at H
                  have c81b0 : ((t195.size : Int) == (wrap64 ((ji66) + 2))) = false := beq_eq_false_iff_ne.mpr c81
                  have c81b1 : ((t195.size : Int) != (wrap64 ((ji66) + 2))) = true := bne_iff_ne.mpr c81
                  obtain rfl := Option.some.inj H
                  try go_wp2_with (first | ((with_reducible refine gate_dst (N := 64) rfl ?_); (try (refine gate_guard (by rfl) ?_; dsimp only)); refine Kd.R_make (Kd.int .u8) _ 5 rfl (N := 64) rfl 33 _ _ rfl ji66 rfl rfl Try.underlying33 (.int .u8 0) 1 info5 rfl (by decide) (by omega) 0 (ok := fun _ => True) (okp := fun _ => True) rfl (fun _ hk => hk) trivial (of_decide_eq_true (by first | (with_reducible assumption) | assumption)) (Nat.le_trans (Nat.mul_le_mul_right _ (of_decide_eq_true (by first | (with_reducible assumption) | assumption) : ji66.toNat ≤ 281474976710656)) (by omega)) (Below.refl _ _) (Nat.le_refl _) ?_; intro v193 w91 ho92 hb hg_ hnew_; clear hg_ hnew_; (first | rw [← Ny192.out] at ho92 | (simp only [Int.reduceToNat] at ho92; rw [← Ny192.out] at ho92)); have n0_ := Aside0.mk (Kd.R_lower ho92 (below_size (by repeat (first | (with_reducible first | exact HB.out | apply below_alloc | apply pw_below_drewN | apply below_drew1 | refine below_set ?_ GE164.out) | exact HB.out)))); have n1_ := Aside0.mk (blk_below (g := gb164) (o := .cells #[.int .i64 a1_0, .int .i64 a1_1] 45 (0, 0)) (by (with_reducible repeat (first | refine blk_drewN ?_ _ | refine blk_drew ?_ | refine blk_alloc ?_ _)); exact BK164.out) hb); have n2_ := Aside0.mk (below_step (by repeat (first | (with_reducible first | exact HB.out | apply below_alloc | apply pw_below_drewN | apply below_drew1 | refine below_set ?_ GE164.out) | exact HB.out)) hb); clear BK164; clear HB; have HO194 := n0_; have BK164 := n1_; have HB := n2_; clear n0_ n1_ n2_; clear hb ho92; have hcv93 := own_string (P := Try.prog) Try.underlying33 Try.underlying5 Try.underlying9 (Kd.own_of_R HO194.out)) | ((with_reducible refine gate_callee (f := 21) rfl ?_); refine goesL_ (some 66) rfl rfl Try.func21 (by kernel_rfl) rfl #[.string (strOfNums y192)] rfl (by (try simp only [List.map_toArray, List.map_cons, List.map_nil]); first | done | rfl | (simp only [List.length_drop, List.length_take]; rfl) | (simp only [ByteArray.size_extract, Nat.sub_zero]; rfl)) ?_; (with_reducible refine (octet_Text.calls kj4 (strOfNums y192) t195 _ A69.out).mono ?_); rintro e w94 ⟨rfl, hb⟩; refine ⟨_, rfl, ?_⟩; have n0_ := Aside0.mk (Kd.R_below (by (with_reducible repeat (first | apply Kd.R_alloc | apply Kd.R_drewN | apply Kd.R_drew)); exact HO194.out) hb); have n1_ := Aside0.mk (blk_below (g := gb164) (o := .cells #[.int .i64 a1_0, .int .i64 a1_1] 45 (0, 0)) (by (with_reducible repeat (first | refine blk_drewN ?_ _ | refine blk_drew ?_ | refine blk_alloc ?_ _)); exact BK164.out) hb); have n2_ := Aside0.mk (below_step (by repeat (first | (with_reducible first | exact HB.out | apply below_alloc | apply pw_below_drewN | apply below_drew1 | refine below_set ?_ GE164.out) | exact HB.out)) hb); clear HO194; clear BK164; clear HB; have HO194 := n0_; have BK164 := n1_; have HB := n2_; clear n0_ n1_ n2_; (try clear hb); (try clear hb2); (try clear hk); (try clear hi)))
                  have n0_ := Aside0.mk (Kd.R_drew HO194.out)
                  have n1_ := Aside0.mk (blk_drew BK164.out)
                  have n2_ := Aside0.mk (below_drew1 HB.out)
                  clear HO194
                  clear BK164
                  clear HB
                  have HO194 := n0_
                  have BK164 := n1_
                  have HB := n2_
                  clear n0_ n1_ n2_
                  refine start_ (n := 16) (S := fun w' => True) (ds := []) #[false, false, false, false, false, false, false, false, false, false, false, false, false, false, false, false] (by kernel_rfl) rfl rfl trivial (fun hHeld => ?_); refine with_tabW fleuronlaw01_OctetNil.tab11 fleuronlaw01_OctetNil.bits11 (fun HT_ HW_ => ?_)
                  generalize w94.drew = w95 at HO194 BK164 HB hHeld ⊢
                  refine pure_ (i := 0) (N := some 74) (v := ?_) (a' := ?_) #[true, false, false, false, false, false, false, false, false, false, false, false, false, false, false, false] rfl rfl (any_of HT_.out (by kernel_rfl)) (fun _ _ _ h => h) (Or.inl ⟨by rfl, ?_⟩) ?_ ?_
                  rotate_left
                  · intro w'
                    go_simp
                    with_reducible rfl
                  rotate_left
                  · simp only [Act.put, List.setIfInBounds_toArray, List.set_cons_zero, List.set_cons_succ, i64_w, i32_w]
                    rfl
                  refine pure_ (i := 1) (N := some 75) (v := ?_) (a' := ?_) #[true, true, false, false, false, false, false, false, false, false, false, false, false, false, false, false] rfl rfl (any_of HT_.out (by kernel_rfl)) (fun _ _ _ h => h) (Or.inl ⟨by rfl, ?_⟩) ?_ ?_
                  rotate_left
                  · intro w'
                    go_simp
                    with_reducible rfl
                  rotate_left
                  · simp only [Act.put, List.setIfInBounds_toArray, List.set_cons_zero, List.set_cons_succ, i64_w, i32_w]
                    rfl
                  refine pure_ (i := 2) (N := some 76) (v := ?_) (a' := ?_) #[true, true, true, false, false, false, false, false, false, false, false, false, false, false, false, false] rfl rfl (any_of HT_.out (by kernel_rfl)) (fun _ _ _ h => h) (Or.inl ⟨by rfl, ?_⟩) ?_ ?_
                  rotate_left
                  · intro w'
                    go_simp
                    with_reducible rfl
                  rotate_left
                  · simp only [Act.put, List.setIfInBounds_toArray, List.set_cons_zero, List.set_cons_succ, i64_w, i32_w]
                    rfl
                  refine pure_ (i := 3) (N := some 77) (v := ?_) (a' := ?_) #[true, true, true, true, false, false, false, false, false, false, false, false, false, false, false, false] rfl rfl (any_of HT_.out (by kernel_rfl)) (fun _ _ _ h => h) (Or.inl ⟨by rfl, ?_⟩) ?_ ?_
                  rotate_left
                  · intro w'
                    go_simp
                    with_reducible rfl
                  rotate_left
                  · simp only [Act.put, List.setIfInBounds_toArray, List.set_cons_zero, List.set_cons_succ, i64_w, i32_w]
                    rfl
                  refine pure_ (i := 4) (N := some 78) (v := ?_) (a' := ?_) #[true, true, true, true, true, false, false, false, false, false, false, false, false, false, false, false] rfl rfl (any_of HT_.out (by kernel_rfl)) (fun _ _ _ h => h) (Or.inl ⟨by rfl, ?_⟩) ?_ ?_
                  rotate_left
                  · intro w'
                    go_simp
                    with_reducible rfl
                  rotate_left
                  · simp only [Act.put, List.setIfInBounds_toArray, List.set_cons_zero, List.set_cons_succ, i64_w, i32_w]
                    rfl
                  refine pure_ (i := 5) (N := some 79) (v := ?_) (a' := ?_) #[true, true, true, true, true, true, false, false, false, false, false, false, false, false, false, false] rfl rfl (any_of HT_.out (by kernel_rfl)) (fun _ _ _ h => h) (Or.inl ⟨by rfl, ?_⟩) ?_ ?_
                  rotate_left
                  · intro w'
                    go_simp
                    with_reducible rfl
                  rotate_left
                  · simp only [Act.put, List.setIfInBounds_toArray, List.set_cons_zero, List.set_cons_succ, i64_w, i32_w]
                    rfl
                  refine pure_ (i := 6) (N := some 80) (v := ?_) (a' := ?_) #[true, true, true, true, true, true, true, false, false, false, false, false, false, false, false, false] rfl rfl (any_of HT_.out (by kernel_rfl)) (fun _ _ _ h => h) (Or.inl ⟨by rfl, ?_⟩) ?_ ?_
                  rotate_left
                  · intro w'
                    go_simp
                    with_reducible rfl
                  rotate_left
                  · simp only [Act.put, List.setIfInBounds_toArray, List.set_cons_zero, List.set_cons_succ, i64_w, i32_w]
                    rfl
                  refine pure_ (i := 7) (N := some 81) (v := ?_) (a' := ?_) #[true, true, true, true, true, true, true, true, false, false, false, false, false, false, false, false] rfl rfl (any_of HT_.out (by kernel_rfl)) (fun _ _ _ h => h) (Or.inl ⟨by rfl, ?_⟩) ?_ ?_
                  rotate_left
                  · intro w'
                    go_simp
                    with_reducible rfl
                  rotate_left
                  · simp only [Act.put, List.setIfInBounds_toArray, List.set_cons_zero, List.set_cons_succ, i64_w, i32_w]
                    rfl
                  refine pure_ (i := 8) (N := some 82) (v := ?_) (a' := ?_) #[true, true, true, true, true, true, true, true, true, false, false, false, false, false, false, false] rfl rfl (any_of HT_.out (by kernel_rfl)) (fun _ _ _ h => h) (Or.inl ⟨by rfl, ?_⟩) ?_ ?_
                  rotate_left
                  · intro w'
                    go_simp
                    with_reducible rfl
                  rotate_left
                  · simp only [Act.put, List.setIfInBounds_toArray, List.set_cons_zero, List.set_cons_succ, i64_w, i32_w]
                    rfl
                  refine pure_ (i := 9) (N := some 83) (v := undef) (a' := ?_) #[true, true, true, true, true, true, true, true, true, true, false, false, false, false, false, false] rfl rfl (any_of HT_.out (by kernel_rfl)) (fun _ _ _ h => h) (Or.inr ⟨by rfl, rfl⟩) ?_ ?_
                  rotate_left
                  · simp only [Act.put, List.setIfInBounds_toArray, List.set_cons_zero, List.set_cons_succ, i64_w, i32_w]
                    rfl
                  refine pure_ (i := 10) (N := some 84) (v := undef) (a' := ?_) #[true, true, true, true, true, true, true, true, true, true, true, false, false, false, false, false] rfl rfl (any_of HT_.out (by kernel_rfl)) (fun _ _ _ h => h) (Or.inr ⟨by rfl, rfl⟩) ?_ ?_
                  rotate_left
                  · simp only [Act.put, List.setIfInBounds_toArray, List.set_cons_zero, List.set_cons_succ, i64_w, i32_w]
                    rfl
                  refine pure_ (i := 11) (N := some 85) (v := undef) (a' := ?_) #[true, true, true, true, true, true, true, true, true, true, true, true, false, false, false, false] rfl rfl (any_of HT_.out (by kernel_rfl)) (fun _ _ _ h => h) (Or.inr ⟨by rfl, rfl⟩) ?_ ?_
                  rotate_left
                  · simp only [Act.put, List.setIfInBounds_toArray, List.set_cons_zero, List.set_cons_succ, i64_w, i32_w]
                    rfl
                  refine pure_ (i := 12) (N := some 86) (v := undef) (a' := ?_) #[true, true, true, true, true, true, true, true, true, true, true, true, true, false, false, false] rfl rfl (any_of HT_.out (by kernel_rfl)) (fun _ _ _ h => h) (Or.inr ⟨by rfl, rfl⟩) ?_ ?_
                  rotate_left
                  · simp only [Act.put, List.setIfInBounds_toArray, List.set_cons_zero, List.set_cons_succ, i64_w, i32_w]
                    rfl
                  refine pure_ (i := 13) (N := some 87) (v := undef) (a' := ?_) #[true, true, true, true, true, true, true, true, true, true, true, true, true, true, false, false] rfl rfl (any_of HT_.out (by kernel_rfl)) (fun _ _ _ h => h) (Or.inr ⟨by rfl, rfl⟩) ?_ ?_
                  rotate_left
                  · simp only [Act.put, List.setIfInBounds_toArray, List.set_cons_zero, List.set_cons_succ, i64_w, i32_w]
                    rfl
                  refine pure_ (i := 14) (N := some 88) (v := ?_) (a' := ?_) #[true, true, true, true, true, true, true, true, true, true, true, true, true, true, true, false] rfl rfl (any_of HT_.out (by kernel_rfl)) (fun _ _ _ h => h) (Or.inl ⟨by rfl, ?_⟩) ?_ ?_
                  rotate_left
                  · intro w'
                    go_simp
                    with_reducible rfl
                  rotate_left
                  · simp only [Act.put, List.setIfInBounds_toArray, List.set_cons_zero, List.set_cons_succ, i64_w, i32_w]
                    rfl
                  refine pure_ (i := 15) (N := some 4) (v := ?_) (a' := ?_) #[true, true, true, true, true, true, true, true, true, true, true, true, true, true, true, true] rfl rfl (any_of HT_.out (by kernel_rfl)) (fun _ _ _ h => h) (Or.inl ⟨by rfl, ?_⟩) ?_ ?_
                  rotate_left
                  · intro w'
                    go_simp
                    with_reducible rfl
                  rotate_left
                  · simp only [Act.put, List.setIfInBounds_toArray, List.set_cons_zero, List.set_cons_succ, i64_w, i32_w]
                    rfl
                  refine done_ (done_of HT_.out (by kernel_rfl)) ?_
                  try go_wp2
                  go_ret
                  exact ⟨by first | rfl | (simp [errW_none, errW_some] <;> rfl) | (simp only [← hji66]; first | rfl | (simp [errW_none, errW_some] <;> rfl)) | (simp [*, errW_none, errW_some] <;> rfl), by repeat (first | (with_reducible first | exact HB.out | apply below_alloc | apply pw_below_drewN | apply below_drew1 | refine below_set ?_ GE164.out) | exact HB.out)⟩
              · replace c80 := Bool.eq_false_iff.mpr c80
                subst c80
                have H1 : (some false) = some r := by rw [if_neg (show ¬ (false = true) by decide)] at H; exact H
                clear H
                have H := H1
                clear H1
                obtain rfl := Option.some.inj H
                try go_wp2_with (first | ((with_reducible refine gate_dst (N := 64) rfl ?_); (try (refine gate_guard (by rfl) ?_; dsimp only)); refine Kd.R_make (Kd.int .u8) _ 5 rfl (N := 64) rfl 33 _ _ rfl ji66 rfl rfl Try.underlying33 (.int .u8 0) 1 info5 rfl (by decide) (by omega) 0 (ok := fun _ => True) (okp := fun _ => True) rfl (fun _ hk => hk) trivial (of_decide_eq_true (by first | (with_reducible assumption) | assumption)) (Nat.le_trans (Nat.mul_le_mul_right _ (of_decide_eq_true (by first | (with_reducible assumption) | assumption) : ji66.toNat ≤ 281474976710656)) (by omega)) (Below.refl _ _) (Nat.le_refl _) ?_; intro v193 w96 ho97 hb hg_ hnew_; clear hg_ hnew_; (first | rw [← Ny192.out] at ho97 | (simp only [Int.reduceToNat] at ho97; rw [← Ny192.out] at ho97)); have n0_ := Aside0.mk (Kd.R_lower ho97 (below_size (by repeat (first | (with_reducible first | exact HB.out | apply below_alloc | apply pw_below_drewN | apply below_drew1 | refine below_set ?_ GE164.out) | exact HB.out)))); have n1_ := Aside0.mk (blk_below (g := gb164) (o := .cells #[.int .i64 a1_0, .int .i64 a1_1] 45 (0, 0)) (by (with_reducible repeat (first | refine blk_drewN ?_ _ | refine blk_drew ?_ | refine blk_alloc ?_ _)); exact BK164.out) hb); have n2_ := Aside0.mk (below_step (by repeat (first | (with_reducible first | exact HB.out | apply below_alloc | apply pw_below_drewN | apply below_drew1 | refine below_set ?_ GE164.out) | exact HB.out)) hb); clear BK164; clear HB; have HO194 := n0_; have BK164 := n1_; have HB := n2_; clear n0_ n1_ n2_; clear hb ho97; have hcv98 := own_string (P := Try.prog) Try.underlying33 Try.underlying5 Try.underlying9 (Kd.own_of_R HO194.out)) | ((with_reducible refine gate_callee (f := 21) rfl ?_); refine goesL_ (some 66) rfl rfl Try.func21 (by kernel_rfl) rfl #[.string (strOfNums y192)] rfl (by (try simp only [List.map_toArray, List.map_cons, List.map_nil]); first | done | rfl | (simp only [List.length_drop, List.length_take]; rfl) | (simp only [ByteArray.size_extract, Nat.sub_zero]; rfl)) ?_; (with_reducible refine (octet_Text.calls kj4 (strOfNums y192) t195 _ A69.out).mono ?_); rintro e w99 ⟨rfl, hb⟩; refine ⟨_, rfl, ?_⟩; have n0_ := Aside0.mk (Kd.R_below (by (with_reducible repeat (first | apply Kd.R_alloc | apply Kd.R_drewN | apply Kd.R_drew)); exact HO194.out) hb); have n1_ := Aside0.mk (blk_below (g := gb164) (o := .cells #[.int .i64 a1_0, .int .i64 a1_1] 45 (0, 0)) (by (with_reducible repeat (first | refine blk_drewN ?_ _ | refine blk_drew ?_ | refine blk_alloc ?_ _)); exact BK164.out) hb); have n2_ := Aside0.mk (below_step (by repeat (first | (with_reducible first | exact HB.out | apply below_alloc | apply pw_below_drewN | apply below_drew1 | refine below_set ?_ GE164.out) | exact HB.out)) hb); clear HO194; clear BK164; clear HB; have HO194 := n0_; have BK164 := n1_; have HB := n2_; clear n0_ n1_ n2_; (try clear hb); (try clear hb2); (try clear hk); (try clear hi)))
                have n0_ := Aside0.mk (Kd.R_drew HO194.out)
                have n1_ := Aside0.mk (blk_drew BK164.out)
                have n2_ := Aside0.mk (below_drew1 HB.out)
                clear HO194
                clear BK164
                clear HB
                have HO194 := n0_
                have BK164 := n1_
                have HB := n2_
                clear n0_ n1_ n2_
                refine start_ (n := 16) (S := fun w' => True) (ds := []) #[false, false, false, false, false, false, false, false, false, false, false, false, false, false, false, false] (by kernel_rfl) rfl rfl trivial (fun hHeld => ?_); refine with_tabW fleuronlaw01_OctetNil.tab11 fleuronlaw01_OctetNil.bits11 (fun HT_ HW_ => ?_)
                generalize w99.drew = w100 at HO194 BK164 HB hHeld ⊢
                refine pure_ (i := 0) (N := some 74) (v := ?_) (a' := ?_) #[true, false, false, false, false, false, false, false, false, false, false, false, false, false, false, false] rfl rfl (any_of HT_.out (by kernel_rfl)) (fun _ _ _ h => h) (Or.inl ⟨by rfl, ?_⟩) ?_ ?_
                rotate_left
                · intro w'
                  go_simp
                  with_reducible rfl
                rotate_left
                · simp only [Act.put, List.setIfInBounds_toArray, List.set_cons_zero, List.set_cons_succ, i64_w, i32_w]
                  rfl
                refine pure_ (i := 1) (N := some 75) (v := ?_) (a' := ?_) #[true, true, false, false, false, false, false, false, false, false, false, false, false, false, false, false] rfl rfl (any_of HT_.out (by kernel_rfl)) (fun _ _ _ h => h) (Or.inl ⟨by rfl, ?_⟩) ?_ ?_
                rotate_left
                · intro w'
                  go_simp
                  with_reducible rfl
                rotate_left
                · simp only [Act.put, List.setIfInBounds_toArray, List.set_cons_zero, List.set_cons_succ, i64_w, i32_w]
                  rfl
                refine pure_ (i := 2) (N := some 76) (v := undef) (a' := ?_) #[true, true, true, false, false, false, false, false, false, false, false, false, false, false, false, false] rfl rfl (any_of HT_.out (by kernel_rfl)) (fun _ _ _ h => h) (Or.inr ⟨by rfl, rfl⟩) ?_ ?_
                rotate_left
                · simp only [Act.put, List.setIfInBounds_toArray, List.set_cons_zero, List.set_cons_succ, i64_w, i32_w]
                  rfl
                refine pure_ (i := 3) (N := some 77) (v := undef) (a' := ?_) #[true, true, true, true, false, false, false, false, false, false, false, false, false, false, false, false] rfl rfl (any_of HT_.out (by kernel_rfl)) (fun _ _ _ h => h) (Or.inr ⟨by rfl, rfl⟩) ?_ ?_
                rotate_left
                · simp only [Act.put, List.setIfInBounds_toArray, List.set_cons_zero, List.set_cons_succ, i64_w, i32_w]
                  rfl
                refine pure_ (i := 4) (N := some 78) (v := undef) (a' := ?_) #[true, true, true, true, true, false, false, false, false, false, false, false, false, false, false, false] rfl rfl (any_of HT_.out (by kernel_rfl)) (fun _ _ _ h => h) (Or.inr ⟨by rfl, rfl⟩) ?_ ?_
                rotate_left
                · simp only [Act.put, List.setIfInBounds_toArray, List.set_cons_zero, List.set_cons_succ, i64_w, i32_w]
                  rfl
                refine pure_ (i := 5) (N := some 79) (v := undef) (a' := ?_) #[true, true, true, true, true, true, false, false, false, false, false, false, false, false, false, false] rfl rfl (any_of HT_.out (by kernel_rfl)) (fun _ _ _ h => h) (Or.inr ⟨by rfl, rfl⟩) ?_ ?_
                rotate_left
                · simp only [Act.put, List.setIfInBounds_toArray, List.set_cons_zero, List.set_cons_succ, i64_w, i32_w]
                  rfl
                refine pure_ (i := 6) (N := some 80) (v := undef) (a' := ?_) #[true, true, true, true, true, true, true, false, false, false, false, false, false, false, false, false] rfl rfl (any_of HT_.out (by kernel_rfl)) (fun _ _ _ h => h) (Or.inr ⟨by rfl, rfl⟩) ?_ ?_
                rotate_left
                · simp only [Act.put, List.setIfInBounds_toArray, List.set_cons_zero, List.set_cons_succ, i64_w, i32_w]
                  rfl
                refine pure_ (i := 7) (N := some 81) (v := ?_) (a' := ?_) #[true, true, true, true, true, true, true, true, false, false, false, false, false, false, false, false] rfl rfl (any_of HT_.out (by kernel_rfl)) (fun _ _ _ h => h) (Or.inl ⟨by rfl, ?_⟩) ?_ ?_
                rotate_left
                · intro w'
                  go_simp
                  with_reducible rfl
                rotate_left
                · simp only [Act.put, List.setIfInBounds_toArray, List.set_cons_zero, List.set_cons_succ, i64_w, i32_w]
                  rfl
                refine pure_ (i := 8) (N := some 82) (v := ?_) (a' := ?_) #[true, true, true, true, true, true, true, true, true, false, false, false, false, false, false, false] rfl rfl (any_of HT_.out (by kernel_rfl)) (fun _ _ _ h => h) (Or.inl ⟨by rfl, ?_⟩) ?_ ?_
                rotate_left
                · intro w'
                  go_simp
                  with_reducible rfl
                rotate_left
                · simp only [Act.put, List.setIfInBounds_toArray, List.set_cons_zero, List.set_cons_succ, i64_w, i32_w]
                  rfl
                refine pure_ (i := 9) (N := some 83) (v := undef) (a' := ?_) #[true, true, true, true, true, true, true, true, true, true, false, false, false, false, false, false] rfl rfl (any_of HT_.out (by kernel_rfl)) (fun _ _ _ h => h) (Or.inr ⟨by rfl, rfl⟩) ?_ ?_
                rotate_left
                · simp only [Act.put, List.setIfInBounds_toArray, List.set_cons_zero, List.set_cons_succ, i64_w, i32_w]
                  rfl
                refine pure_ (i := 10) (N := some 84) (v := undef) (a' := ?_) #[true, true, true, true, true, true, true, true, true, true, true, false, false, false, false, false] rfl rfl (any_of HT_.out (by kernel_rfl)) (fun _ _ _ h => h) (Or.inr ⟨by rfl, rfl⟩) ?_ ?_
                rotate_left
                · simp only [Act.put, List.setIfInBounds_toArray, List.set_cons_zero, List.set_cons_succ, i64_w, i32_w]
                  rfl
                refine pure_ (i := 11) (N := some 85) (v := undef) (a' := ?_) #[true, true, true, true, true, true, true, true, true, true, true, true, false, false, false, false] rfl rfl (any_of HT_.out (by kernel_rfl)) (fun _ _ _ h => h) (Or.inr ⟨by rfl, rfl⟩) ?_ ?_
                rotate_left
                · simp only [Act.put, List.setIfInBounds_toArray, List.set_cons_zero, List.set_cons_succ, i64_w, i32_w]
                  rfl
                refine pure_ (i := 12) (N := some 86) (v := undef) (a' := ?_) #[true, true, true, true, true, true, true, true, true, true, true, true, true, false, false, false] rfl rfl (any_of HT_.out (by kernel_rfl)) (fun _ _ _ h => h) (Or.inr ⟨by rfl, rfl⟩) ?_ ?_
                rotate_left
                · simp only [Act.put, List.setIfInBounds_toArray, List.set_cons_zero, List.set_cons_succ, i64_w, i32_w]
                  rfl
                refine pure_ (i := 13) (N := some 87) (v := undef) (a' := ?_) #[true, true, true, true, true, true, true, true, true, true, true, true, true, true, false, false] rfl rfl (any_of HT_.out (by kernel_rfl)) (fun _ _ _ h => h) (Or.inr ⟨by rfl, rfl⟩) ?_ ?_
                rotate_left
                · simp only [Act.put, List.setIfInBounds_toArray, List.set_cons_zero, List.set_cons_succ, i64_w, i32_w]
                  rfl
                refine pure_ (i := 14) (N := some 88) (v := ?_) (a' := ?_) #[true, true, true, true, true, true, true, true, true, true, true, true, true, true, true, false] rfl rfl (any_of HT_.out (by kernel_rfl)) (fun _ _ _ h => h) (Or.inl ⟨by rfl, ?_⟩) ?_ ?_
                rotate_left
                · intro w'
                  go_simp
                  with_reducible rfl
                rotate_left
                · simp only [Act.put, List.setIfInBounds_toArray, List.set_cons_zero, List.set_cons_succ, i64_w, i32_w]
                  rfl
                refine pure_ (i := 15) (N := some 4) (v := ?_) (a' := ?_) #[true, true, true, true, true, true, true, true, true, true, true, true, true, true, true, true] rfl rfl (any_of HT_.out (by kernel_rfl)) (fun _ _ _ h => h) (Or.inl ⟨by rfl, ?_⟩) ?_ ?_
                rotate_left
                · intro w'
                  go_simp
                  with_reducible rfl
                rotate_left
                · simp only [Act.put, List.setIfInBounds_toArray, List.set_cons_zero, List.set_cons_succ, i64_w, i32_w]
                  rfl
                refine done_ (done_of HT_.out (by kernel_rfl)) ?_
                try go_wp2
                go_ret
                exact ⟨by first | rfl | (simp [errW_none, errW_some] <;> rfl) | (simp only [← hji66]; first | rfl | (simp [errW_none, errW_some] <;> rfl)) | (simp [*, errW_none, errW_some] <;> rfl), by repeat (first | (with_reducible first | exact HB.out | apply below_alloc | apply pw_below_drewN | apply below_drew1 | refine below_set ?_ GE164.out) | exact HB.out)⟩
          · rw [if_neg c68] at H
            exact absurd H (by simp)
        · rw [if_neg c67] at H
          exact absurd H (by simp)

end Go.Proofs.Ytfnbaepioignaaa.POctn
