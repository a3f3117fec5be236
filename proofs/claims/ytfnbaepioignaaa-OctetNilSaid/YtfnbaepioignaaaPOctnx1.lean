-- Written for this claim by a program of this seat (wip/tools: a turned copy of the kit's print). Not trusted: Lean checks it.
import Derived.Test.YtfnbaepioignaaaPOctnx0
namespace Go.Proofs.Ytfnbaepioignaaa.POctn
open Go.RowKit Go.Proofs.YtfnbaepioignaaaW.PrintWords Go.Proofs.YtfnbaepioignaaaW.PrintLast Go.Proofs.YtfnbaepioignaaaW.PrintMore
attribute [local go_sem] max2_int min2_int max_two min_two max_three min_three max_four min_four   -- for this text's walks alone
set_option linter.unusedVariables false
set_option linter.unusedSimpArgs false

/-! ### octet_Put: function 17 -/
mutual
def octet_Put.j0 : Nat → Int → Int → Bool → Option (ByteArray)
  | 0, _, _, _ => none
  | k + 1, x0, x1, x12 => if x12 = true then (some (⟨#[]⟩ : ByteArray)) else (if 0 ≤ x1 then (if (x1 : Int).toNat ≤ 281474976710656 then ((some (List.replicate (x1 : Int).toNat 0 : List Int)).bind fun y101 => (octet_Put.l0 k x0 x1 y101 (y101.length : Int) 0)) else (none)) else (none))
def octet_Put.l0 : Nat → Int → Int → List Int → Int → Int → Option (ByteArray)
  | 0, _, _, _, _, _ => none
  | k + 1, x0, x1, x5, x16, x17 => if x17 < x16 then (if 0 ≤ (wrap64 (8 * x17)) then (if 0 ≤ (wrap64 ((wrap64 (x1 - 1)) - x17)) then (if (wrap64 ((wrap64 (x1 - 1)) - x17)) < (x5.length : Int) then (octet_Put.l0 k x0 x1 (x5.set ((wrap64 ((wrap64 (x1 - 1)) - x17)) : Int).toNat ((shr .i64 x0 (wrap64 (8 * x17))) % 256)) x16 (wrap64 (x17 + 1))) else (none)) else (none)) else (none)) else (some (strOfNums x5))
end
def octet_Put.f (k : Nat) (a0 : Int) (a1 : Int) : Option (ByteArray) := if a1 < 0 then (octet_Put.j0 k a0 a1 true) else (octet_Put.j0 k a0 a1 (decide (a1 > 8)))
theorem octet_Put.mono_l : ∀ k, (∀ y0 y1 y2, LeO (octet_Put.j0 k y0 y1 y2) (octet_Put.j0 (k + 1) y0 y1 y2)) ∧ (∀ y0 y1 y2 y3 y4, LeO (octet_Put.l0 k y0 y1 y2 y3 y4) (octet_Put.l0 (k + 1) y0 y1 y2 y3 y4))
  | 0 => ⟨fun _ _ _ r h => by simp [octet_Put.j0] at h, fun _ _ _ _ _ r h => by simp [octet_Put.l0] at h⟩
  | k + 1 => by
    obtain ⟨ih0, ih1⟩ := octet_Put.mono_l k
    refine ⟨?_, ?_⟩
    · intro y0 y1 y2
      unfold octet_Put.j0
      repeat' first
      | (with_reducible exact ih0 _ _ _)
      | (with_reducible exact ih1 _ _ _ _ _)
      | (with_reducible exact LeO.refl _)
      | (with_reducible exact LeO.none _)
      | (with_reducible refine LeO.ite ?_ ?_)
      | (with_reducible refine LeO.bind ?_ (fun _ => ?_))
      | exact ih0 _ _ _
      | exact ih1 _ _ _ _ _
      | exact LeO.none _
      | refine LeO.ite ?_ ?_
      | refine LeO.bind ?_ (fun _ => ?_)
    · intro y0 y1 y2 y3 y4
      unfold octet_Put.l0
      repeat' first
      | (with_reducible exact ih0 _ _ _)
      | (with_reducible exact ih1 _ _ _ _ _)
      | (with_reducible exact LeO.refl _)
      | (with_reducible exact LeO.none _)
      | (with_reducible refine LeO.ite ?_ ?_)
      | (with_reducible refine LeO.bind ?_ (fun _ => ?_))
      | exact ih0 _ _ _
      | exact ih1 _ _ _ _ _
      | exact LeO.none _
      | refine LeO.ite ?_ ?_
      | refine LeO.bind ?_ (fun _ => ?_)
theorem octet_Put.mono : ∀ a0 a1 k, LeO (octet_Put.f k a0 a1) (octet_Put.f (k + 1) a0 a1) := by
  intro a0 a1 k
  obtain ⟨ih0, ih1⟩ := octet_Put.mono_l k
  unfold octet_Put.f
  repeat' first
      | (with_reducible exact ih0 _ _ _)
      | (with_reducible exact ih1 _ _ _ _ _)
      | (with_reducible exact LeO.refl _)
      | (with_reducible exact LeO.none _)
      | (with_reducible refine LeO.ite ?_ ?_)
      | (with_reducible refine LeO.bind ?_ (fun _ => ?_))
      | exact ih0 _ _ _
      | exact ih1 _ _ _ _ _
      | exact LeO.none _
      | refine LeO.ite ?_ ?_
      | refine LeO.bind ?_ (fun _ => ?_)
set_option maxHeartbeats 8000000 in
set_option maxRecDepth 100000 in
theorem octet_Put.calls (k : Nat) (a0 : Int) (a1 : Int) (r : ByteArray) (w : World) (h : octet_Put.f k a0 a1 = some r) :
    Calls Try.prog 17 #[.int .i64 a0, .int .i64 a1] w fun e w' => e = .returned (.string r) ∧ Below w.heap.size w w' := by
  have HB := Aside0.mk (Below.refl w.heap.size w)
  have H : (if a1 < 0 then (octet_Put.j0 k a0 a1 true) else (octet_Put.j0 k a0 a1 (decide (a1 > 8)))) = some r := h
  clear h
  have HC3 := Aside0.mk H
  clear H
  go_enter Try.func17, Try.ntmps17
  go_upto_region 1 with (fail)
  go_cut [12] (fun v12 wc => ∃ (kq : Nat) (x12_2 : Bool), v12 = .bool x12_2 ∧ Aside0 (octet_Put.j0 kq a0 a1 x12_2 = some r) ∧ Aside0 (kq ≤ k) ∧ Aside0 (Below w.heap.size w wc))
  case first =>
    have H := HC3.out
    clear HC3
    by_cases c4 : a1 < 0
    · rw [if_pos c4] at H
      have c4b0 : decide (a1 < 0) = true := decide_eq_true c4
      clear c4
      (first | rw [c4b0] | (simp only [i64_w, i32_w]; rw [c4b0]) | skip)
      have H' := Aside0.mk H
      clear H
      go_wp2
      go_meet
      case rel => exact ⟨_, (true), (by first | rfl | (simp; done) | (simp [*]; done)), H', ⟨by first | omega | exact Nat.le_refl _⟩, ⟨by repeat (first | (with_reducible first | exact HB.out | apply below_alloc | apply pw_below_drewN | apply below_drew1) | exact HB.out)⟩⟩
    · rw [if_neg c4] at H
      have c4b0 : decide (a1 < 0) = false := decide_eq_false c4
      clear c4
      (first | rw [c4b0] | (simp only [i64_w, i32_w]; rw [c4b0]) | skip)
      have H' := Aside0.mk H
      clear H
      go_wp2
      go_meet
      case rel => exact ⟨_, (decide (a1 > 8)), (by first | rfl | (simp; done) | (simp [*]; done)), H', ⟨by first | omega | exact Nat.le_refl _⟩, ⟨by repeat (first | (with_reducible first | exact HB.out | apply below_alloc | apply pw_below_drewN | apply below_drew1) | exact HB.out)⟩⟩
  case rest =>
    clear HC3
    try clear c1
    try clear p2
    try clear c4
    try clear c4b0
    obtain ⟨kq, x12_2, rfl, HA, HJ2, HB⟩ := hcut
    cases kq with
    | zero => exact absurd HA.out (by simp [octet_Put.j0])
    | succ kj2 =>
      have H := HA.out
      clear HA
      simp only [octet_Put.j0] at H
      by_cases c5 : x12_2 = true
      · subst c5
        have H1 : (some (⟨#[]⟩ : ByteArray)) = some r := by rw [if_pos rfl] at H; exact H
        clear H
        have H := H1
        clear H1
        obtain rfl := Option.some.inj H
        go_wp2
        go_ret
        exact ⟨by first | rfl | (simp [errW_none, errW_some] <;> rfl) | (simp [*, errW_none, errW_some] <;> rfl), by repeat (first | (with_reducible first | exact HB.out | apply below_alloc | apply pw_below_drewN | apply below_drew1) | exact HB.out)⟩
      · replace c5 := Bool.eq_false_iff.mpr c5
        subst c5
        have H1 : (if 0 ≤ a1 then (if (a1 : Int).toNat ≤ 281474976710656 then ((some (List.replicate (a1 : Int).toNat 0 : List Int)).bind fun y101 => (octet_Put.l0 kj2 a0 a1 y101 (y101.length : Int) 0)) else (none)) else (none)) = some r := by rw [if_neg (show ¬ (false = true) by decide)] at H; exact H
        clear H
        have H := H1
        clear H1
        by_cases c6 : 0 ≤ a1
        · rw [if_pos c6] at H
          have c6b0 := eq_true c6
          have c6b1 : decide (0 ≤ a1) = true := decide_eq_true c6
          clear c6
          by_cases c7 : (a1 : Int).toNat ≤ 281474976710656
          · rw [if_pos c7] at H
            have c7b0 := eq_true c7
            have c7b1 : decide ((a1 : Int).toNat ≤ 281474976710656) = true := decide_eq_true c7
            clear c7
            obtain ⟨y101, hy101⟩ : ∃ y_ : List Int, y_ = (List.replicate (a1 : Int).toNat 0) := ⟨_, rfl⟩
            replace H : (octet_Put.l0 kj2 a0 a1 y101 (y101.length : Int) 0) = some r := by first | (rw [hy101]; with_reducible exact H) | (have H2_ := (Option.bind_some _ _).symm.trans H; rw [hy101]; with_reducible exact H2_) | (have H2_ := (Option.bind_some _ _).symm.trans H; with_reducible exact H2_) | with_reducible exact H | (rw [hy101]; exact H) | exact H
            have Ny101 := Aside0.mk hy101
            clear hy101
            have H' := Aside0.mk H
            clear H
            go_wp2_with (first | ((with_reducible refine gate_dst (N := 14) rfl ?_); refine Kd.R_make (Kd.int .u8) _ 5 rfl (N := 14) rfl 33 _ _ rfl a1 rfl rfl Try.underlying33 (.int .u8 0) 1 info5 rfl (by decide) (by omega) 0 (ok := fun _ => True) (okp := fun _ => True) rfl (fun _ hk => hk) trivial (of_decide_eq_true (by first | (with_reducible assumption) | assumption)) (Nat.le_trans (Nat.mul_le_mul_right _ (of_decide_eq_true (by first | (with_reducible assumption) | assumption) : a1.toNat ≤ 281474976710656)) (by omega)) (Below.refl _ _) (Nat.le_refl _) ?_; intro v102 w8 ho9 hb hg_ hnew_; clear hg_ hnew_; (first | rw [← Ny101.out] at ho9 | (simp only [Int.reduceToNat] at ho9; rw [← Ny101.out] at ho9)); have n0_ := Aside0.mk (Kd.R_lower ho9 (below_size (by repeat (first | (with_reducible first | exact HB.out | apply below_alloc | apply pw_below_drewN | apply below_drew1) | exact HB.out)))); have n1_ := Aside0.mk (below_step (by repeat (first | (with_reducible first | exact HB.out | apply below_alloc | apply pw_below_drewN | apply below_drew1) | exact HB.out)) hb); clear HB; have HO103 := n0_; have HB := n1_; clear n0_ n1_; clear hb ho9; obtain ⟨Ao10, co10, eo10⟩ := Kd.R_slice HO103.out; subst eo10))
            go_loopg [17] kj2 (fun kq v17 w' => ∃ (x5_2 : List Int) (x17_2 : Int), v17 = .int .i64 x17_2 ∧ Aside0 (octet_Put.l0 kq a0 a1 x5_2 (y101.length : Int) x17_2 = some r) ∧ Aside0 (kq ≤ kj2) ∧ Aside0 (Kd.R (Kd.int .u8) 5 w' w.heap.size (fun _ => True) (.slice Ao10 y101.length co10) x5_2) ∧ Aside0 (Below w.heap.size w w'))
            case atStart => exact ⟨(y101), (0), (by first | rfl | (simp; done) | (simp [*]; done)), H', ⟨Nat.le_refl _⟩, ⟨by (with_reducible repeat (first | apply Kd.R_alloc | apply Kd.R_drewN | apply Kd.R_drew)); exact HO103.out⟩, ⟨by repeat (first | (with_reducible first | exact HB.out | apply below_alloc | apply pw_below_drewN | apply below_drew1) | exact HB.out)⟩⟩
            case round =>
              clear H'
              try clear c1
              try clear p2
              try clear c4
              try clear c4b0
              try clear c5
              try clear c6
              try clear c6b0
              try clear c6b1
              try clear c7
              try clear c7b0
              try clear c7b1
              try clear p2
              obtain ⟨x5_2, x17_2, rfl, HA, HK2, HO_5, HB⟩ := hrel
              have hl5_2 := (Kd.R_reads' HO_5.out).1
              rw [hl5_2] at HO_5
              (try simp only [hl5_2])
              cases gk with
              | zero => exact absurd HA.out (by simp [octet_Put.l0])
              | succ k2 =>
                have H := HA.out
                clear HA
                simp only [octet_Put.l0] at H
                by_cases c11 : x17_2 < (y101.length : Int)
                · rw [if_pos c11] at H
                  have c11b0 : decide (x17_2 < (y101.length : Int)) = true := decide_eq_true c11
                  (try rw [hl5_2] at c11b0)
                  clear c11
                  obtain ⟨ji12, hji12⟩ : ∃ j_ : Int, (wrap64 (8 * x17_2)) = j_ := ⟨_, rfl⟩
                  replace H : (if 0 ≤ (ji12) then (if 0 ≤ (wrap64 ((wrap64 (a1 - 1)) - x17_2)) then (if (wrap64 ((wrap64 (a1 - 1)) - x17_2)) < (x5_2.length : Int) then (octet_Put.l0 k2 a0 a1 (x5_2.set ((wrap64 ((wrap64 (a1 - 1)) - x17_2)) : Int).toNat ((shr .i64 a0 (ji12)) % 256)) (y101.length : Int) (wrap64 (x17_2 + 1))) else (none)) else (none)) else (none)) = some r := by first | (rw [hji12] at H; exact H) | (simp only [hji12] at H ⊢; exact H)
                  have hji12w : (IntKind.i64.wrap (8 * x17_2)) = ji12 := (i64_w _).trans hji12
                  by_cases c13 : 0 ≤ (ji12)
                  · rw [if_pos c13] at H
                    have c13b0 := eq_true c13
                    have c13b1 : decide (0 ≤ (ji12)) = true := decide_eq_true c13
                    (try rw [hl5_2] at c13b1)
                    clear c13
                    obtain ⟨ji14, hji14⟩ : ∃ j_ : Int, (shr .i64 a0 (ji12)) = j_ := ⟨_, rfl⟩
                    (try rw [hji14] at hji12)
                    (try rw [hji14] at hji12w)
                    replace H : (if 0 ≤ (wrap64 ((wrap64 (a1 - 1)) - x17_2)) then (if (wrap64 ((wrap64 (a1 - 1)) - x17_2)) < (x5_2.length : Int) then (octet_Put.l0 k2 a0 a1 (x5_2.set ((wrap64 ((wrap64 (a1 - 1)) - x17_2)) : Int).toNat ((ji14) % 256)) (y101.length : Int) (wrap64 (x17_2 + 1))) else (none)) else (none)) = some r := by first | (rw [hji14] at H; exact H) | (simp only [hji14] at H ⊢; exact H)
                    have hji14_ : (a0 / 2 ^ min (ji12).toNat 64) = ji14 := hji14
                    have hji14z : (ji12) ≤ 64 → (a0 / 2 ^ (ji12).toNat) = ji14 := shr_small hji14
                    obtain ⟨ji15, hji15⟩ : ∃ j_ : Int, (wrap64 ((wrap64 (a1 - 1)) - x17_2)) = j_ := ⟨_, rfl⟩
                    (try rw [hji15] at hji12)
                    (try rw [hji15] at hji12w)
                    (try rw [hji15] at hji14)
                    (try rw [hji15] at hji14w)
                    replace H : (if 0 ≤ (ji15) then (if (ji15) < (x5_2.length : Int) then (octet_Put.l0 k2 a0 a1 (x5_2.set ((ji15) : Int).toNat ((ji14) % 256)) (y101.length : Int) (wrap64 (x17_2 + 1))) else (none)) else (none)) = some r := by first | (rw [hji15] at H; exact H) | (simp only [hji15] at H ⊢; exact H)
                    have hji15w : (IntKind.i64.wrap ((wrap64 (a1 - 1)) - x17_2)) = ji15 := (i64_w _).trans hji15
                    by_cases c16 : 0 ≤ (ji15)
                    · rw [if_pos c16] at H
                      have c16b0 : decide (0 ≤ (ji15)) = true := decide_eq_true c16
                      (try rw [hl5_2] at c16b0)
                      clear c16
                      by_cases c17 : (ji15) < (x5_2.length : Int)
                      · rw [if_pos c17] at H
                        have c17b0 : decide ((ji15) < (x5_2.length : Int)) = true := decide_eq_true c17
                        (try rw [hl5_2] at c17b0)
                        clear c17
                        obtain ⟨y104, hy104⟩ : ∃ y_ : List Int, y_ = (x5_2.set ((ji15) : Int).toNat ((ji14) % 256)) := ⟨_, rfl⟩
                        replace H : (octet_Put.l0 k2 a0 a1 y104 (y101.length : Int) (wrap64 (x17_2 + 1))) = some r := by first | (rw [hy104]; with_reducible exact H) | (have H2_ := (Option.bind_some _ _).symm.trans H; rw [hy104]; with_reducible exact H2_) | (have H2_ := (Option.bind_some _ _).symm.trans H; with_reducible exact H2_) | with_reducible exact H | (rw [hy104]; exact H) | exact H
                        have Ny104 := Aside0.mk hy104
                        clear hy104
                        have H' := Aside0.mk H
                        clear H
                        have p18 : 0 ≤ ((ji15) : Int) := of_decide_eq_true (by first | (with_reducible assumption) | assumption)
                        have q18 : ((ji15) : Int) < ((x5_2.length : Int) : Int) := of_decide_eq_true (by first | (with_reducible assumption) | assumption)
                        obtain ⟨go18, co18, eo18, gb18, gl18, cl18, HG18⟩ := Kd.R_form HO_5.out (by omega)
                        (first | cases eo18 | (injection eo18 with ea_ en_ ec_; (first | subst ea_ | (injection ea_ with ea_; subst ea_)); subst ec_; clear en_))
                        have GB18 := Aside0.mk gb18
                        have GG18 := Aside0.mk HG18
                        clear gb18 gl18 HG18
                        obtain ⟨hx18_0, hf18_0⟩ := Kd.R_celln 0 HO_5.out ((ji15) : Int) p18 q18
                        replace p18 := eq_true p18
                        replace q18 := eq_true q18
                        have HP19 := Kd.R_putg HO_5.out ((ji15) : Int) ((ji14) % 256)
                        go_wp2_with (first | ((with_reducible refine gate_store (t := 5) (p := 30) rfl ?_); refine store_event (t := 5) (p := 30) (v := ?vo_w20) (w1 := (wr.setCell ⟨go18, ((ji15) : Int).toNat, none⟩ (.int .u8 ((ji14) % 256)))) ?hg ?ho ?hn ?hr ?_; (case ho => rfl); (case hg => rfl); (case hn => rfl); (case hr => first | (go_simp; done) | (go_simp; rfl)); intro w20 hw; have hg : wr.grownBy w20 (some go18) := (by rw [hw]; exact HP19.2); have hp_ : Kd.R (Kd.int .u8) 5 w20 w.heap.size (fun _ => True) (.slice (some ⟨go18, 0, none⟩) x5_2.length co10) y104 := (by rw [hw, Ny104.out]; exact HP19.1); clear HP19; have n0_ := Aside0.mk (hp_); have n1_ := Aside0.mk ((by rw [hw]; exact below_set (HB.out) GB18.out : Below w.heap.size w w20)); clear HO_5; clear HB; have HO_5 := n0_; have HB := n1_; clear n0_ n1_; clear hg hw hp_))
                        (try simp only [← hl5_2])
                        go_roundg k2
                        case measure => have := HJ2.out; have := HK2.out; omega
                        case rel => exact ⟨(y104), (wrap64 (x17_2 + 1)), (by first | rfl | (simp; done) | (simp [*]; done)), H', ⟨by have := HJ2.out; have := HK2.out; omega⟩, ⟨by (try simp only [hl5_2]); (with_reducible repeat (first | apply Kd.R_alloc | apply Kd.R_drewN | apply Kd.R_drew)); exact HO_5.out⟩, ⟨by repeat (first | (with_reducible first | exact HB.out | apply below_alloc | apply pw_below_drewN | apply below_drew1) | exact HB.out)⟩⟩
                      · rw [if_neg c17] at H
                        exact absurd H (by simp)
                    · rw [if_neg c16] at H
                      exact absurd H (by simp)
                  · rw [if_neg c13] at H
                    exact absurd H (by simp)
                · rw [if_neg c11] at H
                  have c11b0 : decide (x17_2 < (y101.length : Int)) = false := decide_eq_false c11
                  (try rw [hl5_2] at c11b0)
                  clear c11
                  obtain rfl := Option.some.inj H
                  have hcv21 := own_string (P := Try.prog) Try.underlying33 Try.underlying5 Try.underlying9 (Kd.own_of_R HO_5.out)
                  go_wp2
                  go_ret
                  exact ⟨by first | rfl | (simp [errW_none, errW_some] <;> rfl) | (simp [*, errW_none, errW_some] <;> rfl), by repeat (first | (with_reducible first | exact HB.out | apply below_alloc | apply pw_below_drewN | apply below_drew1) | exact HB.out)⟩
          · rw [if_neg c7] at H
            exact absurd H (by simp)
        · rw [if_neg c6] at H
          exact absurd H (by simp)

/-- A state of type 52 at block g of W; what its slices lead to came in by w0. -/
def IsS52 (w0 W : World) (g : Nat) (f0 : ByteArray) (f1 : Int) (f2 : Bool) : Prop := W.heap[g]? = some (.cells #[.string f0, .int .i64 f1, .bool f2] 52 (0, 0)) ∧ w0.heap.size ≤ g
theorem IsS52.grown {w0 W : World} {g : Nat} {f0 : ByteArray} {f1 : Int} {f2 : Bool} {W1 : World} {row : Option Nat} (h : IsS52 w0 W g f0 f1 f2) (hw : W.grownBy W1 row) (hne : some g ≠ row) : IsS52 w0 W1 g f0 f1 f2 := by
  obtain ⟨hb, hg⟩ := h
  exact ⟨blk_grown hb hw hne, hg⟩
theorem IsS52.own_neN {w0 W : World} {g : Nat} {f0 : ByteArray} {f1 : Int} {f2 : Bool} {α : Type} {d : Kd α} {e : Nat} {base : Nat} {ok : Nat → Prop} {v : Value} {xs : List α} (h : IsS52 w0 W g f0 f1 f2) (ho : Kd.N d e W base ok v xs) (ht : e ≠ 52) : some g ≠ v.ownBlock := by
  obtain ⟨hb, hg⟩ := h
  exact Kd.N_ne ho hb ht
theorem IsS52.fresh {w0 W : World} {g : Nat} {f0 : ByteArray} {f1 : Int} {f2 : Bool} (h : IsS52 w0 W g f0 f1 f2) : ∀ k, W.heap.size ≤ k → k ≠ g := by
  obtain ⟨hb, hg⟩ := h
  exact Kd.freshB hb
theorem IsS52.kept {w0 W : World} {g : Nat} {f0 : ByteArray} {f1 : Int} {f2 : Bool} {W1 : World} {S : Nat → Prop} (h : IsS52 w0 W g f0 f1 f2) (hk : Kept W W1 S) (hne : ¬ S g) : IsS52 w0 W1 g f0 f1 f2 := by
  obtain ⟨hb, hg⟩ := h
  exact ⟨blk_kept hb hk hne, hg⟩
theorem IsS52.below {w0 W : World} {g : Nat} {f0 : ByteArray} {f1 : Int} {f2 : Bool} {W1 : World} (h : IsS52 w0 W g f0 f1 f2) (hw : Below W.heap.size W W1) : IsS52 w0 W1 g f0 f1 f2 := h.grown (grown_of_below hw none) (by simp)
theorem IsS52.keepB {w0 W : World} {g : Nat} {f0 : ByteArray} {f1 : Int} {f2 : Bool} {W1 : World} {g1 : Nat} (hk : KeepBut W W1 g1 none) (h : IsS52 w0 W g f0 f1 f2) (hne : g ≠ g1) : IsS52 w0 W1 g f0 f1 f2 := by
  obtain ⟨hb, hg⟩ := h
  exact ⟨KeepBut.blk hk hb hne (by simp), hg⟩
theorem IsS52.alloc {w0 W : World} {g : Nat} {f0 : ByteArray} {f1 : Int} {f2 : Bool} (h : IsS52 w0 W g f0 f1 f2) (o : Obj) : IsS52 w0 (W.alloc o) g f0 f1 f2 := h.below (below_alloc (Below.refl _ _) o)
theorem IsS52.drewN {w0 W : World} {g : Nat} {f0 : ByteArray} {f1 : Int} {f2 : Bool} (h : IsS52 w0 W g f0 f1 f2) (m : Nat) : IsS52 w0 (W.drewN m) g f0 f1 f2 := h
theorem IsS52.drew {w0 W : World} {g : Nat} {f0 : ByteArray} {f1 : Int} {f2 : Bool} (h : IsS52 w0 W g f0 f1 f2) : IsS52 w0 W.drew g f0 f1 f2 := h
theorem IsS52.at_ {w0 W : World} {g : Nat} {f0 : ByteArray} {f1 : Int} {f2 : Bool} {w' : World} {m : Nat} (hq : W.drewN m = w') (h : IsS52 w0 W g f0 f1 f2) : IsS52 w0 w' g f0 f1 f2 := by subst hq; exact IsS52.drewN h m
theorem IsS52.apart {w0 W : World} {g : Nat} {f0 : ByteArray} {f1 : Int} {f2 : Bool} {α : Type} {d : Kd α} {e : Nat} {base : Nat} {ok : Nat → Prop} {v : Value} {xs : List α} (h : IsS52 w0 W g f0 f1 f2) (ho : d.R e W base ok v xs) (ht : ∀ q, q ∈ e :: d.E → q ≠ 52) : d.R e W base (fun k => ok k ∧ k ≠ g) v xs := by
  obtain ⟨hb, hg⟩ := h
  exact Kd.R_types ho hb ht
theorem IsS52.own_ne {w0 W : World} {g : Nat} {f0 : ByteArray} {f1 : Int} {f2 : Bool} {α : Type} {d : Kd α} {e : Nat} {base : Nat} {ok : Nat → Prop} {v : Value} {xs : List α} (h : IsS52 w0 W g f0 f1 f2) (ho : d.R e W base ok v xs) (ht : e ≠ 52) : some g ≠ v.ownBlock := by
  obtain ⟨hb, hg⟩ := h
  exact Kd.R_ne ho hb ht
theorem IsS52.apartQ {w0 W : World} {g : Nat} {f0 : ByteArray} {f1 : Int} {f2 : Bool} {α : Type} {d : Kd α} {e : Nat} {base : Nat} {ok : Nat → Prop} {v : Value} {xs : List α} (h : IsS52 w0 W g f0 f1 f2) (ho : d.Q e W base ok v xs) (ht : ∀ q, q ∈ e :: d.E → q ≠ 52) : d.Q e W base (fun k => ok k ∧ k ≠ g) v xs := by
  obtain ⟨hb, hg⟩ := h
  exact Kd.Q_types ho hb ht
theorem IsS52.own_neQ {w0 W : World} {g : Nat} {f0 : ByteArray} {f1 : Int} {f2 : Bool} {α : Type} {d : Kd α} {e : Nat} {base : Nat} {ok : Nat → Prop} {v : Value} {xs : List α} (h : IsS52 w0 W g f0 f1 f2) (ho : d.Q e W base ok v xs) (ht : e ≠ 52) : some g ≠ v.ownBlock := by
  obtain ⟨hb, hg⟩ := h
  exact Kd.Q_ne ho hb ht
theorem IsS52.apartS {w0 W : World} {g : Nat} {f0 : ByteArray} {f1 : Int} {f2 : Bool} {α : Type} {d : Kd α} {e : Nat} {base : Nat} {ok : Nat → Prop} {v : Value} {xs : List α} (h : IsS52 w0 W g f0 f1 f2) (ho : d.S e W base ok v xs) (ht : ∀ q, q ∈ e :: d.E → q ≠ 52) : d.S e W base (fun k => ok k ∧ k ≠ g) v xs := by
  obtain ⟨hb, hg⟩ := h
  exact Kd.S_types ho hb ht
theorem IsS52.own_neS {w0 W : World} {g : Nat} {f0 : ByteArray} {f1 : Int} {f2 : Bool} {α : Type} {d : Kd α} {e : Nat} {base : Nat} {ok : Nat → Prop} {v : Value} {xs : List α} (h : IsS52 w0 W g f0 f1 f2) (ho : d.S e W base ok v xs) (ht : e ≠ 52) : some g ≠ v.ownBlock := by
  obtain ⟨hb, hg⟩ := h
  exact Kd.S_ne ho hb ht
theorem IsS52.lt {w0 W : World} {g : Nat} {f0 : ByteArray} {f1 : Int} {f2 : Bool} (h : IsS52 w0 W g f0 f1 f2) : g < W.heap.size := by
  obtain ⟨hb, hg⟩ := h
  exact blk_lt hb
theorem IsS52.ge {w0 W : World} {g : Nat} {f0 : ByteArray} {f1 : Int} {f2 : Bool} (h : IsS52 w0 W g f0 f1 f2) : w0.heap.size ≤ g := by
  obtain ⟨hb, hg⟩ := h
  exact hg
theorem IsS52.ne_blk {w0 W : World} {g : Nat} {f0 : ByteArray} {f1 : Int} {f2 : Bool} {a : Nat} {cs : Array Value} {t : TypeId} {fr : Nat × Nat} (h : IsS52 w0 W g f0 f1 f2) (hb2 : W.heap[a]? = some (.cells cs t fr)) (ht : t ≠ 52) : g ≠ a := by
  obtain ⟨hb, hg⟩ := h
  rintro rfl
  rw [hb] at hb2
  injection hb2 with hb2
  injection hb2 with _ ht2
  exact ht ht2.symm
theorem IsS52.far {w0 W : World} {g : Nat} {f0 : ByteArray} {f1 : Int} {f2 : Bool} {p : Addr} (h : IsS52 w0 W g f0 f1 f2) (hne : g ≠ p.block) (u : Value) : IsS52 w0 (W.setCell p u) g f0 f1 f2 := by
  obtain ⟨hb, hg⟩ := h
  exact ⟨blk_far hb hne u, hg⟩
theorem cellS52_0 {W : World} {g : Nat} {f0 : ByteArray} {f1 : Int} {f2 : Bool} (h : W.heap[g]? = some (.cells #[.string f0, .int .i64 f1, .bool f2] 52 (0, 0))) : W.cell? ⟨g, 0, none⟩ = some (.string f0) := (blk_cell h 0).trans rfl
theorem IsS52.set_0 {w0 W : World} {g : Nat} {f0 : ByteArray} {f1 : Int} {f2 : Bool} (h : IsS52 w0 W g f0 f1 f2) (x : ByteArray) : IsS52 w0 (W.setCell ⟨g, 0, none⟩ (.string x)) g x f1 f2 := by
  obtain ⟨hb, hg⟩ := h
  exact ⟨by simpa using blk_set hb 0 (.string x), hg⟩
theorem cellS52_1 {W : World} {g : Nat} {f0 : ByteArray} {f1 : Int} {f2 : Bool} (h : W.heap[g]? = some (.cells #[.string f0, .int .i64 f1, .bool f2] 52 (0, 0))) : W.cell? ⟨g, 1, none⟩ = some (.int .i64 f1) := (blk_cell h 1).trans rfl
theorem IsS52.set_1 {w0 W : World} {g : Nat} {f0 : ByteArray} {f1 : Int} {f2 : Bool} (h : IsS52 w0 W g f0 f1 f2) (x : Int) : IsS52 w0 (W.setCell ⟨g, 1, none⟩ (.int .i64 x)) g f0 x f2 := by
  obtain ⟨hb, hg⟩ := h
  exact ⟨by simpa using blk_set hb 1 (.int .i64 x), hg⟩
theorem cellS52_2 {W : World} {g : Nat} {f0 : ByteArray} {f1 : Int} {f2 : Bool} (h : W.heap[g]? = some (.cells #[.string f0, .int .i64 f1, .bool f2] 52 (0, 0))) : W.cell? ⟨g, 2, none⟩ = some (.bool f2) := (blk_cell h 2).trans rfl
theorem IsS52.set_2 {w0 W : World} {g : Nat} {f0 : ByteArray} {f1 : Int} {f2 : Bool} (h : IsS52 w0 W g f0 f1 f2) (x : Bool) : IsS52 w0 (W.setCell ⟨g, 2, none⟩ (.bool x)) g f0 f1 x := by
  obtain ⟨hb, hg⟩ := h
  exact ⟨by simpa using blk_set hb 2 (.bool x), hg⟩
theorem IsS52.new (w0 W : World) (f0 : ByteArray) (f1 : Int) (f2 : Bool) (hB : Below w0.heap.size w0 W) : IsS52 w0 (W.alloc (.cells #[.string f0, .int .i64 f1, .bool f2] 52)) W.heap.size f0 f1 f2 := ⟨by simpa using heap_alloc_new W _, hB.size⟩

/-! ### octet_Read: function 13 -/
def octet_Read.f (a0 : ByteArray) : Option (ByteArray × Int × Bool) := some (a0, 0, false)
set_option maxHeartbeats 8000000 in
set_option maxRecDepth 100000 in
theorem octet_Read.calls (a0 : ByteArray) (r1 : ByteArray) (r2 : Int) (r3 : Bool) (w0 w : World) (hB : Below w0.heap.size w0 w) (h : octet_Read.f a0 = some (r1, r2, r3)) :
    Calls Try.prog 13 #[.string a0] w fun e w' => ∃ g_ : Nat, e = .returned (.pointer (some ⟨g_, 0, none⟩)) ∧ IsS52 w0 w' g_ r1 r2 r3 ∧ Below w0.heap.size w0 w' ∧ Below w.heap.size w w' := by
  have hu52 := Try.underlying52
  have HBW := Aside0.mk (Below.refl w.heap.size w)
  have HW0 := Aside0.mk hB.size
  have HB := Aside0.mk hB
  clear hB
  have H : (some (a0, 0, false)) = some (r1, r2, r3) := h
  clear h
  simp only [Option.some.injEq, Prod.mk.injEq] at H
  obtain ⟨rfl, rfl, rfl⟩ := H
  go_enter Try.func13, Try.ntmps13
  go_wp2_with (first | ((with_reducible refine gate_dst (N := 5) rfl ?_); refine box_event ?hg (N := 5) ?hd (cs := #[.string a0, .int .i64 0, .bool false]) (t := 52) ?hr ?_; (case hd => rfl); (case hg => rfl); (case hr => first | (go_simp; done) | (go_simp; rfl)); intro gb105 hg w2 hbox hb; have n0_ := Aside0.mk (below_step HBW.out hb); have n1_ := Aside0.mk (below_step (by repeat (first | (with_reducible first | exact HB.out | apply below_alloc | apply pw_below_drewN | apply below_drew1) | exact HB.out)) hb); have n2_ := Aside0.mk (hbox); have n3_ := Aside0.mk ((by rw [hg]; exact (below_size (by repeat (first | (with_reducible first | exact HBW.out | apply below_alloc | apply pw_below_drewN | apply below_drew1) | exact HBW.out))) : w.heap.size ≤ gb105)); have n4_ := Aside0.mk ((Nat.le_trans HW0.out (by rw [hg]; exact (below_size (by repeat (first | (with_reducible first | exact HBW.out | apply below_alloc | apply pw_below_drewN | apply below_drew1) | exact HBW.out))) : w.heap.size ≤ gb105) : w0.heap.size ≤ gb105)); clear HBW; clear HB; have HBW := n0_; have HB := n1_; have BK105 := n2_; have GW105 := n3_; have GE105 := n4_; clear n0_ n1_ n2_ n3_ n4_; clear hb hbox hg))
  go_ret
  exact ⟨_, rfl, (show IsS52 w0 _ gb105 a0 0 false from ⟨by (with_reducible repeat (first | refine blk_drewN ?_ _ | refine blk_drew ?_ | refine blk_alloc ?_ _)); exact BK105.out, GE105.out⟩), by repeat (first | (with_reducible first | exact HB.out | apply below_alloc | apply pw_below_drewN | apply below_drew1 | refine below_set ?_ GE105.out) | exact HB.out), by repeat (first | (with_reducible first | exact HBW.out | apply below_alloc | apply pw_below_drewN | apply below_drew1 | refine below_set ?_ GW105.out) | exact HBW.out)⟩

/-! ### octet_Reader_Failed: function 16 -/
def octet_Reader_Failed.f (s0_0 : ByteArray) (s0_1 : Int) (s0_2 : Bool) : Option (Bool × ByteArray × Int × Bool) := some (s0_2, s0_0, s0_1, s0_2)
set_option maxHeartbeats 8000000 in
set_option maxRecDepth 100000 in
theorem octet_Reader_Failed.calls (g : Nat) (s0_0 : ByteArray) (s0_1 : Int) (s0_2 : Bool) (r1 : Bool) (r2 : ByteArray) (r3 : Int) (r4 : Bool) (w0 w : World) (hI : IsS52 w0 w g s0_0 s0_1 s0_2) (hB : Below w0.heap.size w0 w) (h : octet_Reader_Failed.f s0_0 s0_1 s0_2 = some (r1, r2, r3, r4)) :
    Calls Try.prog 16 #[.pointer (some ⟨g, 0, none⟩)] w fun e w' => e = .returned (.bool r1) ∧ IsS52 w0 w' g r2 r3 r4 ∧ Below w0.heap.size w0 w' ∧ KeepBut w w' g none := by
  have HI0 := Aside0.mk hI
  have HK := Aside0.mk (KeepBut.refl w g none)
  have HL := Aside0.mk hB.size
  clear hI
  have HW0 := Aside0.mk hB.size
  have HB := Aside0.mk hB
  clear hB
  have H : (some (s0_2, s0_0, s0_1, s0_2)) = some (r1, r2, r3, r4) := h
  clear h
  simp only [Option.some.injEq, Prod.mk.injEq] at H
  obtain ⟨rfl, rfl, rfl, rfl⟩ := H
  obtain ⟨HGz2, hgz2⟩ := HI0.out
  have hcz2_0 := cellS52_0 HGz2
  have hcz2_1 := cellS52_1 HGz2
  have hcz2_2 := cellS52_2 HGz2
  have hfz2_0 := blk_frozen HGz2 0
  have hfz2_1 := blk_frozen HGz2 1
  have hfz2_2 := blk_frozen HGz2 2
  clear HGz2 hgz2
  go_enter Try.func16, Try.ntmps16
  go_wp2
  go_ret
  exact ⟨by first | rfl | (simp [errW_none, errW_some] <;> rfl) | (simp [*, errW_none, errW_some] <;> rfl), by repeat (first | (with_reducible first | exact HI0.out | apply IsS52.alloc | apply IsS52.drewN | apply IsS52.drew | apply IsS52.set_0 | apply IsS52.set_1 | apply IsS52.set_2) | exact HI0.out), by repeat (first | (with_reducible first | exact HB.out | apply below_alloc | apply pw_below_drewN | apply below_drew1 | refine below_set ?_ (IsS52.ge HI0.out)) | exact HB.out), by repeat (first | (with_reducible first | exact HK.out | apply KeepBut.set_ | apply keep_drewN | apply keep_drew | apply keep_alloc) | exact HK.out)⟩

def octet_Reader_Failed_nil.f : Option (Bool) := some true
theorem failed_nil (w : World) : Calls Try.prog 16 #[.pointer none] w fun e w' => e = .returned (.bool true) ∧ w = w' := by
  go_enter Try.func16, Try.ntmps16
  go_wp2
  go_ret
  exact ⟨rfl, rfl⟩
theorem octet_Reader_Failed_nil.calls (r : Bool) (w : World) (h : octet_Reader_Failed_nil.f = some r) : Calls Try.prog 16 #[.pointer none] w fun e w' => e = .returned (.bool r) ∧ Below w.heap.size w w' := by
  cases h
  refine (failed_nil w).mono ?_
  rintro e w' ⟨rfl, rfl⟩
  exact ⟨rfl, Below.refl _ _⟩

theorem octet_Reader_Failed.still {s0 s0' : ByteArray} {s1 s1' : Int} {s2 s2' : Bool} {r : Bool} (h : octet_Reader_Failed.f s0 s1 s2 = some (r, s0', s1', s2')) : s0 = s0' ∧ s1 = s1' ∧ s2 = s2' := by
  unfold octet_Reader_Failed.f at h
  cases h
  exact ⟨rfl, rfl, rfl⟩

/-! ### octet_Reader_Left: function 26 -/
def octet_Reader_Left.f (s0_0 : ByteArray) (s0_1 : Int) (s0_2 : Bool) : Option (Int × ByteArray × Int × Bool) := some (wrap64 ((s0_0.size : Int) - s0_1), s0_0, s0_1, s0_2)
set_option maxHeartbeats 8000000 in
set_option maxRecDepth 100000 in
theorem octet_Reader_Left.calls (g : Nat) (s0_0 : ByteArray) (s0_1 : Int) (s0_2 : Bool) (r1 : Int) (r2 : ByteArray) (r3 : Int) (r4 : Bool) (w0 w : World) (hI : IsS52 w0 w g s0_0 s0_1 s0_2) (hB : Below w0.heap.size w0 w) (h : octet_Reader_Left.f s0_0 s0_1 s0_2 = some (r1, r2, r3, r4)) :
    Calls Try.prog 26 #[.pointer (some ⟨g, 0, none⟩)] w fun e w' => e = .returned (.int .i64 r1) ∧ IsS52 w0 w' g r2 r3 r4 ∧ Below w0.heap.size w0 w' ∧ KeepBut w w' g none := by
  have HI0 := Aside0.mk hI
  have HK := Aside0.mk (KeepBut.refl w g none)
  have HL := Aside0.mk hB.size
  clear hI
  have HW0 := Aside0.mk hB.size
  have HB := Aside0.mk hB
  clear hB
  have H : (some (wrap64 ((s0_0.size : Int) - s0_1), s0_0, s0_1, s0_2)) = some (r1, r2, r3, r4) := h
  clear h
  simp only [Option.some.injEq, Prod.mk.injEq] at H
  obtain ⟨rfl, rfl, rfl, rfl⟩ := H
  obtain ⟨HGz2, hgz2⟩ := HI0.out
  have hcz2_0 := cellS52_0 HGz2
  have hcz2_1 := cellS52_1 HGz2
  have hcz2_2 := cellS52_2 HGz2
  have hfz2_0 := blk_frozen HGz2 0
  have hfz2_1 := blk_frozen HGz2 1
  have hfz2_2 := blk_frozen HGz2 2
  clear HGz2 hgz2
  go_enter Try.func26, Try.ntmps26
  go_wp2
  repeat (go_quiet (fail); try go_wp2)
  go_ret
  exact ⟨by first | rfl | (simp [errW_none, errW_some] <;> rfl) | (simp [*, errW_none, errW_some] <;> rfl), by repeat (first | (with_reducible first | exact HI0.out | apply IsS52.alloc | apply IsS52.drewN | apply IsS52.drew | apply IsS52.set_0 | apply IsS52.set_1 | apply IsS52.set_2) | exact HI0.out), by repeat (first | (with_reducible first | exact HB.out | apply below_alloc | apply pw_below_drewN | apply below_drew1 | refine below_set ?_ (IsS52.ge HI0.out)) | exact HB.out), by repeat (first | (with_reducible first | exact HK.out | apply KeepBut.set_ | apply keep_drewN | apply keep_drew | apply keep_alloc) | exact HK.out)⟩

def octet_Reader_Left_nil.f : Option (Int) := some 0
theorem left_nil (w : World) : Calls Try.prog 26 #[.pointer none] w fun e w' => e = .returned (.int .i64 0) ∧ w = w' := by
  go_enter Try.func26, Try.ntmps26
  go_wp2
  go_ret
  exact ⟨rfl, rfl⟩
theorem octet_Reader_Left_nil.calls (r : Int) (w : World) (h : octet_Reader_Left_nil.f = some r) : Calls Try.prog 26 #[.pointer none] w fun e w' => e = .returned (.int .i64 r) ∧ Below w.heap.size w w' := by
  cases h
  refine (left_nil w).mono ?_
  rintro e w' ⟨rfl, rfl⟩
  exact ⟨rfl, Below.refl _ _⟩

theorem octet_Reader_Left.still {s0 s0' : ByteArray} {s1 s1' : Int} {s2 s2' : Bool} {r : Int} (h : octet_Reader_Left.f s0 s1 s2 = some (r, s0', s1', s2')) : s0 = s0' ∧ s1 = s1' ∧ s2 = s2' := by
  unfold octet_Reader_Left.f at h
  cases h
  exact ⟨rfl, rfl, rfl⟩

/-! ### octet_Reader_fail: function 33 -/
def octet_Reader_fail.f (s0_0 : ByteArray) (s0_1 : Int) (s0_2 : Bool) : Option (ByteArray × Int × Bool) := some (s0_0, s0_1, true)
set_option maxHeartbeats 8000000 in
set_option maxRecDepth 100000 in
theorem octet_Reader_fail.calls (g : Nat) (s0_0 : ByteArray) (s0_1 : Int) (s0_2 : Bool) (r1 : ByteArray) (r2 : Int) (r3 : Bool) (w0 w : World) (hI : IsS52 w0 w g s0_0 s0_1 s0_2) (hB : Below w0.heap.size w0 w) (h : octet_Reader_fail.f s0_0 s0_1 s0_2 = some (r1, r2, r3)) :
    Calls Try.prog 33 #[.pointer (some ⟨g, 0, none⟩)] w fun e w' => e = .returned (.tuple #[]) ∧ IsS52 w0 w' g r1 r2 r3 ∧ Below w0.heap.size w0 w' ∧ KeepBut w w' g none := by
  have HI0 := Aside0.mk hI
  have HK := Aside0.mk (KeepBut.refl w g none)
  have HL := Aside0.mk hB.size
  clear hI
  have HW0 := Aside0.mk hB.size
  have HB := Aside0.mk hB
  clear hB
  have H : (some (s0_0, s0_1, true)) = some (r1, r2, r3) := h
  clear h
  simp only [Option.some.injEq, Prod.mk.injEq] at H
  obtain ⟨rfl, rfl, rfl⟩ := H
  obtain ⟨HGz2, hgz2⟩ := HI0.out
  have hcz2_0 := cellS52_0 HGz2
  have hcz2_1 := cellS52_1 HGz2
  have hcz2_2 := cellS52_2 HGz2
  have hfz2_0 := blk_frozen HGz2 0
  have hfz2_1 := blk_frozen HGz2 1
  have hfz2_2 := blk_frozen HGz2 2
  clear HGz2 hgz2
  go_enter Try.func33, Try.ntmps33
  go_wp2
  first | go_end0 | ((try simp only [Exit.inBlock, Exit.then]); refine bodyPost_ret (results_none rfl _ _ _) rfl ?_)
  exact ⟨by first | rfl | (simp [errW_none, errW_some] <;> rfl) | (simp [*, errW_none, errW_some] <;> rfl), by repeat (first | (with_reducible first | exact HI0.out | apply IsS52.alloc | apply IsS52.drewN | apply IsS52.drew | apply IsS52.set_0 | apply IsS52.set_1 | apply IsS52.set_2) | exact HI0.out), by repeat (first | (with_reducible first | exact HB.out | apply below_alloc | apply pw_below_drewN | apply below_drew1 | refine below_set ?_ (IsS52.ge HI0.out)) | exact HB.out), by repeat (first | (with_reducible first | exact HK.out | apply KeepBut.set_ | apply keep_drewN | apply keep_drew | apply keep_alloc) | exact HK.out)⟩

/-! ### octet_Reader_Take: function 15 -/
def octet_Reader_Take.f (s0_0 : ByteArray) (s0_1 : Int) (s0_2 : Bool) (a1 : Int) : Option (ByteArray × ByteArray × Int × Bool) := (octet_Reader_Failed.f s0_0 s0_1 s0_2).bind fun bt106 => (if bt106.1 = true then ((octet_Reader_fail.f bt106.2.1 bt106.2.2.1 bt106.2.2.2).bind fun bt110 => (some ((⟨#[]⟩ : ByteArray), bt110.1, bt110.2.1, bt110.2.2))) else (if a1 < 0 then ((octet_Reader_fail.f bt106.2.1 bt106.2.2.1 bt106.2.2.2).bind fun bt113 => (some ((⟨#[]⟩ : ByteArray), bt113.1, bt113.2.1, bt113.2.2))) else ((octet_Reader_Left.f bt106.2.1 bt106.2.2.1 bt106.2.2.2).bind fun bt116 => (if a1 > bt116.1 then ((octet_Reader_fail.f bt116.2.1 bt116.2.2.1 bt116.2.2.2).bind fun bt120 => (some ((⟨#[]⟩ : ByteArray), bt120.1, bt120.2.1, bt120.2.2))) else (if 0 ≤ bt116.2.2.1 then (if bt116.2.2.1 ≤ (wrap64 (bt116.2.2.1 + a1)) then (if (wrap64 (bt116.2.2.1 + a1)) ≤ (bt116.2.1.size : Int) then (some (bt116.2.1.extract (bt116.2.2.1 : Int).toNat ((wrap64 (bt116.2.2.1 + a1)) : Int).toNat, bt116.2.1, wrap64 (bt116.2.2.1 + a1), bt116.2.2.2)) else (none)) else (none)) else (none))))))
set_option maxHeartbeats 8000000 in
set_option maxRecDepth 100000 in
theorem octet_Reader_Take.calls (g : Nat) (s0_0 : ByteArray) (s0_1 : Int) (s0_2 : Bool) (a1 : Int) (r1 : ByteArray) (r2 : ByteArray) (r3 : Int) (r4 : Bool) (w0 w : World) (hI : IsS52 w0 w g s0_0 s0_1 s0_2) (hB : Below w0.heap.size w0 w) (h : octet_Reader_Take.f s0_0 s0_1 s0_2 a1 = some (r1, r2, r3, r4)) :
    Calls Try.prog 15 #[.pointer (some ⟨g, 0, none⟩), .int .i64 a1] w fun e w' => e = .returned (.string r1) ∧ IsS52 w0 w' g r2 r3 r4 ∧ Below w0.heap.size w0 w' ∧ KeepBut w w' g none := by
  have HI0 := Aside0.mk hI
  have HK := Aside0.mk (KeepBut.refl w g none)
  have HL := Aside0.mk hB.size
  clear hI
  have HW0 := Aside0.mk hB.size
  have HB := Aside0.mk hB
  clear hB
  have H : ((octet_Reader_Failed.f s0_0 s0_1 s0_2).bind fun bt106 => (if bt106.1 = true then ((octet_Reader_fail.f bt106.2.1 bt106.2.2.1 bt106.2.2.2).bind fun bt110 => (some ((⟨#[]⟩ : ByteArray), bt110.1, bt110.2.1, bt110.2.2))) else (if a1 < 0 then ((octet_Reader_fail.f bt106.2.1 bt106.2.2.1 bt106.2.2.2).bind fun bt113 => (some ((⟨#[]⟩ : ByteArray), bt113.1, bt113.2.1, bt113.2.2))) else ((octet_Reader_Left.f bt106.2.1 bt106.2.2.1 bt106.2.2.2).bind fun bt116 => (if a1 > bt116.1 then ((octet_Reader_fail.f bt116.2.1 bt116.2.2.1 bt116.2.2.2).bind fun bt120 => (some ((⟨#[]⟩ : ByteArray), bt120.1, bt120.2.1, bt120.2.2))) else (if 0 ≤ bt116.2.2.1 then (if bt116.2.2.1 ≤ (wrap64 (bt116.2.2.1 + a1)) then (if (wrap64 (bt116.2.2.1 + a1)) ≤ (bt116.2.1.size : Int) then (some (bt116.2.1.extract (bt116.2.2.1 : Int).toNat ((wrap64 (bt116.2.2.1 + a1)) : Int).toNat, bt116.2.1, wrap64 (bt116.2.2.1 + a1), bt116.2.2.2)) else (none)) else (none)) else (none))))))) = some (r1, r2, r3, r4) := h
  clear h
  replace H := Option.bind_eq_some_iff.mp H
  obtain ⟨⟨t106, t107, t108, t109⟩, A30, H⟩ := H
  obtain ⟨rfl, rfl, rfl⟩ := octet_Reader_Failed.still A30
  replace H : (if t106 = true then ((octet_Reader_fail.f s0_0 s0_1 s0_2).bind fun bt110 => (some ((⟨#[]⟩ : ByteArray), bt110.1, bt110.2.1, bt110.2.2))) else (if a1 < 0 then ((octet_Reader_fail.f s0_0 s0_1 s0_2).bind fun bt113 => (some ((⟨#[]⟩ : ByteArray), bt113.1, bt113.2.1, bt113.2.2))) else ((octet_Reader_Left.f s0_0 s0_1 s0_2).bind fun bt116 => (if a1 > bt116.1 then ((octet_Reader_fail.f bt116.2.1 bt116.2.2.1 bt116.2.2.2).bind fun bt120 => (some ((⟨#[]⟩ : ByteArray), bt120.1, bt120.2.1, bt120.2.2))) else (if 0 ≤ bt116.2.2.1 then (if bt116.2.2.1 ≤ (wrap64 (bt116.2.2.1 + a1)) then (if (wrap64 (bt116.2.2.1 + a1)) ≤ (bt116.2.1.size : Int) then (some (bt116.2.1.extract (bt116.2.2.1 : Int).toNat ((wrap64 (bt116.2.2.1 + a1)) : Int).toNat, bt116.2.1, wrap64 (bt116.2.2.1 + a1), bt116.2.2.2)) else (none)) else (none)) else (none)))))) = some (r1, r2, r3, r4) := H
  have A3 := Aside0.mk A30
  clear A30
  by_cases c4 : t106 = true
  · subst c4
    have H1 : ((octet_Reader_fail.f s0_0 s0_1 s0_2).bind fun bt110 => (some ((⟨#[]⟩ : ByteArray), bt110.1, bt110.2.1, bt110.2.2))) = some (r1, r2, r3, r4) := by rw [if_pos rfl] at H; exact H
    clear H
    have H := H1
    clear H1
    replace H := Option.bind_eq_some_iff.mp H
    obtain ⟨⟨t110, t111, t112⟩, A50, H⟩ := H
    replace H : (some ((⟨#[]⟩ : ByteArray), t110, t111, t112)) = some (r1, r2, r3, r4) := H
    have A5 := Aside0.mk A50
    clear A50
    simp only [Option.some.injEq, Prod.mk.injEq] at H
    obtain ⟨rfl, rfl, rfl, rfl⟩ := H
    go_enter Try.func15, Try.ntmps15
    go_wp2_with (first | (go_at_call 16; (with_reducible refine (octet_Reader_Failed.calls g s0_0 s0_1 s0_2 true s0_0 s0_1 s0_2 w0 _ ?side1 ?side2 A3.out).mono ?_); (case side1 => repeat (first | (with_reducible first | exact HI0.out | apply IsS52.alloc | apply IsS52.drewN | apply IsS52.drew | apply IsS52.set_0 | apply IsS52.set_1 | apply IsS52.set_2) | exact HI0.out)); (case side2 => repeat (first | (with_reducible first | exact HB.out | apply below_alloc | apply pw_below_drewN | apply below_drew1 | refine below_set ?_ (IsS52.ge HI0.out)) | exact HB.out)); rintro e w6 ⟨rfl, hi, hb, hk⟩; have n0_ := Aside0.mk (KeepBut.trans (by repeat (first | (with_reducible first | exact HK.out | apply KeepBut.set_ | apply keep_drewN | apply keep_drew | apply keep_alloc) | exact HK.out)) hk (.inl rfl)); have n1_ := Aside0.mk (hb); have n2_ := Aside0.mk (hi); clear HK; clear HB; clear HI0; have HK := n0_; have HB := n1_; have HI0 := n2_; clear n0_ n1_ n2_; (try clear hb); (try clear hb2); (try clear hk); (try clear hi)) | (go_at_call 33; (with_reducible refine (octet_Reader_fail.calls g s0_0 s0_1 s0_2 t110 t111 t112 w0 _ ?side1 ?side2 A5.out).mono ?_); (case side1 => repeat (first | (with_reducible first | exact HI0.out | apply IsS52.alloc | apply IsS52.drewN | apply IsS52.drew | apply IsS52.set_0 | apply IsS52.set_1 | apply IsS52.set_2) | exact HI0.out)); (case side2 => repeat (first | (with_reducible first | exact HB.out | apply below_alloc | apply pw_below_drewN | apply below_drew1 | refine below_set ?_ (IsS52.ge HI0.out)) | exact HB.out)); rintro e w7 ⟨rfl, hi, hb, hk⟩; have n0_ := Aside0.mk (KeepBut.trans (by repeat (first | (with_reducible first | exact HK.out | apply KeepBut.set_ | apply keep_drewN | apply keep_drew | apply keep_alloc) | exact HK.out)) hk (.inl rfl)); have n1_ := Aside0.mk (hb); have n2_ := Aside0.mk (hi); clear HK; clear HB; clear HI0; have HK := n0_; have HB := n1_; have HI0 := n2_; clear n0_ n1_ n2_; (try clear hb); (try clear hb2); (try clear hk); (try clear hi)))
    repeat (go_quiet (first | (go_at_call 16; (with_reducible refine (octet_Reader_Failed.calls g s0_0 s0_1 s0_2 true s0_0 s0_1 s0_2 w0 _ ?side1 ?side2 A3.out).mono ?_); (case side1 => repeat (first | (with_reducible first | exact HI0.out | apply IsS52.alloc | apply IsS52.drewN | apply IsS52.drew | apply IsS52.set_0 | apply IsS52.set_1 | apply IsS52.set_2) | exact HI0.out)); (case side2 => repeat (first | (with_reducible first | exact HB.out | apply below_alloc | apply pw_below_drewN | apply below_drew1 | refine below_set ?_ (IsS52.ge HI0.out)) | exact HB.out)); rintro e w6 ⟨rfl, hi, hb, hk⟩; have n0_ := Aside0.mk (KeepBut.trans (by repeat (first | (with_reducible first | exact HK.out | apply KeepBut.set_ | apply keep_drewN | apply keep_drew | apply keep_alloc) | exact HK.out)) hk (.inl rfl)); have n1_ := Aside0.mk (hb); have n2_ := Aside0.mk (hi); clear HK; clear HB; clear HI0; have HK := n0_; have HB := n1_; have HI0 := n2_; clear n0_ n1_ n2_; (try clear hb); (try clear hb2); (try clear hk); (try clear hi)) | (go_at_call 33; (with_reducible refine (octet_Reader_fail.calls g s0_0 s0_1 s0_2 t110 t111 t112 w0 _ ?side1 ?side2 A5.out).mono ?_); (case side1 => repeat (first | (with_reducible first | exact HI0.out | apply IsS52.alloc | apply IsS52.drewN | apply IsS52.drew | apply IsS52.set_0 | apply IsS52.set_1 | apply IsS52.set_2) | exact HI0.out)); (case side2 => repeat (first | (with_reducible first | exact HB.out | apply below_alloc | apply pw_below_drewN | apply below_drew1 | refine below_set ?_ (IsS52.ge HI0.out)) | exact HB.out)); rintro e w7 ⟨rfl, hi, hb, hk⟩; have n0_ := Aside0.mk (KeepBut.trans (by repeat (first | (with_reducible first | exact HK.out | apply KeepBut.set_ | apply keep_drewN | apply keep_drew | apply keep_alloc) | exact HK.out)) hk (.inl rfl)); have n1_ := Aside0.mk (hb); have n2_ := Aside0.mk (hi); clear HK; clear HB; clear HI0; have HK := n0_; have HB := n1_; have HI0 := n2_; clear n0_ n1_ n2_; (try clear hb); (try clear hb2); (try clear hk); (try clear hi))); try go_wp2_with (first | (go_at_call 16; (with_reducible refine (octet_Reader_Failed.calls g s0_0 s0_1 s0_2 true s0_0 s0_1 s0_2 w0 _ ?side1 ?side2 A3.out).mono ?_); (case side1 => repeat (first | (with_reducible first | exact HI0.out | apply IsS52.alloc | apply IsS52.drewN | apply IsS52.drew | apply IsS52.set_0 | apply IsS52.set_1 | apply IsS52.set_2) | exact HI0.out)); (case side2 => repeat (first | (with_reducible first | exact HB.out | apply below_alloc | apply pw_below_drewN | apply below_drew1 | refine below_set ?_ (IsS52.ge HI0.out)) | exact HB.out)); rintro e w6 ⟨rfl, hi, hb, hk⟩; have n0_ := Aside0.mk (KeepBut.trans (by repeat (first | (with_reducible first | exact HK.out | apply KeepBut.set_ | apply keep_drewN | apply keep_drew | apply keep_alloc) | exact HK.out)) hk (.inl rfl)); have n1_ := Aside0.mk (hb); have n2_ := Aside0.mk (hi); clear HK; clear HB; clear HI0; have HK := n0_; have HB := n1_; have HI0 := n2_; clear n0_ n1_ n2_; (try clear hb); (try clear hb2); (try clear hk); (try clear hi)) | (go_at_call 33; (with_reducible refine (octet_Reader_fail.calls g s0_0 s0_1 s0_2 t110 t111 t112 w0 _ ?side1 ?side2 A5.out).mono ?_); (case side1 => repeat (first | (with_reducible first | exact HI0.out | apply IsS52.alloc | apply IsS52.drewN | apply IsS52.drew | apply IsS52.set_0 | apply IsS52.set_1 | apply IsS52.set_2) | exact HI0.out)); (case side2 => repeat (first | (with_reducible first | exact HB.out | apply below_alloc | apply pw_below_drewN | apply below_drew1 | refine below_set ?_ (IsS52.ge HI0.out)) | exact HB.out)); rintro e w7 ⟨rfl, hi, hb, hk⟩; have n0_ := Aside0.mk (KeepBut.trans (by repeat (first | (with_reducible first | exact HK.out | apply KeepBut.set_ | apply keep_drewN | apply keep_drew | apply keep_alloc) | exact HK.out)) hk (.inl rfl)); have n1_ := Aside0.mk (hb); have n2_ := Aside0.mk (hi); clear HK; clear HB; clear HI0; have HK := n0_; have HB := n1_; have HI0 := n2_; clear n0_ n1_ n2_; (try clear hb); (try clear hb2); (try clear hk); (try clear hi))))
    go_ret
    exact ⟨by first | rfl | (simp [errW_none, errW_some] <;> rfl) | (simp [*, errW_none, errW_some] <;> rfl), by repeat (first | (with_reducible first | exact HI0.out | apply IsS52.alloc | apply IsS52.drewN | apply IsS52.drew | apply IsS52.set_0 | apply IsS52.set_1 | apply IsS52.set_2) | exact HI0.out), by repeat (first | (with_reducible first | exact HB.out | apply below_alloc | apply pw_below_drewN | apply below_drew1 | refine below_set ?_ (IsS52.ge HI0.out)) | exact HB.out), by repeat (first | (with_reducible first | exact HK.out | apply KeepBut.set_ | apply keep_drewN | apply keep_drew | apply keep_alloc) | exact HK.out)⟩
  · replace c4 := Bool.eq_false_iff.mpr c4
    subst c4
    have H1 : (if a1 < 0 then ((octet_Reader_fail.f s0_0 s0_1 s0_2).bind fun bt113 => (some ((⟨#[]⟩ : ByteArray), bt113.1, bt113.2.1, bt113.2.2))) else ((octet_Reader_Left.f s0_0 s0_1 s0_2).bind fun bt116 => (if a1 > bt116.1 then ((octet_Reader_fail.f bt116.2.1 bt116.2.2.1 bt116.2.2.2).bind fun bt120 => (some ((⟨#[]⟩ : ByteArray), bt120.1, bt120.2.1, bt120.2.2))) else (if 0 ≤ bt116.2.2.1 then (if bt116.2.2.1 ≤ (wrap64 (bt116.2.2.1 + a1)) then (if (wrap64 (bt116.2.2.1 + a1)) ≤ (bt116.2.1.size : Int) then (some (bt116.2.1.extract (bt116.2.2.1 : Int).toNat ((wrap64 (bt116.2.2.1 + a1)) : Int).toNat, bt116.2.1, wrap64 (bt116.2.2.1 + a1), bt116.2.2.2)) else (none)) else (none)) else (none))))) = some (r1, r2, r3, r4) := by rw [if_neg (show ¬ (false = true) by decide)] at H; exact H
    clear H
    have H := H1
    clear H1
    by_cases c8 : a1 < 0
    · rw [if_pos c8] at H
      have c8b0 : decide (a1 < 0) = true := decide_eq_true c8
      clear c8
      replace H := Option.bind_eq_some_iff.mp H
      obtain ⟨⟨t113, t114, t115⟩, A90, H⟩ := H
      replace H : (some ((⟨#[]⟩ : ByteArray), t113, t114, t115)) = some (r1, r2, r3, r4) := H
      have A9 := Aside0.mk A90
      clear A90
      simp only [Option.some.injEq, Prod.mk.injEq] at H
      obtain ⟨rfl, rfl, rfl, rfl⟩ := H
      go_enter Try.func15, Try.ntmps15
      go_wp2_with (first | (go_at_call 16; (with_reducible refine (octet_Reader_Failed.calls g s0_0 s0_1 s0_2 false s0_0 s0_1 s0_2 w0 _ ?side1 ?side2 A3.out).mono ?_); (case side1 => repeat (first | (with_reducible first | exact HI0.out | apply IsS52.alloc | apply IsS52.drewN | apply IsS52.drew | apply IsS52.set_0 | apply IsS52.set_1 | apply IsS52.set_2) | exact HI0.out)); (case side2 => repeat (first | (with_reducible first | exact HB.out | apply below_alloc | apply pw_below_drewN | apply below_drew1 | refine below_set ?_ (IsS52.ge HI0.out)) | exact HB.out)); rintro e w10 ⟨rfl, hi, hb, hk⟩; have n0_ := Aside0.mk (KeepBut.trans (by repeat (first | (with_reducible first | exact HK.out | apply KeepBut.set_ | apply keep_drewN | apply keep_drew | apply keep_alloc) | exact HK.out)) hk (.inl rfl)); have n1_ := Aside0.mk (hb); have n2_ := Aside0.mk (hi); clear HK; clear HB; clear HI0; have HK := n0_; have HB := n1_; have HI0 := n2_; clear n0_ n1_ n2_; (try clear hb); (try clear hb2); (try clear hk); (try clear hi)) | (go_at_call 33; (with_reducible refine (octet_Reader_fail.calls g s0_0 s0_1 s0_2 t113 t114 t115 w0 _ ?side1 ?side2 A9.out).mono ?_); (case side1 => repeat (first | (with_reducible first | exact HI0.out | apply IsS52.alloc | apply IsS52.drewN | apply IsS52.drew | apply IsS52.set_0 | apply IsS52.set_1 | apply IsS52.set_2) | exact HI0.out)); (case side2 => repeat (first | (with_reducible first | exact HB.out | apply below_alloc | apply pw_below_drewN | apply below_drew1 | refine below_set ?_ (IsS52.ge HI0.out)) | exact HB.out)); rintro e w11 ⟨rfl, hi, hb, hk⟩; have n0_ := Aside0.mk (KeepBut.trans (by repeat (first | (with_reducible first | exact HK.out | apply KeepBut.set_ | apply keep_drewN | apply keep_drew | apply keep_alloc) | exact HK.out)) hk (.inl rfl)); have n1_ := Aside0.mk (hb); have n2_ := Aside0.mk (hi); clear HK; clear HB; clear HI0; have HK := n0_; have HB := n1_; have HI0 := n2_; clear n0_ n1_ n2_; (try clear hb); (try clear hb2); (try clear hk); (try clear hi)))
      repeat (go_quiet (first | (go_at_call 16; (with_reducible refine (octet_Reader_Failed.calls g s0_0 s0_1 s0_2 false s0_0 s0_1 s0_2 w0 _ ?side1 ?side2 A3.out).mono ?_); (case side1 => repeat (first | (with_reducible first | exact HI0.out | apply IsS52.alloc | apply IsS52.drewN | apply IsS52.drew | apply IsS52.set_0 | apply IsS52.set_1 | apply IsS52.set_2) | exact HI0.out)); (case side2 => repeat (first | (with_reducible first | exact HB.out | apply below_alloc | apply pw_below_drewN | apply below_drew1 | refine below_set ?_ (IsS52.ge HI0.out)) | exact HB.out)); rintro e w10 ⟨rfl, hi, hb, hk⟩; have n0_ := Aside0.mk (KeepBut.trans (by repeat (first | (with_reducible first | exact HK.out | apply KeepBut.set_ | apply keep_drewN | apply keep_drew | apply keep_alloc) | exact HK.out)) hk (.inl rfl)); have n1_ := Aside0.mk (hb); have n2_ := Aside0.mk (hi); clear HK; clear HB; clear HI0; have HK := n0_; have HB := n1_; have HI0 := n2_; clear n0_ n1_ n2_; (try clear hb); (try clear hb2); (try clear hk); (try clear hi)) | (go_at_call 33; (with_reducible refine (octet_Reader_fail.calls g s0_0 s0_1 s0_2 t113 t114 t115 w0 _ ?side1 ?side2 A9.out).mono ?_); (case side1 => repeat (first | (with_reducible first | exact HI0.out | apply IsS52.alloc | apply IsS52.drewN | apply IsS52.drew | apply IsS52.set_0 | apply IsS52.set_1 | apply IsS52.set_2) | exact HI0.out)); (case side2 => repeat (first | (with_reducible first | exact HB.out | apply below_alloc | apply pw_below_drewN | apply below_drew1 | refine below_set ?_ (IsS52.ge HI0.out)) | exact HB.out)); rintro e w11 ⟨rfl, hi, hb, hk⟩; have n0_ := Aside0.mk (KeepBut.trans (by repeat (first | (with_reducible first | exact HK.out | apply KeepBut.set_ | apply keep_drewN | apply keep_drew | apply keep_alloc) | exact HK.out)) hk (.inl rfl)); have n1_ := Aside0.mk (hb); have n2_ := Aside0.mk (hi); clear HK; clear HB; clear HI0; have HK := n0_; have HB := n1_; have HI0 := n2_; clear n0_ n1_ n2_; (try clear hb); (try clear hb2); (try clear hk); (try clear hi))); try go_wp2_with (first | (go_at_call 16; (with_reducible refine (octet_Reader_Failed.calls g s0_0 s0_1 s0_2 false s0_0 s0_1 s0_2 w0 _ ?side1 ?side2 A3.out).mono ?_); (case side1 => repeat (first | (with_reducible first | exact HI0.out | apply IsS52.alloc | apply IsS52.drewN | apply IsS52.drew | apply IsS52.set_0 | apply IsS52.set_1 | apply IsS52.set_2) | exact HI0.out)); (case side2 => repeat (first | (with_reducible first | exact HB.out | apply below_alloc | apply pw_below_drewN | apply below_drew1 | refine below_set ?_ (IsS52.ge HI0.out)) | exact HB.out)); rintro e w10 ⟨rfl, hi, hb, hk⟩; have n0_ := Aside0.mk (KeepBut.trans (by repeat (first | (with_reducible first | exact HK.out | apply KeepBut.set_ | apply keep_drewN | apply keep_drew | apply keep_alloc) | exact HK.out)) hk (.inl rfl)); have n1_ := Aside0.mk (hb); have n2_ := Aside0.mk (hi); clear HK; clear HB; clear HI0; have HK := n0_; have HB := n1_; have HI0 := n2_; clear n0_ n1_ n2_; (try clear hb); (try clear hb2); (try clear hk); (try clear hi)) | (go_at_call 33; (with_reducible refine (octet_Reader_fail.calls g s0_0 s0_1 s0_2 t113 t114 t115 w0 _ ?side1 ?side2 A9.out).mono ?_); (case side1 => repeat (first | (with_reducible first | exact HI0.out | apply IsS52.alloc | apply IsS52.drewN | apply IsS52.drew | apply IsS52.set_0 | apply IsS52.set_1 | apply IsS52.set_2) | exact HI0.out)); (case side2 => repeat (first | (with_reducible first | exact HB.out | apply below_alloc | apply pw_below_drewN | apply below_drew1 | refine below_set ?_ (IsS52.ge HI0.out)) | exact HB.out)); rintro e w11 ⟨rfl, hi, hb, hk⟩; have n0_ := Aside0.mk (KeepBut.trans (by repeat (first | (with_reducible first | exact HK.out | apply KeepBut.set_ | apply keep_drewN | apply keep_drew | apply keep_alloc) | exact HK.out)) hk (.inl rfl)); have n1_ := Aside0.mk (hb); have n2_ := Aside0.mk (hi); clear HK; clear HB; clear HI0; have HK := n0_; have HB := n1_; have HI0 := n2_; clear n0_ n1_ n2_; (try clear hb); (try clear hb2); (try clear hk); (try clear hi))))
      go_ret
      exact ⟨by first | rfl | (simp [errW_none, errW_some] <;> rfl) | (simp [*, errW_none, errW_some] <;> rfl), by repeat (first | (with_reducible first | exact HI0.out | apply IsS52.alloc | apply IsS52.drewN | apply IsS52.drew | apply IsS52.set_0 | apply IsS52.set_1 | apply IsS52.set_2) | exact HI0.out), by repeat (first | (with_reducible first | exact HB.out | apply below_alloc | apply pw_below_drewN | apply below_drew1 | refine below_set ?_ (IsS52.ge HI0.out)) | exact HB.out), by repeat (first | (with_reducible first | exact HK.out | apply KeepBut.set_ | apply keep_drewN | apply keep_drew | apply keep_alloc) | exact HK.out)⟩
    · rw [if_neg c8] at H
      have c8b0 : decide (a1 < 0) = false := decide_eq_false c8
      clear c8
      replace H := Option.bind_eq_some_iff.mp H
      obtain ⟨⟨t116, t117, t118, t119⟩, A120, H⟩ := H
      replace H : (if a1 > t116 then ((octet_Reader_fail.f t117 t118 t119).bind fun bt120 => (some ((⟨#[]⟩ : ByteArray), bt120.1, bt120.2.1, bt120.2.2))) else (if 0 ≤ t118 then (if t118 ≤ (wrap64 (t118 + a1)) then (if (wrap64 (t118 + a1)) ≤ (t117.size : Int) then (some (t117.extract (t118 : Int).toNat ((wrap64 (t118 + a1)) : Int).toNat, t117, wrap64 (t118 + a1), t119)) else (none)) else (none)) else (none))) = some (r1, r2, r3, r4) := H
      have A12 := Aside0.mk A120
      clear A120
      by_cases c13 : a1 > t116
      · rw [if_pos c13] at H
        have c13b0 : decide (t116 < a1) = true := decide_eq_true c13
        clear c13
        replace H := Option.bind_eq_some_iff.mp H
        obtain ⟨⟨t120, t121, t122⟩, A140, H⟩ := H
        replace H : (some ((⟨#[]⟩ : ByteArray), t120, t121, t122)) = some (r1, r2, r3, r4) := H
        have A14 := Aside0.mk A140
        clear A140
        simp only [Option.some.injEq, Prod.mk.injEq] at H
        obtain ⟨rfl, rfl, rfl, rfl⟩ := H
        go_enter Try.func15, Try.ntmps15
        go_wp2_with (first | (go_at_call 16; (with_reducible refine (octet_Reader_Failed.calls g s0_0 s0_1 s0_2 false s0_0 s0_1 s0_2 w0 _ ?side1 ?side2 A3.out).mono ?_); (case side1 => repeat (first | (with_reducible first | exact HI0.out | apply IsS52.alloc | apply IsS52.drewN | apply IsS52.drew | apply IsS52.set_0 | apply IsS52.set_1 | apply IsS52.set_2) | exact HI0.out)); (case side2 => repeat (first | (with_reducible first | exact HB.out | apply below_alloc | apply pw_below_drewN | apply below_drew1 | refine below_set ?_ (IsS52.ge HI0.out)) | exact HB.out)); rintro e w15 ⟨rfl, hi, hb, hk⟩; have n0_ := Aside0.mk (KeepBut.trans (by repeat (first | (with_reducible first | exact HK.out | apply KeepBut.set_ | apply keep_drewN | apply keep_drew | apply keep_alloc) | exact HK.out)) hk (.inl rfl)); have n1_ := Aside0.mk (hb); have n2_ := Aside0.mk (hi); clear HK; clear HB; clear HI0; have HK := n0_; have HB := n1_; have HI0 := n2_; clear n0_ n1_ n2_; (try clear hb); (try clear hb2); (try clear hk); (try clear hi)) | (go_at_call 26; (with_reducible refine (octet_Reader_Left.calls g s0_0 s0_1 s0_2 t116 t117 t118 t119 w0 _ ?side1 ?side2 A12.out).mono ?_); (case side1 => repeat (first | (with_reducible first | exact HI0.out | apply IsS52.alloc | apply IsS52.drewN | apply IsS52.drew | apply IsS52.set_0 | apply IsS52.set_1 | apply IsS52.set_2) | exact HI0.out)); (case side2 => repeat (first | (with_reducible first | exact HB.out | apply below_alloc | apply pw_below_drewN | apply below_drew1 | refine below_set ?_ (IsS52.ge HI0.out)) | exact HB.out)); rintro e w16 ⟨rfl, hi, hb, hk⟩; have n0_ := Aside0.mk (KeepBut.trans (by repeat (first | (with_reducible first | exact HK.out | apply KeepBut.set_ | apply keep_drewN | apply keep_drew | apply keep_alloc) | exact HK.out)) hk (.inl rfl)); have n1_ := Aside0.mk (hb); have n2_ := Aside0.mk (hi); clear HK; clear HB; clear HI0; have HK := n0_; have HB := n1_; have HI0 := n2_; clear n0_ n1_ n2_; (try clear hb); (try clear hb2); (try clear hk); (try clear hi)) | (go_at_call 33; (with_reducible refine (octet_Reader_fail.calls g t117 t118 t119 t120 t121 t122 w0 _ ?side1 ?side2 A14.out).mono ?_); (case side1 => repeat (first | (with_reducible first | exact HI0.out | apply IsS52.alloc | apply IsS52.drewN | apply IsS52.drew | apply IsS52.set_0 | apply IsS52.set_1 | apply IsS52.set_2) | exact HI0.out)); (case side2 => repeat (first | (with_reducible first | exact HB.out | apply below_alloc | apply pw_below_drewN | apply below_drew1 | refine below_set ?_ (IsS52.ge HI0.out)) | exact HB.out)); rintro e w17 ⟨rfl, hi, hb, hk⟩; have n0_ := Aside0.mk (KeepBut.trans (by repeat (first | (with_reducible first | exact HK.out | apply KeepBut.set_ | apply keep_drewN | apply keep_drew | apply keep_alloc) | exact HK.out)) hk (.inl rfl)); have n1_ := Aside0.mk (hb); have n2_ := Aside0.mk (hi); clear HK; clear HB; clear HI0; have HK := n0_; have HB := n1_; have HI0 := n2_; clear n0_ n1_ n2_; (try clear hb); (try clear hb2); (try clear hk); (try clear hi)))
        repeat (go_quiet (first | (go_at_call 16; (with_reducible refine (octet_Reader_Failed.calls g s0_0 s0_1 s0_2 false s0_0 s0_1 s0_2 w0 _ ?side1 ?side2 A3.out).mono ?_); (case side1 => repeat (first | (with_reducible first | exact HI0.out | apply IsS52.alloc | apply IsS52.drewN | apply IsS52.drew | apply IsS52.set_0 | apply IsS52.set_1 | apply IsS52.set_2) | exact HI0.out)); (case side2 => repeat (first | (with_reducible first | exact HB.out | apply below_alloc | apply pw_below_drewN | apply below_drew1 | refine below_set ?_ (IsS52.ge HI0.out)) | exact HB.out)); rintro e w15 ⟨rfl, hi, hb, hk⟩; have n0_ := Aside0.mk (KeepBut.trans (by repeat (first | (with_reducible first | exact HK.out | apply KeepBut.set_ | apply keep_drewN | apply keep_drew | apply keep_alloc) | exact HK.out)) hk (.inl rfl)); have n1_ := Aside0.mk (hb); have n2_ := Aside0.mk (hi); clear HK; clear HB; clear HI0; have HK := n0_; have HB := n1_; have HI0 := n2_; clear n0_ n1_ n2_; (try clear hb); (try clear hb2); (try clear hk); (try clear hi)) | (go_at_call 26; (with_reducible refine (octet_Reader_Left.calls g s0_0 s0_1 s0_2 t116 t117 t118 t119 w0 _ ?side1 ?side2 A12.out).mono ?_); (case side1 => repeat (first | (with_reducible first | exact HI0.out | apply IsS52.alloc | apply IsS52.drewN | apply IsS52.drew | apply IsS52.set_0 | apply IsS52.set_1 | apply IsS52.set_2) | exact HI0.out)); (case side2 => repeat (first | (with_reducible first | exact HB.out | apply below_alloc | apply pw_below_drewN | apply below_drew1 | refine below_set ?_ (IsS52.ge HI0.out)) | exact HB.out)); rintro e w16 ⟨rfl, hi, hb, hk⟩; have n0_ := Aside0.mk (KeepBut.trans (by repeat (first | (with_reducible first | exact HK.out | apply KeepBut.set_ | apply keep_drewN | apply keep_drew | apply keep_alloc) | exact HK.out)) hk (.inl rfl)); have n1_ := Aside0.mk (hb); have n2_ := Aside0.mk (hi); clear HK; clear HB; clear HI0; have HK := n0_; have HB := n1_; have HI0 := n2_; clear n0_ n1_ n2_; (try clear hb); (try clear hb2); (try clear hk); (try clear hi)) | (go_at_call 33; (with_reducible refine (octet_Reader_fail.calls g t117 t118 t119 t120 t121 t122 w0 _ ?side1 ?side2 A14.out).mono ?_); (case side1 => repeat (first | (with_reducible first | exact HI0.out | apply IsS52.alloc | apply IsS52.drewN | apply IsS52.drew | apply IsS52.set_0 | apply IsS52.set_1 | apply IsS52.set_2) | exact HI0.out)); (case side2 => repeat (first | (with_reducible first | exact HB.out | apply below_alloc | apply pw_below_drewN | apply below_drew1 | refine below_set ?_ (IsS52.ge HI0.out)) | exact HB.out)); rintro e w17 ⟨rfl, hi, hb, hk⟩; have n0_ := Aside0.mk (KeepBut.trans (by repeat (first | (with_reducible first | exact HK.out | apply KeepBut.set_ | apply keep_drewN | apply keep_drew | apply keep_alloc) | exact HK.out)) hk (.inl rfl)); have n1_ := Aside0.mk (hb); have n2_ := Aside0.mk (hi); clear HK; clear HB; clear HI0; have HK := n0_; have HB := n1_; have HI0 := n2_; clear n0_ n1_ n2_; (try clear hb); (try clear hb2); (try clear hk); (try clear hi))); try go_wp2_with (first | (go_at_call 16; (with_reducible refine (octet_Reader_Failed.calls g s0_0 s0_1 s0_2 false s0_0 s0_1 s0_2 w0 _ ?side1 ?side2 A3.out).mono ?_); (case side1 => repeat (first | (with_reducible first | exact HI0.out | apply IsS52.alloc | apply IsS52.drewN | apply IsS52.drew | apply IsS52.set_0 | apply IsS52.set_1 | apply IsS52.set_2) | exact HI0.out)); (case side2 => repeat (first | (with_reducible first | exact HB.out | apply below_alloc | apply pw_below_drewN | apply below_drew1 | refine below_set ?_ (IsS52.ge HI0.out)) | exact HB.out)); rintro e w15 ⟨rfl, hi, hb, hk⟩; have n0_ := Aside0.mk (KeepBut.trans (by repeat (first | (with_reducible first | exact HK.out | apply KeepBut.set_ | apply keep_drewN | apply keep_drew | apply keep_alloc) | exact HK.out)) hk (.inl rfl)); have n1_ := Aside0.mk (hb); have n2_ := Aside0.mk (hi); clear HK; clear HB; clear HI0; have HK := n0_; have HB := n1_; have HI0 := n2_; clear n0_ n1_ n2_; (try clear hb); (try clear hb2); (try clear hk); (try clear hi)) | (go_at_call 26; (with_reducible refine (octet_Reader_Left.calls g s0_0 s0_1 s0_2 t116 t117 t118 t119 w0 _ ?side1 ?side2 A12.out).mono ?_); (case side1 => repeat (first | (with_reducible first | exact HI0.out | apply IsS52.alloc | apply IsS52.drewN | apply IsS52.drew | apply IsS52.set_0 | apply IsS52.set_1 | apply IsS52.set_2) | exact HI0.out)); (case side2 => repeat (first | (with_reducible first | exact HB.out | apply below_alloc | apply pw_below_drewN | apply below_drew1 | refine below_set ?_ (IsS52.ge HI0.out)) | exact HB.out)); rintro e w16 ⟨rfl, hi, hb, hk⟩; have n0_ := Aside0.mk (KeepBut.trans (by repeat (first | (with_reducible first | exact HK.out | apply KeepBut.set_ | apply keep_drewN | apply keep_drew | apply keep_alloc) | exact HK.out)) hk (.inl rfl)); have n1_ := Aside0.mk (hb); have n2_ := Aside0.mk (hi); clear HK; clear HB; clear HI0; have HK := n0_; have HB := n1_; have HI0 := n2_; clear n0_ n1_ n2_; (try clear hb); (try clear hb2); (try clear hk); (try clear hi)) | (go_at_call 33; (with_reducible refine (octet_Reader_fail.calls g t117 t118 t119 t120 t121 t122 w0 _ ?side1 ?side2 A14.out).mono ?_); (case side1 => repeat (first | (with_reducible first | exact HI0.out | apply IsS52.alloc | apply IsS52.drewN | apply IsS52.drew | apply IsS52.set_0 | apply IsS52.set_1 | apply IsS52.set_2) | exact HI0.out)); (case side2 => repeat (first | (with_reducible first | exact HB.out | apply below_alloc | apply pw_below_drewN | apply below_drew1 | refine below_set ?_ (IsS52.ge HI0.out)) | exact HB.out)); rintro e w17 ⟨rfl, hi, hb, hk⟩; have n0_ := Aside0.mk (KeepBut.trans (by repeat (first | (with_reducible first | exact HK.out | apply KeepBut.set_ | apply keep_drewN | apply keep_drew | apply keep_alloc) | exact HK.out)) hk (.inl rfl)); have n1_ := Aside0.mk (hb); have n2_ := Aside0.mk (hi); clear HK; clear HB; clear HI0; have HK := n0_; have HB := n1_; have HI0 := n2_; clear n0_ n1_ n2_; (try clear hb); (try clear hb2); (try clear hk); (try clear hi))))
        go_ret
        exact ⟨by first | rfl | (simp [errW_none, errW_some] <;> rfl) | (simp [*, errW_none, errW_some] <;> rfl), by repeat (first | (with_reducible first | exact HI0.out | apply IsS52.alloc | apply IsS52.drewN | apply IsS52.drew | apply IsS52.set_0 | apply IsS52.set_1 | apply IsS52.set_2) | exact HI0.out), by repeat (first | (with_reducible first | exact HB.out | apply below_alloc | apply pw_below_drewN | apply below_drew1 | refine below_set ?_ (IsS52.ge HI0.out)) | exact HB.out), by repeat (first | (with_reducible first | exact HK.out | apply KeepBut.set_ | apply keep_drewN | apply keep_drew | apply keep_alloc) | exact HK.out)⟩
      · rw [if_neg c13] at H
        have c13b0 : decide (t116 < a1) = false := decide_eq_false c13
        clear c13
        by_cases c18 : 0 ≤ t118
        · rw [if_pos c18] at H
          have c18b0 := eq_true c18
          have c18b1 : decide (0 ≤ t118) = true := decide_eq_true c18
          clear c18
          by_cases c19 : t118 ≤ (wrap64 (t118 + a1))
          · rw [if_pos c19] at H
            have c19b0 := eq_true c19
            have c19b1 : decide (t118 ≤ (wrap64 (t118 + a1))) = true := decide_eq_true c19
            (try (have c19b1w := c19b1; rw [(by unfold wrap64; omega : wrap64 (t118 + a1) = (t118 + a1))] at c19b1w))
            by_cases c20 : (wrap64 (t118 + a1)) ≤ (t117.size : Int)
            · rw [if_pos c20] at H
              have c20b0 := eq_true c20
              have c20b1 : decide ((wrap64 (t118 + a1)) ≤ (t117.size : Int)) = true := decide_eq_true c20
              (try (have c20b1w := c20b1; rw [(by unfold wrap64; omega : wrap64 (t118 + a1) = (t118 + a1))] at c20b1w))
              simp only [Option.some.injEq, Prod.mk.injEq] at H
              obtain ⟨rfl, rfl, rfl, rfl⟩ := H
              go_enter Try.func15, Try.ntmps15
              go_wp2_with (first | (go_at_call 16; (with_reducible refine (octet_Reader_Failed.calls g s0_0 s0_1 s0_2 false s0_0 s0_1 s0_2 w0 _ ?side1 ?side2 A3.out).mono ?_); (case side1 => repeat (first | (with_reducible first | exact HI0.out | apply IsS52.alloc | apply IsS52.drewN | apply IsS52.drew | apply IsS52.set_0 | apply IsS52.set_1 | apply IsS52.set_2) | exact HI0.out)); (case side2 => repeat (first | (with_reducible first | exact HB.out | apply below_alloc | apply pw_below_drewN | apply below_drew1 | refine below_set ?_ (IsS52.ge HI0.out)) | exact HB.out)); rintro e w21 ⟨rfl, hi, hb, hk⟩; have n0_ := Aside0.mk (KeepBut.trans (by repeat (first | (with_reducible first | exact HK.out | apply KeepBut.set_ | apply keep_drewN | apply keep_drew | apply keep_alloc) | exact HK.out)) hk (.inl rfl)); have n1_ := Aside0.mk (hb); have n2_ := Aside0.mk (hi); clear HK; clear HB; clear HI0; have HK := n0_; have HB := n1_; have HI0 := n2_; clear n0_ n1_ n2_; (try clear hb); (try clear hb2); (try clear hk); (try clear hi)) | (go_at_call 26; (with_reducible refine (octet_Reader_Left.calls g s0_0 s0_1 s0_2 t116 t117 t118 t119 w0 _ ?side1 ?side2 A12.out).mono ?_); (case side1 => repeat (first | (with_reducible first | exact HI0.out | apply IsS52.alloc | apply IsS52.drewN | apply IsS52.drew | apply IsS52.set_0 | apply IsS52.set_1 | apply IsS52.set_2) | exact HI0.out)); (case side2 => repeat (first | (with_reducible first | exact HB.out | apply below_alloc | apply pw_below_drewN | apply below_drew1 | refine below_set ?_ (IsS52.ge HI0.out)) | exact HB.out)); rintro e w22 ⟨rfl, hi, hb, hk⟩; have n0_ := Aside0.mk (KeepBut.trans (by repeat (first | (with_reducible first | exact HK.out | apply KeepBut.set_ | apply keep_drewN | apply keep_drew | apply keep_alloc) | exact HK.out)) hk (.inl rfl)); have n1_ := Aside0.mk (hb); have n2_ := Aside0.mk (hi); clear HK; clear HB; clear HI0; have HK := n0_; have HB := n1_; have HI0 := n2_; clear n0_ n1_ n2_; (try clear hb); (try clear hb2); (try clear hk); (try clear hi); obtain ⟨HGz23, hgz23⟩ := HI0.out; have hcz23_0 := cellS52_0 HGz23; have hcz23_1 := cellS52_1 HGz23; have hcz23_2 := cellS52_2 HGz23; have hfz23_0 := blk_frozen HGz23 0; have hfz23_1 := blk_frozen HGz23 1; have hfz23_2 := blk_frozen HGz23 2; clear HGz23 hgz23))
              repeat (go_quiet (first | (go_at_call 16; (with_reducible refine (octet_Reader_Failed.calls g s0_0 s0_1 s0_2 false s0_0 s0_1 s0_2 w0 _ ?side1 ?side2 A3.out).mono ?_); (case side1 => repeat (first | (with_reducible first | exact HI0.out | apply IsS52.alloc | apply IsS52.drewN | apply IsS52.drew | apply IsS52.set_0 | apply IsS52.set_1 | apply IsS52.set_2) | exact HI0.out)); (case side2 => repeat (first | (with_reducible first | exact HB.out | apply below_alloc | apply pw_below_drewN | apply below_drew1 | refine below_set ?_ (IsS52.ge HI0.out)) | exact HB.out)); rintro e w21 ⟨rfl, hi, hb, hk⟩; have n0_ := Aside0.mk (KeepBut.trans (by repeat (first | (with_reducible first | exact HK.out | apply KeepBut.set_ | apply keep_drewN | apply keep_drew | apply keep_alloc) | exact HK.out)) hk (.inl rfl)); have n1_ := Aside0.mk (hb); have n2_ := Aside0.mk (hi); clear HK; clear HB; clear HI0; have HK := n0_; have HB := n1_; have HI0 := n2_; clear n0_ n1_ n2_; (try clear hb); (try clear hb2); (try clear hk); (try clear hi)) | (go_at_call 26; (with_reducible refine (octet_Reader_Left.calls g s0_0 s0_1 s0_2 t116 t117 t118 t119 w0 _ ?side1 ?side2 A12.out).mono ?_); (case side1 => repeat (first | (with_reducible first | exact HI0.out | apply IsS52.alloc | apply IsS52.drewN | apply IsS52.drew | apply IsS52.set_0 | apply IsS52.set_1 | apply IsS52.set_2) | exact HI0.out)); (case side2 => repeat (first | (with_reducible first | exact HB.out | apply below_alloc | apply pw_below_drewN | apply below_drew1 | refine below_set ?_ (IsS52.ge HI0.out)) | exact HB.out)); rintro e w22 ⟨rfl, hi, hb, hk⟩; have n0_ := Aside0.mk (KeepBut.trans (by repeat (first | (with_reducible first | exact HK.out | apply KeepBut.set_ | apply keep_drewN | apply keep_drew | apply keep_alloc) | exact HK.out)) hk (.inl rfl)); have n1_ := Aside0.mk (hb); have n2_ := Aside0.mk (hi); clear HK; clear HB; clear HI0; have HK := n0_; have HB := n1_; have HI0 := n2_; clear n0_ n1_ n2_; (try clear hb); (try clear hb2); (try clear hk); (try clear hi); obtain ⟨HGz23, hgz23⟩ := HI0.out; have hcz23_0 := cellS52_0 HGz23; have hcz23_1 := cellS52_1 HGz23; have hcz23_2 := cellS52_2 HGz23; have hfz23_0 := blk_frozen HGz23 0; have hfz23_1 := blk_frozen HGz23 1; have hfz23_2 := blk_frozen HGz23 2; clear HGz23 hgz23)); try go_wp2_with (first | (go_at_call 16; (with_reducible refine (octet_Reader_Failed.calls g s0_0 s0_1 s0_2 false s0_0 s0_1 s0_2 w0 _ ?side1 ?side2 A3.out).mono ?_); (case side1 => repeat (first | (with_reducible first | exact HI0.out | apply IsS52.alloc | apply IsS52.drewN | apply IsS52.drew | apply IsS52.set_0 | apply IsS52.set_1 | apply IsS52.set_2) | exact HI0.out)); (case side2 => repeat (first | (with_reducible first | exact HB.out | apply below_alloc | apply pw_below_drewN | apply below_drew1 | refine below_set ?_ (IsS52.ge HI0.out)) | exact HB.out)); rintro e w21 ⟨rfl, hi, hb, hk⟩; have n0_ := Aside0.mk (KeepBut.trans (by repeat (first | (with_reducible first | exact HK.out | apply KeepBut.set_ | apply keep_drewN | apply keep_drew | apply keep_alloc) | exact HK.out)) hk (.inl rfl)); have n1_ := Aside0.mk (hb); have n2_ := Aside0.mk (hi); clear HK; clear HB; clear HI0; have HK := n0_; have HB := n1_; have HI0 := n2_; clear n0_ n1_ n2_; (try clear hb); (try clear hb2); (try clear hk); (try clear hi)) | (go_at_call 26; (with_reducible refine (octet_Reader_Left.calls g s0_0 s0_1 s0_2 t116 t117 t118 t119 w0 _ ?side1 ?side2 A12.out).mono ?_); (case side1 => repeat (first | (with_reducible first | exact HI0.out | apply IsS52.alloc | apply IsS52.drewN | apply IsS52.drew | apply IsS52.set_0 | apply IsS52.set_1 | apply IsS52.set_2) | exact HI0.out)); (case side2 => repeat (first | (with_reducible first | exact HB.out | apply below_alloc | apply pw_below_drewN | apply below_drew1 | refine below_set ?_ (IsS52.ge HI0.out)) | exact HB.out)); rintro e w22 ⟨rfl, hi, hb, hk⟩; have n0_ := Aside0.mk (KeepBut.trans (by repeat (first | (with_reducible first | exact HK.out | apply KeepBut.set_ | apply keep_drewN | apply keep_drew | apply keep_alloc) | exact HK.out)) hk (.inl rfl)); have n1_ := Aside0.mk (hb); have n2_ := Aside0.mk (hi); clear HK; clear HB; clear HI0; have HK := n0_; have HB := n1_; have HI0 := n2_; clear n0_ n1_ n2_; (try clear hb); (try clear hb2); (try clear hk); (try clear hi); obtain ⟨HGz23, hgz23⟩ := HI0.out; have hcz23_0 := cellS52_0 HGz23; have hcz23_1 := cellS52_1 HGz23; have hcz23_2 := cellS52_2 HGz23; have hfz23_0 := blk_frozen HGz23 0; have hfz23_1 := blk_frozen HGz23 1; have hfz23_2 := blk_frozen HGz23 2; clear HGz23 hgz23)))
              go_ret
              exact ⟨by first | rfl | (simp [errW_none, errW_some] <;> rfl) | (simp [*, errW_none, errW_some] <;> rfl), by repeat (first | (with_reducible first | exact HI0.out | apply IsS52.alloc | apply IsS52.drewN | apply IsS52.drew | apply IsS52.set_0 | apply IsS52.set_1 | apply IsS52.set_2) | exact HI0.out), by repeat (first | (with_reducible first | exact HB.out | apply below_alloc | apply pw_below_drewN | apply below_drew1 | refine below_set ?_ (IsS52.ge HI0.out)) | exact HB.out), by repeat (first | (with_reducible first | exact HK.out | apply KeepBut.set_ | apply keep_drewN | apply keep_drew | apply keep_alloc) | exact HK.out)⟩
            · rw [if_neg c20] at H
              exact absurd H (by simp)
          · rw [if_neg c19] at H
            exact absurd H (by simp)
        · rw [if_neg c18] at H
          exact absurd H (by simp)

-- NOT PRINTED: function 31 (octet_Reader_number)

/-! ### octet_Reader_Num: function 14 -/
theorem ret_int {k : IntKind} {a b : Int} (h : a = b) : Ending.returned (.int k a) = .returned (.int k b) := by rw [h]
def beStep (n c : Int) : Int := Go.bits .or .i64 (wrap64 (n * 256)) c
def beNum (l : List Int) : Int := l.foldl beStep 0
theorem beNum_snoc (l : List Int) (c : Int) : beNum (l ++ [c]) = beStep (beNum l) c := by unfold beNum; rw [List.foldl_append]; rfl
theorem take_snoc_rd (l : List Int) (i : Nat) (h : i < l.length) : l.take (i + 1) = l.take i ++ [rd l i] := by
  rw [List.take_succ_eq_append_getElem h]
  congr 2
  unfold rd
  simp [h]

set_option maxHeartbeats 1000000 in
set_option maxRecDepth 100000 in
theorem num_num (g : Nat) (s : ByteArray) (p : Int) (b : Bool) (a1 : Int) (t t1 : ByteArray) (t2 : Int) (t3 : Bool) (w0 w : World) (hI : IsS52 w0 w g s p b) (hB : Below w0.heap.size w0 w) (h0 : 0 ≤ a1) (h8 : a1 ≤ 8) (ht : t.size ≤ 8)
    (hT : octet_Reader_Take.f s p b a1 = some (t, t1, t2, t3)) :
    Calls Try.prog 31 #[.pointer (some ⟨g, 0, none⟩), .int .i64 a1, .func (.func 32) #[] #[]] w fun e w' => e = .returned (.int .i64 (beNum (bytesOf t))) ∧ IsS52 w0 w' g t1 t2 t3 ∧ Below w0.heap.size w0 w' ∧ KeepBut w w' g none := by
  have HI0 := Aside0.mk hI
  have HK := Aside0.mk (KeepBut.refl w g none)
  have HL := Aside0.mk hB.size
  clear hI
  have HW0 := Aside0.mk hB.size
  have HB := Aside0.mk hB
  clear hB
  have HT := Aside0.mk hT
  clear hT
  have kb := fun W => print_bytes (P := Try.prog) 9 33 5 Try.underlying9 Try.underlying33 Try.underlying5 t W
  go_enter Try.func31, Try.ntmps31
  go_wp2_with fail
  refine (octet_Reader_Take.calls g s p b a1 t t1 t2 t3 w0 _ HI0.out HB.out HT.out).mono ?_
  rintro e w9 ⟨rfl, hi, hb, hk⟩
  have HI := Aside0.mk hi
  have HB1 := Aside0.mk hb
  have HK1 := Aside0.mk hk
  clear hi hb hk
  go_wp2
  have hr := Aside0.mk (bytes_reads w9 5 t (by omega))
  have hbl := Aside0.mk (bytesOf_length t)
  go_loop [7, 23] (fun v7 v23 => ∃ i : Nat, i ≤ t.size ∧ v23 = .int .i64 i ∧ v7 = .int .i64 (beNum ((bytesOf t).take i))) (fun _ v23 => t.size - (intOf v23).toNat)
  case atStart => exact ⟨0, Nat.zero_le _, rfl, rfl⟩
  case round =>
    obtain ⟨i, hi, rfl, rfl⟩ := hrel
    by_cases hlt : i < t.size
    · have hc : (Lib.bytesWorld w9 5 t).cell? ⟨w9.heap.size, i, none⟩ = some (.int .u8 (rd (bytesOf t) i)) := by
        obtain ⟨ad, e, hc⟩ := hr.out.at_ (i : Int) (by omega) (by omega)
        cases e
        rw [add_plain] at hc
        exact hc
      have hbd : 0 ≤ rd (bytesOf t) i := by rw [rd_bytesOf]; exact (bt_range t i).1
      have hbd2 : rd (bytesOf t) i ≤ 255 := by rw [rd_bytesOf]; exact (bt_range t i).2
      have hsn := Aside0.mk (take_snoc_rd (bytesOf t) i (by rw [hbl.out]; exact hlt))
      go_wp2
      go_round
      case rel => exact ⟨i + 1, by omega, by go_num, by rw [hsn.out, beNum_snoc]; rfl⟩
      case measure => simp [intOf]; omega
    · go_wp2
      go_ret
      refine ⟨?_, ?_, ?_, ?_⟩
      · exact ret_int (by rw [List.take_of_length_le (by rw [hbl.out]; omega)])
      · exact IsS52.below HI.out (bytes_below (Below.refl _ _) (Nat.le_refl _) 5 t)
      · exact bytes_below HB1.out (HB1.out.size) 5 t
      · exact KeepBut.trans HK1.out (KeepBut.of_below (bytes_below (Below.refl _ _) (Nat.le_refl _) 5 t) g none) (.inl rfl)
def octet_Reader_Num.f (s0_0 : ByteArray) (s0_1 : Int) (s0_2 : Bool) (a1 : Int) : Option (Int × ByteArray × Int × Bool) :=
  if a1 < 0 then some (0, s0_0, s0_1, true) else if 8 < a1 then some (0, s0_0, s0_1, true) else
    (octet_Reader_Take.f s0_0 s0_1 s0_2 a1).bind fun t => if t.1.size ≤ 8 then some (beNum (bytesOf t.1), t.2.1, t.2.2.1, t.2.2.2) else none

theorem fail_f (s : ByteArray) (p : Int) (b : Bool) : octet_Reader_fail.f s p b = some (s, p, true) := by
  unfold octet_Reader_fail.f; rfl

set_option maxHeartbeats 1000000 in
set_option maxRecDepth 100000 in
theorem num_fails (q : Nat) (ys : Array Value) (g : Nat) (s : ByteArray) (p : Int) (b : Bool) (a1 : Int) (w0 w : World) (hI : IsS52 w0 w g s p b) (hB : Below w0.heap.size w0 w) (h : a1 < 0 ∨ 8 < a1) :
    Calls Try.prog 31 #[.pointer (some ⟨g, 0, none⟩), .int .i64 a1, .func (.func q) #[] ys] w fun e w' => e = .returned (.int .i64 0) ∧ IsS52 w0 w' g s p true ∧ Below w0.heap.size w0 w' ∧ KeepBut w w' g none := by
  have HI0 := Aside0.mk hI
  clear hI
  have HB := Aside0.mk hB
  clear hB
  have hF := Aside0.mk (fail_f s p b)
  have hd : decide (a1 < 0) = true ∨ (decide (a1 < 0) = false ∧ decide (8 < a1) = true) := by
    by_cases h0 : a1 < 0
    · exact .inl (decide_eq_true h0)
    · exact .inr ⟨decide_eq_false h0, decide_eq_true (by omega)⟩
  clear h
  rcases hd with hd | ⟨hd, hd2⟩
  all_goals
    go_enter Try.func31, Try.ntmps31
    go_wp2_with fail
    refine (octet_Reader_fail.calls g s p b s p true w0 _ HI0.out HB.out hF.out).mono ?_
    rintro e w9 ⟨rfl, hi, hb, hk⟩
    have HI := Aside0.mk hi
    have HB1 := Aside0.mk hb
    have HK1 := Aside0.mk hk
    clear hi hb hk
    go_wp2
    go_ret
    exact ⟨rfl, HI.out, HB1.out, HK1.out⟩

set_option maxHeartbeats 1000000 in
set_option maxRecDepth 100000 in
theorem octet_Reader_Num.calls (g : Nat) (s0_0 : ByteArray) (s0_1 : Int) (s0_2 : Bool) (a1 : Int) (r1 : Int) (r2 : ByteArray) (r3 : Int) (r4 : Bool) (w0 w : World) (hI : IsS52 w0 w g s0_0 s0_1 s0_2) (hB : Below w0.heap.size w0 w) (h : octet_Reader_Num.f s0_0 s0_1 s0_2 a1 = some (r1, r2, r3, r4)) :
    Calls Try.prog 14 #[.pointer (some ⟨g, 0, none⟩), .int .i64 a1] w fun e w' => e = .returned (.int .i64 r1) ∧ IsS52 w0 w' g r2 r3 r4 ∧ Below w0.heap.size w0 w' ∧ KeepBut w w' g none := by
  have HC : Aside0 (Calls Try.prog 31 #[.pointer (some ⟨g, 0, none⟩), .int .i64 a1, .func (.func 32) #[] #[]] w fun e w' => e = .returned (.int .i64 r1) ∧ IsS52 w0 w' g r2 r3 r4 ∧ Below w0.heap.size w0 w' ∧ KeepBut w w' g none) := by
    constructor
    unfold octet_Reader_Num.f at h
    split at h
    · cases h; exact num_fails 32 #[] g _ _ _ a1 w0 w hI hB (.inl ‹_›)
    · split at h
      · cases h; exact num_fails 32 #[] g _ _ _ a1 w0 w hI hB (.inr ‹_›)
      · obtain ⟨⟨t, t1, t2, t3⟩, hT, h⟩ := Option.bind_eq_some_iff.mp h
        dsimp only at h
        split at h
        · cases h; exact num_num g _ _ _ a1 t _ _ _ w0 w hI hB (by omega) (by omega) ‹_› hT
        · cases h
  clear h hI hB
  go_enter Try.func14, Try.ntmps14
  go_wp2_with fail
  refine HC.out.mono ?_
  rintro e w9 ⟨rfl, hi, hb, hk⟩
  have HI := Aside0.mk hi
  have HB1 := Aside0.mk hb
  have HK1 := Aside0.mk hk
  clear hi hb hk
  go_wp2
  go_ret
  exact ⟨rfl, HI.out, HB1.out, HK1.out⟩

/-! ### octet_Sum: function 19 -/
def octet_Sum.l0 : Nat → Int → ByteArray → Int → Bool → Option (Int)
  | 0, _, _, _, _ => none
  | k + 1, x3, x127000, x127001, x127002 => (octet_Reader_Left.f x127000 x127001 x127002).bind fun bt127 => (if bt127.1 ≥ 4 then ((octet_Reader_Num.f bt127.2.1 bt127.2.2.1 bt127.2.2.2 4).bind fun bt131 => (octet_Sum.l0 k ((x3 + ((bt131.1) % 4294967296)) % 4294967296) bt131.2.1 bt131.2.2.1 bt131.2.2.2)) else ((octet_Reader_Left.f bt127.2.1 bt127.2.2.1 bt127.2.2.2).bind fun bt135 => ((octet_Reader_Num.f bt135.2.1 bt135.2.2.1 bt135.2.2.2 bt135.1).bind fun bt139 => (if 0 ≤ (wrap64 (32 - (wrap64 (8 * bt135.1)))) then (some ((x3 + (shl .u32 ((bt139.1) % 4294967296) (wrap64 (32 - (wrap64 (8 * bt135.1)))))) % 4294967296)) else (none)))))
def octet_Sum.f (k : Nat) (a0 : ByteArray) : Option (Int) := (octet_Read.f a0).bind fun bt123 => (octet_Sum.l0 k 0 bt123.1 bt123.2.1 bt123.2.2)
theorem octet_Sum.mono_l : ∀ k, (∀ y0 y1 y2 y3, LeO (octet_Sum.l0 k y0 y1 y2 y3) (octet_Sum.l0 (k + 1) y0 y1 y2 y3))
  | 0 => fun _ _ _ _ r h => by simp [octet_Sum.l0] at h
  | k + 1 => by
    have ih0 := octet_Sum.mono_l k
    · intro y0 y1 y2 y3
      unfold octet_Sum.l0
      repeat' first
      | (with_reducible exact ih0 _ _ _ _)
      | (with_reducible exact LeO.refl _)
      | (with_reducible exact LeO.none _)
      | (with_reducible refine LeO.ite ?_ ?_)
      | (with_reducible refine LeO.bind ?_ (fun _ => ?_))
      | exact ih0 _ _ _ _
      | exact LeO.none _
      | refine LeO.ite ?_ ?_
      | refine LeO.bind ?_ (fun _ => ?_)
theorem octet_Sum.mono : ∀ a0 k, LeO (octet_Sum.f k a0) (octet_Sum.f (k + 1) a0) := by
  intro a0 k
  have ih0 := octet_Sum.mono_l k
  unfold octet_Sum.f
  repeat' first
      | (with_reducible exact ih0 _ _ _ _)
      | (with_reducible exact LeO.refl _)
      | (with_reducible exact LeO.none _)
      | (with_reducible refine LeO.ite ?_ ?_)
      | (with_reducible refine LeO.bind ?_ (fun _ => ?_))
      | exact ih0 _ _ _ _
      | exact LeO.none _
      | refine LeO.ite ?_ ?_
      | refine LeO.bind ?_ (fun _ => ?_)
set_option maxHeartbeats 8000000 in
set_option maxRecDepth 100000 in
theorem octet_Sum.calls (k : Nat) (a0 : ByteArray) (r : Int) (w : World) (h : octet_Sum.f k a0 = some r) :
    Calls Try.prog 19 #[.string a0] w fun e w' => e = .returned (.int .u32 r) ∧ Below w.heap.size w w' := by
  have HB := Aside0.mk (Below.refl w.heap.size w)
  have H : ((octet_Read.f a0).bind fun bt123 => (octet_Sum.l0 k 0 bt123.1 bt123.2.1 bt123.2.2)) = some r := h
  clear h
  replace H := Option.bind_eq_some_iff.mp H
  obtain ⟨⟨t123, t124, t125⟩, A20, H⟩ := H
  replace H : (octet_Sum.l0 k 0 t123 t124 t125) = some r := H
  have A2 := Aside0.mk A20
  clear A20
  have H' := Aside0.mk H
  clear H
  go_enter Try.func19, Try.ntmps19
  go_wp2_with (first | ((with_reducible refine gate_callee (f := 13) rfl ?_); refine goesL_ (some 7) rfl rfl Try.func13 (by kernel_rfl) rfl #[.string a0] rfl (by (try simp only [List.map_toArray, List.map_cons, List.map_nil]); first | done | rfl | (simp only [List.length_drop, List.length_take]; rfl) | (simp only [ByteArray.size_extract, Nat.sub_zero]; rfl)) ?_; (with_reducible refine (octet_Read.calls a0 t123 t124 t125 w _ ?side1 A2.out).mono ?_); (case side1 => repeat (first | (with_reducible first | exact HB.out | apply below_alloc | apply pw_below_drewN | apply below_drew1) | exact HB.out)); rintro e w3 ⟨g126, rfl, hi, hb, hb2⟩; refine ⟨_, rfl, ?_⟩; have n0_ := Aside0.mk (hb); have n1_ := Aside0.mk (hi); clear HB; have HB := n0_; have HI126 := n1_; clear n0_ n1_; (try clear hb); (try clear hb2); (try clear hk); (try clear hi)))
  go_loopg [3] k (fun kq v3 w' => ∃ (x3_1 : Int) (x127000_1 : ByteArray) (x127001_1 : Int) (x127002_1 : Bool), v3 = .int .u32 x3_1 ∧ Aside0 (octet_Sum.l0 kq x3_1 x127000_1 x127001_1 x127002_1 = some r) ∧ Aside0 (kq ≤ k) ∧ Aside0 (IsS52 w w' g126 x127000_1 x127001_1 x127002_1) ∧ Aside0 (Below w.heap.size w w'))
  case atStart => exact ⟨(0), (t123), (t124), (t125), (by first | rfl | (simp; done) | (simp [*]; done)), H', ⟨Nat.le_refl _⟩, ⟨by repeat (first | (with_reducible first | exact HI126.out | apply IsS52.alloc | apply IsS52.drewN | apply IsS52.drew | apply IsS52.set_0 | apply IsS52.set_1 | apply IsS52.set_2) | exact HI126.out)⟩, ⟨by repeat (first | (with_reducible first | exact HB.out | apply below_alloc | apply pw_below_drewN | apply below_drew1 | refine below_set ?_ (IsS52.ge HI126.out)) | exact HB.out)⟩⟩
  case round =>
    clear H'
    try clear c1
    try clear p2
    obtain ⟨x3_1, x127000_1, x127001_1, x127002_1, rfl, HA, HK1, HI126, HB⟩ := hrel
    cases gk with
    | zero => exact absurd HA.out (by simp [octet_Sum.l0])
    | succ k1 =>
      have H := HA.out
      clear HA
      simp only [octet_Sum.l0] at H
      replace H := Option.bind_eq_some_iff.mp H
      obtain ⟨⟨t127, t128, t129, t130⟩, A40, H⟩ := H
      replace H : (if t127 ≥ 4 then ((octet_Reader_Num.f t128 t129 t130 4).bind fun bt131 => (octet_Sum.l0 k1 ((x3_1 + ((bt131.1) % 4294967296)) % 4294967296) bt131.2.1 bt131.2.2.1 bt131.2.2.2)) else ((octet_Reader_Left.f t128 t129 t130).bind fun bt135 => ((octet_Reader_Num.f bt135.2.1 bt135.2.2.1 bt135.2.2.2 bt135.1).bind fun bt139 => (if 0 ≤ (wrap64 (32 - (wrap64 (8 * bt135.1)))) then (some ((x3_1 + (shl .u32 ((bt139.1) % 4294967296) (wrap64 (32 - (wrap64 (8 * bt135.1)))))) % 4294967296)) else (none))))) = some r := H
      have A4 := Aside0.mk A40
      clear A40
      by_cases c5 : t127 ≥ 4
      · rw [if_pos c5] at H
        have c5b0 : decide (4 ≤ t127) = true := decide_eq_true c5
        clear c5
        replace H := Option.bind_eq_some_iff.mp H
        obtain ⟨⟨t131, t132, t133, t134⟩, A60, H⟩ := H
        replace H : (octet_Sum.l0 k1 ((x3_1 + ((t131) % 4294967296)) % 4294967296) t132 t133 t134) = some r := H
        have A6 := Aside0.mk A60
        clear A60
        have H' := Aside0.mk H
        clear H
        go_wp2_with (first | ((with_reducible refine gate_callee (f := 26) rfl ?_); refine goesL_ (some 9) rfl rfl Try.func26 (by kernel_rfl) rfl #[.pointer (some ⟨g126, 0, none⟩)] rfl (by (try simp only [List.map_toArray, List.map_cons, List.map_nil]); first | done | rfl | (simp only [List.length_drop, List.length_take]; rfl) | (simp only [ByteArray.size_extract, Nat.sub_zero]; rfl)) ?_; (with_reducible refine (octet_Reader_Left.calls g126 x127000_1 x127001_1 x127002_1 t127 t128 t129 t130 w _ ?side1 ?side2 A4.out).mono ?_); (case side1 => repeat (first | (with_reducible first | exact HI126.out | apply IsS52.alloc | apply IsS52.drewN | apply IsS52.drew | apply IsS52.set_0 | apply IsS52.set_1 | apply IsS52.set_2) | exact HI126.out)); (case side2 => repeat (first | (with_reducible first | exact HB.out | apply below_alloc | apply pw_below_drewN | apply below_drew1 | refine below_set ?_ (IsS52.ge HI126.out)) | exact HB.out)); rintro e w7 ⟨rfl, hi, hb, hk⟩; refine ⟨_, rfl, ?_⟩; have n0_ := Aside0.mk (hb); have n1_ := Aside0.mk (hi); clear HB; clear HI126; have HB := n0_; have HI126 := n1_; clear n0_ n1_; (try clear hb); (try clear hb2); (try clear hk); (try clear hi)) | ((with_reducible refine gate_callee (f := 14) rfl ?_); refine goesL_ (some 13) rfl rfl Try.func14 (by kernel_rfl) rfl #[.pointer (some ⟨g126, 0, none⟩), .int .i64 4] rfl (by (try simp only [List.map_toArray, List.map_cons, List.map_nil]); first | done | rfl | (simp only [List.length_drop, List.length_take]; rfl) | (simp only [ByteArray.size_extract, Nat.sub_zero]; rfl)) ?_; (with_reducible refine (octet_Reader_Num.calls g126 t128 t129 t130 4 t131 t132 t133 t134 w _ ?side1 ?side2 A6.out).mono ?_); (case side1 => repeat (first | (with_reducible first | exact HI126.out | apply IsS52.alloc | apply IsS52.drewN | apply IsS52.drew | apply IsS52.set_0 | apply IsS52.set_1 | apply IsS52.set_2) | exact HI126.out)); (case side2 => repeat (first | (with_reducible first | exact HB.out | apply below_alloc | apply pw_below_drewN | apply below_drew1 | refine below_set ?_ (IsS52.ge HI126.out)) | exact HB.out)); rintro e w8 ⟨rfl, hi, hb, hk⟩; refine ⟨_, rfl, ?_⟩; have n0_ := Aside0.mk (hb); have n1_ := Aside0.mk (hi); clear HB; clear HI126; have HB := n0_; have HI126 := n1_; clear n0_ n1_; (try clear hb); (try clear hb2); (try clear hk); (try clear hi)))
        go_roundg k1
        case measure => have := HK1.out; omega
        case rel => exact ⟨((x3_1 + ((t131) % 4294967296)) % 4294967296), (t132), (t133), (t134), (by first | rfl | (simp; done) | (simp [*]; done)), H', ⟨by have := HK1.out; omega⟩, ⟨by repeat (first | (with_reducible first | exact HI126.out | apply IsS52.alloc | apply IsS52.drewN | apply IsS52.drew | apply IsS52.set_0 | apply IsS52.set_1 | apply IsS52.set_2) | exact HI126.out)⟩, ⟨by repeat (first | (with_reducible first | exact HB.out | apply below_alloc | apply pw_below_drewN | apply below_drew1 | refine below_set ?_ (IsS52.ge HI126.out)) | exact HB.out)⟩⟩
      · rw [if_neg c5] at H
        have c5b0 : decide (4 ≤ t127) = false := decide_eq_false c5
        clear c5
        replace H := Option.bind_eq_some_iff.mp H
        obtain ⟨⟨t135, t136, t137, t138⟩, A90, H⟩ := H
        replace H : ((octet_Reader_Num.f t136 t137 t138 t135).bind fun bt139 => (if 0 ≤ (wrap64 (32 - (wrap64 (8 * t135)))) then (some ((x3_1 + (shl .u32 ((bt139.1) % 4294967296) (wrap64 (32 - (wrap64 (8 * t135)))))) % 4294967296)) else (none))) = some r := H
        have A9 := Aside0.mk A90
        clear A90
        replace H := Option.bind_eq_some_iff.mp H
        obtain ⟨⟨t139, t140, t141, t142⟩, A100, H⟩ := H
        replace H : (if 0 ≤ (wrap64 (32 - (wrap64 (8 * t135)))) then (some ((x3_1 + (shl .u32 ((t139) % 4294967296) (wrap64 (32 - (wrap64 (8 * t135)))))) % 4294967296)) else (none)) = some r := H
        have A10 := Aside0.mk A100
        clear A100
        obtain ⟨ji11, hji11⟩ : ∃ j_ : Int, (wrap64 (32 - (wrap64 (8 * t135)))) = j_ := ⟨_, rfl⟩
        replace H : (if 0 ≤ (ji11) then (some ((x3_1 + (shl .u32 ((t139) % 4294967296) (ji11))) % 4294967296)) else (none)) = some r := by first | (rw [hji11] at H; exact H) | (simp only [hji11] at H ⊢; exact H)
        (try rw [hji11] at A4)
        (try rw [hji11] at A9)
        (try rw [hji11] at A10)
        have hji11w : (IntKind.i64.wrap (32 - (wrap64 (8 * t135)))) = ji11 := (i64_w _).trans hji11
        by_cases c12 : 0 ≤ (ji11)
        · rw [if_pos c12] at H
          have c12b0 := eq_true c12
          have c12b1 : decide (0 ≤ (ji11)) = true := decide_eq_true c12
          clear c12
          obtain ⟨ji13, hji13⟩ : ∃ j_ : Int, (shl .u32 ((t139) % 4294967296) (ji11)) = j_ := ⟨_, rfl⟩
          (try rw [hji13] at hji11)
          (try rw [hji13] at hji11w)
          replace H : (some ((x3_1 + (ji13)) % 4294967296)) = some r := by first | (rw [hji13] at H; exact H) | (simp only [hji13] at H ⊢; exact H)
          (try rw [hji13] at A4)
          (try rw [hji13] at A9)
          (try rw [hji13] at A10)
          have hji13_ : (IntKind.u32.wrap (((t139) % 4294967296) * 2 ^ min (ji11).toNat 32)) = ji13 := hji13
          have hji13z : (ji11) ≤ 32 → (IntKind.u32.wrap (((t139) % 4294967296) * 2 ^ (ji11).toNat)) = ji13 := shl_small hji13
          obtain rfl := Option.some.inj H
          go_wp2_with (first | ((with_reducible refine gate_callee (f := 26) rfl ?_); refine goesL_ (some 9) rfl rfl Try.func26 (by kernel_rfl) rfl #[.pointer (some ⟨g126, 0, none⟩)] rfl (by (try simp only [List.map_toArray, List.map_cons, List.map_nil]); first | done | rfl | (simp only [List.length_drop, List.length_take]; rfl) | (simp only [ByteArray.size_extract, Nat.sub_zero]; rfl)) ?_; (with_reducible refine (octet_Reader_Left.calls g126 x127000_1 x127001_1 x127002_1 t127 t128 t129 t130 w _ ?side1 ?side2 A4.out).mono ?_); (case side1 => repeat (first | (with_reducible first | exact HI126.out | apply IsS52.alloc | apply IsS52.drewN | apply IsS52.drew | apply IsS52.set_0 | apply IsS52.set_1 | apply IsS52.set_2) | exact HI126.out)); (case side2 => repeat (first | (with_reducible first | exact HB.out | apply below_alloc | apply pw_below_drewN | apply below_drew1 | refine below_set ?_ (IsS52.ge HI126.out)) | exact HB.out)); rintro e w14 ⟨rfl, hi, hb, hk⟩; refine ⟨_, rfl, ?_⟩; have n0_ := Aside0.mk (hb); have n1_ := Aside0.mk (hi); clear HB; clear HI126; have HB := n0_; have HI126 := n1_; clear n0_ n1_; (try clear hb); (try clear hb2); (try clear hk); (try clear hi)) | ((with_reducible refine gate_callee (f := 26) rfl ?_); refine goesL_ (some 17) rfl rfl Try.func26 (by kernel_rfl) rfl #[.pointer (some ⟨g126, 0, none⟩)] rfl (by (try simp only [List.map_toArray, List.map_cons, List.map_nil]); first | done | rfl | (simp only [List.length_drop, List.length_take]; rfl) | (simp only [ByteArray.size_extract, Nat.sub_zero]; rfl)) ?_; (with_reducible refine (octet_Reader_Left.calls g126 t128 t129 t130 t135 t136 t137 t138 w _ ?side1 ?side2 A9.out).mono ?_); (case side1 => repeat (first | (with_reducible first | exact HI126.out | apply IsS52.alloc | apply IsS52.drewN | apply IsS52.drew | apply IsS52.set_0 | apply IsS52.set_1 | apply IsS52.set_2) | exact HI126.out)); (case side2 => repeat (first | (with_reducible first | exact HB.out | apply below_alloc | apply pw_below_drewN | apply below_drew1 | refine below_set ?_ (IsS52.ge HI126.out)) | exact HB.out)); rintro e w15 ⟨rfl, hi, hb, hk⟩; refine ⟨_, rfl, ?_⟩; have n0_ := Aside0.mk (hb); have n1_ := Aside0.mk (hi); clear HB; clear HI126; have HB := n0_; have HI126 := n1_; clear n0_ n1_; (try clear hb); (try clear hb2); (try clear hk); (try clear hi)) | ((with_reducible refine gate_callee (f := 14) rfl ?_); refine goesL_ (some 21) rfl rfl Try.func14 (by kernel_rfl) rfl #[.pointer (some ⟨g126, 0, none⟩), .int .i64 t135] rfl (by (try simp only [List.map_toArray, List.map_cons, List.map_nil]); first | done | rfl | (simp only [List.length_drop, List.length_take]; rfl) | (simp only [ByteArray.size_extract, Nat.sub_zero]; rfl)) ?_; (with_reducible refine (octet_Reader_Num.calls g126 t136 t137 t138 t135 t139 t140 t141 t142 w _ ?side1 ?side2 A10.out).mono ?_); (case side1 => repeat (first | (with_reducible first | exact HI126.out | apply IsS52.alloc | apply IsS52.drewN | apply IsS52.drew | apply IsS52.set_0 | apply IsS52.set_1 | apply IsS52.set_2) | exact HI126.out)); (case side2 => repeat (first | (with_reducible first | exact HB.out | apply below_alloc | apply pw_below_drewN | apply below_drew1 | refine below_set ?_ (IsS52.ge HI126.out)) | exact HB.out)); rintro e w16 ⟨rfl, hi, hb, hk⟩; refine ⟨_, rfl, ?_⟩; have n0_ := Aside0.mk (hb); have n1_ := Aside0.mk (hi); clear HB; clear HI126; have HB := n0_; have HI126 := n1_; clear n0_ n1_; (try clear hb); (try clear hb2); (try clear hk); (try clear hi)))
          go_ret
          exact ⟨by first | rfl | (simp [errW_none, errW_some] <;> rfl) | (simp only [← hji11, ← hji13]; first | rfl | (simp [errW_none, errW_some] <;> rfl)) | (simp [*, errW_none, errW_some] <;> rfl), by repeat (first | (with_reducible first | exact HB.out | apply below_alloc | apply pw_below_drewN | apply below_drew1 | refine below_set ?_ (IsS52.ge HI126.out)) | exact HB.out)⟩
        · rw [if_neg c12] at H
          exact absurd H (by simp)

/-! ### fleuronlaw01_shown: function 12 -/
def fleuronlaw01_shown.f (k : Nat)  : Option (Bool) := (octet_Put.f k 258 3).bind fun t143 => (if t143.toList = ([0, 1, 2] : List UInt8) then ((octet_Put.f k (-1) 1).bind fun t144 => (if t144.toList = ([255] : List UInt8) then ((octet_Sum.f k (⟨#[0, 0, 0, 1, 255]⟩ : ByteArray)).bind fun t145 => (some (t145 == 4278190081))) else (some false))) else (some false))
theorem fleuronlaw01_shown.mono : ∀ k, LeO (fleuronlaw01_shown.f k ) (fleuronlaw01_shown.f (k + 1) ) := by
  intro  k
  unfold fleuronlaw01_shown.f
  repeat' first
      | (with_reducible exact octet_Put.mono _ _ _)
      | (with_reducible exact octet_Sum.mono _ _)
      | (with_reducible exact LeO.refl _)
      | (with_reducible exact LeO.none _)
      | (with_reducible refine LeO.ite ?_ ?_)
      | (with_reducible refine LeO.bind ?_ (fun _ => ?_))
      | exact octet_Put.mono _ _ _
      | exact octet_Sum.mono _ _
      | exact LeO.none _
      | refine LeO.ite ?_ ?_
      | refine LeO.bind ?_ (fun _ => ?_)
set_option maxHeartbeats 8000000 in
set_option maxRecDepth 100000 in
theorem fleuronlaw01_shown.calls (k : Nat)  (r : Bool) (w : World) (h : fleuronlaw01_shown.f k  = some r) :
    Calls Try.prog 12 #[] w fun e w' => e = .returned (.bool r) ∧ Below w.heap.size w w' := by
  have HB := Aside0.mk (Below.refl w.heap.size w)
  have H : ((octet_Put.f k 258 3).bind fun t143 => (if t143.toList = ([0, 1, 2] : List UInt8) then ((octet_Put.f k (-1) 1).bind fun t144 => (if t144.toList = ([255] : List UInt8) then ((octet_Sum.f k (⟨#[0, 0, 0, 1, 255]⟩ : ByteArray)).bind fun t145 => (some (t145 == 4278190081))) else (some false))) else (some false))) = some r := h
  clear h
  replace H := Option.bind_eq_some_iff.mp H
  obtain ⟨t143, A10, H⟩ := H
  replace H : (if t143.toList = ([0, 1, 2] : List UInt8) then ((octet_Put.f k (-1) 1).bind fun t144 => (if t144.toList = ([255] : List UInt8) then ((octet_Sum.f k (⟨#[0, 0, 0, 1, 255]⟩ : ByteArray)).bind fun t145 => (some (t145 == 4278190081))) else (some false))) else (some false)) = some r := H
  have A1 := Aside0.mk A10
  clear A10
  by_cases c2 : t143.toList = ([0, 1, 2] : List UInt8)
  · rw [if_pos c2] at H
    have c2b0 : (t143.toList == ([0, 1, 2] : List UInt8)) = true := beq_iff_eq.mpr c2
    have c2b1 : (t143.toList != ([0, 1, 2] : List UInt8)) = false := bne_eq_false_iff_eq.mpr c2
    clear c2
    replace H := Option.bind_eq_some_iff.mp H
    obtain ⟨t144, A30, H⟩ := H
    replace H : (if t144.toList = ([255] : List UInt8) then ((octet_Sum.f k (⟨#[0, 0, 0, 1, 255]⟩ : ByteArray)).bind fun t145 => (some (t145 == 4278190081))) else (some false)) = some r := H
    have A3 := Aside0.mk A30
    clear A30
    by_cases c4 : t144.toList = ([255] : List UInt8)
    · rw [if_pos c4] at H
      have c4b0 : (t144.toList == ([255] : List UInt8)) = true := beq_iff_eq.mpr c4
      have c4b1 : (t144.toList != ([255] : List UInt8)) = false := bne_eq_false_iff_eq.mpr c4
      clear c4
      replace H := Option.bind_eq_some_iff.mp H
      obtain ⟨t145, A50, H⟩ := H
      replace H : (some (t145 == 4278190081)) = some r := H
      have A5 := Aside0.mk A50
      clear A50
      obtain rfl := Option.some.inj H
      go_enter Try.func12, Try.ntmps12
      go_wp2_with (first | ((with_reducible refine gate_callee (f := 17) rfl ?_); refine goesL_ (some 1) rfl rfl Try.func17 (by kernel_rfl) rfl #[.int .i64 258, .int .i64 3] rfl (by (try simp only [List.map_toArray, List.map_cons, List.map_nil]); first | done | rfl | (simp only [List.length_drop, List.length_take]; rfl) | (simp only [ByteArray.size_extract, Nat.sub_zero]; rfl)) ?_; (with_reducible refine (octet_Put.calls k 258 3 t143 _ A1.out).mono ?_); rintro e w6 ⟨rfl, hb⟩; refine ⟨_, rfl, ?_⟩; have n0_ := Aside0.mk (below_step (by repeat (first | (with_reducible first | exact HB.out | apply below_alloc | apply pw_below_drewN | apply below_drew1) | exact HB.out)) hb); clear HB; have HB := n0_; clear n0_; (try clear hb); (try clear hb2); (try clear hk); (try clear hi)) | (go_at_call 17; (with_reducible refine (octet_Put.calls k (-1) 1 t144 _ A3.out).mono ?_); rintro e w7 ⟨rfl, hb⟩; have n0_ := Aside0.mk (below_step (by repeat (first | (with_reducible first | exact HB.out | apply below_alloc | apply pw_below_drewN | apply below_drew1) | exact HB.out)) hb); clear HB; have HB := n0_; clear n0_; (try clear hb); (try clear hb2); (try clear hk); (try clear hi)) | (go_at_call 19; (with_reducible refine (octet_Sum.calls k (⟨#[0, 0, 0, 1, 255]⟩ : ByteArray) t145 _ A5.out).mono ?_); rintro e w8 ⟨rfl, hb⟩; have n0_ := Aside0.mk (below_step (by repeat (first | (with_reducible first | exact HB.out | apply below_alloc | apply pw_below_drewN | apply below_drew1) | exact HB.out)) hb); clear HB; have HB := n0_; clear n0_; (try clear hb); (try clear hb2); (try clear hk); (try clear hi)))
      go_ret
      exact ⟨by first | rfl | (simp [errW_none, errW_some] <;> rfl) | (simp [*, errW_none, errW_some] <;> rfl), by repeat (first | (with_reducible first | exact HB.out | apply below_alloc | apply pw_below_drewN | apply below_drew1) | exact HB.out)⟩
    · rw [if_neg c4] at H
      have c4b0 : (t144.toList == ([255] : List UInt8)) = false := beq_eq_false_iff_ne.mpr c4
      have c4b1 : (t144.toList != ([255] : List UInt8)) = true := bne_iff_ne.mpr c4
      obtain rfl := Option.some.inj H
      go_enter Try.func12, Try.ntmps12
      go_wp2_with (first | ((with_reducible refine gate_callee (f := 17) rfl ?_); refine goesL_ (some 1) rfl rfl Try.func17 (by kernel_rfl) rfl #[.int .i64 258, .int .i64 3] rfl (by (try simp only [List.map_toArray, List.map_cons, List.map_nil]); first | done | rfl | (simp only [List.length_drop, List.length_take]; rfl) | (simp only [ByteArray.size_extract, Nat.sub_zero]; rfl)) ?_; (with_reducible refine (octet_Put.calls k 258 3 t143 _ A1.out).mono ?_); rintro e w9 ⟨rfl, hb⟩; refine ⟨_, rfl, ?_⟩; have n0_ := Aside0.mk (below_step (by repeat (first | (with_reducible first | exact HB.out | apply below_alloc | apply pw_below_drewN | apply below_drew1) | exact HB.out)) hb); clear HB; have HB := n0_; clear n0_; (try clear hb); (try clear hb2); (try clear hk); (try clear hi)) | (go_at_call 17; (with_reducible refine (octet_Put.calls k (-1) 1 t144 _ A3.out).mono ?_); rintro e w10 ⟨rfl, hb⟩; have n0_ := Aside0.mk (below_step (by repeat (first | (with_reducible first | exact HB.out | apply below_alloc | apply pw_below_drewN | apply below_drew1) | exact HB.out)) hb); clear HB; have HB := n0_; clear n0_; (try clear hb); (try clear hb2); (try clear hk); (try clear hi)))
      go_ret
      exact ⟨by first | rfl | (simp [errW_none, errW_some] <;> rfl) | (simp [*, errW_none, errW_some] <;> rfl), by repeat (first | (with_reducible first | exact HB.out | apply below_alloc | apply pw_below_drewN | apply below_drew1) | exact HB.out)⟩
  · rw [if_neg c2] at H
    have c2b0 : (t143.toList == ([0, 1, 2] : List UInt8)) = false := beq_eq_false_iff_ne.mpr c2
    have c2b1 : (t143.toList != ([0, 1, 2] : List UInt8)) = true := bne_iff_ne.mpr c2
    obtain rfl := Option.some.inj H
    go_enter Try.func12, Try.ntmps12
    go_wp2_with (first | ((with_reducible refine gate_callee (f := 17) rfl ?_); refine goesL_ (some 1) rfl rfl Try.func17 (by kernel_rfl) rfl #[.int .i64 258, .int .i64 3] rfl (by (try simp only [List.map_toArray, List.map_cons, List.map_nil]); first | done | rfl | (simp only [List.length_drop, List.length_take]; rfl) | (simp only [ByteArray.size_extract, Nat.sub_zero]; rfl)) ?_; (with_reducible refine (octet_Put.calls k 258 3 t143 _ A1.out).mono ?_); rintro e w11 ⟨rfl, hb⟩; refine ⟨_, rfl, ?_⟩; have n0_ := Aside0.mk (below_step (by repeat (first | (with_reducible first | exact HB.out | apply below_alloc | apply pw_below_drewN | apply below_drew1) | exact HB.out)) hb); clear HB; have HB := n0_; clear n0_; (try clear hb); (try clear hb2); (try clear hk); (try clear hi)))
    go_ret
    exact ⟨by first | rfl | (simp [errW_none, errW_some] <;> rfl) | (simp [*, errW_none, errW_some] <;> rfl), by repeat (first | (with_reducible first | exact HB.out | apply below_alloc | apply pw_below_drewN | apply below_drew1) | exact HB.out)⟩

end Go.Proofs.Ytfnbaepioignaaa.POctn
