/- What functions of chapter 11 answer, over plain data. No conditions. -/
import Derived.Test.YtcmekbibgonhbaaRxL31
namespace Go.V
open Go Go.Proofs Go.Shelf
set_option linter.unusedVariables false
set_option linter.unusedSimpArgs false
set_option maxRecDepth 10000
set_option maxHeartbeats 2000000
theorem tame_ok {f : Font} {run : List Item} (hb : big f run = false) (h : okFont f) : Tame f :=
  tame_of_big hb fun l hl r hr c hc => ((h.2.2.2.1.1 l hl).2.2.1 r hr).2.2.2.2.1.1 c hc |>.1
theorem applyF_len {f : Font} {k : Int} {run : List Item} {forms : List Int} : (applyF f k run forms).length ≤ max run.length 500 := by
  have hs := stepRun_len f k forms
  have h1 : ∀ n (run : List Item), (rear f k forms n run).length ≤ max run.length 500 := fun n => by
    induction n with
    | zero => intro run; simp [rear]; omega
    | succ n ih => intro run; rw [rear]; have := ih (stepRun f k forms run n); have := hs run n; omega
  have h2 : ∀ n (run : List Item) p, (fore f k forms n run p).length ≤ max run.length 500 := fun n => by
    induction n with
    | zero => intro run p; simp [fore]; omega
    | succ n ih =>
      intro run p
      rw [fore]
      split
      · have := ih (stepRun f k forms run p) (stepNext f k forms run p); have := hs run p; omega
      · omega
  rw [applyF]
  split
  · split
    · exact h1 _ _
    · exact h2 _ _ _
  · omega
theorem RulesApply_law (a : Ask) (ha : okAsk a) : Pure Try.prog 4 [encAsk a] (.bool true) := by
  refine pure_of (rs := [.tmp 2]) (m := 43) Try.func4 rfl rfl rfl fun h => ?_
  simp (maxSteps := 2000000) +contextual (disch := first | omega | assumption) only [go_sem, Nat.reduceAdd, Nat.reduceSub, Nat.reduceMul, Nat.reduceLT, Nat.reduceLeDiff, Nat.reduceEqDiff, reduceCtorEq, ↓reduceIte, Int.reduceLE, Int.reduceLT, Int.reduceToNat, Int.reduceAdd, Int.reduceSub, Int.reduceEq, Int.reduceNeg, List.append_assoc, cellsCall_def, cellsRule_def, cellsLookup_def, cellsPoint_def, cellsOutline_def, cellsPart_def, cellsAnchor_def, cellsDelta_def, cellsIns_def, cellsGlyph_def, cellsChar_def, cellsFeature_def, cellsAxis_def, cellsTent_def, cellsRegion_def, cellsFont_def, cellsItem_def, cellsText_def, cellsAsk_def]
  refine call_pure rfl (Big_pure a.f a.run (lens_ok ha.1)) ?_
  simp (maxSteps := 2000000) +contextual (disch := first | omega | assumption) only [go_sem, Nat.reduceAdd, Nat.reduceSub, Nat.reduceMul, Nat.reduceLT, Nat.reduceLeDiff, Nat.reduceEqDiff, reduceCtorEq, ↓reduceIte, Int.reduceLE, Int.reduceLT, Int.reduceToNat, Int.reduceAdd, Int.reduceSub, Int.reduceEq, Int.reduceNeg, List.append_assoc, cellsCall_def, cellsRule_def, cellsLookup_def, cellsPoint_def, cellsOutline_def, cellsPart_def, cellsAnchor_def, cellsDelta_def, cellsIns_def, cellsGlyph_def, cellsChar_def, cellsFeature_def, cellsAxis_def, cellsTent_def, cellsRegion_def, cellsFont_def, cellsItem_def, cellsText_def, cellsAsk_def]
  refine ⟨fun h1 => ?_, fun h1 => ?_⟩
  · (all_goals first | assumption | omega | exact pureK_gen (by simp only [go_sem, shut, shutL] <;> rfl) (by intros; simp only [go_sem, cl, clL]) rfl rfl | exact pureK_gen0 (by simp only [go_sem, shut, shutL] <;> rfl) (by intros; simp only [go_sem, cl, clL]) | exact pureK_gl (by simp only [go_sem, shut, shutL] <;> rfl) (by intros; simp only [go_sem, cl, clL]) (Grows.ext (by assumption)) rfl | exact pureK_gl0 (by simp only [go_sem, shut, shutL] <;> rfl) (by intros; simp only [go_sem, cl, clL]) (Grows.ext (by assumption)) rfl | exact pureK_sub (by simp only [go_sem, shut, shutL] <;> rfl) (by intros; simp only [go_sem, cl, clL]) (by assumption) | exact pureK_sub (by simp only [go_sem, shut, shutL] <;> rfl) (by intros; simp only [go_sem, cl, clL]) (Sub.more (by assumption) _))
  have hb := eq_false_of_ne_true (asT_f h1)
  have ht := tame_ok hb ha.1
  obtain ⟨ok, h300⟩ := small_font hb
  have hfl : a.forms.length ≤ 9223372036854775806 := by have := ha.2.2.2.2.2; omega
  refine append_grow (g2 := .no) encItem [] a.run (fun _ => rfl) tElem_32 tSize_51 tBytes_51 aZero_51 (by rw [tElem_32]; rfl) rfl (by decide) trivial (by decide) (by simp only [List.length_nil]; omega) (grows_new _ _) fun gr gl hg => ?_
  simp (maxSteps := 2000000) +contextual (disch := first | omega | assumption) only [go_sem, Nat.reduceAdd, Nat.reduceSub, Nat.reduceMul, Nat.reduceLT, Nat.reduceLeDiff, Nat.reduceEqDiff, reduceCtorEq, ↓reduceIte, Int.reduceLE, Int.reduceLT, Int.reduceToNat, Int.reduceAdd, Int.reduceSub, Int.reduceEq, Int.reduceNeg, List.append_assoc, cellsCall_def, cellsRule_def, cellsLookup_def, cellsPoint_def, cellsOutline_def, cellsPart_def, cellsAnchor_def, cellsDelta_def, cellsIns_def, cellsGlyph_def, cellsChar_def, cellsFeature_def, cellsAxis_def, cellsTent_def, cellsRegion_def, cellsFont_def, cellsItem_def, cellsText_def, cellsAsk_def]
  refine call_pure rfl (ownApply_pure ht a.lookup a.run a.forms hfl (by omega)) ?_
  simp (maxSteps := 2000000) +contextual (disch := first | omega | assumption) only [go_sem, Nat.reduceAdd, Nat.reduceSub, Nat.reduceMul, Nat.reduceLT, Nat.reduceLeDiff, Nat.reduceEqDiff, reduceCtorEq, ↓reduceIte, Int.reduceLE, Int.reduceLT, Int.reduceToNat, Int.reduceAdd, Int.reduceSub, Int.reduceEq, Int.reduceNeg, List.append_assoc, cellsCall_def, cellsRule_def, cellsLookup_def, cellsPoint_def, cellsOutline_def, cellsPart_def, cellsAnchor_def, cellsDelta_def, cellsIns_def, cellsGlyph_def, cellsChar_def, cellsFeature_def, cellsAxis_def, cellsTent_def, cellsRegion_def, cellsFont_def, cellsItem_def, cellsText_def, cellsAsk_def]
  refine call_pure rfl ruled_pure ?_
  simp (maxSteps := 2000000) +contextual (disch := first | omega | assumption) only [go_sem, Nat.reduceAdd, Nat.reduceSub, Nat.reduceMul, Nat.reduceLT, Nat.reduceLeDiff, Nat.reduceEqDiff, reduceCtorEq, ↓reduceIte, Int.reduceLE, Int.reduceLT, Int.reduceToNat, Int.reduceAdd, Int.reduceSub, Int.reduceEq, Int.reduceNeg, List.append_assoc, cellsCall_def, cellsRule_def, cellsLookup_def, cellsPoint_def, cellsOutline_def, cellsPart_def, cellsAnchor_def, cellsDelta_def, cellsIns_def, cellsGlyph_def, cellsChar_def, cellsFeature_def, cellsAxis_def, cellsTent_def, cellsRegion_def, cellsFont_def, cellsItem_def, cellsText_def, cellsAsk_def]
  refine call_pure rfl (refApply_pure ht a.lookup a.run a.forms hfl (by omega)) ?_
  simp (maxSteps := 2000000) +contextual (disch := first | omega | assumption) only [go_sem, Nat.reduceAdd, Nat.reduceSub, Nat.reduceMul, Nat.reduceLT, Nat.reduceLeDiff, Nat.reduceEqDiff, reduceCtorEq, ↓reduceIte, Int.reduceLE, Int.reduceLT, Int.reduceToNat, Int.reduceAdd, Int.reduceSub, Int.reduceEq, Int.reduceNeg, List.append_assoc, cellsCall_def, cellsRule_def, cellsLookup_def, cellsPoint_def, cellsOutline_def, cellsPart_def, cellsAnchor_def, cellsDelta_def, cellsIns_def, cellsGlyph_def, cellsChar_def, cellsFeature_def, cellsAxis_def, cellsTent_def, cellsRegion_def, cellsFont_def, cellsItem_def, cellsText_def, cellsAsk_def]
  have hal := applyF_len (f := a.f) (k := a.lookup) (run := a.run) (forms := a.forms)
  refine call_pure rfl (Same_pure _ _ (by omega)) ?_
  rw [decide_eq_true rfl]
  simp (maxSteps := 2000000) +contextual (disch := first | omega | assumption) only [go_sem, Nat.reduceAdd, Nat.reduceSub, Nat.reduceMul, Nat.reduceLT, Nat.reduceLeDiff, Nat.reduceEqDiff, reduceCtorEq, ↓reduceIte, Int.reduceLE, Int.reduceLT, Int.reduceToNat, Int.reduceAdd, Int.reduceSub, Int.reduceEq, Int.reduceNeg, List.append_assoc, cellsCall_def, cellsRule_def, cellsLookup_def, cellsPoint_def, cellsOutline_def, cellsPart_def, cellsAnchor_def, cellsDelta_def, cellsIns_def, cellsGlyph_def, cellsChar_def, cellsFeature_def, cellsAxis_def, cellsTent_def, cellsRegion_def, cellsFont_def, cellsItem_def, cellsText_def, cellsAsk_def]
  refine call_shut rfl (Same_pure a.run a.run (by omega)) (by simp only [go_sem, shut, shutL] <;> rfl) ?_
  rw [decide_eq_true rfl]
  simp (maxSteps := 2000000) +contextual (disch := first | omega | assumption) only [go_sem, Nat.reduceAdd, Nat.reduceSub, Nat.reduceMul, Nat.reduceLT, Nat.reduceLeDiff, Nat.reduceEqDiff, reduceCtorEq, ↓reduceIte, Int.reduceLE, Int.reduceLT, Int.reduceToNat, Int.reduceAdd, Int.reduceSub, Int.reduceEq, Int.reduceNeg, List.append_assoc, cellsCall_def, cellsRule_def, cellsLookup_def, cellsPoint_def, cellsOutline_def, cellsPart_def, cellsAnchor_def, cellsDelta_def, cellsIns_def, cellsGlyph_def, cellsChar_def, cellsFeature_def, cellsAxis_def, cellsTent_def, cellsRegion_def, cellsFont_def, cellsItem_def, cellsText_def, cellsAsk_def]
  (all_goals first | assumption | omega | exact pureK_gen (by simp only [go_sem, shut, shutL] <;> rfl) (by intros; simp only [go_sem, cl, clL]) rfl rfl | exact pureK_gen0 (by simp only [go_sem, shut, shutL] <;> rfl) (by intros; simp only [go_sem, cl, clL]) | exact pureK_gl (by simp only [go_sem, shut, shutL] <;> rfl) (by intros; simp only [go_sem, cl, clL]) (Grows.ext (by assumption)) rfl | exact pureK_gl0 (by simp only [go_sem, shut, shutL] <;> rfl) (by intros; simp only [go_sem, cl, clL]) (Grows.ext (by assumption)) rfl | exact pureK_sub (by simp only [go_sem, shut, shutL] <;> rfl) (by intros; simp only [go_sem, cl, clL]) (by assumption) | exact pureK_sub (by simp only [go_sem, shut, shutL] <;> rfl) (by intros; simp only [go_sem, cl, clL]) (Sub.more (by assumption) _))
end Go.V
