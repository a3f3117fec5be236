/- What functions of chapter 11 answer, over plain data. No conditions. -/
import Derived.Test.YtcmekbibgonhbaaRxA
namespace Go.V
open Go Go.Proofs
set_option linter.unusedVariables false
set_option linter.unusedSimpArgs false
set_option maxRecDepth 10000
set_option maxHeartbeats 2000000
theorem with_pure (x : Item) (g : Int) : Pure Try.prog 42 [encItem x, .int g] (encItem { x with glyph := g }) := by
  refine pure_of (rs := [.cell 4 51]) (m := 6) Try.func42 rfl rfl rfl fun h => ?_
  simp (maxSteps := 2000000) +contextual (disch := first | omega | assumption) only [go_sem, Nat.reduceAdd, Nat.reduceSub, Nat.reduceMul, Nat.reduceLT, Nat.reduceLeDiff, Nat.reduceEqDiff, reduceCtorEq, ↓reduceIte, Int.reduceLE, Int.reduceLT, Int.reduceToNat, Int.reduceAdd, Int.reduceSub, Int.reduceEq, Int.reduceNeg, List.append_assoc, cellsCall_def, cellsRule_def, cellsLookup_def, cellsPoint_def, cellsOutline_def, cellsPart_def, cellsAnchor_def, cellsDelta_def, cellsIns_def, cellsGlyph_def, cellsChar_def, cellsFeature_def, cellsAxis_def, cellsTent_def, cellsRegion_def, cellsFont_def, cellsItem_def, cellsText_def, cellsAsk_def]
  (all_goals first | assumption | omega | exact pureK_gen (by simp only [go_sem, shut, shutL] <;> rfl) (by intros; simp only [go_sem, cl, clL]) rfl rfl | exact pureK_gen0 (by simp only [go_sem, shut, shutL] <;> rfl) (by intros; simp only [go_sem, cl, clL]) | exact pureK_gl (by simp only [go_sem, shut, shutL] <;> rfl) (by intros; simp only [go_sem, cl, clL]) (Grows.ext (by assumption)) rfl | exact pureK_gl0 (by simp only [go_sem, shut, shutL] <;> rfl) (by intros; simp only [go_sem, cl, clL]) (Grows.ext (by assumption)) rfl | exact pureK_sub (by simp only [go_sem, shut, shutL] <;> rfl) (by intros; simp only [go_sem, cl, clL]) (by assumption) | exact pureK_sub (by simp only [go_sem, shut, shutL] <;> rfl) (by intros; simp only [go_sem, cl, clL]) (Sub.more (by assumption) _))
theorem set_pure (g : Int) : Pure Try.prog 41 [.int g] (rowELI [[g]]) := by
  refine pure_of (rs := [.tmp 2]) (m := 5) Try.func41 rfl rfl rfl fun h => ?_
  simp (maxSteps := 2000000) +contextual (disch := first | omega | assumption) only [go_sem, Nat.reduceAdd, Nat.reduceSub, Nat.reduceMul, Nat.reduceLT, Nat.reduceLeDiff, Nat.reduceEqDiff, reduceCtorEq, ↓reduceIte, Int.reduceLE, Int.reduceLT, Int.reduceToNat, Int.reduceAdd, Int.reduceSub, Int.reduceEq, Int.reduceNeg, List.append_assoc, cellsCall_def, cellsRule_def, cellsLookup_def, cellsPoint_def, cellsOutline_def, cellsPart_def, cellsAnchor_def, cellsDelta_def, cellsIns_def, cellsGlyph_def, cellsChar_def, cellsFeature_def, cellsAxis_def, cellsTent_def, cellsRegion_def, cellsFont_def, cellsItem_def, cellsText_def, cellsAsk_def]
  (all_goals first | assumption | omega | exact pureK_gen (by simp only [go_sem, shut, shutL] <;> rfl) (by intros; simp only [go_sem, cl, clL]) rfl rfl | exact pureK_gen0 (by simp only [go_sem, shut, shutL] <;> rfl) (by intros; simp only [go_sem, cl, clL]) | exact pureK_gl (by simp only [go_sem, shut, shutL] <;> rfl) (by intros; simp only [go_sem, cl, clL]) (Grows.ext (by assumption)) rfl | exact pureK_gl0 (by simp only [go_sem, shut, shutL] <;> rfl) (by intros; simp only [go_sem, cl, clL]) (Grows.ext (by assumption)) rfl | exact pureK_sub (by simp only [go_sem, shut, shutL] <;> rfl) (by intros; simp only [go_sem, cl, clL]) (by assumption) | exact pureK_sub (by simp only [go_sem, shut, shutL] <;> rfl) (by intros; simp only [go_sem, cl, clL]) (Sub.more (by assumption) _))
def sameGlyphs (l : List Item) (want : List Int) : Bool := decide (l.length = want.length) && (List.range l.length).all fun i => decide ((l.getD i default).glyph = want.getD i default)
theorem glyphs_pure (l : List Item) (want : List Int) (hl : l.length ≤ 9223372036854775806) : Pure Try.prog 31 [rowEItem l, rowEI want] (.bool (sameGlyphs l want)) := by
  refine pure_of (rs := [.tmp 4]) (m := 25) Try.func31 rfl rfl rfl fun h => ?_
  simp (maxSteps := 2000000) +contextual (disch := first | omega | assumption) only [go_sem, Nat.reduceAdd, Nat.reduceSub, Nat.reduceMul, Nat.reduceLT, Nat.reduceLeDiff, Nat.reduceEqDiff, reduceCtorEq, ↓reduceIte, Int.reduceLE, Int.reduceLT, Int.reduceToNat, Int.reduceAdd, Int.reduceSub, Int.reduceEq, Int.reduceNeg, List.append_assoc, cellsCall_def, cellsRule_def, cellsLookup_def, cellsPoint_def, cellsOutline_def, cellsPart_def, cellsAnchor_def, cellsDelta_def, cellsIns_def, cellsGlyph_def, cellsChar_def, cellsFeature_def, cellsAxis_def, cellsTent_def, cellsRegion_def, cellsFont_def, cellsItem_def, cellsText_def, cellsAsk_def]
  refine ⟨fun h1 => ?_, fun h1 => ?_⟩
  · have h2 : l.length = want.length := by have := asE_t h1; omega
    have e0 : sameGlyphs l want = (List.range l.length).all fun i => decide ((l.getD i default).glyph = want.getD i default) := by rw [sameGlyphs, decide_eq_true h2, Bool.true_and]
    rw [e0]
    refine loop2 [6,7,8,9,10,11,12,13,14,15,16,17,18,19,20,21,22,23,24,25,26] (fun k : Nat => k ≤ l.length ∧ ∀ i, i < k → (l.getD i default).glyph = want.getD i default) (fun k => l.length - k) (fun k => [rowEItem l, rowEI want, .any, .any, .bool false, .int k, .any, .any, .any, .any, .any, .any, .any, .any, .any, .any, .any, .any, .any, .any, .any, .any, .any, .any, .any, .any, .any]) (fun _ => h) 0 ⟨Nat.zero_le _, fun i hi => by omega⟩ (by simp only [forget, List.foldl_cons, List.foldl_nil, set8, List.set_cons_succ, List.set_cons_zero] <;> rfl) rfl ?_
    rintro L k ⟨q1, q2⟩ ih
    simp (maxSteps := 2000000) +contextual (disch := first | omega | assumption) only [go_sem, Nat.reduceAdd, Nat.reduceSub, Nat.reduceMul, Nat.reduceLT, Nat.reduceLeDiff, Nat.reduceEqDiff, reduceCtorEq, ↓reduceIte, Int.reduceLE, Int.reduceLT, Int.reduceToNat, Int.reduceAdd, Int.reduceSub, Int.reduceEq, Int.reduceNeg, List.append_assoc, cellsCall_def, cellsRule_def, cellsLookup_def, cellsPoint_def, cellsOutline_def, cellsPart_def, cellsAnchor_def, cellsDelta_def, cellsIns_def, cellsGlyph_def, cellsChar_def, cellsFeature_def, cellsAxis_def, cellsTent_def, cellsRegion_def, cellsFont_def, cellsItem_def, cellsText_def, cellsAsk_def]
    refine ⟨fun g1 => ?_, fun g1 => ?_⟩
    · refine awp_drawT (by kernel_rfl) 10 (by kernel_rfl) ?_
      simp (maxSteps := 2000000) +contextual (disch := first | omega | assumption) only [go_sem, Nat.reduceAdd, Nat.reduceSub, Nat.reduceMul, Nat.reduceLT, Nat.reduceLeDiff, Nat.reduceEqDiff, reduceCtorEq, ↓reduceIte, Int.reduceLE, Int.reduceLT, Int.reduceToNat, Int.reduceAdd, Int.reduceSub, Int.reduceEq, Int.reduceNeg, List.append_assoc, cellsCall_def, cellsRule_def, cellsLookup_def, cellsPoint_def, cellsOutline_def, cellsPart_def, cellsAnchor_def, cellsDelta_def, cellsIns_def, cellsGlyph_def, cellsChar_def, cellsFeature_def, cellsAxis_def, cellsTent_def, cellsRegion_def, cellsFont_def, cellsItem_def, cellsText_def, cellsAsk_def, g1]
      refine ⟨by omega, fun g2 => ?_, fun g2 => ?_⟩
      · exact ih (k + 1) ⟨by omega, fun i hi => by
          rcases Nat.lt_succ_iff_lt_or_eq.1 hi with h3 | h3
          · exact q2 i h3
          · rw [h3]; exact asE_t g2⟩ (by omega)
      · rw [show ((List.range l.length).all fun i => decide ((l.getD i default).glyph = want.getD i default)) = false by
          rw [List.all_eq_false]; exact ⟨k, List.mem_range.2 g1, by simpa [-List.getD_eq_getElem?_getD] using asE_f g2⟩]
        (all_goals first | assumption | omega | exact pureK_gen (by simp only [go_sem, shut, shutL] <;> rfl) (by intros; simp only [go_sem, cl, clL]) rfl rfl | exact pureK_gen0 (by simp only [go_sem, shut, shutL] <;> rfl) (by intros; simp only [go_sem, cl, clL]) | exact pureK_gl (by simp only [go_sem, shut, shutL] <;> rfl) (by intros; simp only [go_sem, cl, clL]) (Grows.ext (by assumption)) rfl | exact pureK_gl0 (by simp only [go_sem, shut, shutL] <;> rfl) (by intros; simp only [go_sem, cl, clL]) (Grows.ext (by assumption)) rfl | exact pureK_sub (by simp only [go_sem, shut, shutL] <;> rfl) (by intros; simp only [go_sem, cl, clL]) (by assumption) | exact pureK_sub (by simp only [go_sem, shut, shutL] <;> rfl) (by intros; simp only [go_sem, cl, clL]) (Sub.more (by assumption) _))
    · rw [show ((List.range l.length).all fun i => decide ((l.getD i default).glyph = want.getD i default)) = true by
        rw [List.all_eq_true]; intro i hi; exact decide_eq_true (q2 i (by have := List.mem_range.1 hi; omega))]
      (all_goals first | assumption | omega | exact pureK_gen (by simp only [go_sem, shut, shutL] <;> rfl) (by intros; simp only [go_sem, cl, clL]) rfl rfl | exact pureK_gen0 (by simp only [go_sem, shut, shutL] <;> rfl) (by intros; simp only [go_sem, cl, clL]) | exact pureK_gl (by simp only [go_sem, shut, shutL] <;> rfl) (by intros; simp only [go_sem, cl, clL]) (Grows.ext (by assumption)) rfl | exact pureK_gl0 (by simp only [go_sem, shut, shutL] <;> rfl) (by intros; simp only [go_sem, cl, clL]) (Grows.ext (by assumption)) rfl | exact pureK_sub (by simp only [go_sem, shut, shutL] <;> rfl) (by intros; simp only [go_sem, cl, clL]) (by assumption) | exact pureK_sub (by simp only [go_sem, shut, shutL] <;> rfl) (by intros; simp only [go_sem, cl, clL]) (Sub.more (by assumption) _))
  · rw [show sameGlyphs l want = false by rw [sameGlyphs, decide_eq_false (by have := asE_f h1; omega), Bool.false_and]]
    (all_goals first | assumption | omega | exact pureK_gen (by simp only [go_sem, shut, shutL] <;> rfl) (by intros; simp only [go_sem, cl, clL]) rfl rfl | exact pureK_gen0 (by simp only [go_sem, shut, shutL] <;> rfl) (by intros; simp only [go_sem, cl, clL]) | exact pureK_gl (by simp only [go_sem, shut, shutL] <;> rfl) (by intros; simp only [go_sem, cl, clL]) (Grows.ext (by assumption)) rfl | exact pureK_gl0 (by simp only [go_sem, shut, shutL] <;> rfl) (by intros; simp only [go_sem, cl, clL]) (Grows.ext (by assumption)) rfl | exact pureK_sub (by simp only [go_sem, shut, shutL] <;> rfl) (by intros; simp only [go_sem, cl, clL]) (by assumption) | exact pureK_sub (by simp only [go_sem, shut, shutL] <;> rfl) (by intros; simp only [go_sem, cl, clL]) (Sub.more (by assumption) _))
end Go.V
namespace Go.V
open Go Go.Proofs
set_option linter.unusedVariables false
set_option linter.unusedSimpArgs false
set_option maxRecDepth 10000
set_option maxHeartbeats 2000000
/-- Items of glyphs, each its own cluster. -/
def runOf (l : List Int) : List Item := (List.range l.length).map fun (i : Nat) => ⟨l.getD i default, (i : Int), 0, 0, 0, 0⟩
theorem runOf_take {l : List Int} {k : Nat} (h : k < l.length) : (runOf l).take (k + 1) = (runOf l).take k ++ [⟨l.getD k default, (k : Int), 0, 0, 0, 0⟩] := by
  rw [List.take_add_one, runOf, List.getElem?_map, List.getElem?_range h]; rfl
theorem run_pure (l : List Int) (hl : l.length ≤ 1048576) : Pure Try.prog 30 [rowEI l] (rowEItem (runOf l)) := by
  refine pure_of (rs := [.tmp 2]) (m := 21) Try.func30 rfl rfl rfl fun h => ?_
  simp (maxSteps := 2000000) +contextual (disch := first | omega | assumption) only [go_sem, Nat.reduceAdd, Nat.reduceSub, Nat.reduceMul, Nat.reduceLT, Nat.reduceLeDiff, Nat.reduceEqDiff, reduceCtorEq, ↓reduceIte, Int.reduceLE, Int.reduceLT, Int.reduceToNat, Int.reduceAdd, Int.reduceSub, Int.reduceEq, Int.reduceNeg, List.append_assoc, cellsCall_def, cellsRule_def, cellsLookup_def, cellsPoint_def, cellsOutline_def, cellsPart_def, cellsAnchor_def, cellsDelta_def, cellsIns_def, cellsGlyph_def, cellsChar_def, cellsFeature_def, cellsAxis_def, cellsTent_def, cellsRegion_def, cellsFont_def, cellsItem_def, cellsText_def, cellsAsk_def]
  refine loop2 (ι := Nat × Gr × List Nat) [5,6,7,8,9,10,11,12,13,14,15,16,17,18,19,20,21] (fun x => x.1 ≤ l.length ∧ Grows 6 h.gl x.2.1 x.2.2) (fun x => l.length - x.1) (fun x => [rowEI l, .any, .row .full [], .row x.2.1 (((runOf l).take x.1).map encItem), .int x.1, .any, .any, .any, .any, .any, .any, .any, .any, .any, .any, .any, .any, .any, .any, .any, .any, .any]) (fun x => { bx := h.bx, gl := x.2.2, lp := h.lp }) (0, .full, h.gl) ⟨Nat.zero_le _, grows_new _ _⟩ (by simp only [forget, List.foldl_cons, List.foldl_nil, set8, List.set_cons_succ, List.set_cons_zero] <;> rfl) rfl ?_
  rintro L ⟨k, gr, gl⟩ ⟨q1, q2⟩ ih
  simp only at q1 q2
  simp (maxSteps := 2000000) +contextual (disch := first | omega | assumption) only [go_sem, Nat.reduceAdd, Nat.reduceSub, Nat.reduceMul, Nat.reduceLT, Nat.reduceLeDiff, Nat.reduceEqDiff, reduceCtorEq, ↓reduceIte, Int.reduceLE, Int.reduceLT, Int.reduceToNat, Int.reduceAdd, Int.reduceSub, Int.reduceEq, Int.reduceNeg, List.append_assoc, cellsCall_def, cellsRule_def, cellsLookup_def, cellsPoint_def, cellsOutline_def, cellsPart_def, cellsAnchor_def, cellsDelta_def, cellsIns_def, cellsGlyph_def, cellsChar_def, cellsFeature_def, cellsAxis_def, cellsTent_def, cellsRegion_def, cellsFont_def, cellsItem_def, cellsText_def, cellsAsk_def]
  refine ⟨fun g1 => ?_, fun g1 => ?_⟩
  · have hlen : ((runOf l).take k).length ≤ 1048576 := by simp only [runOf, List.length_take, List.length_map, List.length_range]; omega
    refine append_grow (g2 := .full) encItem ((runOf l).take k) [⟨l.getD k default, (k : Int), 0, 0, 0, 0⟩] (fun _ => rfl) tElem_32 tSize_51 tBytes_51 aZero_51 (by rw [tElem_32]; rfl) rfl (by decide) trivial (by decide) (by simp only [List.length_cons, List.length_nil]; omega) q2 fun gr' gl' g' => ?_
    rw [← runOf_take g1]
    simp (maxSteps := 2000000) +contextual (disch := first | omega | assumption) only [go_sem, Nat.reduceAdd, Nat.reduceSub, Nat.reduceMul, Nat.reduceLT, Nat.reduceLeDiff, Nat.reduceEqDiff, reduceCtorEq, ↓reduceIte, Int.reduceLE, Int.reduceLT, Int.reduceToNat, Int.reduceAdd, Int.reduceSub, Int.reduceEq, Int.reduceNeg, List.append_assoc, cellsCall_def, cellsRule_def, cellsLookup_def, cellsPoint_def, cellsOutline_def, cellsPart_def, cellsAnchor_def, cellsDelta_def, cellsIns_def, cellsGlyph_def, cellsChar_def, cellsFeature_def, cellsAxis_def, cellsTent_def, cellsRegion_def, cellsFont_def, cellsItem_def, cellsText_def, cellsAsk_def]
    exact ih (k + 1, gr', gl') ⟨by simp only; omega, g'⟩ (by simp only; omega)
  · rw [List.take_of_length_le (by simp only [runOf, List.length_map, List.length_range]; omega)]
    (all_goals first | assumption | omega | exact pureK_gen (by simp only [go_sem, shut, shutL] <;> rfl) (by intros; simp only [go_sem, cl, clL]) rfl rfl | exact pureK_gen0 (by simp only [go_sem, shut, shutL] <;> rfl) (by intros; simp only [go_sem, cl, clL]) | exact pureK_gl (by simp only [go_sem, shut, shutL] <;> rfl) (by intros; simp only [go_sem, cl, clL]) (Grows.ext (by assumption)) rfl | exact pureK_gl0 (by simp only [go_sem, shut, shutL] <;> rfl) (by intros; simp only [go_sem, cl, clL]) (Grows.ext (by assumption)) rfl | exact pureK_sub (by simp only [go_sem, shut, shutL] <;> rfl) (by intros; simp only [go_sem, cl, clL]) (by assumption) | exact pureK_sub (by simp only [go_sem, shut, shutL] <;> rfl) (by intros; simp only [go_sem, cl, clL]) (Sub.more (by assumption) _))
end Go.V
namespace Go.V
open Go Go.Proofs
set_option linter.unusedVariables false
theorem walkF_more (f : Font) (l : Lookup) (run : List Item) (sets : List (List Int)) (step : Int) : ∀ (n : Nat) (i : Int) (out : List Int), ∃ rest, (walkF f l run sets step n i out).1 = out ++ rest
  | 0, _, _ => ⟨[], by simp [walkF]⟩
  | n + 1, i, out => by
    rw [walkF]
    split
    · split
      · split
        · obtain ⟨r, hr⟩ := walkF_more f l run sets step n (i + step) (out ++ [i])
          exact ⟨i :: r, by rw [hr]; simp⟩
        · exact ⟨[], by simp⟩
      · exact walkF_more f l run sets step n (i + step) out
    · exact ⟨[], by simp⟩
theorem walk_first {f : Font} {l : Lookup} {run : List Item} {p : Int} {sets : List (List Int)} (h0 : 0 ≤ p) (h1 : p < run.length) (hs : isSeen f l (run.getD p.toNat default) = true) (hne : sets.length ≠ 0) (hw : (walk f l run p 1 sets).2 = true) : (walk f l run p 1 sets).1.getD 0 default = p := by
  unfold walk at hw ⊢
  rw [left_succ (.inl rfl) h0 h1, walkF, if_pos ⟨by simp; omega, h0, h1⟩, if_pos hs] at hw ⊢
  split at hw
  · rename_i hc
    rw [if_pos hc]
    obtain ⟨r, hr⟩ := walkF_more f l run sets 1 (left run.length 1 (p + 1)) (p + 1) ([] ++ [p])
    rw [hr]; simp
  · cases hw
theorem follow_snd (t : Text) (i step : Int) (sets : List (List Int)) : (follow t i step sets).2 = (walk t.f t.l t.run i step sets).2 := by
  unfold follow; split
  · rename_i h; rw [h]
  · rename_i h; simp at h; rw [h]
theorem follow_fst {t : Text} {i step : Int} {sets : List (List Int)} (h : (walk t.f t.l t.run i step sets).2 = true) : (follow t i step sets).1 = (walk t.f t.l t.run i step sets).1 := by
  unfold follow; rw [if_pos h]
theorem try_matches (t : Text) (r : Rule) (p : Int) (h0 : 0 ≤ p) (h1 : p < t.run.length) (hs : over t p = false) : tryF t r p = matchesF t.f t.l r t.run p ∨ ((tryF t r p).2 = false ∧ (matchesF t.f t.l r t.run p).2 = false) := by
  have hs' : isSeen t.f t.l (t.run.getD p.toNat default) = true := by rw [seen_over, hs]; rfl
  unfold tryF matchesF
  by_cases c1 : r.in_.length = 0
  · rw [if_pos c1, if_pos c1]; exact .inl rfl
  rw [if_neg c1, if_neg c1]
  simp only [follow_snd]
  by_cases c2 : (walk t.f t.l t.run p 1 r.in_).2 = false
  · rw [if_pos c2, if_pos (.inl c2)]; exact .inl rfl
  · have c2' : (walk t.f t.l t.run p 1 r.in_).2 = true := by simpa using c2
    have c4 : ¬((walk t.f t.l t.run p 1 r.in_).2 = false ∨ ¬(walk t.f t.l t.run p 1 r.in_).1.getD 0 default = p) := by
      rintro (h | h)
      · exact c2 h
      · exact h (walk_first h0 h1 hs' c1 c2')
    rw [if_neg c2, if_neg c4]
    simp only [follow_fst c2']
    split
    · rename_i c3
      right
      exact ⟨rfl, by simp only [c3, Bool.false_and]⟩
    · rename_i c3
      left
      have c3' : (walk t.f t.l t.run ((walk t.f t.l t.run p 1 r.in_).1.getD ((walk t.f t.l t.run p 1 r.in_).1.length - 1) default + 1) 1 r.ahead).2 = true := by simpa using c3
      rw [c3', Bool.true_and]
theorem find_from (t : Text) (p : Int) (h0 : 0 ≤ p) (h1 : p < t.run.length) (hs : over t p = false) : ∀ n k, findFrom t p n k = matchFrom t.f t.l t.run p n k
  | 0, _ => rfl
  | n + 1, k => by
    rw [findFrom, matchFrom, find_from t p h0 h1 hs n (k + 1)]
    rcases try_matches t (t.l.rules.getD k default) p h0 h1 hs with e | ⟨e1, e2⟩
    · rw [e]
    · rw [if_neg (by rw [e1]; simp), if_neg (by rw [e2]; simp)]
theorem own_match (f : Font) (n : Int) (run : List Item) (p : Int) (forms : List Int) : ownMatch f n run p forms = matchF f n run p forms := by
  unfold ownMatch matchF
  by_cases hn : 0 ≤ n ∧ n < f.lookups.length
  · have ea : atF f n run = (⟨f, f.lookups.getD n.toNat default, run⟩, true) := if_pos hn
    rw [ea]
    simp only [if_true]
    unfold find
    have eb : mayBegin ⟨f, f.lookups.getD n.toNat default, run⟩ p forms = begins f n run p forms := by
      unfold mayBegin begins
      rw [decide_eq_true hn.1, decide_eq_true hn.2]
      simp only [Bool.true_and]
      rw [show isSeen f (f.lookups.getD n.toNat default) (run.getD p.toNat default) = !over ⟨f, f.lookups.getD n.toNat default, run⟩ p from seen_over ⟨f, f.lookups.getD n.toNat default, run⟩ p]
    rw [eb]
    split
    · rename_i hb
      have hb2 := eb ▸ hb
      simp only [mayBegin, Bool.and_eq_true, decide_eq_true_eq, Bool.not_eq_true'] at hb2
      obtain ⟨⟨⟨g1, g2⟩, g3⟩, g4⟩ := hb2
      exact find_from ⟨f, f.lookups.getD n.toNat default, run⟩ p g1 g2 g3 _ _
    · rfl
  · rw [show atF f n run = _ from if_neg hn]
    have : begins f n run p forms = false := by
      unfold begins
      by_cases h1 : 0 ≤ n
      · rw [decide_eq_false (p := n < f.lookups.length) (fun h2 => hn ⟨h1, h2⟩)]; simp
      · rw [decide_eq_false h1]; simp
    rw [this]; rfl
end Go.V
namespace Go.V
open Go Go.Proofs
set_option linter.unusedVariables false
set_option linter.unusedSimpArgs false
set_option maxRecDepth 10000
set_option maxHeartbeats 2000000
theorem small_sets {l : List (List Int)} (h : (l.any fun s => decide (60 < s.length)) = false) : ∀ s ∈ l, s.length ≤ 60 := fun s hs => by
  have := List.any_eq_false.1 h s hs
  simp at this; omega
theorem small_font {f : Font} {run : List Item} (h : big f run = false) : FontOk f run ∧ run.length ≤ 300 := by
  unfold big at h
  simp only [Bool.or_eq_false_iff, decide_eq_false_iff_not] at h
  obtain ⟨⟨h1, h2⟩, h3⟩ := h
  refine ⟨⟨by omega, fun l hl => ?_⟩, by omega⟩
  have h4 := List.any_eq_false.1 h3 l hl
  simp only [bigLookup, Bool.not_eq_true, Bool.or_eq_false_iff, decide_eq_false_iff_not] at h4
  refine ⟨by omega, fun r hr => ?_⟩
  have h5 := List.any_eq_false.1 h4.2 r hr
  simp only [bigRule, Bool.not_eq_true, Bool.or_eq_false_iff, decide_eq_false_iff_not] at h5
  obtain ⟨⟨⟨⟨⟨⟨⟨a1, a2⟩, a3⟩, a4⟩, a5⟩, a6⟩, a7⟩, a8⟩ := h5
  exact ⟨⟨by omega, by omega, fun s hs => by have := small_sets a6 s hs; omega⟩, ⟨by omega, by omega, fun s hs => by have := small_sets a7 s hs; omega⟩, ⟨by omega, by omega, fun s hs => by have := small_sets a8 s hs; omega⟩⟩
theorem matchesF_len (f : Font) (l : Lookup) (r : Rule) (run : List Item) (p : Int) : (matchesF f l r run p).1.length ≤ r.in_.length := by
  unfold matchesF
  split
  · simp
  · split
    · simp
    · rename_i h
      have : (walk f l run p 1 r.in_).2 = true := by
        cases hw : (walk f l run p 1 r.in_).2 with
        | true => rfl
        | false => exact absurd (.inl hw) h
      exact Nat.le_of_eq (walk_full this)
theorem matchFrom_len {f : Font} {l : Lookup} {run : List Item} {p : Int} {B : Nat} (hr : ∀ r ∈ l.rules, r.in_.length ≤ B) : ∀ n k, (matchFrom f l run p n k).2.length ≤ B
  | 0, _ => by simp [matchFrom]
  | n + 1, k => by
    rw [matchFrom]
    split
    · refine Nat.le_trans (matchesF_len ..) ?_
      rcases Nat.lt_or_ge k l.rules.length with h | h
      · exact hr _ (getD_memA h)
      · rw [List.getD, List.getElem?_eq_none h]; exact Nat.zero_le _
    · exact matchFrom_len hr n (k + 1)
theorem matchF_len {f : Font} {n : Int} {run : List Item} {p : Int} {forms : List Int} (ok : FontOk f run) : (matchF f n run p forms).2.length ≤ 17592186044416 := by
  unfold matchF
  split
  · rename_i hb
    have h2 := hb
    simp only [begins, Bool.and_eq_true, decide_eq_true_eq] at h2
    obtain ⟨⟨⟨⟨⟨g1, g2⟩, g3⟩, g4⟩, g5⟩, g6⟩ := h2
    exact matchFrom_len (fun r hr => ((ok.h2 _ (getD_memA (by omega))).2 r hr).h1.h1) _ _
  · simp
theorem RulesMatch_pure (ruled : Pure Try.prog 17 [] (.bool true)) (a : Ask) (hf : Lens a.f) (hr : a.run.length ≤ 9223372036854775806) (hl : a.forms.length ≤ 9223372036854775806) : Pure Try.prog 3 [encAsk a] (.bool true) := by
  refine pure_of (rs := [.tmp 2]) (m := 66) Try.func3 rfl rfl rfl fun h => ?_
  simp (maxSteps := 2000000) +contextual (disch := first | omega | assumption) only [go_sem, Nat.reduceAdd, Nat.reduceSub, Nat.reduceMul, Nat.reduceLT, Nat.reduceLeDiff, Nat.reduceEqDiff, reduceCtorEq, ↓reduceIte, Int.reduceLE, Int.reduceLT, Int.reduceToNat, Int.reduceAdd, Int.reduceSub, Int.reduceEq, Int.reduceNeg, List.append_assoc, cellsCall_def, cellsRule_def, cellsLookup_def, cellsPoint_def, cellsOutline_def, cellsPart_def, cellsAnchor_def, cellsDelta_def, cellsIns_def, cellsGlyph_def, cellsChar_def, cellsFeature_def, cellsAxis_def, cellsTent_def, cellsRegion_def, cellsFont_def, cellsItem_def, cellsText_def, cellsAsk_def]
  refine call_pure rfl (Big_pure a.f a.run hf) ?_
  simp (maxSteps := 2000000) +contextual (disch := first | omega | assumption) only [go_sem, Nat.reduceAdd, Nat.reduceSub, Nat.reduceMul, Nat.reduceLT, Nat.reduceLeDiff, Nat.reduceEqDiff, reduceCtorEq, ↓reduceIte, Int.reduceLE, Int.reduceLT, Int.reduceToNat, Int.reduceAdd, Int.reduceSub, Int.reduceEq, Int.reduceNeg, List.append_assoc, cellsCall_def, cellsRule_def, cellsLookup_def, cellsPoint_def, cellsOutline_def, cellsPart_def, cellsAnchor_def, cellsDelta_def, cellsIns_def, cellsGlyph_def, cellsChar_def, cellsFeature_def, cellsAxis_def, cellsTent_def, cellsRegion_def, cellsFont_def, cellsItem_def, cellsText_def, cellsAsk_def]
  refine ⟨fun h1 => ?_, fun h1 => ?_⟩
  · (all_goals first | assumption | omega | exact pureK_gen (by simp only [go_sem, shut, shutL] <;> rfl) (by intros; simp only [go_sem, cl, clL]) rfl rfl | exact pureK_gen0 (by simp only [go_sem, shut, shutL] <;> rfl) (by intros; simp only [go_sem, cl, clL]) | exact pureK_gl (by simp only [go_sem, shut, shutL] <;> rfl) (by intros; simp only [go_sem, cl, clL]) (Grows.ext (by assumption)) rfl | exact pureK_gl0 (by simp only [go_sem, shut, shutL] <;> rfl) (by intros; simp only [go_sem, cl, clL]) (Grows.ext (by assumption)) rfl | exact pureK_sub (by simp only [go_sem, shut, shutL] <;> rfl) (by intros; simp only [go_sem, cl, clL]) (by assumption) | exact pureK_sub (by simp only [go_sem, shut, shutL] <;> rfl) (by intros; simp only [go_sem, cl, clL]) (Sub.more (by assumption) _))
  obtain ⟨ok, h300⟩ := small_font (eq_false_of_ne_true (asT_f h1))
  refine call_pure rfl (ownMatch_pure a.f a.lookup a.run a.at_ a.forms ok hl hr) ?_
  simp (maxSteps := 2000000) +contextual (disch := first | omega | assumption) only [go_sem, Nat.reduceAdd, Nat.reduceSub, Nat.reduceMul, Nat.reduceLT, Nat.reduceLeDiff, Nat.reduceEqDiff, reduceCtorEq, ↓reduceIte, Int.reduceLE, Int.reduceLT, Int.reduceToNat, Int.reduceAdd, Int.reduceSub, Int.reduceEq, Int.reduceNeg, List.append_assoc, cellsCall_def, cellsRule_def, cellsLookup_def, cellsPoint_def, cellsOutline_def, cellsPart_def, cellsAnchor_def, cellsDelta_def, cellsIns_def, cellsGlyph_def, cellsChar_def, cellsFeature_def, cellsAxis_def, cellsTent_def, cellsRegion_def, cellsFont_def, cellsItem_def, cellsText_def, cellsAsk_def]
  refine call_pure rfl (Match_pure a.f a.lookup a.run a.at_ a.forms ok hl) ?_
  rw [own_match]
  have hm := matchF_len (n := a.lookup) (p := a.at_) (forms := a.forms) ok
  generalize matchF a.f a.lookup a.run a.at_ a.forms = m at *
  simp (maxSteps := 2000000) +contextual (disch := first | omega | assumption) only [go_sem, Nat.reduceAdd, Nat.reduceSub, Nat.reduceMul, Nat.reduceLT, Nat.reduceLeDiff, Nat.reduceEqDiff, reduceCtorEq, ↓reduceIte, Int.reduceLE, Int.reduceLT, Int.reduceToNat, Int.reduceAdd, Int.reduceSub, Int.reduceEq, Int.reduceNeg, List.append_assoc, cellsCall_def, cellsRule_def, cellsLookup_def, cellsPoint_def, cellsOutline_def, cellsPart_def, cellsAnchor_def, cellsDelta_def, cellsIns_def, cellsGlyph_def, cellsChar_def, cellsFeature_def, cellsAxis_def, cellsTent_def, cellsRegion_def, cellsFont_def, cellsItem_def, cellsText_def, cellsAsk_def]
  refine loop2 [8,9,10,11,12,13,14,15,16,17,18,19,20,21,22,23,24,25,26,27,28,29,30,31,32,33,34,35,36,37,38,39,40,41,42,43,44,45,46,47,48,49,50,51,52,53,54,55,56,57,58,59,60,61,62,63,64,65,66] (fun k : Nat => k ≤ m.2.length) (fun k => m.2.length - k) (fun k => [encAsk a, .ptr h.bx.length 0, .bool false, .int m.1, rowEI m.2, .int m.1, rowEI m.2, .int k, .any, .any, .any, .any, .any, .any, .any, .any, .any, .any, .any, .any, .any, .any, .any, .any, .any, .any, .any, .any, .any, .any, .any, .any, .any, .any, .any, .any, .any, .any, .any, .any, .any, .any, .any, .any, .any, .any, .any, .any, .any, .any, .any, .any, .any, .any, .any, .any, .any, .any, .any, .any, .any, .any, .any, .any, .any, .any, .any]) (fun k => { bx := h.bx ++ [cellsAsk a], gl := h.gl, lp := h.lp }) 0 (Nat.zero_le _) (by simp only [forget, List.foldl_cons, List.foldl_nil, set8, List.set_cons_succ, List.set_cons_zero] <;> rfl) rfl ?_
  intro L k q1 ih
  simp (maxSteps := 2000000) +contextual (disch := first | omega | assumption) only [go_sem, Nat.reduceAdd, Nat.reduceSub, Nat.reduceMul, Nat.reduceLT, Nat.reduceLeDiff, Nat.reduceEqDiff, reduceCtorEq, ↓reduceIte, Int.reduceLE, Int.reduceLT, Int.reduceToNat, Int.reduceAdd, Int.reduceSub, Int.reduceEq, Int.reduceNeg, List.append_assoc, cellsCall_def, cellsRule_def, cellsLookup_def, cellsPoint_def, cellsOutline_def, cellsPart_def, cellsAnchor_def, cellsDelta_def, cellsIns_def, cellsGlyph_def, cellsChar_def, cellsFeature_def, cellsAxis_def, cellsTent_def, cellsRegion_def, cellsFont_def, cellsItem_def, cellsText_def, cellsAsk_def]
  refine ⟨fun g1 => ?_, fun g1 => ?_⟩
  · refine awp_drawT (by kernel_rfl) 9 (by kernel_rfl) ?_
    simp (maxSteps := 2000000) +contextual (disch := first | omega | assumption) only [go_sem, Nat.reduceAdd, Nat.reduceSub, Nat.reduceMul, Nat.reduceLT, Nat.reduceLeDiff, Nat.reduceEqDiff, reduceCtorEq, ↓reduceIte, Int.reduceLE, Int.reduceLT, Int.reduceToNat, Int.reduceAdd, Int.reduceSub, Int.reduceEq, Int.reduceNeg, List.append_assoc, cellsCall_def, cellsRule_def, cellsLookup_def, cellsPoint_def, cellsOutline_def, cellsPart_def, cellsAnchor_def, cellsDelta_def, cellsIns_def, cellsGlyph_def, cellsChar_def, cellsFeature_def, cellsAxis_def, cellsTent_def, cellsRegion_def, cellsFont_def, cellsItem_def, cellsText_def, cellsAsk_def, g1]
    exact ih (k + 1) (by omega) (by omega)
  · refine call_pure rfl ruled ?_
    simp (maxSteps := 2000000) +contextual (disch := first | omega | assumption) only [go_sem, Nat.reduceAdd, Nat.reduceSub, Nat.reduceMul, Nat.reduceLT, Nat.reduceLeDiff, Nat.reduceEqDiff, reduceCtorEq, ↓reduceIte, Int.reduceLE, Int.reduceLT, Int.reduceToNat, Int.reduceAdd, Int.reduceSub, Int.reduceEq, Int.reduceNeg, List.append_assoc, cellsCall_def, cellsRule_def, cellsLookup_def, cellsPoint_def, cellsOutline_def, cellsPart_def, cellsAnchor_def, cellsDelta_def, cellsIns_def, cellsGlyph_def, cellsChar_def, cellsFeature_def, cellsAxis_def, cellsTent_def, cellsRegion_def, cellsFont_def, cellsItem_def, cellsText_def, cellsAsk_def]
    (all_goals first | assumption | omega | exact pureK_gen (by simp only [go_sem, shut, shutL] <;> rfl) (by intros; simp only [go_sem, cl, clL]) rfl rfl | exact pureK_gen0 (by simp only [go_sem, shut, shutL] <;> rfl) (by intros; simp only [go_sem, cl, clL]) | exact pureK_gl (by simp only [go_sem, shut, shutL] <;> rfl) (by intros; simp only [go_sem, cl, clL]) (Grows.ext (by assumption)) rfl | exact pureK_gl0 (by simp only [go_sem, shut, shutL] <;> rfl) (by intros; simp only [go_sem, cl, clL]) (Grows.ext (by assumption)) rfl | exact pureK_sub (by simp only [go_sem, shut, shutL] <;> rfl) (by intros; simp only [go_sem, cl, clL]) (by assumption) | exact pureK_sub (by simp only [go_sem, shut, shutL] <;> rfl) (by intros; simp only [go_sem, cl, clL]) (Sub.more (by assumption) _))
end Go.V
namespace Go.V
open Go Go.Proofs
set_option linter.unusedVariables false
set_option linter.unusedSimpArgs false
set_option maxRecDepth 10000
set_option maxHeartbeats 2000000
def g0 (mark : Bool) : Glyph := { (default : Glyph) with mark := mark }
def fontF : Font := { (default : Font) with
  glyphs := [g0 false, g0 false, g0 false, g0 false, g0 true]
  lookups := [
    ⟨3, true, [⟨[], [[0], [1]], [], [2], [], 0⟩]⟩,
    ⟨2, false, [⟨[], [[0]], [], [0, 0], [], 0⟩]⟩,
    ⟨4, false, [⟨[], [[0], [1]], [], [], [⟨0, 3⟩, ⟨1, 4⟩], 0⟩]⟩,
    ⟨2, false, [⟨[], [[0]], [], [2, 2], [], 0⟩]⟩,
    ⟨1, false, [⟨[], [[2]], [], [3], [], 0⟩]⟩,
    ⟨5, false, [⟨[], [[0]], [[1]], [1], [], 0⟩]⟩,
    ⟨6, false, [⟨[], [[0], [0]], [], [], [], 5⟩]⟩] }
theorem font_pure : Pure Try.prog 29 [] (encFont fontF) := by
  refine pure_of (rs := [.cell 0 31]) (m := 52) Try.func29 rfl rfl rfl fun h => ?_
  simp (maxSteps := 2000000) +contextual (disch := first | omega | assumption) only [go_sem, Nat.reduceAdd, Nat.reduceSub, Nat.reduceMul, Nat.reduceLT, Nat.reduceLeDiff, Nat.reduceEqDiff, reduceCtorEq, ↓reduceIte, Int.reduceLE, Int.reduceLT, Int.reduceToNat, Int.reduceAdd, Int.reduceSub, Int.reduceEq, Int.reduceNeg, List.append_assoc, cellsCall_def, cellsRule_def, cellsLookup_def, cellsPoint_def, cellsOutline_def, cellsPart_def, cellsAnchor_def, cellsDelta_def, cellsIns_def, cellsGlyph_def, cellsChar_def, cellsFeature_def, cellsAxis_def, cellsTent_def, cellsRegion_def, cellsFont_def, cellsItem_def, cellsText_def, cellsAsk_def]
  refine call_pure rfl (set_pure 0) ?_
  simp (maxSteps := 2000000) +contextual (disch := first | omega | assumption) only [go_sem, Nat.reduceAdd, Nat.reduceSub, Nat.reduceMul, Nat.reduceLT, Nat.reduceLeDiff, Nat.reduceEqDiff, reduceCtorEq, ↓reduceIte, Int.reduceLE, Int.reduceLT, Int.reduceToNat, Int.reduceAdd, Int.reduceSub, Int.reduceEq, Int.reduceNeg, List.append_assoc, cellsCall_def, cellsRule_def, cellsLookup_def, cellsPoint_def, cellsOutline_def, cellsPart_def, cellsAnchor_def, cellsDelta_def, cellsIns_def, cellsGlyph_def, cellsChar_def, cellsFeature_def, cellsAxis_def, cellsTent_def, cellsRegion_def, cellsFont_def, cellsItem_def, cellsText_def, cellsAsk_def]
  refine call_pure rfl (set_pure 0) ?_
  simp (maxSteps := 2000000) +contextual (disch := first | omega | assumption) only [go_sem, Nat.reduceAdd, Nat.reduceSub, Nat.reduceMul, Nat.reduceLT, Nat.reduceLeDiff, Nat.reduceEqDiff, reduceCtorEq, ↓reduceIte, Int.reduceLE, Int.reduceLT, Int.reduceToNat, Int.reduceAdd, Int.reduceSub, Int.reduceEq, Int.reduceNeg, List.append_assoc, cellsCall_def, cellsRule_def, cellsLookup_def, cellsPoint_def, cellsOutline_def, cellsPart_def, cellsAnchor_def, cellsDelta_def, cellsIns_def, cellsGlyph_def, cellsChar_def, cellsFeature_def, cellsAxis_def, cellsTent_def, cellsRegion_def, cellsFont_def, cellsItem_def, cellsText_def, cellsAsk_def]
  refine call_pure rfl (set_pure 2) ?_
  simp (maxSteps := 2000000) +contextual (disch := first | omega | assumption) only [go_sem, Nat.reduceAdd, Nat.reduceSub, Nat.reduceMul, Nat.reduceLT, Nat.reduceLeDiff, Nat.reduceEqDiff, reduceCtorEq, ↓reduceIte, Int.reduceLE, Int.reduceLT, Int.reduceToNat, Int.reduceAdd, Int.reduceSub, Int.reduceEq, Int.reduceNeg, List.append_assoc, cellsCall_def, cellsRule_def, cellsLookup_def, cellsPoint_def, cellsOutline_def, cellsPart_def, cellsAnchor_def, cellsDelta_def, cellsIns_def, cellsGlyph_def, cellsChar_def, cellsFeature_def, cellsAxis_def, cellsTent_def, cellsRegion_def, cellsFont_def, cellsItem_def, cellsText_def, cellsAsk_def]
  refine call_pure rfl (set_pure 0) ?_
  simp (maxSteps := 2000000) +contextual (disch := first | omega | assumption) only [go_sem, Nat.reduceAdd, Nat.reduceSub, Nat.reduceMul, Nat.reduceLT, Nat.reduceLeDiff, Nat.reduceEqDiff, reduceCtorEq, ↓reduceIte, Int.reduceLE, Int.reduceLT, Int.reduceToNat, Int.reduceAdd, Int.reduceSub, Int.reduceEq, Int.reduceNeg, List.append_assoc, cellsCall_def, cellsRule_def, cellsLookup_def, cellsPoint_def, cellsOutline_def, cellsPart_def, cellsAnchor_def, cellsDelta_def, cellsIns_def, cellsGlyph_def, cellsChar_def, cellsFeature_def, cellsAxis_def, cellsTent_def, cellsRegion_def, cellsFont_def, cellsItem_def, cellsText_def, cellsAsk_def]
  refine call_pure rfl (set_pure 1) ?_
  simp (maxSteps := 2000000) +contextual (disch := first | omega | assumption) only [go_sem, Nat.reduceAdd, Nat.reduceSub, Nat.reduceMul, Nat.reduceLT, Nat.reduceLeDiff, Nat.reduceEqDiff, reduceCtorEq, ↓reduceIte, Int.reduceLE, Int.reduceLT, Int.reduceToNat, Int.reduceAdd, Int.reduceSub, Int.reduceEq, Int.reduceNeg, List.append_assoc, cellsCall_def, cellsRule_def, cellsLookup_def, cellsPoint_def, cellsOutline_def, cellsPart_def, cellsAnchor_def, cellsDelta_def, cellsIns_def, cellsGlyph_def, cellsChar_def, cellsFeature_def, cellsAxis_def, cellsTent_def, cellsRegion_def, cellsFont_def, cellsItem_def, cellsText_def, cellsAsk_def]
  (all_goals first | assumption | omega | exact pureK_gen (by simp only [go_sem, shut, shutL] <;> rfl) (by intros; simp only [go_sem, cl, clL]) rfl rfl | exact pureK_gen0 (by simp only [go_sem, shut, shutL] <;> rfl) (by intros; simp only [go_sem, cl, clL]) | exact pureK_gl (by simp only [go_sem, shut, shutL] <;> rfl) (by intros; simp only [go_sem, cl, clL]) (Grows.ext (by assumption)) rfl | exact pureK_gl0 (by simp only [go_sem, shut, shutL] <;> rfl) (by intros; simp only [go_sem, cl, clL]) (Grows.ext (by assumption)) rfl | exact pureK_sub (by simp only [go_sem, shut, shutL] <;> rfl) (by intros; simp only [go_sem, cl, clL]) (by assumption) | exact pureK_sub (by simp only [go_sem, shut, shutL] <;> rfl) (by intros; simp only [go_sem, cl, clL]) (Sub.more (by assumption) _))
end Go.V
namespace Go.V
open Go Go.Proofs Go.Shelf
set_option linter.unusedVariables false
set_option linter.unusedSimpArgs false
set_option maxRecDepth 10000
set_option maxHeartbeats 2000000
theorem getD_ext {α : Type} [Inhabited α] {a b : List α} (hl : a.length = b.length) (h : ∀ i, i < a.length → a.getD i default = b.getD i default) : a = b := by
  refine List.ext_getElem hl fun i h1 h2 => ?_
  have := h i h1
  simpa [List.getD, List.getElem?_eq_getElem h1, List.getElem?_eq_getElem h2] using this
theorem Same_pure (a b : List Item) (ha : a.length ≤ 9223372036854775806) : Pure Try.prog 19 [rowEItem a, rowEItem b] (.bool (decide (a = b))) := by
  refine pure_of (rs := [.tmp 4]) (m := 24) Try.func19 rfl rfl rfl fun h => ?_
  simp (maxSteps := 2000000) +contextual (disch := first | omega | assumption) only [go_sem, Nat.reduceAdd, Nat.reduceSub, Nat.reduceMul, Nat.reduceLT, Nat.reduceLeDiff, Nat.reduceEqDiff, reduceCtorEq, ↓reduceIte, Int.reduceLE, Int.reduceLT, Int.reduceToNat, Int.reduceAdd, Int.reduceSub, Int.reduceEq, Int.reduceNeg, List.append_assoc, cellsCall_def, cellsRule_def, cellsLookup_def, cellsPoint_def, cellsOutline_def, cellsPart_def, cellsAnchor_def, cellsDelta_def, cellsIns_def, cellsGlyph_def, cellsChar_def, cellsFeature_def, cellsAxis_def, cellsTent_def, cellsRegion_def, cellsFont_def, cellsItem_def, cellsText_def, cellsAsk_def]
  refine ⟨fun h1 => ?_, fun h1 => ?_⟩
  · have h2 : a.length = b.length := by have := asE_t h1; omega
    refine loop2 [6,7,8,9,10,11,12,13,14,15,16,17,18,19,20,21,22,23,24,25] (fun k : Nat => k ≤ a.length ∧ ∀ i, i < k → a.getD i default = b.getD i default) (fun k => a.length - k) (fun k => [rowEItem a, rowEItem b, .any, .any, .bool false, .int k, .any, .any, .any, .any, .any, .any, .any, .any, .any, .any, .any, .any, .any, .any, .any, .any, .any, .any, .any, .any]) (fun _ => h) 0 ⟨Nat.zero_le _, fun i hi => by omega⟩ (by simp only [forget, List.foldl_cons, List.foldl_nil, set8, List.set_cons_succ, List.set_cons_zero] <;> rfl) rfl ?_
    rintro L k ⟨q1, q2⟩ ih
    simp (maxSteps := 2000000) +contextual (disch := first | omega | assumption) only [go_sem, Nat.reduceAdd, Nat.reduceSub, Nat.reduceMul, Nat.reduceLT, Nat.reduceLeDiff, Nat.reduceEqDiff, reduceCtorEq, ↓reduceIte, Int.reduceLE, Int.reduceLT, Int.reduceToNat, Int.reduceAdd, Int.reduceSub, Int.reduceEq, Int.reduceNeg, List.append_assoc, cellsCall_def, cellsRule_def, cellsLookup_def, cellsPoint_def, cellsOutline_def, cellsPart_def, cellsAnchor_def, cellsDelta_def, cellsIns_def, cellsGlyph_def, cellsChar_def, cellsFeature_def, cellsAxis_def, cellsTent_def, cellsRegion_def, cellsFont_def, cellsItem_def, cellsText_def, cellsAsk_def]
    refine ⟨fun g1 => ?_, fun g1 => ?_⟩
    · refine awp_drawT (by kernel_rfl) 9 (by kernel_rfl) ?_
      simp (maxSteps := 2000000) +contextual (disch := first | omega | assumption) only [go_sem, Nat.reduceAdd, Nat.reduceSub, Nat.reduceMul, Nat.reduceLT, Nat.reduceLeDiff, Nat.reduceEqDiff, reduceCtorEq, ↓reduceIte, Int.reduceLE, Int.reduceLT, Int.reduceToNat, Int.reduceAdd, Int.reduceSub, Int.reduceEq, Int.reduceNeg, List.append_assoc, cellsCall_def, cellsRule_def, cellsLookup_def, cellsPoint_def, cellsOutline_def, cellsPart_def, cellsAnchor_def, cellsDelta_def, cellsIns_def, cellsGlyph_def, cellsChar_def, cellsFeature_def, cellsAxis_def, cellsTent_def, cellsRegion_def, cellsFont_def, cellsItem_def, cellsText_def, cellsAsk_def, g1]
      refine ⟨by omega, fun g2 => ?_, fun g2 => ?_⟩
      · exact ih (k + 1) ⟨by omega, fun i hi => by
          rcases Nat.lt_succ_iff_lt_or_eq.1 hi with h3 | h3
          · exact q2 i h3
          · rw [h3]; exact asE_t g2⟩ (by omega)
      · rw [show decide (a = b) = false by rw [decide_eq_false_iff_not]; intro e; subst e; exact asE_f g2 rfl]
        (all_goals first | assumption | omega | exact pureK_gen (by simp only [go_sem, shut, shutL] <;> rfl) (by intros; simp only [go_sem, cl, clL]) rfl rfl | exact pureK_gen0 (by simp only [go_sem, shut, shutL] <;> rfl) (by intros; simp only [go_sem, cl, clL]) | exact pureK_gl (by simp only [go_sem, shut, shutL] <;> rfl) (by intros; simp only [go_sem, cl, clL]) (Grows.ext (by assumption)) rfl | exact pureK_gl0 (by simp only [go_sem, shut, shutL] <;> rfl) (by intros; simp only [go_sem, cl, clL]) (Grows.ext (by assumption)) rfl | exact pureK_sub (by simp only [go_sem, shut, shutL] <;> rfl) (by intros; simp only [go_sem, cl, clL]) (by assumption) | exact pureK_sub (by simp only [go_sem, shut, shutL] <;> rfl) (by intros; simp only [go_sem, cl, clL]) (Sub.more (by assumption) _))
    · rw [show decide (a = b) = true by rw [decide_eq_true_eq]; exact getD_ext h2 fun i hi => q2 i (by omega)]
      (all_goals first | assumption | omega | exact pureK_gen (by simp only [go_sem, shut, shutL] <;> rfl) (by intros; simp only [go_sem, cl, clL]) rfl rfl | exact pureK_gen0 (by simp only [go_sem, shut, shutL] <;> rfl) (by intros; simp only [go_sem, cl, clL]) | exact pureK_gl (by simp only [go_sem, shut, shutL] <;> rfl) (by intros; simp only [go_sem, cl, clL]) (Grows.ext (by assumption)) rfl | exact pureK_gl0 (by simp only [go_sem, shut, shutL] <;> rfl) (by intros; simp only [go_sem, cl, clL]) (Grows.ext (by assumption)) rfl | exact pureK_sub (by simp only [go_sem, shut, shutL] <;> rfl) (by intros; simp only [go_sem, cl, clL]) (by assumption) | exact pureK_sub (by simp only [go_sem, shut, shutL] <;> rfl) (by intros; simp only [go_sem, cl, clL]) (Sub.more (by assumption) _))
  · rw [show decide (a = b) = false by rw [decide_eq_false_iff_not]; intro e; subst e; exact asE_f h1 rfl]
    (all_goals first | assumption | omega | exact pureK_gen (by simp only [go_sem, shut, shutL] <;> rfl) (by intros; simp only [go_sem, cl, clL]) rfl rfl | exact pureK_gen0 (by simp only [go_sem, shut, shutL] <;> rfl) (by intros; simp only [go_sem, cl, clL]) | exact pureK_gl (by simp only [go_sem, shut, shutL] <;> rfl) (by intros; simp only [go_sem, cl, clL]) (Grows.ext (by assumption)) rfl | exact pureK_gl0 (by simp only [go_sem, shut, shutL] <;> rfl) (by intros; simp only [go_sem, cl, clL]) (Grows.ext (by assumption)) rfl | exact pureK_sub (by simp only [go_sem, shut, shutL] <;> rfl) (by intros; simp only [go_sem, cl, clL]) (by assumption) | exact pureK_sub (by simp only [go_sem, shut, shutL] <;> rfl) (by intros; simp only [go_sem, cl, clL]) (Sub.more (by assumption) _))
theorem lawIn_pure (gr : Gr) (l : List Int) (n : Int) (hl : l.length ≤ 9223372036854775806) : Pure Try.prog 21 [.row gr (l.map AV.int), .int n] (.bool (l.contains n)) := by
  refine pure_of (rs := [.tmp 4]) (m := 16) Try.func21 rfl rfl rfl fun h => ?_
  simp (maxSteps := 2000000) +contextual (disch := first | omega | assumption) only [go_sem, Nat.reduceAdd, Nat.reduceSub, Nat.reduceMul, Nat.reduceLT, Nat.reduceLeDiff, Nat.reduceEqDiff, reduceCtorEq, ↓reduceIte, Int.reduceLE, Int.reduceLT, Int.reduceToNat, Int.reduceAdd, Int.reduceSub, Int.reduceEq, Int.reduceNeg, List.append_assoc, cellsCall_def, cellsRule_def, cellsLookup_def, cellsPoint_def, cellsOutline_def, cellsPart_def, cellsAnchor_def, cellsDelta_def, cellsIns_def, cellsGlyph_def, cellsChar_def, cellsFeature_def, cellsAxis_def, cellsTent_def, cellsRegion_def, cellsFont_def, cellsItem_def, cellsText_def, cellsAsk_def]
  refine loop2 [6,7,8,9,10,11,12,13,14,15,16,17] (fun k : Nat => k ≤ l.length ∧ (l.take k).contains n = false) (fun k => l.length - k) (fun k => [.row gr (l.map AV.int), .int n, .any, .any, .bool false, .int k, .any, .any, .any, .any, .any, .any, .any, .any, .any, .any, .any, .any]) (fun _ => h) 0 (by simp) (by simp only [forget, List.foldl_cons, List.foldl_nil, set8, List.set_cons_succ, List.set_cons_zero] <;> rfl) rfl ?_
  rintro L k ⟨hk, hc⟩ ih
  simp (maxSteps := 2000000) +contextual (disch := first | omega | assumption) only [go_sem, Nat.reduceAdd, Nat.reduceSub, Nat.reduceMul, Nat.reduceLT, Nat.reduceLeDiff, Nat.reduceEqDiff, reduceCtorEq, ↓reduceIte, Int.reduceLE, Int.reduceLT, Int.reduceToNat, Int.reduceAdd, Int.reduceSub, Int.reduceEq, Int.reduceNeg, List.append_assoc, cellsCall_def, cellsRule_def, cellsLookup_def, cellsPoint_def, cellsOutline_def, cellsPart_def, cellsAnchor_def, cellsDelta_def, cellsIns_def, cellsGlyph_def, cellsChar_def, cellsFeature_def, cellsAxis_def, cellsTent_def, cellsRegion_def, cellsFont_def, cellsItem_def, cellsText_def, cellsAsk_def]
  exact ⟨fun hlt => ⟨fun e => pureK_lit0 (by rw [contains_of hlt e]), fun e => ih (k+1) ⟨by omega, take_succ_contains hlt hc e⟩ (by omega)⟩, fun hge => pureK_lit0 (by rw [contains_end hk hge hc])⟩
theorem lawMark_pure (f : Font) (g : Int) : Pure Try.prog 22 [encFont f, .int g] (.bool (isMark f g)) := by
  refine pure_of (rs := [.tmp 4]) (m := 20) Try.func22 rfl rfl rfl fun h => ?_
  simp (maxSteps := 2000000) +contextual (disch := first | omega | assumption) only [go_sem, Nat.reduceAdd, Nat.reduceSub, Nat.reduceMul, Nat.reduceLT, Nat.reduceLeDiff, Nat.reduceEqDiff, reduceCtorEq, ↓reduceIte, Int.reduceLE, Int.reduceLT, Int.reduceToNat, Int.reduceAdd, Int.reduceSub, Int.reduceEq, Int.reduceNeg, List.append_assoc, cellsCall_def, cellsRule_def, cellsLookup_def, cellsPoint_def, cellsOutline_def, cellsPart_def, cellsAnchor_def, cellsDelta_def, cellsIns_def, cellsGlyph_def, cellsChar_def, cellsFeature_def, cellsAxis_def, cellsTent_def, cellsRegion_def, cellsFont_def, cellsItem_def, cellsText_def, cellsAsk_def]
  (repeat' first | with_reducible apply And.intro | with_reducible intro _)
  (all_goals (try simp only [asT, asE, Int.not_lt, Int.not_le, Nat.not_lt, Nat.not_le] at *); first | assumption | omega | exact pureK_lit rfl rfl (by simp [-List.getD_eq_getElem?_getD, isMark, *] <;> (intros; omega)) | exact pureK_lit0 (by simp [-List.getD_eq_getElem?_getD, isMark, *] <;> (intros; omega)))
/-! #### slices.Grow, at items -/
def rhoG : Ren := ⟨fun n => if n = 4 then 58 else n, fun n => if n = 22 then 32 else if n = 25 then 51 else n, fun n => n⟩
theorem growL : Lays8.n4 Try.prog rhoG := {
  mixed := by kernel_rfl
  f4 := ⟨ "slices.Grow[[]fleuron/api.Item,fleuron/api.Item]", by kernel_rfl, by kernel_rfl⟩
  t0 := by kernel_rfl
  a0 := fun w => tAgg_run (by kernel_rfl) w
  z0 := fun w => tSize_run (by kernel_rfl) w
  v0 := fun w => tZero_run (by kernel_rfl) w
  t3 := by kernel_rfl
  a3 := fun w => tAgg_run (by kernel_rfl) w
  z3 := fun w => tSize_run (by kernel_rfl) w
  v3 := fun w => tZero_run (by kernel_rfl) w
  t4 := by kernel_rfl
  a4 := fun w => tAgg_run (by kernel_rfl) w
  z4 := fun w => tSize_run (by kernel_rfl) w
  v4 := fun w => tZero_run (by kernel_rfl) w
  t9 := by kernel_rfl
  a9 := fun w => tAgg_run (by kernel_rfl) w
  z9 := fun w => tSize_run (by kernel_rfl) w
  v9 := fun w => tZero_run (by kernel_rfl) w
  t20 := by kernel_rfl
  a20 := fun w => tAgg_run (by kernel_rfl) w
  z20 := fun w => tSize_run (by kernel_rfl) w
  v20 := fun w => tZero_run (by kernel_rfl) w
  t22 := by kernel_rfl
  a22 := fun w => tAgg_run (by kernel_rfl) w
  z22 := fun w => tSize_run (by kernel_rfl) w
  v22 := fun w => tZero_run (by kernel_rfl) w }
end Go.V
namespace Go.V
open Go Go.Proofs Go.Shelf
set_option linter.unusedVariables false
set_option linter.unusedSimpArgs false
set_option maxRecDepth 10000
set_option maxHeartbeats 2000000
theorem flat_take {α : Type} {ls : List (List α)} {k : Nat} (hk : k < ls.length) : (ls.take (k + 1)).flatten = (ls.take k).flatten ++ ls.getD k default := by
  rw [List.take_add_one, List.getElem?_eq_getElem hk, List.flatten_append, List.getD, List.getElem?_eq_getElem hk]; simp
theorem flat_le {α : Type} {ls : List (List α)} (k : Nat) : (ls.take k).flatten.length ≤ ls.flatten.length := by
  conv => rhs; rw [← List.take_append_drop k ls, List.flatten_append, List.length_append]
  omega
theorem Concat_pure (ls : List (List Item)) (hl : ls.length ≤ 1048576) (ht : ls.flatten.length ≤ 1048576) : Pure Try.prog 54 [rowELItem ls] (rowEItem ls.flatten) := by
  refine pure_of (rs := [.tmp 2]) (m := 35) Try.func54 rfl rfl rfl fun h => ?_
  simp (maxSteps := 2000000) +contextual (disch := first | omega | assumption) only [go_sem, Nat.reduceAdd, Nat.reduceSub, Nat.reduceMul, Nat.reduceLT, Nat.reduceLeDiff, Nat.reduceEqDiff, reduceCtorEq, ↓reduceIte, Int.reduceLE, Int.reduceLT, Int.reduceToNat, Int.reduceAdd, Int.reduceSub, Int.reduceEq, Int.reduceNeg, List.append_assoc, cellsCall_def, cellsRule_def, cellsLookup_def, cellsPoint_def, cellsOutline_def, cellsPart_def, cellsAnchor_def, cellsDelta_def, cellsIns_def, cellsGlyph_def, cellsChar_def, cellsFeature_def, cellsAxis_def, cellsTent_def, cellsRegion_def, cellsFont_def, cellsItem_def, cellsText_def, cellsAsk_def]
  refine loop3 (ι := Nat) [3, 5, 11, 12, 13, 14, 15, 16, 17, 18, 19, 20, 21, 22] [5, 12, 13, 14, 15, 16, 17, 18, 19, 20, 21, 22] (fun k => [(3, .int ((ls.take k).flatten.length : Nat)), (11, .int k)]) (fun k => k ≤ ls.length) (fun k => ls.length - k) (fun _ => h) 0 (Nat.zero_le _) (by simp only [setTr_nil, setTr_cons, forget, List.foldl_cons, List.foldl_nil, set8, List.set_cons_succ, List.set_cons_zero] <;> rfl) rfl ?_
  rintro L k q1 ih; simp only [setTr_nil, setTr_cons, forget, List.foldl_cons, List.foldl_nil, set8, List.set_cons_succ, List.set_cons_zero] at ih ⊢
  simp (maxSteps := 2000000) +contextual (disch := first | omega | assumption) only [go_sem, Nat.reduceAdd, Nat.reduceSub, Nat.reduceMul, Nat.reduceLT, Nat.reduceLeDiff, Nat.reduceEqDiff, reduceCtorEq, ↓reduceIte, Int.reduceLE, Int.reduceLT, Int.reduceToNat, Int.reduceAdd, Int.reduceSub, Int.reduceEq, Int.reduceNeg, List.append_assoc, cellsCall_def, cellsRule_def, cellsLookup_def, cellsPoint_def, cellsOutline_def, cellsPart_def, cellsAnchor_def, cellsDelta_def, cellsIns_def, cellsGlyph_def, cellsChar_def, cellsFeature_def, cellsAxis_def, cellsTent_def, cellsRegion_def, cellsFont_def, cellsItem_def, cellsText_def, cellsAsk_def]
  refine ⟨fun g1 => ?_, fun g1 => ?_⟩
  · have e1 := flat_take (ls := ls) (k := k) g1
    have e2 := flat_le (ls := ls) (k + 1)
    rw [e1] at e2
    simp only [List.length_append] at e2
    rw [wrap_id (by omega) (by omega)]
    refine ⟨fun g2 => by omega, fun g2 => ?_⟩
    have := ih (k + 1) (by omega) (by omega)
    rw [e1, List.length_append] at this
    exact this
  · rw [List.take_of_length_le (by omega)]
    refine call_grow growL rfl rfl rfl tSize_51 tBytes_51 aZero_51 rfl (by decide) (by omega) (by omega) (by omega) fun gr gl hg => ?_
    simp (maxSteps := 2000000) +contextual (disch := first | omega | assumption) only [go_sem, Nat.reduceAdd, Nat.reduceSub, Nat.reduceMul, Nat.reduceLT, Nat.reduceLeDiff, Nat.reduceEqDiff, reduceCtorEq, ↓reduceIte, Int.reduceLE, Int.reduceLT, Int.reduceToNat, Int.reduceAdd, Int.reduceSub, Int.reduceEq, Int.reduceNeg, List.append_assoc, cellsCall_def, cellsRule_def, cellsLookup_def, cellsPoint_def, cellsOutline_def, cellsPart_def, cellsAnchor_def, cellsDelta_def, cellsIns_def, cellsGlyph_def, cellsChar_def, cellsFeature_def, cellsAxis_def, cellsTent_def, cellsRegion_def, cellsFont_def, cellsItem_def, cellsText_def, cellsAsk_def]
    refine loop3 (ι := Nat × Gr × List Nat) [6, 8, 27, 28, 29, 30, 31, 32, 33, 34] [8, 28, 29, 30, 31, 32, 33, 34] (fun x => [(6, .row x.2.1 ((ls.take x.1).flatten.map encItem)), (27, .int x.1)]) (fun x => x.1 ≤ ls.length ∧ Grows 6 h.gl x.2.1 x.2.2) (fun x => ls.length - x.1) (fun x => { bx := h.bx, gl := x.2.2, lp := h.lp }) (0, gr, gl) ⟨Nat.zero_le _, hg⟩ (by simp only [setTr_nil, setTr_cons, forget, List.foldl_cons, List.foldl_nil, set8, List.set_cons_succ, List.set_cons_zero] <;> rfl) rfl ?_
    rintro L ⟨k, gr, gl⟩ ⟨q1, q2⟩ ih; simp only [setTr_nil, setTr_cons, forget, List.foldl_cons, List.foldl_nil, set8, List.set_cons_succ, List.set_cons_zero] at ih ⊢
    simp only at q1 q2
    simp (maxSteps := 2000000) +contextual (disch := first | omega | assumption) only [go_sem, Nat.reduceAdd, Nat.reduceSub, Nat.reduceMul, Nat.reduceLT, Nat.reduceLeDiff, Nat.reduceEqDiff, reduceCtorEq, ↓reduceIte, Int.reduceLE, Int.reduceLT, Int.reduceToNat, Int.reduceAdd, Int.reduceSub, Int.reduceEq, Int.reduceNeg, List.append_assoc, cellsCall_def, cellsRule_def, cellsLookup_def, cellsPoint_def, cellsOutline_def, cellsPart_def, cellsAnchor_def, cellsDelta_def, cellsIns_def, cellsGlyph_def, cellsChar_def, cellsFeature_def, cellsAxis_def, cellsTent_def, cellsRegion_def, cellsFont_def, cellsItem_def, cellsText_def, cellsAsk_def]
    refine ⟨fun g1 => ?_, fun g1 => ?_⟩
    · have e1 := flat_take (ls := ls) (k := k) g1
      have e2 := flat_le (ls := ls) (k + 1)
      rw [e1] at e2
      simp only [List.length_append] at e2
      refine append_grow (g2 := .no) encItem (ls.take k).flatten (ls.getD k default) (fun _ => rfl) tElem_32 tSize_51 tBytes_51 aZero_51 (by rw [tElem_32]; rfl) rfl (by decide) trivial (by decide) (by omega) q2 fun gr' gl' g' => ?_
      rw [← e1]
      simp (maxSteps := 2000000) +contextual (disch := first | omega | assumption) only [go_sem, Nat.reduceAdd, Nat.reduceSub, Nat.reduceMul, Nat.reduceLT, Nat.reduceLeDiff, Nat.reduceEqDiff, reduceCtorEq, ↓reduceIte, Int.reduceLE, Int.reduceLT, Int.reduceToNat, Int.reduceAdd, Int.reduceSub, Int.reduceEq, Int.reduceNeg, List.append_assoc, cellsCall_def, cellsRule_def, cellsLookup_def, cellsPoint_def, cellsOutline_def, cellsPart_def, cellsAnchor_def, cellsDelta_def, cellsIns_def, cellsGlyph_def, cellsChar_def, cellsFeature_def, cellsAxis_def, cellsTent_def, cellsRegion_def, cellsFont_def, cellsItem_def, cellsText_def, cellsAsk_def]
      exact ih (k + 1, gr', gl') ⟨by simp only; omega, g'⟩ (by simp only; omega)
    · rw [List.take_of_length_le (by omega)]
      (all_goals first | assumption | omega | exact pureK_gen (by simp only [go_sem, shut, shutL] <;> rfl) (by intros; simp only [go_sem, cl, clL]) rfl rfl | exact pureK_gen0 (by simp only [go_sem, shut, shutL] <;> rfl) (by intros; simp only [go_sem, cl, clL]) | exact pureK_gl (by simp only [go_sem, shut, shutL] <;> rfl) (by intros; simp only [go_sem, cl, clL]) (Grows.ext (by assumption)) rfl | exact pureK_gl0 (by simp only [go_sem, shut, shutL] <;> rfl) (by intros; simp only [go_sem, cl, clL]) (Grows.ext (by assumption)) rfl | exact pureK_sub (by simp only [go_sem, shut, shutL] <;> rfl) (by intros; simp only [go_sem, cl, clL]) (by assumption) | exact pureK_sub (by simp only [go_sem, shut, shutL] <;> rfl) (by intros; simp only [go_sem, cl, clL]) (Sub.more (by assumption) _))
/-- A run of its own. -/
theorem Clone_pure (gr : Gr) (run : List Item) (hl : run.length ≤ 1048576) : Pure Try.prog 32 [rowEItem run] (rowEItem run) := by
  refine pure_of (rs := [.tmp 2]) (m := 7) Try.func32 rfl rfl rfl fun h => ?_
  simp (maxSteps := 2000000) +contextual (disch := first | omega | assumption) only [go_sem, Nat.reduceAdd, Nat.reduceSub, Nat.reduceMul, Nat.reduceLT, Nat.reduceLeDiff, Nat.reduceEqDiff, reduceCtorEq, ↓reduceIte, Int.reduceLE, Int.reduceLT, Int.reduceToNat, Int.reduceAdd, Int.reduceSub, Int.reduceEq, Int.reduceNeg, List.append_assoc, cellsCall_def, cellsRule_def, cellsLookup_def, cellsPoint_def, cellsOutline_def, cellsPart_def, cellsAnchor_def, cellsDelta_def, cellsIns_def, cellsGlyph_def, cellsChar_def, cellsFeature_def, cellsAxis_def, cellsTent_def, cellsRegion_def, cellsFont_def, cellsItem_def, cellsText_def, cellsAsk_def, ↓aop_binN]
  refine nil_eql (g := .no) encItem run (fun _ => rfl) tElem_32 tSize_51 (by decide) trivial (fun e => ?_) ?_
  · subst e
    simp (maxSteps := 2000000) +contextual (disch := first | omega | assumption) only [go_sem, Nat.reduceAdd, Nat.reduceSub, Nat.reduceMul, Nat.reduceLT, Nat.reduceLeDiff, Nat.reduceEqDiff, reduceCtorEq, ↓reduceIte, Int.reduceLE, Int.reduceLT, Int.reduceToNat, Int.reduceAdd, Int.reduceSub, Int.reduceEq, Int.reduceNeg, List.append_assoc, cellsCall_def, cellsRule_def, cellsLookup_def, cellsPoint_def, cellsOutline_def, cellsPart_def, cellsAnchor_def, cellsDelta_def, cellsIns_def, cellsGlyph_def, cellsChar_def, cellsFeature_def, cellsAxis_def, cellsTent_def, cellsRegion_def, cellsFont_def, cellsItem_def, cellsText_def, cellsAsk_def]
    (all_goals first | assumption | omega | exact pureK_gen (by simp only [go_sem, shut, shutL] <;> rfl) (by intros; simp only [go_sem, cl, clL]) rfl rfl | exact pureK_gen0 (by simp only [go_sem, shut, shutL] <;> rfl) (by intros; simp only [go_sem, cl, clL]) | exact pureK_gl (by simp only [go_sem, shut, shutL] <;> rfl) (by intros; simp only [go_sem, cl, clL]) (Grows.ext (by assumption)) rfl | exact pureK_gl0 (by simp only [go_sem, shut, shutL] <;> rfl) (by intros; simp only [go_sem, cl, clL]) (Grows.ext (by assumption)) rfl | exact pureK_sub (by simp only [go_sem, shut, shutL] <;> rfl) (by intros; simp only [go_sem, cl, clL]) (by assumption) | exact pureK_sub (by simp only [go_sem, shut, shutL] <;> rfl) (by intros; simp only [go_sem, cl, clL]) (Sub.more (by assumption) _))
  · simp (maxSteps := 2000000) +contextual (disch := first | omega | assumption) only [go_sem, Nat.reduceAdd, Nat.reduceSub, Nat.reduceMul, Nat.reduceLT, Nat.reduceLeDiff, Nat.reduceEqDiff, reduceCtorEq, ↓reduceIte, Int.reduceLE, Int.reduceLT, Int.reduceToNat, Int.reduceAdd, Int.reduceSub, Int.reduceEq, Int.reduceNeg, List.append_assoc, cellsCall_def, cellsRule_def, cellsLookup_def, cellsPoint_def, cellsOutline_def, cellsPart_def, cellsAnchor_def, cellsDelta_def, cellsIns_def, cellsGlyph_def, cellsChar_def, cellsFeature_def, cellsAxis_def, cellsTent_def, cellsRegion_def, cellsFont_def, cellsItem_def, cellsText_def, cellsAsk_def]
    refine append_grow (g2 := .no) encItem [] run (fun _ => rfl) tElem_32 tSize_51 tBytes_51 aZero_51 (by rw [tElem_32]; rfl) rfl (by decide) trivial (by decide) (by simp only [List.length_nil]; omega) (grows_new _ _) fun gr' gl' g' => ?_
    simp (maxSteps := 2000000) +contextual (disch := first | omega | assumption) only [go_sem, Nat.reduceAdd, Nat.reduceSub, Nat.reduceMul, Nat.reduceLT, Nat.reduceLeDiff, Nat.reduceEqDiff, reduceCtorEq, ↓reduceIte, Int.reduceLE, Int.reduceLT, Int.reduceToNat, Int.reduceAdd, Int.reduceSub, Int.reduceEq, Int.reduceNeg, List.append_assoc, cellsCall_def, cellsRule_def, cellsLookup_def, cellsPoint_def, cellsOutline_def, cellsPart_def, cellsAnchor_def, cellsDelta_def, cellsIns_def, cellsGlyph_def, cellsChar_def, cellsFeature_def, cellsAxis_def, cellsTent_def, cellsRegion_def, cellsFont_def, cellsItem_def, cellsText_def, cellsAsk_def]
    (all_goals first | assumption | omega | exact pureK_gen (by simp only [go_sem, shut, shutL] <;> rfl) (by intros; simp only [go_sem, cl, clL]) rfl rfl | exact pureK_gen0 (by simp only [go_sem, shut, shutL] <;> rfl) (by intros; simp only [go_sem, cl, clL]) | exact pureK_gl (by simp only [go_sem, shut, shutL] <;> rfl) (by intros; simp only [go_sem, cl, clL]) (Grows.ext (by assumption)) rfl | exact pureK_gl0 (by simp only [go_sem, shut, shutL] <;> rfl) (by intros; simp only [go_sem, cl, clL]) (Grows.ext (by assumption)) rfl | exact pureK_sub (by simp only [go_sem, shut, shutL] <;> rfl) (by intros; simp only [go_sem, cl, clL]) (by assumption) | exact pureK_sub (by simp only [go_sem, shut, shutL] <;> rfl) (by intros; simp only [go_sem, cl, clL]) (Sub.more (by assumption) _))
/-- A run with some items in the place of one. -/
def putF (run : List Item) (p : Nat) (l : List Item) : List Item := run.take p ++ l ++ run.drop (p + 1)
theorem put_call (t : Text) (k : Nat) (p : Nat) (l : List Item) (h : Hp) (hk : h.bx[k]? = some (cellsText t)) (hp : p < t.run.length) (h1 : t.run.length ≤ 500000) (h2 : l.length ≤ 500000) :
    ACall Try.prog 43 [.ptr k 0, .int p, rowEItem l] h (fun _ h' => h' = { h with bx := h.bx.set k (cellsText { t with run := putF t.run p l }) }) := by
  refine acall_walk (rs := []) (m := 22) Try.func43 rfl rfl rfl ?_
  rw [cellsText_def] at hk
  refine awp_drawT (by kernel_rfl) 19 (by kernel_rfl) ?_
  simp (maxSteps := 2000000) +contextual (disch := first | omega | assumption) only [go_sem, Nat.reduceAdd, Nat.reduceSub, Nat.reduceMul, Nat.reduceLT, Nat.reduceLeDiff, Nat.reduceEqDiff, reduceCtorEq, ↓reduceIte, Int.reduceLE, Int.reduceLT, Int.reduceToNat, Int.reduceAdd, Int.reduceSub, Int.reduceEq, Int.reduceNeg, List.append_assoc, cellsCall_def, cellsRule_def, cellsLookup_def, cellsPoint_def, cellsOutline_def, cellsPart_def, cellsAnchor_def, cellsDelta_def, cellsIns_def, cellsGlyph_def, cellsChar_def, cellsFeature_def, cellsAxis_def, cellsTent_def, cellsRegion_def, cellsFont_def, cellsItem_def, cellsText_def, cellsAsk_def, hk]
  refine slice_to encItem t.run (fun _ => rfl) tElem_32 tSize_51 trivial (by omega) (by omega) ?_
  simp (maxSteps := 2000000) +contextual (disch := first | omega | assumption) only [go_sem, Nat.reduceAdd, Nat.reduceSub, Nat.reduceMul, Nat.reduceLT, Nat.reduceLeDiff, Nat.reduceEqDiff, reduceCtorEq, ↓reduceIte, Int.reduceLE, Int.reduceLT, Int.reduceToNat, Int.reduceAdd, Int.reduceSub, Int.reduceEq, Int.reduceNeg, List.append_assoc, cellsCall_def, cellsRule_def, cellsLookup_def, cellsPoint_def, cellsOutline_def, cellsPart_def, cellsAnchor_def, cellsDelta_def, cellsIns_def, cellsGlyph_def, cellsChar_def, cellsFeature_def, cellsAxis_def, cellsTent_def, cellsRegion_def, cellsFont_def, cellsItem_def, cellsText_def, cellsAsk_def, hk]
  refine slice_from (g := .no) encItem t.run (fun _ => rfl) tElem_32 tSize_51 trivial (by omega) (by omega) ?_
  simp (maxSteps := 2000000) +contextual (disch := first | omega | assumption) only [go_sem, Nat.reduceAdd, Nat.reduceSub, Nat.reduceMul, Nat.reduceLT, Nat.reduceLeDiff, Nat.reduceEqDiff, reduceCtorEq, ↓reduceIte, Int.reduceLE, Int.reduceLT, Int.reduceToNat, Int.reduceAdd, Int.reduceSub, Int.reduceEq, Int.reduceNeg, List.append_assoc, cellsCall_def, cellsRule_def, cellsLookup_def, cellsPoint_def, cellsOutline_def, cellsPart_def, cellsAnchor_def, cellsDelta_def, cellsIns_def, cellsGlyph_def, cellsChar_def, cellsFeature_def, cellsAxis_def, cellsTent_def, cellsRegion_def, cellsFont_def, cellsItem_def, cellsText_def, cellsAsk_def, hk]
  have e1 : ((p : Int) + 1).toNat = p + 1 := by omega
  rw [e1]
  refine callq_shut rfl (Concat_pure [t.run.take p, l, t.run.drop (p + 1)] (by simp) (by simp; omega)) (by simp only [go_sem, shut, shutL] <;> rfl) ?_
  simp (maxSteps := 2000000) +contextual (disch := first | omega | assumption) only [go_sem, Nat.reduceAdd, Nat.reduceSub, Nat.reduceMul, Nat.reduceLT, Nat.reduceLeDiff, Nat.reduceEqDiff, reduceCtorEq, ↓reduceIte, Int.reduceLE, Int.reduceLT, Int.reduceToNat, Int.reduceAdd, Int.reduceSub, Int.reduceEq, Int.reduceNeg, List.append_assoc, cellsCall_def, cellsRule_def, cellsLookup_def, cellsPoint_def, cellsOutline_def, cellsPart_def, cellsAnchor_def, cellsDelta_def, cellsIns_def, cellsGlyph_def, cellsChar_def, cellsFeature_def, cellsAxis_def, cellsTent_def, cellsRegion_def, cellsFont_def, cellsItem_def, cellsText_def, cellsAsk_def, hk]
  simp [putF]
end Go.V
namespace Go.V
open Go Go.Proofs Go.Shelf
set_option linter.unusedVariables false
set_option linter.unusedSimpArgs false
set_option maxRecDepth 10000
set_option maxHeartbeats 2000000
/-! #### heaps of which one box is another one -/
theorem gso {l e : List (List AV)} {k j : Nat} {x : List AV} : (l.set k x ++ e)[l.length + j]? = e[j]? := by
  rw [List.getElem?_append_right (by rw [List.length_set]; omega), List.length_set, Nat.add_sub_cancel_left]
theorem gso0 {l e : List (List AV)} {k : Nat} {x : List AV} : (l.set k x ++ e)[l.length]? = e[0]? := gso (j := 0)
theorem gsk {l e : List (List AV)} {k : Nat} {x : List AV} (hk : k < l.length) : (l.set k x ++ e)[k]? = some x := by
  rw [List.getElem?_append_left (by rw [List.length_set]; exact hk), List.getElem?_set_self hk]
theorem sso {l e : List (List AV)} {k j : Nat} {x y : List AV} : (l.set k x ++ e).set (l.length + j) y = l.set k x ++ e.set j y := by
  rw [List.set_append_right _ _ (by rw [List.length_set]; omega), List.length_set, Nat.add_sub_cancel_left]
theorem sso0 {l e : List (List AV)} {k : Nat} {x y : List AV} : (l.set k x ++ e).set l.length y = l.set k x ++ e.set 0 y := sso (j := 0)
theorem ssk {l e : List (List AV)} {k : Nat} {x y : List AV} (hk : k < l.length) : (l.set k x ++ e).set k y = l.set k y ++ e := by
  rw [List.set_append_left _ _ (by rw [List.length_set]; exact hk), List.set_set]
theorem sk {l e : List (List AV)} {k : Nat} {y : List AV} (hk : k < l.length) : (l ++ e).set k y = l.set k y ++ e := List.set_append_left _ _ hk
/-- What is told of a function that sets one box, at its end. -/
theorem fin_one {h0 : Hp} {K : AV → Hp → Prop} {r r2 : AV} {h : Hp} {k : Nat} {cs : List AV} (hK : K r2 { h0 with bx := h0.bx.set k cs }) (hr : shut r = r2) (hc : ∀ nb ng nl, cl nb ng nl r2 = true) (hs : shutL cs = cs) (hcs : ∀ nb ng nl, clL nb ng nl cs = true) (hb : ∃ e, h.bx = h0.bx.set k cs ++ e) (hg : ∃ e, h.gl = h0.gl ++ e) (hl : h.lp = h0.lp) : ∃ h2, Fin h0 K r h h2 :=
  fin_set (cs := cs) (cs2 := cs) hK (.keep _ _ hr (hc _ _ _)) (by have := frz_keep (bx := h.bx) (nb := h0.bx.length) (ng := h0.gl.length) (nl := h0.lp.length) (cs := cs) (by rw [hs]; exact hcs _ _ _); rwa [hs] at this) hb hg hl
theorem ACall.shut {P : Program} {f : FuncId} {args args' : List AV} {h : Hp} {K : AV → Hp → Prop} (hp : ACall P f args' h K) (ha : shutL args = args') : ACall P f args h K :=
  fun C w vs s r => hp C w vs s ⟨by rw [← ha, shutL_length]; exact r.1, fun i x hx => by
    rw [← ha, shutL_map, List.getElem?_map] at hx
    cases h1 : args[i]? with
    | none => rw [h1] at hx; cases hx
    | some y => rw [h1] at hx; cases hx; exact (r.2 i y h1).shut⟩
theorem put_callI (t : Text) (k : Nat) (p : Int) (l : List Item) (h : Hp) (hk : h.bx[k]? = some (cellsText t)) (hp : 0 ≤ p ∧ p < t.run.length) (h1 : t.run.length ≤ 500000) (h2 : l.length ≤ 500000) :
    ACall Try.prog 43 [.ptr k 0, .int p, rowEItem l] h (fun _ h' => h' = { h with bx := h.bx.set k (cellsText { t with run := putF t.run p.toNat l }) }) := by
  obtain ⟨n, rfl⟩ := Int.eq_ofNat_of_zero_le hp.1
  exact put_call t k n l h hk (by omega) h1 h2
theorem keeps_set {b e : List (List AV)} {k : Nat} {c1 c2 : List AV} {gl : List Nat} {lp : List LInfo} (hc : ∀ nb ng nl, clL nb ng nl c2 = true) : Keeps { bx := b.set k c1 ++ e, gl := gl, lp := lp } { bx := b.set k c2 ++ e, gl := gl, lp := lp } := by
  refine ⟨rfl, by simp, Nat.le_refl _, fun cs hcs => ?_⟩
  rcases List.mem_append.1 hcs with h1 | h1
  · obtain ⟨i, hi⟩ := List.mem_iff_getElem?.1 h1
    by_cases hik : i = k
    · subst hik
      have hlt : i < b.length := by have := (List.getElem?_eq_some_iff.1 hi).1; simpa using this
      rw [List.getElem?_set_self hlt] at hi
      cases hi; exact .inr (hc _ _ _)
    · rw [List.getElem?_set_ne (Ne.symm hik)] at hi
      refine .inl (List.mem_append_left _ (List.mem_iff_getElem?.2 ⟨i, ?_⟩))
      rw [List.getElem?_set_ne (Ne.symm hik)]; exact hi
  · exact .inl (List.mem_append_right _ h1)
theorem clL_cellsText (t : Text) (nb ng nl : Nat) : clL nb ng nl (cellsText t) = true := cl_encText nb ng nl t
theorem shutL_cellsText (t : Text) : shutL (cellsText t) = cellsText t := by have := shut_encText t; rw [encText, shut] at this; exact AV.agg.inj this
/-! #### slices.Backward -/
theorem Backward_call (l : List Int) (h : Hp) (K : AV → Hp → Prop) (k : K (.clo (.func 59) [] [.ptr h.bx.length 0]) { h with bx := h.bx ++ [[rowEI l]] }) : ACall Try.prog 55 [rowEI l] h K := by
  refine acall_walk (rs := [.tmp 2]) (m := 3) Try.func55 rfl rfl rfl ?_
  simp (maxSteps := 2000000) +contextual (disch := first | omega | assumption) only [go_sem, Nat.reduceAdd, Nat.reduceSub, Nat.reduceMul, Nat.reduceLT, Nat.reduceLeDiff, Nat.reduceEqDiff, reduceCtorEq, ↓reduceIte, Int.reduceLE, Int.reduceLT, Int.reduceToNat, Int.reduceAdd, Int.reduceSub, Int.reduceEq, Int.reduceNeg, List.append_assoc, cellsCall_def, cellsRule_def, cellsLookup_def, cellsPoint_def, cellsOutline_def, cellsPart_def, cellsAnchor_def, cellsDelta_def, cellsIns_def, cellsGlyph_def, cellsChar_def, cellsFeature_def, cellsAxis_def, cellsTent_def, cellsRegion_def, cellsFont_def, cellsItem_def, cellsText_def, cellsAsk_def]
  exact k
theorem back1_call (l : List Int) (hr : l.length ≤ 9223372036854775806) (y : AV) (kL : Nat) (S : Int → Hp → Prop) (Fin : Hp → Prop)
    (b1 : ∀ i h, S i h → h.bx[kL]? = some [rowEI l])
    (b2 : ∀ i h, S i h → 0 ≤ i → i < l.length → ACallV Try.prog y [.int i, .int (l.getD i.toNat default)] h (fun r h' => (r = .bool true ∧ S (i - 1) h') ∨ (r = .bool false ∧ Fin h')))
    (b4 : ∀ i h, S i h → i < 0 → Fin h) (h : Hp) (h0 : S ((l.length : Int) - 1) h) : ACall Try.prog 59 [y, .ptr kL 0] h (fun _ h' => Fin h') := by
  have hF := b1 _ h h0
  refine acall_walk (rs := []) (m := 17) Try.func59 rfl rfl rfl ?_
  simp (maxSteps := 2000000) +contextual (disch := first | omega | assumption) only [go_sem, Nat.reduceAdd, Nat.reduceSub, Nat.reduceMul, Nat.reduceLT, Nat.reduceLeDiff, Nat.reduceEqDiff, reduceCtorEq, ↓reduceIte, Int.reduceLE, Int.reduceLT, Int.reduceToNat, Int.reduceAdd, Int.reduceSub, Int.reduceEq, Int.reduceNeg, List.append_assoc, cellsCall_def, cellsRule_def, cellsLookup_def, cellsPoint_def, cellsOutline_def, cellsPart_def, cellsAnchor_def, cellsDelta_def, cellsIns_def, cellsGlyph_def, cellsChar_def, cellsFeature_def, cellsAxis_def, cellsTent_def, cellsRegion_def, cellsFont_def, cellsItem_def, cellsText_def, cellsAsk_def, hF]
  refine loop3 (ι := Int × Hp) [3, 7, 8, 9, 10, 11, 12, 13, 14, 15, 16, 17, 18] [7, 8, 9, 10, 11, 12, 13, 14, 15, 16, 17, 18] (fun x => [(3, .int x.1)]) (fun x => -1 ≤ x.1 ∧ x.1 < l.length ∧ S x.1 x.2) (fun x => (x.1 + 1).toNat) (fun x => x.2) ((l.length : Int) - 1, h) ⟨by simp only; omega, by simp only; omega, h0⟩ (by simp only [setTr_nil, setTr_cons, forget, List.foldl_cons, List.foldl_nil, set8, List.set_cons_succ, List.set_cons_zero] <;> rfl) rfl ?_
  rintro L ⟨i, g⟩ ⟨q1, q2, q3⟩ ih; simp only [setTr_nil, setTr_cons, forget, List.foldl_cons, List.foldl_nil, set8, List.set_cons_succ, List.set_cons_zero] at ih ⊢
  simp only at q1 q2 q3
  have c1 := b1 i g q3
  simp (maxSteps := 2000000) +contextual (disch := first | omega | assumption) only [go_sem, Nat.reduceAdd, Nat.reduceSub, Nat.reduceMul, Nat.reduceLT, Nat.reduceLeDiff, Nat.reduceEqDiff, reduceCtorEq, ↓reduceIte, Int.reduceLE, Int.reduceLT, Int.reduceToNat, Int.reduceAdd, Int.reduceSub, Int.reduceEq, Int.reduceNeg, List.append_assoc, cellsCall_def, cellsRule_def, cellsLookup_def, cellsPoint_def, cellsOutline_def, cellsPart_def, cellsAnchor_def, cellsDelta_def, cellsIns_def, cellsGlyph_def, cellsChar_def, cellsFeature_def, cellsAxis_def, cellsTent_def, cellsRegion_def, cellsFont_def, cellsItem_def, cellsText_def, cellsAsk_def, c1]
  refine ⟨fun h1 => ?_, fun h1 => b4 i g q3 (by omega)⟩
  simp (maxSteps := 2000000) +contextual (disch := first | omega | assumption) only [go_sem, Nat.reduceAdd, Nat.reduceSub, Nat.reduceMul, Nat.reduceLT, Nat.reduceLeDiff, Nat.reduceEqDiff, reduceCtorEq, ↓reduceIte, Int.reduceLE, Int.reduceLT, Int.reduceToNat, Int.reduceAdd, Int.reduceSub, Int.reduceEq, Int.reduceNeg, List.append_assoc, cellsCall_def, cellsRule_def, cellsLookup_def, cellsPoint_def, cellsOutline_def, cellsPart_def, cellsAnchor_def, cellsDelta_def, cellsIns_def, cellsGlyph_def, cellsChar_def, cellsFeature_def, cellsAxis_def, cellsTent_def, cellsRegion_def, cellsFont_def, cellsItem_def, cellsText_def, cellsAsk_def, c1, h1, q2]
  refine call_v (b2 i g q3 h1 q2) fun r h' hr => ?_
  rcases hr with ⟨rfl, hS⟩ | ⟨rfl, hF'⟩
  · simp (maxSteps := 2000000) +contextual (disch := first | omega | assumption) only [go_sem, Nat.reduceAdd, Nat.reduceSub, Nat.reduceMul, Nat.reduceLT, Nat.reduceLeDiff, Nat.reduceEqDiff, reduceCtorEq, ↓reduceIte, Int.reduceLE, Int.reduceLT, Int.reduceToNat, Int.reduceAdd, Int.reduceSub, Int.reduceEq, Int.reduceNeg, List.append_assoc, cellsCall_def, cellsRule_def, cellsLookup_def, cellsPoint_def, cellsOutline_def, cellsPart_def, cellsAnchor_def, cellsDelta_def, cellsIns_def, cellsGlyph_def, cellsChar_def, cellsFeature_def, cellsAxis_def, cellsTent_def, cellsRegion_def, cellsFont_def, cellsItem_def, cellsText_def, cellsAsk_def]
    exact ih (i - 1, h') ⟨by simp only; omega, by simp only; omega, hS⟩ (by simp only; omega)
  · simp (maxSteps := 2000000) +contextual (disch := first | omega | assumption) only [go_sem, Nat.reduceAdd, Nat.reduceSub, Nat.reduceMul, Nat.reduceLT, Nat.reduceLeDiff, Nat.reduceEqDiff, reduceCtorEq, ↓reduceIte, Int.reduceLE, Int.reduceLT, Int.reduceToNat, Int.reduceAdd, Int.reduceSub, Int.reduceEq, Int.reduceNeg, List.append_assoc, cellsCall_def, cellsRule_def, cellsLookup_def, cellsPoint_def, cellsOutline_def, cellsPart_def, cellsAnchor_def, cellsDelta_def, cellsIns_def, cellsGlyph_def, cellsChar_def, cellsFeature_def, cellsAxis_def, cellsTent_def, cellsRegion_def, cellsFont_def, cellsItem_def, cellsText_def, cellsAsk_def]
    exact hF'
/-- A loop over what Backward shows. -/
theorem range_back {g : Operand} {ps : Array Tmp} {assign body : Code} {Q : Exit → List AV → Hp → Prop} {tm : List AV} {h : Hp} {kL : Nat} (l : List Int) (hr : l.length ≤ 9223372036854775806) (hps : ps.size = 2)
    (hg : ev tm g = .clo (.func 59) [] [.ptr kL 0]) (I : Int → Hp → Prop) (h0 : I ((l.length : Int) - 1) h) (hK : ∀ i h', I i h' → Keeps h h')
    (hb : ∀ i h', I i h' → h'.bx[kL]? = some [rowEI l])
    (stop : ∀ i h', I i h' → i < 0 → Q .normal tm h')
    (round : ∀ i h' L L', I i h' → 0 ≤ i → i < l.length → cw Try.prog assign (asgQ Try.prog h body L L' (endQ Q tm h L' (I (i - 1)))) (setParams tm ps [.int i, .int (l.getD i.toNat default)]) { h' with lp := h.lp ++ [L] }) :
    @AWpI Try.prog ⟨.rangeFunc g ps assign body, Q⟩ tm h := by
  refine awp_rangeI hg rfl (back1_call l hr (.yld h.lp.length) kL (fun i hh => recS h ⟨tm, ps, assign, body, .ready⟩ (I i) hh) (recF Try.prog Q tm h) ?_ ?_ ?_ _ ⟨h, h0, rfl⟩)
  · rintro i hh ⟨h', hI, rfl⟩; exact hb i h' hI
  · rintro i hh ⟨h', hI, rfl⟩ h1 h2; exact round_of (by simp [hps]) (fun L L' => round i h' L L' hI h1 h2)
  · rintro i hh ⟨h', hI, rfl⟩ h1; exact ⟨h', ⟨tm, ps, assign, body, .ready⟩, hK i h' hI, rfl, stop i h' hI h1⟩
/-! #### join -/
/-- The least cluster of some items, from one on. -/
def leastF (run : List Item) (l : List Int) (c : Int) : Int := l.foldl (fun a i => if (run.getD i.toNat default).cluster < a then (run.getD i.toNat default).cluster else a) c
/-- Some items taken out, from the last one on. -/
def remF (run : List Item) : List Int → List Item
  | [] => run
  | a :: l => putF (remF run l) a.toNat []
def joinF (run : List Item) (l : List Int) (g : Int) : List Item :=
  remF (putF run (l.getD 0 default).toNat [{ run.getD (l.getD 0 default).toNat default with glyph := g, cluster := leastF run (l.drop 1) (run.getD (l.getD 0 default).toNat default).cluster }]) (l.drop 1)
/-- Places of a run, rising. -/
structure Inc (n : Nat) (l : List Int) : Prop where
  h1 : l.Pairwise (· < ·)
  h2 : ∀ x ∈ l, 0 ≤ x ∧ x < n
theorem putF_len {run : List Item} {p : Nat} {l : List Item} (hp : p < run.length) : (putF run p l).length + 1 = run.length + l.length := by
  simp [putF]; omega
theorem remF_len {n : Nat} : ∀ {l : List Int} {run : List Item}, run.length = n → Inc n l → (remF run l).length + l.length = n ∧ ∀ a ∈ l.head?, a.toNat + l.length ≤ n
  | [], run, h, _ => by simp [remF, h]
  | a :: l, run, h, hi => by
    obtain ⟨h1, h2⟩ := hi
    obtain ⟨k1, k2⟩ := List.pairwise_cons.1 h1
    obtain ⟨e1, e2⟩ := remF_len (l := l) h ⟨k2, fun x hx => h2 x (List.mem_cons_of_mem _ hx)⟩
    have ha := h2 a (List.mem_cons_self ..)
    have hl : a.toNat + (a :: l).length ≤ n := by
      cases l with
      | nil => simp; omega
      | cons b l =>
        have := e2 b (by simp)
        have := k1 b (by simp)
        have := h2 b (by simp)
        simp only [List.length_cons] at *
        omega
    refine ⟨?_, fun x hx => by simp at hx; subst hx; exact hl⟩
    have := putF_len (run := remF run l) (p := a.toNat) (l := []) (by simp only [List.length_cons] at hl; omega)
    simp only [remF, List.length_cons, List.length_nil] at this ⊢
    omega
theorem leastF_succ {run : List Item} {l : List Int} {k : Nat} {c : Int} (hk : k < l.length) : leastF run (l.take (k + 1)) c = if (run.getD (l.getD k default).toNat default).cluster < leastF run (l.take k) c then (run.getD (l.getD k default).toNat default).cluster else leastF run (l.take k) c := by
  rw [leastF, List.take_add_one, List.getElem?_eq_getElem hk, List.foldl_append]
  simp only [Option.toList_some, List.foldl_cons, List.foldl_nil, List.getD, List.getElem?_eq_getElem hk, Option.getD_some]
  rfl
theorem Inc.len {n : Nat} {l : List Int} (h : Inc n l) : l.length ≤ n := by
  have := (remF_len (run := List.replicate n default) (by simp) h).1
  omega
theorem Inc.tail {n : Nat} {l : List Int} (h : Inc n l) (k : Nat) : Inc n (l.drop k) := ⟨h.h1.sublist (List.drop_sublist k l), fun x hx => h.h2 x (List.mem_of_mem_drop hx)⟩
theorem join_call (t : Text) (k : Nat) (l : List Int) (g : Int) (h : Hp) (hk : h.bx[k]? = some (cellsText t)) (hl : l ≠ []) (hi : Inc t.run.length l) (h1 : t.run.length ≤ 500000) :
    ACall Try.prog 44 [.ptr k 0, rowEI l, .int g] h (fun _ h' => h' = { h with bx := h.bx.set k (cellsText { t with run := joinF t.run l g }) }) := by
  have hlt := (List.getElem?_eq_some_iff.1 hk).1
  have hk' := old_all hk
  rw [cellsText_def] at hk'
  have hl0 : 0 < l.length := List.length_pos_iff.2 hl
  have b0 := hi.h2 _ (getD_memA (k := 0) (l := l) hl0)
  have hl0' : (0 : Int) < l.length := by omega
  refine acall_fin ?_
  refine acall_walk (rs := []) (m := 54) Try.func44 rfl rfl rfl ?_
  simp (maxSteps := 2000000) +contextual (disch := first | omega | assumption) only [go_sem, Nat.reduceAdd, Nat.reduceSub, Nat.reduceMul, Nat.reduceLT, Nat.reduceLeDiff, Nat.reduceEqDiff, reduceCtorEq, ↓reduceIte, Int.reduceLE, Int.reduceLT, Int.reduceToNat, Int.reduceAdd, Int.reduceSub, Int.reduceEq, Int.reduceNeg, List.append_assoc, cellsCall_def, cellsRule_def, cellsLookup_def, cellsPoint_def, cellsOutline_def, cellsPart_def, cellsAnchor_def, cellsDelta_def, cellsIns_def, cellsGlyph_def, cellsChar_def, cellsFeature_def, cellsAxis_def, cellsTent_def, cellsRegion_def, cellsFont_def, cellsItem_def, cellsText_def, cellsAsk_def]
  refine awp_drawT (by kernel_rfl) 12 (by kernel_rfl) ?_
  simp (maxSteps := 2000000) +contextual (disch := first | omega | assumption) only [go_sem, Nat.reduceAdd, Nat.reduceSub, Nat.reduceMul, Nat.reduceLT, Nat.reduceLeDiff, Nat.reduceEqDiff, reduceCtorEq, ↓reduceIte, Int.reduceLE, Int.reduceLT, Int.reduceToNat, Int.reduceAdd, Int.reduceSub, Int.reduceEq, Int.reduceNeg, List.append_assoc, cellsCall_def, cellsRule_def, cellsLookup_def, cellsPoint_def, cellsOutline_def, cellsPart_def, cellsAnchor_def, cellsDelta_def, cellsIns_def, cellsGlyph_def, cellsChar_def, cellsFeature_def, cellsAxis_def, cellsTent_def, cellsRegion_def, cellsFont_def, cellsItem_def, cellsText_def, cellsAsk_def, hk', hl0', b0]
  refine callq_pure rfl (with_pure _ _) ?_
  simp (maxSteps := 2000000) +contextual (disch := first | omega | assumption) only [go_sem, Nat.reduceAdd, Nat.reduceSub, Nat.reduceMul, Nat.reduceLT, Nat.reduceLeDiff, Nat.reduceEqDiff, reduceCtorEq, ↓reduceIte, Int.reduceLE, Int.reduceLT, Int.reduceToNat, Int.reduceAdd, Int.reduceSub, Int.reduceEq, Int.reduceNeg, List.append_assoc, cellsCall_def, cellsRule_def, cellsLookup_def, cellsPoint_def, cellsOutline_def, cellsPart_def, cellsAnchor_def, cellsDelta_def, cellsIns_def, cellsGlyph_def, cellsChar_def, cellsFeature_def, cellsAxis_def, cellsTent_def, cellsRegion_def, cellsFont_def, cellsItem_def, cellsText_def, cellsAsk_def, hk', hl0', b0]
  refine slice_from (g := .no) AV.int l (fun _ => rfl) tElem_29 tSize_3 trivial (by omega) (by omega) ?_
  have hdl : ((1 : Int)).toNat = 1 := rfl
  simp (maxSteps := 2000000) +contextual (disch := first | omega | assumption) only [go_sem, Nat.reduceAdd, Nat.reduceSub, Nat.reduceMul, Nat.reduceLT, Nat.reduceLeDiff, Nat.reduceEqDiff, reduceCtorEq, ↓reduceIte, Int.reduceLE, Int.reduceLT, Int.reduceToNat, Int.reduceAdd, Int.reduceSub, Int.reduceEq, Int.reduceNeg, List.append_assoc, cellsCall_def, cellsRule_def, cellsLookup_def, cellsPoint_def, cellsOutline_def, cellsPart_def, cellsAnchor_def, cellsDelta_def, cellsIns_def, cellsGlyph_def, cellsChar_def, cellsFeature_def, cellsAxis_def, cellsTent_def, cellsRegion_def, cellsFont_def, cellsItem_def, cellsText_def, cellsAsk_def, hdl]
  generalize hx0 : t.run.getD (l.getD 0 default).toNat default = x0
  have hil := hi.len
  have hij := hi.tail 1
  have hjl : (l.drop 1).length = l.length - 1 := List.length_drop
  generalize hjs : l.drop 1 = js at *
  refine loop3 (ι := Nat) [8, 25, 26, 27, 28, 29, 30, 31, 32, 33, 34, 35, 36, 37, 38, 39, 40, 41] [8, 26, 27, 28, 29, 30, 31, 32, 33, 34, 35, 36, 37, 38, 39, 40, 41] (fun m => [(25, .int m)]) (fun m => m ≤ js.length) (fun m => js.length - m) (fun m => { bx := h.bx ++ [[AV.ptr k 0], cellsItem { x0 with glyph := g, cluster := leastF t.run (js.take m) x0.cluster }], gl := h.gl, lp := h.lp }) 0 (Nat.zero_le _) (by simp only [setTr_nil, setTr_cons, forget, List.foldl_cons, List.foldl_nil, set8, List.set_cons_succ, List.set_cons_zero] <;> rfl) rfl ?_
  rintro L m q1 ih; simp only [setTr_nil, setTr_cons, forget, List.foldl_cons, List.foldl_nil, set8, List.set_cons_succ, List.set_cons_zero] at ih ⊢
  simp (maxSteps := 2000000) +contextual (disch := first | omega | assumption) only [go_sem, Nat.reduceAdd, Nat.reduceSub, Nat.reduceMul, Nat.reduceLT, Nat.reduceLeDiff, Nat.reduceEqDiff, reduceCtorEq, ↓reduceIte, Int.reduceLE, Int.reduceLT, Int.reduceToNat, Int.reduceAdd, Int.reduceSub, Int.reduceEq, Int.reduceNeg, List.append_assoc, cellsCall_def, cellsRule_def, cellsLookup_def, cellsPoint_def, cellsOutline_def, cellsPart_def, cellsAnchor_def, cellsDelta_def, cellsIns_def, cellsGlyph_def, cellsChar_def, cellsFeature_def, cellsAxis_def, cellsTent_def, cellsRegion_def, cellsFont_def, cellsItem_def, cellsText_def, cellsAsk_def]
  refine ⟨fun g1 => ?_, fun g1 => ?_⟩
  · have hm := hij.h2 _ (getD_memA (k := m) (l := js) g1)
    refine awp_drawT (by kernel_rfl) 12 (by kernel_rfl) ?_
    simp (maxSteps := 2000000) +contextual (disch := first | omega | assumption) only [go_sem, Nat.reduceAdd, Nat.reduceSub, Nat.reduceMul, Nat.reduceLT, Nat.reduceLeDiff, Nat.reduceEqDiff, reduceCtorEq, ↓reduceIte, Int.reduceLE, Int.reduceLT, Int.reduceToNat, Int.reduceAdd, Int.reduceSub, Int.reduceEq, Int.reduceNeg, List.append_assoc, cellsCall_def, cellsRule_def, cellsLookup_def, cellsPoint_def, cellsOutline_def, cellsPart_def, cellsAnchor_def, cellsDelta_def, cellsIns_def, cellsGlyph_def, cellsChar_def, cellsFeature_def, cellsAxis_def, cellsTent_def, cellsRegion_def, cellsFont_def, cellsItem_def, cellsText_def, cellsAsk_def, hk', g1, hm]
    rw [← leastF_succ g1]
    exact ih (m + 1) (by omega) (by omega)
  · rw [List.take_of_length_le (by omega)]
    refine awp_drawT (by kernel_rfl) 6 (by kernel_rfl) ?_
    simp (maxSteps := 2000000) +contextual (disch := first | omega | assumption) only [go_sem, Nat.reduceAdd, Nat.reduceSub, Nat.reduceMul, Nat.reduceLT, Nat.reduceLeDiff, Nat.reduceEqDiff, reduceCtorEq, ↓reduceIte, Int.reduceLE, Int.reduceLT, Int.reduceToNat, Int.reduceAdd, Int.reduceSub, Int.reduceEq, Int.reduceNeg, List.append_assoc, cellsCall_def, cellsRule_def, cellsLookup_def, cellsPoint_def, cellsOutline_def, cellsPart_def, cellsAnchor_def, cellsDelta_def, cellsIns_def, cellsGlyph_def, cellsChar_def, cellsFeature_def, cellsAxis_def, cellsTent_def, cellsRegion_def, cellsFont_def, cellsItem_def, cellsText_def, cellsAsk_def, hl0', b0]
    refine call_with rfl (((put_callI t k (l.getD 0 default) [{ x0 with glyph := g, cluster := leastF t.run js x0.cluster }] _ (old_all hk _) b0 h1 (by simp)).shut (by simp only [go_sem, shut, shutL] <;> rfl)).mono fun r h' e => ?_)
    subst e
    rw [sk hlt]
    have hrl : (putF t.run (l.getD 0 default).toNat [{ x0 with glyph := g, cluster := leastF t.run js x0.cluster }]).length = t.run.length := by
      have := putF_len (run := t.run) (p := (l.getD 0 default).toNat) (l := [{ x0 with glyph := g, cluster := leastF t.run js x0.cluster }]) (by omega)
      simp only [List.length_cons, List.length_nil] at this; omega
    have hres : joinF t.run l g = remF (putF t.run (l.getD 0 default).toNat [{ x0 with glyph := g, cluster := leastF t.run js x0.cluster }]) js := by rw [joinF, hjs, hx0]
    rw [hres]
    generalize putF t.run (l.getD 0 default).toNat [{ x0 with glyph := g, cluster := leastF t.run js x0.cluster }] = run1 at *
    simp (maxSteps := 2000000) +contextual (disch := first | omega | assumption) only [go_sem, Nat.reduceAdd, Nat.reduceSub, Nat.reduceMul, Nat.reduceLT, Nat.reduceLeDiff, Nat.reduceEqDiff, reduceCtorEq, ↓reduceIte, Int.reduceLE, Int.reduceLT, Int.reduceToNat, Int.reduceAdd, Int.reduceSub, Int.reduceEq, Int.reduceNeg, List.append_assoc, cellsCall_def, cellsRule_def, cellsLookup_def, cellsPoint_def, cellsOutline_def, cellsPart_def, cellsAnchor_def, cellsDelta_def, cellsIns_def, cellsGlyph_def, cellsChar_def, cellsFeature_def, cellsAxis_def, cellsTent_def, cellsRegion_def, cellsFont_def, cellsItem_def, cellsText_def, cellsAsk_def, gso, gso0, gsk, hlt, hjs]
    refine slice_from (g := .no) AV.int l (fun _ => rfl) tElem_29 tSize_3 trivial (by omega) (by omega) ?_
    rw [hdl, hjs]
    simp (maxSteps := 2000000) +contextual (disch := first | omega | assumption) only [go_sem, Nat.reduceAdd, Nat.reduceSub, Nat.reduceMul, Nat.reduceLT, Nat.reduceLeDiff, Nat.reduceEqDiff, reduceCtorEq, ↓reduceIte, Int.reduceLE, Int.reduceLT, Int.reduceToNat, Int.reduceAdd, Int.reduceSub, Int.reduceEq, Int.reduceNeg, List.append_assoc, cellsCall_def, cellsRule_def, cellsLookup_def, cellsPoint_def, cellsOutline_def, cellsPart_def, cellsAnchor_def, cellsDelta_def, cellsIns_def, cellsGlyph_def, cellsChar_def, cellsFeature_def, cellsAxis_def, cellsTent_def, cellsRegion_def, cellsFont_def, cellsItem_def, cellsText_def, cellsAsk_def]
    refine call_with rfl (Backward_call js _ _ ?_)
    simp (maxSteps := 2000000) +contextual (disch := first | omega | assumption) only [go_sem, Nat.reduceAdd, Nat.reduceSub, Nat.reduceMul, Nat.reduceLT, Nat.reduceLeDiff, Nat.reduceEqDiff, reduceCtorEq, ↓reduceIte, Int.reduceLE, Int.reduceLT, Int.reduceToNat, Int.reduceAdd, Int.reduceSub, Int.reduceEq, Int.reduceNeg, List.append_assoc, cellsCall_def, cellsRule_def, cellsLookup_def, cellsPoint_def, cellsOutline_def, cellsPart_def, cellsAnchor_def, cellsDelta_def, cellsIns_def, cellsGlyph_def, cellsChar_def, cellsFeature_def, cellsAxis_def, cellsTent_def, cellsRegion_def, cellsFont_def, cellsItem_def, cellsText_def, cellsAsk_def, List.length_set]
    refine range_back (kL := h.bx.length + 2) js (by omega) rfl rfl (fun j h' => j < js.length ∧ h' = { bx := h.bx.set k (cellsText { t with run := remF run1 (js.drop (j + 1).toNat) }) ++ [[AV.ptr k 0], cellsItem { x0 with glyph := g, cluster := leastF t.run js x0.cluster }, [rowEI js]], gl := h.gl, lp := h.lp }) ⟨by omega, ?_⟩ ?_ ?_ ?_ ?_
    · rw [List.drop_of_length_le (by omega)]; rfl
    · rintro i h' ⟨_, rfl⟩
      exact keeps_set (fun nb ng nl => clL_cellsText _ nb ng nl)
    · rintro i h' ⟨_, rfl⟩
      exact gso
    · rintro i h' ⟨_, rfl⟩ q
      simp (maxSteps := 2000000) +contextual (disch := first | omega | assumption) only [go_sem, Nat.reduceAdd, Nat.reduceSub, Nat.reduceMul, Nat.reduceLT, Nat.reduceLeDiff, Nat.reduceEqDiff, reduceCtorEq, ↓reduceIte, Int.reduceLE, Int.reduceLT, Int.reduceToNat, Int.reduceAdd, Int.reduceSub, Int.reduceEq, Int.reduceNeg, List.append_assoc, cellsCall_def, cellsRule_def, cellsLookup_def, cellsPoint_def, cellsOutline_def, cellsPart_def, cellsAnchor_def, cellsDelta_def, cellsIns_def, cellsGlyph_def, cellsChar_def, cellsFeature_def, cellsAxis_def, cellsTent_def, cellsRegion_def, cellsFont_def, cellsItem_def, cellsText_def, cellsAsk_def]
      rw [show (i + 1).toNat = 0 by omega, List.drop_zero]
      exact fin_one (cs := cellsText { t with run := remF run1 js }) rfl rfl (fun _ _ _ => rfl) (shutL_cellsText _) (fun nb ng nl => clL_cellsText _ nb ng nl) ⟨_, rfl⟩ ⟨[], by simp⟩ rfl
    · rintro i h' L1 L2 ⟨q0, rfl⟩ q1 q2
      obtain ⟨n, rfl⟩ := Int.eq_ofNat_of_zero_le q1
      have hn : n < js.length := by omega
      have en : ((n : Int) + 1).toNat = n + 1 := by omega
      have ed : js.drop n = js.getD n default :: js.drop (n + 1) := by rw [List.drop_eq_getElem_cons hn, List.getD, List.getElem?_eq_getElem hn]; rfl
      have hdn := (remF_len (run := run1) hrl (hij.tail n))
      have hdn1 := (remF_len (run := run1) hrl (hij.tail (n + 1))).1
      rw [ed] at hdn
      have hp := hdn.2 (js.getD n default) (by simp)
      have hp0 := (hij.h2 _ (getD_memA hn)).1
      simp only [List.length_cons] at hp hdn
      simp (maxSteps := 2000000) +contextual (disch := first | omega | assumption) only [go_sem, Nat.reduceAdd, Nat.reduceSub, Nat.reduceMul, Nat.reduceLT, Nat.reduceLeDiff, Nat.reduceEqDiff, reduceCtorEq, ↓reduceIte, Int.reduceLE, Int.reduceLT, Int.reduceToNat, Int.reduceAdd, Int.reduceSub, Int.reduceEq, Int.reduceNeg, List.append_assoc, cellsCall_def, cellsRule_def, cellsLookup_def, cellsPoint_def, cellsOutline_def, cellsPart_def, cellsAnchor_def, cellsDelta_def, cellsIns_def, cellsGlyph_def, cellsChar_def, cellsFeature_def, cellsAxis_def, cellsTent_def, cellsRegion_def, cellsFont_def, cellsItem_def, cellsText_def, cellsAsk_def, gso, gso0, en]
      refine call_with rfl (((put_callI { t with run := remF run1 (js.drop (n + 1)) } k (js.getD n default) [] _ (gsk hlt) ⟨hp0, ?_⟩ ?_ (by simp)).shut (by simp only [go_sem, shut, shutL] <;> rfl)).mono fun r h' e => ?_)
      · simp only; omega
      · simp only; omega
      subst e
      rw [ssk hlt]
      simp (maxSteps := 2000000) +contextual (disch := first | omega | assumption) only [go_sem, Nat.reduceAdd, Nat.reduceSub, Nat.reduceMul, Nat.reduceLT, Nat.reduceLeDiff, Nat.reduceEqDiff, reduceCtorEq, ↓reduceIte, Int.reduceLE, Int.reduceLT, Int.reduceToNat, Int.reduceAdd, Int.reduceSub, Int.reduceEq, Int.reduceNeg, List.append_assoc, cellsCall_def, cellsRule_def, cellsLookup_def, cellsPoint_def, cellsOutline_def, cellsPart_def, cellsAnchor_def, cellsDelta_def, cellsIns_def, cellsGlyph_def, cellsChar_def, cellsFeature_def, cellsAxis_def, cellsTent_def, cellsRegion_def, cellsFont_def, cellsItem_def, cellsText_def, cellsAsk_def]
      refine ⟨by omega, ?_⟩
      rw [show ((n : Int) - 1 + 1).toNat = n by omega, ed]
      rfl
end Go.V
namespace Go.V
open Go Go.Proofs Go.Shelf
set_option linter.unusedVariables false
set_option linter.unusedSimpArgs false
theorem walkF_inc (f : Font) (l : Lookup) (run : List Item) (sets : List (List Int)) : ∀ (n : Nat) (i : Int) (out : List Int), out.Pairwise (· < ·) → (∀ x ∈ out, x < i) → (walkF f l run sets 1 n i out).1.Pairwise (· < ·)
  | 0, _, _, h, _ => h
  | n + 1, i, out, h, hi => by
    rw [walkF]
    split
    · split
      · split
        · refine walkF_inc f l run sets n _ _ ?_ fun x hx => ?_
          · rw [List.pairwise_append]
            exact ⟨h, by simp, fun a ha b hb => by rw [List.mem_singleton.1 hb]; exact hi a ha⟩
          · rcases List.mem_append.1 hx with hx | hx
            · have := hi x hx; omega
            · rw [List.mem_singleton.1 hx]; omega
        · exact h
      · exact walkF_inc f l run sets n _ _ h fun x hx => by have := hi x hx; omega
    · exact h
theorem walk_inc (f : Font) (l : Lookup) (run : List Item) (i : Int) (sets : List (List Int)) : Inc run.length (walk f l run i 1 sets).1 :=
  ⟨walkF_inc _ _ _ _ _ _ _ (by simp) (by simp), walk_places _ _ _ _ _ _⟩
/-- What a match tells. -/
structure MatchOk (f : Font) (k : Int) (run : List Item) (p : Int) (forms : List Int) (m : Int × List Int) : Prop where
  hk : 0 ≤ k ∧ k < f.lookups.length
  hm : m.1.toNat < (f.lookups.getD k.toNat default).rules.length
  hb : begins f k run p forms = true
  he : m.2 = (matchesF f (f.lookups.getD k.toNat default) ((f.lookups.getD k.toNat default).rules.getD m.1.toNat default) run p).1
  ht : (matchesF f (f.lookups.getD k.toNat default) ((f.lookups.getD k.toNat default).rules.getD m.1.toNat default) run p).2 = true
theorem matchFrom_spec {f : Font} {l : Lookup} {run : List Item} {p : Int} : ∀ (n k : Nat), n + k = l.rules.length → 0 ≤ (matchFrom f l run p n k).1 → (matchFrom f l run p n k).1.toNat < l.rules.length ∧ (matchFrom f l run p n k).2 = (matchesF f l (l.rules.getD (matchFrom f l run p n k).1.toNat default) run p).1 ∧ (matchesF f l (l.rules.getD (matchFrom f l run p n k).1.toNat default) run p).2 = true
  | 0, k, _, h => by simp [matchFrom] at h
  | n + 1, k, hk, h => by
    rw [matchFrom] at h ⊢
    split
    · rename_i hc
      refine ⟨by simp only [Int.toNat_natCast]; omega, by simp only [Int.toNat_natCast], by simp only [Int.toNat_natCast]; exact hc⟩
    · rename_i hc
      rw [if_neg hc] at h
      exact matchFrom_spec n (k + 1) (by omega) h
theorem match_ok {f : Font} {k : Int} {run : List Item} {p : Int} {forms : List Int} (h : 0 ≤ (matchF f k run p forms).1) : MatchOk f k run p forms (matchF f k run p forms) := by
  unfold matchF at h ⊢
  split at h
  · rename_i hb
    rw [if_pos hb]
    have hb2 := hb
    simp only [begins, Bool.and_eq_true, decide_eq_true_eq] at hb2
    obtain ⟨⟨⟨⟨⟨g1, g2⟩, g3⟩, g4⟩, g5⟩, g6⟩ := hb2
    obtain ⟨h1, h2, h3⟩ := matchFrom_spec _ 0 (by omega) h
    exact ⟨⟨g1, g2⟩, h1, hb, h2, h3⟩
  · simp at h
theorem matchF_neg {f : Font} {k : Int} {run : List Item} {p : Int} {forms : List Int} (h : (matchF f k run p forms).1 < 0) : matchF f k run p forms = (-1, []) := by
  have key : ∀ (l : Lookup) (n j : Nat), (matchFrom f l run p n j).1 < 0 → matchFrom f l run p n j = (-1, []) := fun l n => by
    induction n with
    | zero => intro j _; rfl
    | succ n ih =>
      intro j hj
      rw [matchFrom] at hj ⊢
      split
      · rename_i hc
        rw [if_pos hc] at hj; simp only at hj; omega
      · rename_i hc
        rw [if_neg hc] at hj
        exact ih _ hj
  unfold matchF at h ⊢
  split
  · rename_i hb
    rw [if_pos hb] at h
    exact key _ _ _ h
  · rfl
/-- Where a rule matched: its places. -/
structure Places (run : List Item) (r : Rule) (p : Int) (l : List Int) : Prop where
  hi : Inc run.length l
  hn : l.length = r.in_.length
  h0 : 0 < l.length
  hp : l.getD 0 default = p
theorem matches_places {f : Font} {l : Lookup} {r : Rule} {run : List Item} {p : Int} (h : (matchesF f l r run p).2 = true) : Places run r p (matchesF f l r run p).1 := by
  unfold matchesF at h ⊢
  split at h
  · cases h
  · rename_i h1
    split at h
    · cases h
    · rename_i h2
      rw [if_neg h1, if_neg h2]
      have h3 : (walk f l run p 1 r.in_).2 = true := by
        cases e : (walk f l run p 1 r.in_).2 with
        | true => rfl
        | false => exact absurd (.inl e) h2
      have h4 := walk_full h3
      exact ⟨walk_inc _ _ _ _ _, h4, by simp only; omega, by
        by_cases h5 : (walk f l run p 1 r.in_).1.getD 0 default = p
        · exact h5
        · exact absurd (.inr h5) h2⟩
theorem MatchOk.places {f : Font} {k : Int} {run : List Item} {p : Int} {forms : List Int} {m : Int × List Int} (h : MatchOk f k run p forms m) : Places run ((f.lookups.getD k.toNat default).rules.getD m.1.toNat default) p m.2 := by
  rw [h.he]; exact matches_places h.ht
theorem MatchOk.hp {f : Font} {k : Int} {run : List Item} {p : Int} {forms : List Int} {m : Int × List Int} (h : MatchOk f k run p forms m) : 0 ≤ p ∧ p < run.length := by
  have hb2 := h.hb
  simp only [begins, Bool.and_eq_true, decide_eq_true_eq] at hb2
  obtain ⟨⟨⟨⟨⟨g1, g2⟩, g3⟩, g4⟩, g5⟩, g6⟩ := hb2
  exact ⟨g3, g4⟩
/-! #### what a rule does -/
def lastOf (l : List Int) : Int := l.getD (l.length - 1) default
def restOf (run : List Item) (l : List Int) : Int := run.length - 1 - lastOf l
def withG (x : Item) (g : Int) : Item := { x with glyph := g }
def singleF (r : Rule) (run : List Item) (p : Nat) : List Item :=
  if (other r (run.getD p default).glyph).2 then putF run p [withG (run.getD p default) (other r (run.getD p default).glyph).1] else run
def multF (r : Rule) (run : List Item) (p : Nat) : List Item :=
  if run.length - 1 + r.out.length ≤ 500 ∨ r.out.length ≤ 1 then putF run p (r.out.map fun g => withG (run.getD p default) g) else run
def ligF (r : Rule) (run : List Item) (l : List Int) : List Item := if 0 < r.out.length then joinF run l (r.out.getD 0 default) else run
def callsF (called : Int → List Item → Int → List Item) (f : Font) (lk : Lookup) (p : Nat) (calls : List Call) (run : List Item) : List Item :=
  calls.foldl (fun run c => if 0 ≤ nth f lk run p c.at_ then called c.lookup run (nth f lk run p c.at_) else run) run
def pairF (r : Rule) (run : List Item) (p : Nat) : List Item := putF run p [{ run.getD p default with advance := IntKind.i64.wrap ((run.getD p default).advance + r.x) }]
def doneRun (called : Int → List Item → Int → List Item) (f : Font) (lk : Lookup) (r : Rule) (run : List Item) (l : List Int) : List Item :=
  if lk.kind = 1 ∨ lk.kind = 5 then singleF r run (l.getD 0 default).toNat
  else if lk.kind = 2 then multF r run (l.getD 0 default).toNat
  else if lk.kind = 3 then ligF r run l
  else if lk.kind = 4 then callsF called f lk (l.getD 0 default).toNat r.calls run
  else if lk.kind = 6 then pairF r run (l.getD 0 default).toNat
  else run
def doneNext (lk : Lookup) (run run' : List Item) (l : List Int) : Int :=
  if lk.kind = 4 then (if (run'.length : Int) - restOf run l ≤ l.getD 0 default then l.getD 0 default + 1 else run'.length - restOf run l)
  else if lk.kind = 6 ∧ 1 < l.length then lastOf l
  else run'.length - restOf run l
/-- A lookup that is called at a place: so many calls deep may be left. -/
def calledF (f : Font) : Nat → Int → List Item → Int → List Item
  | 0, _, run, _ => run
  | n + 1, k, run, p =>
    if 0 ≤ k ∧ k < f.lookups.length ∧ 1 ≤ (f.lookups.getD k.toNat default).kind ∧ (f.lookups.getD k.toNat default).kind ≤ 4 then
      if (matchF f k run p []).1 < 0 then run
      else doneRun (calledF f n) f (f.lookups.getD k.toNat default) ((f.lookups.getD k.toNat default).rules.getD (matchF f k run p []).1.toNat default) run (matchF f k run p []).2
    else run
/-! #### how long runs are -/
theorem putF1 {run : List Item} {p : Nat} {x : Item} (hp : p < run.length) : (putF run p [x]).length = run.length := by
  have := putF_len (l := [x]) hp
  simp only [List.length_cons, List.length_nil] at this; omega
theorem joinF_len {run : List Item} {l : List Int} {g : Int} (hi : Inc run.length l) (h0 : 0 < l.length) : (joinF run l g).length + l.length = run.length + 1 := by
  have b0 := hi.h2 _ (getD_memA (k := 0) (l := l) h0)
  have h2 := (remF_len (n := run.length) (l := l.drop 1) (putF1 (run := run) (p := (l.getD 0 default).toNat) (x := { run.getD (l.getD 0 default).toNat default with glyph := g, cluster := leastF run (l.drop 1) (run.getD (l.getD 0 default).toNat default).cluster }) (by omega)) (hi.tail 1)).1
  rw [List.length_drop] at h2
  rw [joinF]
  omega
/-- Calls let no run grow over 500, nor a longer one at all. -/
def NoGrow (called : Int → List Item → Int → List Item) : Prop := ∀ k run p, (called k run p).length ≤ max run.length 500
theorem callsF_len {called : Int → List Item → Int → List Item} (h : NoGrow called) (f : Font) (lk : Lookup) (p : Nat) : ∀ (calls : List Call) (run : List Item), (callsF called f lk p calls run).length ≤ max run.length 500
  | [], run => by simp [callsF]; omega
  | c :: calls, run => by
    rw [callsF, List.foldl_cons]
    refine Nat.le_trans (callsF_len h f lk p calls _) ?_
    split
    · have := h c.lookup run (nth f lk run p c.at_); omega
    · omega
theorem doneRun_len {called : Int → List Item → Int → List Item} (h : NoGrow called) {f : Font} {lk : Lookup} {r : Rule} {run : List Item} {p : Int} {l : List Int} (hp : Places run r p l) : (doneRun called f lk r run l).length ≤ max run.length 500 := by
  have b0 := hp.hi.h2 _ (getD_memA (k := 0) (l := l) hp.h0)
  have hb : (l.getD 0 default).toNat < run.length := by omega
  unfold doneRun
  split
  · unfold singleF; split
    · have := putF_len (l := [withG (run.getD (l.getD 0 default).toNat default) (other r (run.getD (l.getD 0 default).toNat default).glyph).1]) hb
      simp only [List.length_cons, List.length_nil] at this; omega
    · omega
  split
  · unfold multF; split
    · have := putF_len (l := r.out.map fun g => withG (run.getD (l.getD 0 default).toNat default) g) hb
      rw [List.length_map] at this; omega
    · omega
  split
  · unfold ligF; split
    · have := joinF_len (g := r.out.getD 0 default) hp.hi hp.h0
      have := hp.h0; omega
    · omega
  split
  · exact callsF_len h _ _ _ _ _
  split
  · unfold pairF; rw [putF1 hb]; omega
  · omega
theorem calledF_len (f : Font) : ∀ n, NoGrow (calledF f n)
  | 0 => fun k run p => by simp [calledF]; omega
  | n + 1 => fun k run p => by
    rw [calledF]
    split
    · split
      · omega
      · rename_i hm
        exact doneRun_len (calledF_len f n) (match_ok (by omega)).places
    · omega
end Go.V
namespace Go.V
open Go Go.Proofs Go.Shelf
set_option linter.unusedVariables false
set_option linter.unusedSimpArgs false
set_option maxRecDepth 10000
set_option maxHeartbeats 2000000
/-- A lookup that is called, so deep: the program's own. -/
def TriedAt (f : Font) (called : Int → List Item → Int → List Item) (deep : Int) : Prop := ∀ (k : Int) (run : List Item) (p : Int), run.length ≤ 500000 → Pure Try.prog 56 [encFont f, .int k, rowEItem run, .int p, .int deep] (rowEItem (called k run p))
theorem callsF_take {called : Int → List Item → Int → List Item} {f : Font} {lk : Lookup} {p : Nat} {calls : List Call} {run : List Item} {m : Nat} (hm : m < calls.length) : callsF called f lk p (calls.take (m + 1)) run = (let r := callsF called f lk p (calls.take m) run; if 0 ≤ nth f lk r p (calls.getD m default).at_ then called (calls.getD m default).lookup r (nth f lk r p (calls.getD m default).at_) else r) := by
  rw [callsF, List.take_add_one, List.getElem?_eq_getElem hm, List.foldl_append]
  simp only [Option.toList_some, List.foldl_cons, List.foldl_nil, List.getD, List.getElem?_eq_getElem hm, Option.getD_some]
  rfl
/-- How the n-th item is counted down to. -/
def Count (t : Text) (p : Nat) (c n i : Int) : Prop := (p : Int) ≤ i ∧ ((0 ≤ c ∧ 0 ≤ n ∧ n ≤ c ∧ nthF t.f t.l t.run (t.run.length - i.toNat) i.toNat n = nth t.f t.l t.run p c) ∨ (c < 0 ∧ (n < 0 ∨ 9223372036854775807 - (i - p) ≤ n)))
theorem nthF_step {f : Font} {l : Lookup} {run : List Item} {i : Nat} {n : Int} (h : i < run.length) : nthF f l run (run.length - i) i n = if isSeen f l (run.getD i default) then (if n = 0 then (i : Int) else nthF f l run (run.length - (i + 1)) (i + 1) (n - 1)) else nthF f l run (run.length - (i + 1)) (i + 1) n := by
  rw [show run.length - i = (run.length - (i + 1)) + 1 by omega, nthF]
theorem Count.start (t : Text) (p : Nat) (c : Int) : Count t p c c p := by
  refine ⟨Int.le_refl _, ?_⟩
  by_cases hc : 0 ≤ c
  · exact .inl ⟨hc, hc, Int.le_refl _, by rw [nth, if_neg (by omega), Int.toNat_natCast]⟩
  · exact .inr ⟨by omega, .inl (by omega)⟩
theorem Count.skip {t : Text} {p : Nat} {c n i : Int} (h : Count t p c n i) (h0 : 0 ≤ i) (h1 : i < t.run.length) (ho : over t i = true) : Count t p c n (i + 1) := by
  obtain ⟨h2, h3⟩ := h
  obtain ⟨j, rfl⟩ := Int.eq_ofNat_of_zero_le h0
  refine ⟨by omega, h3.imp (fun ⟨a, b, d, e⟩ => ⟨a, b, d, ?_⟩) (fun ⟨a, b⟩ => ⟨a, by omega⟩)⟩
  have hs := seen_over t j
  rw [Int.toNat_natCast] at e hs
  rw [nthF_step (by omega), hs, ho] at e
  simpa using e
theorem Count.stop {t : Text} {p : Nat} {c n i : Int} (h : Count t p c n i) (h1 : ¬(0 ≤ i ∧ i < t.run.length)) : nth t.f t.l t.run p c = -1 := by
  obtain ⟨h2, h3⟩ := h
  rcases h3 with ⟨a, b, d, e⟩ | ⟨a, b⟩
  · rw [← e, show t.run.length - i.toNat = 0 by omega, nthF]
  · rw [nth, if_pos a]
theorem Count.hit {t : Text} {p : Nat} {c i : Int} (h : Count t p c 0 i) (h0 : 0 ≤ i) (h1 : i < t.run.length) (hp : t.run.length ≤ 500000) (ho : over t i = false) : nth t.f t.l t.run p c = i := by
  obtain ⟨h2, h3⟩ := h
  obtain ⟨j, rfl⟩ := Int.eq_ofNat_of_zero_le h0
  rcases h3 with ⟨a, b, d, e⟩ | ⟨a, b⟩
  · have hs := seen_over t j
    rw [Int.toNat_natCast] at e hs
    rw [nthF_step (by omega), hs, ho] at e
    simpa using e.symm
  · omega
theorem Count.next {t : Text} {p : Nat} {c n i : Int} (h : Count t p c n i) (h0 : 0 ≤ i) (h1 : i < t.run.length) (hp : t.run.length ≤ 500000) (ho : over t i = false) (hn : ¬ n = 0) (hc : -9223372036854775808 ≤ c ∧ c ≤ 9223372036854775807) (hr : -9223372036854775808 ≤ n ∧ n ≤ 9223372036854775807) : Count t p c (IntKind.i64.wrap (n - 1)) (i + 1) ∧ -9223372036854775808 ≤ IntKind.i64.wrap (n - 1) ∧ IntKind.i64.wrap (n - 1) ≤ 9223372036854775807 := by
  obtain ⟨h2, h3⟩ := h
  obtain ⟨j, rfl⟩ := Int.eq_ofNat_of_zero_le h0
  by_cases hmin : n = -9223372036854775808
  · subst hmin
    have hw : IntKind.i64.wrap (-9223372036854775808 - 1) = 9223372036854775807 := by decide
    rw [hw]
    refine ⟨⟨by omega, .inr ?_⟩, by omega, by omega⟩
    rcases h3 with ⟨a, b, d, e⟩ | ⟨a, b⟩
    · omega
    · exact ⟨a, .inr (by omega)⟩
  · rw [wrap_id (by omega) (by omega)]
    refine ⟨⟨by omega, ?_⟩, by omega, by omega⟩
    rcases h3 with ⟨a, b, d, e⟩ | ⟨a, b⟩
    · left
      have hs := seen_over t j
      rw [Int.toNat_natCast] at e hs
      rw [nthF_step (by omega), hs, ho] at e
      simp only [Bool.not_false, if_true, if_neg hn] at e
      exact ⟨a, by omega, by omega, e⟩
    · right
      exact ⟨a, by omega⟩
theorem set_same {α : Type} {l : List α} {k : Nat} {x : α} (h : l[k]? = some x) : l.set k x = l := by
  apply List.ext_getElem?
  intro i
  by_cases hi : i = k
  · subst hi; rw [List.getElem?_set_self (List.getElem?_eq_some_iff.1 h).1, h]
  · rw [List.getElem?_set_ne (Ne.symm hi)]
theorem keeps_set_app {b e e' : List (List AV)} {k : Nat} {c : List AV} {gl : List Nat} {lp : List LInfo} (hc : ∀ nb ng nl, clL nb ng nl c = true) (h1 : e.length ≤ e'.length) (h3 : ∀ cs ∈ e', cs ∈ e ∨ clL (b.length + e'.length) gl.length lp.length cs = true) : Keeps { bx := b ++ e, gl := gl, lp := lp } { bx := b.set k c ++ e', gl := gl, lp := lp } := by
  refine ⟨rfl, by simp; omega, Nat.le_refl _, fun cs hcs => ?_⟩
  rcases List.mem_append.1 hcs with h4 | h4
  · obtain ⟨i, hi⟩ := List.mem_iff_getElem?.1 h4
    by_cases hik : i = k
    · subst hik
      have hlt : i < b.length := by have := (List.getElem?_eq_some_iff.1 hi).1; simpa using this
      rw [List.getElem?_set_self hlt] at hi
      cases hi; exact .inr (hc _ _ _)
    · rw [List.getElem?_set_ne (Ne.symm hik)] at hi
      exact .inl (List.mem_append_left _ (List.mem_iff_getElem?.2 ⟨i, hi⟩))
  · rcases h3 cs h4 with h5 | h5
    · exact .inl (List.mem_append_right _ h5)
    · exact .inr (by simpa using h5)
theorem call_call {called : Int → List Item → Int → List Item} (hng : NoGrow called) (t : Text) (deep : Int) (ht : TriedAt t.f called (deep + 1)) (hd : 0 ≤ deep ∧ deep ≤ 100) (k : Nat) (p : Nat) (hp : p ≤ 500000) (calls : List Call) (hc : calls.length ≤ 500) (h : Hp) (hk : h.bx[k]? = some (cellsText t)) (hr : t.run.length ≤ 500000) (hat : ∀ c ∈ calls, -9223372036854775808 ≤ c.at_ ∧ c.at_ ≤ 9223372036854775807) :
    ACall Try.prog 45 [.ptr k 0, .int p, rowECall calls, .int deep] h (fun _ h' => h' = { h with bx := h.bx.set k (cellsText { t with run := callsF called t.f t.l p calls t.run }) }) := by
  have hlt := (List.getElem?_eq_some_iff.1 hk).1
  refine acall_fin ?_
  refine acall_walk (rs := []) (m := 44) Try.func45 rfl rfl rfl ?_
  simp (maxSteps := 2000000) +contextual (disch := first | omega | assumption) only [go_sem, Nat.reduceAdd, Nat.reduceSub, Nat.reduceMul, Nat.reduceLT, Nat.reduceLeDiff, Nat.reduceEqDiff, reduceCtorEq, ↓reduceIte, Int.reduceLE, Int.reduceLT, Int.reduceToNat, Int.reduceAdd, Int.reduceSub, Int.reduceEq, Int.reduceNeg, List.append_assoc, cellsCall_def, cellsRule_def, cellsLookup_def, cellsPoint_def, cellsOutline_def, cellsPart_def, cellsAnchor_def, cellsDelta_def, cellsIns_def, cellsGlyph_def, cellsChar_def, cellsFeature_def, cellsAxis_def, cellsTent_def, cellsRegion_def, cellsFont_def, cellsItem_def, cellsText_def, cellsAsk_def]
  refine loop3 (ι := Nat × Hp) [9, 10, 11, 14, 15, 16, 17, 18, 19, 20, 21, 22, 23, 24, 25, 26, 27, 28, 29, 30, 31, 32, 33, 34, 35, 36, 37, 38, 39, 40, 41, 42, 43, 44, 45, 46, 47] [9, 10, 11, 15, 16, 17, 18, 19, 20, 21, 22, 23, 24, 25, 26, 27, 28, 29, 30, 31, 32, 33, 34, 35, 36, 37, 38, 39, 40, 41, 42, 43, 44, 45, 46, 47] (fun x => [(14, .int x.1)]) (fun x => x.1 ≤ calls.length ∧ x.2.gl = h.gl ∧ x.2.lp = h.lp ∧ ∃ e, x.2.bx = h.bx.set k (cellsText { t with run := callsF called t.f t.l p (calls.take x.1) t.run }) ++ ([[.ptr k 0], [.int deep]] ++ e)) (fun x => calls.length - x.1) (fun x => x.2) (0, { bx := h.bx ++ [[AV.ptr k 0], [AV.int deep]], gl := h.gl, lp := h.lp }) ⟨Nat.zero_le _, rfl, rfl, [], ?_⟩ (by simp only [setTr_nil, setTr_cons, forget, List.foldl_cons, List.foldl_nil, set8, List.set_cons_succ, List.set_cons_zero] <;> rfl) rfl ?_
  · simp only [List.take_zero, List.append_nil]
    rw [show callsF called t.f t.l p [] t.run = t.run from rfl, show ({ t with run := t.run } : Text) = t from rfl, set_same hk]
  rintro L ⟨m, ⟨B, gl, lp⟩⟩ ⟨q1, q2, q3, e, q4⟩ ih; simp only [setTr_nil, setTr_cons, forget, List.foldl_cons, List.foldl_nil, set8, List.set_cons_succ, List.set_cons_zero] at ih ⊢
  simp only at q1 q2 q3 q4
  subst q2; subst q3
  have gB : ∀ e', (B ++ e')[k]? = some (cellsText { t with run := callsF called t.f t.l p (calls.take m) t.run }) := fun e' => by rw [q4, List.append_assoc, gsk hlt]
  have gP : ∀ e', (B ++ e')[h.bx.length]? = some [.ptr k 0] := fun e' => by rw [q4, List.append_assoc, gso0]; rfl
  have gD : ∀ e', (B ++ e')[h.bx.length + 1]? = some [.int deep] := fun e' => by rw [q4, List.append_assoc, gso]; rfl
  have hkB : k < B.length := by rw [q4]; simp; omega
  have hrun := callsF_len hng t.f t.l p (calls.take m) t.run
  generalize hR : callsF called t.f t.l p (calls.take m) t.run = R at *
  have step : m < calls.length → callsF called t.f t.l p (calls.take (m + 1)) t.run = (if 0 ≤ nth t.f t.l R p (calls.getD m default).at_ then called (calls.getD m default).lookup R (nth t.f t.l R p (calls.getD m default).at_) else R) := fun hm => by
    rw [callsF_take hm]; simp only; rw [hR]
  have gB' := gB
  rw [cellsText_def] at gB
  simp (maxSteps := 2000000) +contextual (disch := first | omega | assumption) only [go_sem, Nat.reduceAdd, Nat.reduceSub, Nat.reduceMul, Nat.reduceLT, Nat.reduceLeDiff, Nat.reduceEqDiff, reduceCtorEq, ↓reduceIte, Int.reduceLE, Int.reduceLT, Int.reduceToNat, Int.reduceAdd, Int.reduceSub, Int.reduceEq, Int.reduceNeg, List.append_assoc, cellsCall_def, cellsRule_def, cellsLookup_def, cellsPoint_def, cellsOutline_def, cellsPart_def, cellsAnchor_def, cellsDelta_def, cellsIns_def, cellsGlyph_def, cellsChar_def, cellsFeature_def, cellsAxis_def, cellsTent_def, cellsRegion_def, cellsFont_def, cellsItem_def, cellsText_def, cellsAsk_def, gP, gB, gD]
  refine ⟨fun g1 => ?_, fun g1 => ?_⟩
  · have hcat := hat _ (getD_memA g1)
    replace step := step g1
    generalize calls.getD m default = c at *
    refine call_with rfl (seen_call { t with run := R } p 1 _ _ ?_)
    simp (maxSteps := 2000000) +contextual (disch := first | omega | assumption) only [go_sem, Nat.reduceAdd, Nat.reduceSub, Nat.reduceMul, Nat.reduceLT, Nat.reduceLeDiff, Nat.reduceEqDiff, reduceCtorEq, ↓reduceIte, Int.reduceLE, Int.reduceLT, Int.reduceToNat, Int.reduceAdd, Int.reduceSub, Int.reduceEq, Int.reduceNeg, List.append_assoc, cellsRule_def, cellsLookup_def, cellsPoint_def, cellsOutline_def, cellsPart_def, cellsAnchor_def, cellsDelta_def, cellsIns_def, cellsGlyph_def, cellsChar_def, cellsFeature_def, cellsAxis_def, cellsTent_def, cellsRegion_def, cellsFont_def, cellsItem_def, cellsAsk_def]
    have hR5 : R.length ≤ 500000 := by omega
    have next : ∀ R' e', (if 0 ≤ nth t.f t.l R p c.at_ then called c.lookup R (nth t.f t.l R p c.at_) else R) = R' → B.set k (cellsText { t with run := R' }) ++ e' = h.bx.set k (cellsText { t with run := callsF called t.f t.l p (calls.take (m + 1)) t.run }) ++ ([[.ptr k 0], [.int deep]] ++ (e ++ e')) := fun R' e' hR' => by
      rw [step, hR', q4, ssk hlt]; simp only [List.append_assoc]
    refine range_seen { t with run := R } (by simp only; omega) p 1 (.inl rfl) ⟨by omega, by omega⟩ rfl rfl (fun i h' => ∃ n, Count { t with run := R } p c.at_ n i ∧ (-9223372036854775808 ≤ n ∧ n ≤ 9223372036854775807) ∧ h' = { bx := B ++ [cellsCall c, [.int n], cellsText { t with run := R }, [.int p], [.int 1]], gl := h.gl, lp := h.lp }) ⟨c.at_, Count.start _ _ _, hcat, rfl⟩ ?_ ?_ ?_ ?_ ?_
    · rintro i h' ⟨n, _, _, rfl⟩
      refine keeps_app (by simp) (Nat.le_refl _) fun cs hcs => ?_
      simp only [List.mem_cons, List.not_mem_nil, or_false] at hcs ⊢
      rcases hcs with rfl | rfl | rfl | rfl | rfl
      · exact .inl (.inl rfl)
      · exact .inr rfl
      · simp
      · simp
      · simp
    · rintro i h' ⟨n, _, _, rfl⟩
      exact ⟨get_own _ _ _, get_own _ _ _, get_own _ _ _⟩
    · rintro i h' ⟨n, hn, hn2, rfl⟩ h0 h1 h2
      exact ⟨n, hn.skip h0 h1 h2, hn2, rfl⟩
    · rintro i h' ⟨n, hn, hn2, rfl⟩ h1
      simp (maxSteps := 2000000) +contextual (disch := first | omega | assumption) only [go_sem, Nat.reduceAdd, Nat.reduceSub, Nat.reduceMul, Nat.reduceLT, Nat.reduceLeDiff, Nat.reduceEqDiff, reduceCtorEq, ↓reduceIte, Int.reduceLE, Int.reduceLT, Int.reduceToNat, Int.reduceAdd, Int.reduceSub, Int.reduceEq, Int.reduceNeg, List.append_assoc, cellsRule_def, cellsLookup_def, cellsPoint_def, cellsOutline_def, cellsPart_def, cellsAnchor_def, cellsDelta_def, cellsIns_def, cellsGlyph_def, cellsChar_def, cellsFeature_def, cellsAxis_def, cellsTent_def, cellsRegion_def, cellsFont_def, cellsItem_def, cellsAsk_def]
      have hne := hn.stop h1
      simp only at hne
      refine ih (m + 1, { bx := B ++ [cellsCall c, [.int n], cellsText { t with run := R }, [.int p], [.int 1]], gl := h.gl, lp := h.lp }) ⟨by simp only; omega, rfl, rfl, e ++ [cellsCall c, [.int n], cellsText { t with run := R }, [.int p], [.int 1]], ?_⟩ (by simp only; omega)
      have := next R [cellsCall c, [.int n], cellsText { t with run := R }, [.int p], [.int 1]] (by rw [hne, if_neg (by omega)])
      rw [set_same (by have := gB' []; rwa [List.append_nil] at this)] at this
      exact this
    · rintro i h' L1 L2 ⟨n, hn, hn2, rfl⟩ h0 h1 h2
      simp only at h1
      simp (maxSteps := 2000000) +contextual (disch := first | omega | assumption) only [go_sem, Nat.reduceAdd, Nat.reduceSub, Nat.reduceMul, Nat.reduceLT, Nat.reduceLeDiff, Nat.reduceEqDiff, reduceCtorEq, ↓reduceIte, Int.reduceLE, Int.reduceLT, Int.reduceToNat, Int.reduceAdd, Int.reduceSub, Int.reduceEq, Int.reduceNeg, List.append_assoc, cellsCall_def, cellsRule_def, cellsLookup_def, cellsPoint_def, cellsOutline_def, cellsPart_def, cellsAnchor_def, cellsDelta_def, cellsIns_def, cellsGlyph_def, cellsChar_def, cellsFeature_def, cellsAxis_def, cellsTent_def, cellsRegion_def, cellsFont_def, cellsItem_def, cellsText_def, cellsAsk_def, gP, gB, gD]
      refine ⟨fun g2 => ?_, fun g2 => ?_⟩
      · have e0 : n = 0 := asE_t g2
        subst e0
        have hhit := hn.hit h0 h1 (by simp only; omega) h2
        simp only at hhit
        refine awp_drawT (by kernel_rfl) 17 (by kernel_rfl) ?_
        simp (maxSteps := 2000000) +contextual (disch := first | omega | assumption) only [go_sem, Nat.reduceAdd, Nat.reduceSub, Nat.reduceMul, Nat.reduceLT, Nat.reduceLeDiff, Nat.reduceEqDiff, reduceCtorEq, ↓reduceIte, Int.reduceLE, Int.reduceLT, Int.reduceToNat, Int.reduceAdd, Int.reduceSub, Int.reduceEq, Int.reduceNeg, List.append_assoc, cellsCall_def, cellsRule_def, cellsLookup_def, cellsPoint_def, cellsOutline_def, cellsPart_def, cellsAnchor_def, cellsDelta_def, cellsIns_def, cellsGlyph_def, cellsChar_def, cellsFeature_def, cellsAxis_def, cellsTent_def, cellsRegion_def, cellsFont_def, cellsItem_def, cellsText_def, cellsAsk_def, gP, gB, gD]
        refine callq_pure rfl (ht c.lookup R i hR5) ?_
        simp (maxSteps := 2000000) +contextual (disch := first | omega | assumption) only [go_sem, Nat.reduceAdd, Nat.reduceSub, Nat.reduceMul, Nat.reduceLT, Nat.reduceLeDiff, Nat.reduceEqDiff, reduceCtorEq, ↓reduceIte, Int.reduceLE, Int.reduceLT, Int.reduceToNat, Int.reduceAdd, Int.reduceSub, Int.reduceEq, Int.reduceNeg, List.append_assoc, cellsCall_def, cellsRule_def, cellsLookup_def, cellsPoint_def, cellsOutline_def, cellsPart_def, cellsAnchor_def, cellsDelta_def, cellsIns_def, cellsGlyph_def, cellsChar_def, cellsFeature_def, cellsAxis_def, cellsTent_def, cellsRegion_def, cellsFont_def, cellsItem_def, cellsText_def, cellsAsk_def, gP, gB, gD, sk, hkB]
        refine ⟨keeps_set_app (fun nb ng nl => clL_cellsText { t with run := called c.lookup R i } nb ng nl) (by simp) fun cs hcs => ?_, ?_⟩
        · simp only [List.mem_cons, List.not_mem_nil, or_false] at hcs ⊢
          rcases hcs with rfl | rfl | rfl | rfl | rfl
          · exact .inl (.inl rfl)
          · exact .inr rfl
          · simp
          · simp
          · simp
        · refine ih (m + 1, { bx := B.set k (cellsText { t with run := called c.lookup R i }) ++ [cellsCall c, [.int 0], cellsText { t with run := R }, [.int p], [.int 1]], gl := h.gl, lp := h.lp }) ⟨by simp only; omega, rfl, rfl, e ++ [cellsCall c, [.int 0], cellsText { t with run := R }, [.int p], [.int 1]], ?_⟩ (by simp only; omega)
          exact next (called c.lookup R i) [cellsCall c, [.int 0], cellsText { t with run := R }, [.int p], [.int 1]] (by rw [hhit, if_pos h0])
      · obtain ⟨a1, a2, a3⟩ := hn.next h0 h1 (by simp only; omega) h2 (asE_f g2) hcat hn2
        exact ⟨_, a1, ⟨a2, a3⟩, rfl⟩
  · have em : calls.take m = calls := List.take_of_length_le (by omega)
    rw [em] at hR
    subst hR
    exact fin_one (cs := cellsText { t with run := callsF called t.f t.l p calls t.run }) rfl rfl (fun _ _ _ => rfl) (shutL_cellsText _) (fun nb ng nl => clL_cellsText _ nb ng nl) ⟨_, q4⟩ ⟨[], by simp⟩ rfl
end Go.V
