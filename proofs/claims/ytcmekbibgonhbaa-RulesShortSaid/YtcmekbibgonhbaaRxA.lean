/- What functions of chapter 11 answer, over plain data. No conditions. -/
import Derived.Test.YtcmekbibgonhbaaVxT
namespace Go.V
open Go Go.Proofs
set_option linter.unusedVariables false
set_option linter.unusedSimpArgs false
set_option maxRecDepth 10000
set_option maxHeartbeats 2000000
theorem take_succ_contains {l : List Int} {k : Nat} {n : Int} (hk : k < l.length) (hc : (l.take k).contains n = false) (hn : ¬ l.getD k default = n) : (l.take (k+1)).contains n = false := by
  rw [List.take_add_one, List.getElem?_eq_getElem hk]
  have h1 : l[k] ≠ n := by simpa [List.getD, hk] using hn
  have h2 : ¬ n ∈ l.take k := by simpa [List.contains_iff_mem] using hc
  have h3 : ¬ n ∈ l.take k ++ [l[k]] := by
    rw [List.mem_append]; rintro (h | h)
    · exact h2 h
    · simp at h; exact h1 h.symm
  simpa [List.contains_iff_mem] using h3
theorem contains_of {l : List Int} {k : Nat} {n : Int} (hk : k < l.length) (hn : l.getD k default = n) : l.contains n = true := by
  have : l[k] = n := by simpa [List.getD, hk] using hn
  simp; exact this ▸ List.getElem_mem hk
theorem contains_end {l : List Int} {k : Nat} {n : Int} (hk : k ≤ l.length) (hge : ¬ k < l.length) (hc : (l.take k).contains n = false) : l.contains n = false := by
  have : k = l.length := by omega
  subst this; rwa [List.take_length] at hc
theorem In_pure (gr : Gr) (l : List Int) (n : Int) (hl : l.length ≤ 9223372036854775806) : Pure Try.prog 39 [.row gr (l.map AV.int), .int n] (.bool (l.contains n)) := by
  refine pure_of (rs := [.tmp 4]) (m := 16) Try.func39 rfl rfl rfl fun h => ?_
  simp (maxSteps := 2000000) +contextual (disch := first | omega | assumption) only [go_sem, Nat.reduceAdd, Nat.reduceSub, Nat.reduceMul, Nat.reduceLT, Nat.reduceLeDiff, Nat.reduceEqDiff, reduceCtorEq, ↓reduceIte, Int.reduceLE, Int.reduceLT, Int.reduceToNat, Int.reduceAdd, Int.reduceSub, Int.reduceEq, Int.reduceNeg, List.append_assoc, cellsCall_def, cellsRule_def, cellsLookup_def, cellsPoint_def, cellsOutline_def, cellsPart_def, cellsAnchor_def, cellsDelta_def, cellsIns_def, cellsGlyph_def, cellsChar_def, cellsFeature_def, cellsAxis_def, cellsTent_def, cellsRegion_def, cellsFont_def, cellsItem_def, cellsText_def, cellsAsk_def]
  refine loop2 [6,7,8,9,10,11,12,13,14,15,16,17] (fun k : Nat => k ≤ l.length ∧ (l.take k).contains n = false) (fun k => l.length - k) (fun k => [.row gr (l.map AV.int), .int n, .any, .any, .bool false, .int k, .any, .any, .any, .any, .any, .any, .any, .any, .any, .any, .any, .any]) (fun _ => h) 0 (by simp) (by simp only [forget, List.foldl_cons, List.foldl_nil, set8, List.set_cons_succ, List.set_cons_zero] <;> rfl) rfl ?_
  rintro L k ⟨hk, hc⟩ ih
  simp (maxSteps := 2000000) +contextual (disch := first | omega | assumption) only [go_sem, Nat.reduceAdd, Nat.reduceSub, Nat.reduceMul, Nat.reduceLT, Nat.reduceLeDiff, Nat.reduceEqDiff, reduceCtorEq, ↓reduceIte, Int.reduceLE, Int.reduceLT, Int.reduceToNat, Int.reduceAdd, Int.reduceSub, Int.reduceEq, Int.reduceNeg, List.append_assoc, cellsCall_def, cellsRule_def, cellsLookup_def, cellsPoint_def, cellsOutline_def, cellsPart_def, cellsAnchor_def, cellsDelta_def, cellsIns_def, cellsGlyph_def, cellsChar_def, cellsFeature_def, cellsAxis_def, cellsTent_def, cellsRegion_def, cellsFont_def, cellsItem_def, cellsText_def, cellsAsk_def]
  exact ⟨fun hlt => ⟨fun e => pureK_lit0 (by rw [contains_of hlt e]), fun e => ih (k+1) ⟨by omega, take_succ_contains hlt hc e⟩ (by omega)⟩, fun hge => pureK_lit0 (by rw [contains_end hk hge hc])⟩
/-- Where a number first stands; below 0: nowhere. -/
def indexOf (l : List Int) (n : Int) : Int := if l.contains n then (l.idxOf n : Int) else -1
theorem idxOf_at {l : List Int} {k : Nat} {n : Int} (hk : k < l.length) (hc : (l.take k).contains n = false) (hn : l.getD k default = n) : l.idxOf n = k := by
  have h1 : l[k] = n := by simpa [List.getD, hk] using hn
  have h2 : ¬ n ∈ l.take k := by simpa [List.contains_iff_mem] using hc
  have e : l = l.take k ++ (n :: l.drop (k+1)) := by
    conv => lhs; rw [← List.take_append_drop k l, List.drop_eq_getElem_cons hk, h1]
  conv => lhs; rw [e]
  rw [List.idxOf_append, if_neg h2]; simp; omega
theorem Index_pure (gr : Gr) (l : List Int) (n : Int) (hl : l.length ≤ 9223372036854775806) : Pure Try.prog 46 [.row gr (l.map AV.int), .int n] (.int (indexOf l n)) := by
  refine pure_of (rs := [.tmp 4]) (m := 17) Try.func46 rfl rfl rfl fun h => ?_
  simp (maxSteps := 2000000) +contextual (disch := first | omega | assumption) only [go_sem, Nat.reduceAdd, Nat.reduceSub, Nat.reduceMul, Nat.reduceLT, Nat.reduceLeDiff, Nat.reduceEqDiff, reduceCtorEq, ↓reduceIte, Int.reduceLE, Int.reduceLT, Int.reduceToNat, Int.reduceAdd, Int.reduceSub, Int.reduceEq, Int.reduceNeg, List.append_assoc, cellsCall_def, cellsRule_def, cellsLookup_def, cellsPoint_def, cellsOutline_def, cellsPart_def, cellsAnchor_def, cellsDelta_def, cellsIns_def, cellsGlyph_def, cellsChar_def, cellsFeature_def, cellsAxis_def, cellsTent_def, cellsRegion_def, cellsFont_def, cellsItem_def, cellsText_def, cellsAsk_def]
  refine loop2 [5,9,10,11,12,13,14,15,16,17,18] (fun k : Nat => k ≤ l.length ∧ (l.take k).contains n = false) (fun k => l.length - k) (fun k => [.row gr (l.map AV.int), .int n, .any, .any, .int 0, .any, .row gr (l.map AV.int), .int l.length, .int k, .any, .any, .any, .any, .any, .any, .any, .any, .any, .any]) (fun _ => h) 0 (by simp) (by simp only [forget, List.foldl_cons, List.foldl_nil, set8, List.set_cons_succ, List.set_cons_zero] <;> rfl) rfl ?_
  rintro L k ⟨hk, hc⟩ ih
  simp (maxSteps := 2000000) +contextual (disch := first | omega | assumption) only [go_sem, Nat.reduceAdd, Nat.reduceSub, Nat.reduceMul, Nat.reduceLT, Nat.reduceLeDiff, Nat.reduceEqDiff, reduceCtorEq, ↓reduceIte, Int.reduceLE, Int.reduceLT, Int.reduceToNat, Int.reduceAdd, Int.reduceSub, Int.reduceEq, Int.reduceNeg, List.append_assoc, cellsCall_def, cellsRule_def, cellsLookup_def, cellsPoint_def, cellsOutline_def, cellsPart_def, cellsAnchor_def, cellsDelta_def, cellsIns_def, cellsGlyph_def, cellsChar_def, cellsFeature_def, cellsAxis_def, cellsTent_def, cellsRegion_def, cellsFont_def, cellsItem_def, cellsText_def, cellsAsk_def]
  refine ⟨fun hlt => ⟨fun e => pureK_lit0 ?_, fun e => ih (k+1) ⟨by omega, take_succ_contains hlt hc (fun e' => e e'.symm)⟩ (by omega)⟩, fun hge => pureK_lit0 ?_⟩
  · rw [indexOf, contains_of hlt e.symm, if_pos rfl, idxOf_at hlt hc e.symm]
  · rw [indexOf, contains_end hk hge hc]; rfl
theorem Contains_pure (gr : Gr) (l : List Int) (n : Int) (hl : l.length ≤ 9223372036854775806) : Pure Try.prog 36 [.row gr (l.map AV.int), .int n] (.bool (l.contains n)) := by
  refine pure_of (rs := [.tmp 4]) (m := 7) Try.func36 rfl rfl rfl fun h => ?_
  simp (maxSteps := 2000000) +contextual (disch := first | omega | assumption) only [go_sem, Nat.reduceAdd, Nat.reduceSub, Nat.reduceMul, Nat.reduceLT, Nat.reduceLeDiff, Nat.reduceEqDiff, reduceCtorEq, ↓reduceIte, Int.reduceLE, Int.reduceLT, Int.reduceToNat, Int.reduceAdd, Int.reduceSub, Int.reduceEq, Int.reduceNeg, List.append_assoc, cellsCall_def, cellsRule_def, cellsLookup_def, cellsPoint_def, cellsOutline_def, cellsPart_def, cellsAnchor_def, cellsDelta_def, cellsIns_def, cellsGlyph_def, cellsChar_def, cellsFeature_def, cellsAxis_def, cellsTent_def, cellsRegion_def, cellsFont_def, cellsItem_def, cellsText_def, cellsAsk_def]
  refine call_pure rfl (Index_pure gr l n hl) ?_
  simp (maxSteps := 2000000) +contextual (disch := first | omega | assumption) only [go_sem, Nat.reduceAdd, Nat.reduceSub, Nat.reduceMul, Nat.reduceLT, Nat.reduceLeDiff, Nat.reduceEqDiff, reduceCtorEq, ↓reduceIte, Int.reduceLE, Int.reduceLT, Int.reduceToNat, Int.reduceAdd, Int.reduceSub, Int.reduceEq, Int.reduceNeg, List.append_assoc, cellsCall_def, cellsRule_def, cellsLookup_def, cellsPoint_def, cellsOutline_def, cellsPart_def, cellsAnchor_def, cellsDelta_def, cellsIns_def, cellsGlyph_def, cellsChar_def, cellsFeature_def, cellsAxis_def, cellsTent_def, cellsRegion_def, cellsFont_def, cellsItem_def, cellsText_def, cellsAsk_def]
  refine pureK_lit0 ?_
  rw [indexOf]; cases h1 : l.contains n <;> simp
/-- Is a glyph a mark? -/
def isMark (f : Font) (g : Int) : Bool := decide (0 ≤ g) && decide (g < f.glyphs.length) && (f.glyphs.getD g.toNat default).mark
theorem mark_pure (f : Font) (g : Int) : Pure Try.prog 53 [encFont f, .int g] (.bool (isMark f g)) := by
  refine pure_of (rs := [.tmp 4]) (m := 20) Try.func53 rfl rfl rfl fun h => ?_
  simp (maxSteps := 2000000) +contextual (disch := first | omega | assumption) only [go_sem, Nat.reduceAdd, Nat.reduceSub, Nat.reduceMul, Nat.reduceLT, Nat.reduceLeDiff, Nat.reduceEqDiff, reduceCtorEq, ↓reduceIte, Int.reduceLE, Int.reduceLT, Int.reduceToNat, Int.reduceAdd, Int.reduceSub, Int.reduceEq, Int.reduceNeg, List.append_assoc, cellsCall_def, cellsRule_def, cellsLookup_def, cellsPoint_def, cellsOutline_def, cellsPart_def, cellsAnchor_def, cellsDelta_def, cellsIns_def, cellsGlyph_def, cellsChar_def, cellsFeature_def, cellsAxis_def, cellsTent_def, cellsRegion_def, cellsFont_def, cellsItem_def, cellsText_def, cellsAsk_def]
  (repeat' first | with_reducible apply And.intro | with_reducible intro _)
  (all_goals (try simp only [asT, asE, Int.not_lt, Int.not_le, Nat.not_lt, Nat.not_le] at *); first | assumption | omega | exact pureK_lit rfl rfl (by simp [-List.getD_eq_getElem?_getD, isMark, *] <;> (intros; omega)) | exact pureK_lit0 (by simp [-List.getD_eq_getElem?_getD, isMark, *] <;> (intros; omega)))
/-- Is an item not passed over? -/
def isSeen (f : Font) (l : Lookup) (x : Item) : Bool := !l.ignore || !isMark f x.glyph
theorem seen_pure (f : Font) (l : Lookup) (x : Item) : Pure Try.prog 38 [encFont f, encLookup l, encItem x] (.bool (isSeen f l x)) := by
  refine pure_of (rs := [.tmp 6]) (m := 14) Try.func38 rfl rfl rfl fun h => ?_
  simp (maxSteps := 2000000) +contextual (disch := first | omega | assumption) only [go_sem, Nat.reduceAdd, Nat.reduceSub, Nat.reduceMul, Nat.reduceLT, Nat.reduceLeDiff, Nat.reduceEqDiff, reduceCtorEq, ↓reduceIte, Int.reduceLE, Int.reduceLT, Int.reduceToNat, Int.reduceAdd, Int.reduceSub, Int.reduceEq, Int.reduceNeg, List.append_assoc, cellsCall_def, cellsRule_def, cellsLookup_def, cellsPoint_def, cellsOutline_def, cellsPart_def, cellsAnchor_def, cellsDelta_def, cellsIns_def, cellsGlyph_def, cellsChar_def, cellsFeature_def, cellsAxis_def, cellsTent_def, cellsRegion_def, cellsFont_def, cellsItem_def, cellsText_def, cellsAsk_def]
  (repeat' first | with_reducible apply And.intro | with_reducible intro _)
  · refine call_pure rfl (mark_pure f _) ?_
    simp (maxSteps := 2000000) +contextual (disch := first | omega | assumption) only [go_sem, Nat.reduceAdd, Nat.reduceSub, Nat.reduceMul, Nat.reduceLT, Nat.reduceLeDiff, Nat.reduceEqDiff, reduceCtorEq, ↓reduceIte, Int.reduceLE, Int.reduceLT, Int.reduceToNat, Int.reduceAdd, Int.reduceSub, Int.reduceEq, Int.reduceNeg, List.append_assoc, cellsCall_def, cellsRule_def, cellsLookup_def, cellsPoint_def, cellsOutline_def, cellsPart_def, cellsAnchor_def, cellsDelta_def, cellsIns_def, cellsGlyph_def, cellsChar_def, cellsFeature_def, cellsAxis_def, cellsTent_def, cellsRegion_def, cellsFont_def, cellsItem_def, cellsText_def, cellsAsk_def, *]
    (all_goals (try simp only [asT, asE, Int.not_lt, Int.not_le, Nat.not_lt, Nat.not_le] at *); first | assumption | omega | exact pureK_lit rfl rfl (by simp [-List.getD_eq_getElem?_getD, isSeen, *] <;> (intros; omega)) | exact pureK_lit0 (by simp [-List.getD_eq_getElem?_getD, isSeen, *] <;> (intros; omega)))
  · (all_goals (try simp only [asT, asE, Int.not_lt, Int.not_le, Nat.not_lt, Nat.not_le] at *); first | assumption | omega | exact pureK_lit rfl rfl (by simp [-List.getD_eq_getElem?_getD, isSeen, *] <;> (intros; omega)) | exact pureK_lit0 (by simp [-List.getD_eq_getElem?_getD, isSeen, *] <;> (intros; omega)))
def over (t : Text) (i : Int) : Bool := t.l.ignore && isMark t.f (t.run.getD i.toNat default).glyph
theorem over_pure (t : Text) (i : Int) (h0 : 0 ≤ i) (hi : i < t.run.length) : Pure Try.prog 35 [encText t, .int i] (.bool (over t i)) := by
  refine pure_of (rs := [.tmp 4]) (m := 34) Try.func35 rfl rfl rfl fun h => ?_
  simp (maxSteps := 2000000) +contextual (disch := first | omega | assumption) only [go_sem, Nat.reduceAdd, Nat.reduceSub, Nat.reduceMul, Nat.reduceLT, Nat.reduceLeDiff, Nat.reduceEqDiff, reduceCtorEq, ↓reduceIte, Int.reduceLE, Int.reduceLT, Int.reduceToNat, Int.reduceAdd, Int.reduceSub, Int.reduceEq, Int.reduceNeg, List.append_assoc, cellsCall_def, cellsRule_def, cellsLookup_def, cellsPoint_def, cellsOutline_def, cellsPart_def, cellsAnchor_def, cellsDelta_def, cellsIns_def, cellsGlyph_def, cellsChar_def, cellsFeature_def, cellsAxis_def, cellsTent_def, cellsRegion_def, cellsFont_def, cellsItem_def, cellsText_def, cellsAsk_def]
  (repeat' first | with_reducible apply And.intro | with_reducible intro _)
  (all_goals (try simp only [asT, asE, Int.not_lt, Int.not_le, Nat.not_lt, Nat.not_le] at *); first | assumption | omega | exact pureK_lit rfl rfl (by simp [-List.getD_eq_getElem?_getD, over, isMark, *] <;> (intros; omega)) | exact pureK_lit0 (by simp [-List.getD_eq_getElem?_getD, over, isMark, *] <;> (intros; omega)))
theorem take_succ_any {α : Type} [Inhabited α] {p : α → Bool} {l : List α} {k : Nat} (hk : k < l.length) (hc : (l.take k).any p = false) (hn : p (l.getD k default) = false) : (l.take (k+1)).any p = false := by
  rw [List.take_add_one, List.getElem?_eq_getElem hk, List.any_append, hc]
  simpa [List.getD, hk] using hn
theorem any_of {α : Type} [Inhabited α] {p : α → Bool} {l : List α} {k : Nat} (hk : k < l.length) (hn : p (l.getD k default) = true) : l.any p = true := by
  rw [List.any_eq_true]
  exact ⟨l[k], List.getElem_mem hk, by simpa [List.getD, hk] using hn⟩
theorem any_end {α : Type} {p : α → Bool} {l : List α} {k : Nat} (hk : k ≤ l.length) (hge : ¬ k < l.length) (hc : (l.take k).any p = false) : l.any p = false := by
  have : k = l.length := by omega
  subst this; rwa [List.take_length] at hc
theorem wide_pure (gr : Gr) (l : List (List Int)) (hl : l.length ≤ 9223372036854775806) : Pure Try.prog 24 [rowELI l] (.bool (l.any fun s => decide (60 < s.length))) := by
  refine pure_of (rs := [.tmp 2]) (m := 15) Try.func24 rfl rfl rfl fun h => ?_
  simp (maxSteps := 2000000) +contextual (disch := first | omega | assumption) only [go_sem, Nat.reduceAdd, Nat.reduceSub, Nat.reduceMul, Nat.reduceLT, Nat.reduceLeDiff, Nat.reduceEqDiff, reduceCtorEq, ↓reduceIte, Int.reduceLE, Int.reduceLT, Int.reduceToNat, Int.reduceAdd, Int.reduceSub, Int.reduceEq, Int.reduceNeg, List.append_assoc, cellsCall_def, cellsRule_def, cellsLookup_def, cellsPoint_def, cellsOutline_def, cellsPart_def, cellsAnchor_def, cellsDelta_def, cellsIns_def, cellsGlyph_def, cellsChar_def, cellsFeature_def, cellsAxis_def, cellsTent_def, cellsRegion_def, cellsFont_def, cellsItem_def, cellsText_def, cellsAsk_def]
  refine loop2 [4,5,6,7,8,9,10,11,12,13,14,15] (fun k : Nat => k ≤ l.length ∧ (l.take k).any (fun s => decide (60 < s.length)) = false) (fun k => l.length - k) (fun k => [rowELI l, .any, .bool false, .int k, .any, .any, .any, .any, .any, .any, .any, .any, .any, .any, .any, .any]) (fun _ => h) 0 (by simp) (by simp only [forget, List.foldl_cons, List.foldl_nil, set8, List.set_cons_succ, List.set_cons_zero] <;> rfl) rfl ?_
  rintro L k ⟨hk, hc⟩ ih
  simp (maxSteps := 2000000) +contextual (disch := first | omega | assumption) only [go_sem, Nat.reduceAdd, Nat.reduceSub, Nat.reduceMul, Nat.reduceLT, Nat.reduceLeDiff, Nat.reduceEqDiff, reduceCtorEq, ↓reduceIte, Int.reduceLE, Int.reduceLT, Int.reduceToNat, Int.reduceAdd, Int.reduceSub, Int.reduceEq, Int.reduceNeg, List.append_assoc, cellsCall_def, cellsRule_def, cellsLookup_def, cellsPoint_def, cellsOutline_def, cellsPart_def, cellsAnchor_def, cellsDelta_def, cellsIns_def, cellsGlyph_def, cellsChar_def, cellsFeature_def, cellsAxis_def, cellsTent_def, cellsRegion_def, cellsFont_def, cellsItem_def, cellsText_def, cellsAsk_def]
  refine ⟨fun hlt => ⟨fun e => pureK_lit0 (by rw [any_of hlt (decide_eq_true (by omega))]), fun e => ih (k+1) ⟨by omega, take_succ_any hlt hc (decide_eq_false (by omega))⟩ (by omega)⟩, fun hge => pureK_lit0 (by rw [any_end hk hge hc])⟩
/-- A lookup of a font, with a run. -/
def atF (f : Font) (n : Int) (run : List Item) : Text × Bool := if 0 ≤ n ∧ n < f.lookups.length then (⟨f, f.lookups.getD n.toNat default, run⟩, true) else (⟨⟨0, [], [], [], [], [], [], [], []⟩, ⟨0, false, []⟩, []⟩, false)
theorem at_pure (f : Font) (n : Int) (run : List Item) : Pure Try.prog 25 [encFont f, .int n, rowEItem run] (.tup [encText (atF f n run).1, .bool (atF f n run).2]) := by
  refine pure_of (rs := [.cell 6 58, .tmp 7]) (m := 23) Try.func25 rfl rfl rfl fun h => ?_
  simp (maxSteps := 2000000) +contextual (disch := first | omega | assumption) only [go_sem, Nat.reduceAdd, Nat.reduceSub, Nat.reduceMul, Nat.reduceLT, Nat.reduceLeDiff, Nat.reduceEqDiff, reduceCtorEq, ↓reduceIte, Int.reduceLE, Int.reduceLT, Int.reduceToNat, Int.reduceAdd, Int.reduceSub, Int.reduceEq, Int.reduceNeg, List.append_assoc, cellsCall_def, cellsRule_def, cellsLookup_def, cellsPoint_def, cellsOutline_def, cellsPart_def, cellsAnchor_def, cellsDelta_def, cellsIns_def, cellsGlyph_def, cellsChar_def, cellsFeature_def, cellsAxis_def, cellsTent_def, cellsRegion_def, cellsFont_def, cellsItem_def, cellsText_def, cellsAsk_def]
  (repeat' first | with_reducible apply And.intro | with_reducible intro _)
  · rw [show atF f n run = _ from if_neg (by omega)]
    (all_goals first | assumption | omega | exact pureK_gen (by simp only [go_sem, shut, shutL] <;> rfl) (by intros; simp only [go_sem, cl, clL]) rfl rfl | exact pureK_gen0 (by simp only [go_sem, shut, shutL] <;> rfl) (by intros; simp only [go_sem, cl, clL]) | exact pureK_gl (by simp only [go_sem, shut, shutL] <;> rfl) (by intros; simp only [go_sem, cl, clL]) (Grows.ext (by assumption)) rfl | exact pureK_gl0 (by simp only [go_sem, shut, shutL] <;> rfl) (by intros; simp only [go_sem, cl, clL]) (Grows.ext (by assumption)) rfl | exact pureK_sub (by simp only [go_sem, shut, shutL] <;> rfl) (by intros; simp only [go_sem, cl, clL]) (by assumption) | exact pureK_sub (by simp only [go_sem, shut, shutL] <;> rfl) (by intros; simp only [go_sem, cl, clL]) (Sub.more (by assumption) _))
  · rw [show atF f n run = _ from if_neg (by omega)]
    (all_goals first | assumption | omega | exact pureK_gen (by simp only [go_sem, shut, shutL] <;> rfl) (by intros; simp only [go_sem, cl, clL]) rfl rfl | exact pureK_gen0 (by simp only [go_sem, shut, shutL] <;> rfl) (by intros; simp only [go_sem, cl, clL]) | exact pureK_gl (by simp only [go_sem, shut, shutL] <;> rfl) (by intros; simp only [go_sem, cl, clL]) (Grows.ext (by assumption)) rfl | exact pureK_gl0 (by simp only [go_sem, shut, shutL] <;> rfl) (by intros; simp only [go_sem, cl, clL]) (Grows.ext (by assumption)) rfl | exact pureK_sub (by simp only [go_sem, shut, shutL] <;> rfl) (by intros; simp only [go_sem, cl, clL]) (by assumption) | exact pureK_sub (by simp only [go_sem, shut, shutL] <;> rfl) (by intros; simp only [go_sem, cl, clL]) (Sub.more (by assumption) _))
  · refine awp_drawT (by kernel_rfl) 8 (by kernel_rfl) ?_
    simp (maxSteps := 2000000) +contextual (disch := first | omega | assumption) only [go_sem, Nat.reduceAdd, Nat.reduceSub, Nat.reduceMul, Nat.reduceLT, Nat.reduceLeDiff, Nat.reduceEqDiff, reduceCtorEq, ↓reduceIte, Int.reduceLE, Int.reduceLT, Int.reduceToNat, Int.reduceAdd, Int.reduceSub, Int.reduceEq, Int.reduceNeg, List.append_assoc, cellsCall_def, cellsRule_def, cellsLookup_def, cellsPoint_def, cellsOutline_def, cellsPart_def, cellsAnchor_def, cellsDelta_def, cellsIns_def, cellsGlyph_def, cellsChar_def, cellsFeature_def, cellsAxis_def, cellsTent_def, cellsRegion_def, cellsFont_def, cellsItem_def, cellsText_def, cellsAsk_def, *]
    rw [show atF f n run = _ from if_pos (by omega)]
    (repeat' first | with_reducible apply And.intro | with_reducible intro _)
    (all_goals first | assumption | omega | exact pureK_gen (by simp only [go_sem, shut, shutL] <;> rfl) (by intros; simp only [go_sem, cl, clL]) rfl rfl | exact pureK_gen0 (by simp only [go_sem, shut, shutL] <;> rfl) (by intros; simp only [go_sem, cl, clL]) | exact pureK_gl (by simp only [go_sem, shut, shutL] <;> rfl) (by intros; simp only [go_sem, cl, clL]) (Grows.ext (by assumption)) rfl | exact pureK_gl0 (by simp only [go_sem, shut, shutL] <;> rfl) (by intros; simp only [go_sem, cl, clL]) (Grows.ext (by assumption)) rfl | exact pureK_sub (by simp only [go_sem, shut, shutL] <;> rfl) (by intros; simp only [go_sem, cl, clL]) (by assumption) | exact pureK_sub (by simp only [go_sem, shut, shutL] <;> rfl) (by intros; simp only [go_sem, cl, clL]) (Sub.more (by assumption) _))
/-- May a match begin at a place? -/
def begins (f : Font) (n : Int) (run : List Item) (p : Int) (forms : List Int) : Bool :=
  decide (0 ≤ n) && decide (n < f.lookups.length) && decide (0 ≤ p) && decide (p < run.length) && isSeen f (f.lookups.getD n.toNat default) (run.getD p.toNat default) && (forms.isEmpty || forms.contains (run.getD p.toNat default).form)
theorem begins_pure (f : Font) (n : Int) (run : List Item) (p : Int) (forms : List Int) (hl : forms.length ≤ 9223372036854775806) : Pure Try.prog 27 [encFont f, .int n, rowEItem run, .int p, rowEI forms] (.bool (begins f n run p forms)) := by
  refine pure_of (rs := [.tmp 10]) (m := 50) Try.func27 rfl rfl rfl fun h => ?_
  simp (maxSteps := 2000000) +contextual (disch := first | omega | assumption) only [go_sem, Nat.reduceAdd, Nat.reduceSub, Nat.reduceMul, Nat.reduceLT, Nat.reduceLeDiff, Nat.reduceEqDiff, reduceCtorEq, ↓reduceIte, Int.reduceLE, Int.reduceLT, Int.reduceToNat, Int.reduceAdd, Int.reduceSub, Int.reduceEq, Int.reduceNeg, List.append_assoc, cellsCall_def, cellsRule_def, cellsLookup_def, cellsPoint_def, cellsOutline_def, cellsPart_def, cellsAnchor_def, cellsDelta_def, cellsIns_def, cellsGlyph_def, cellsChar_def, cellsFeature_def, cellsAxis_def, cellsTent_def, cellsRegion_def, cellsFont_def, cellsItem_def, cellsText_def, cellsAsk_def]
  (repeat' first | with_reducible apply And.intro | with_reducible intro _)
  all_goals try (exact pureK_lit rfl rfl (by simp [begins]; omega))
  refine awp_drawT (by kernel_rfl) 25 (by kernel_rfl) ?_
  simp (maxSteps := 2000000) +contextual (disch := first | omega | assumption) only [go_sem, Nat.reduceAdd, Nat.reduceSub, Nat.reduceMul, Nat.reduceLT, Nat.reduceLeDiff, Nat.reduceEqDiff, reduceCtorEq, ↓reduceIte, Int.reduceLE, Int.reduceLT, Int.reduceToNat, Int.reduceAdd, Int.reduceSub, Int.reduceEq, Int.reduceNeg, List.append_assoc, cellsCall_def, cellsRule_def, cellsLookup_def, cellsPoint_def, cellsOutline_def, cellsPart_def, cellsAnchor_def, cellsDelta_def, cellsIns_def, cellsGlyph_def, cellsChar_def, cellsFeature_def, cellsAxis_def, cellsTent_def, cellsRegion_def, cellsFont_def, cellsItem_def, cellsText_def, cellsAsk_def, *]
  (repeat' first | with_reducible apply And.intro | with_reducible intro _)
  all_goals try omega
  refine callq_pure rfl (seen_pure f _ _) ?_
  simp (maxSteps := 2000000) +contextual (disch := first | omega | assumption) only [go_sem, Nat.reduceAdd, Nat.reduceSub, Nat.reduceMul, Nat.reduceLT, Nat.reduceLeDiff, Nat.reduceEqDiff, reduceCtorEq, ↓reduceIte, Int.reduceLE, Int.reduceLT, Int.reduceToNat, Int.reduceAdd, Int.reduceSub, Int.reduceEq, Int.reduceNeg, List.append_assoc, cellsCall_def, cellsRule_def, cellsLookup_def, cellsPoint_def, cellsOutline_def, cellsPart_def, cellsAnchor_def, cellsDelta_def, cellsIns_def, cellsGlyph_def, cellsChar_def, cellsFeature_def, cellsAxis_def, cellsTent_def, cellsRegion_def, cellsFont_def, cellsItem_def, cellsText_def, cellsAsk_def, *]
  (repeat' first | with_reducible apply And.intro | with_reducible intro _)
  all_goals try omega
  · have h1 : forms = [] := List.eq_nil_of_length_eq_zero (by simp only [asE] at *; omega)
    subst h1
    (all_goals (try simp only [asT, asE, Int.not_lt, Int.not_le, Nat.not_lt, Nat.not_le] at *); first | assumption | omega | exact pureK_lit rfl rfl (by simp [-List.getD_eq_getElem?_getD, begins, *] <;> (intros; omega)) | exact pureK_lit0 (by simp [-List.getD_eq_getElem?_getD, begins, *] <;> (intros; omega)))
  · refine callq_pure rfl (In_pure .no forms _ hl) ?_
    simp (maxSteps := 2000000) +contextual (disch := first | omega | assumption) only [go_sem, Nat.reduceAdd, Nat.reduceSub, Nat.reduceMul, Nat.reduceLT, Nat.reduceLeDiff, Nat.reduceEqDiff, reduceCtorEq, ↓reduceIte, Int.reduceLE, Int.reduceLT, Int.reduceToNat, Int.reduceAdd, Int.reduceSub, Int.reduceEq, Int.reduceNeg, List.append_assoc, cellsCall_def, cellsRule_def, cellsLookup_def, cellsPoint_def, cellsOutline_def, cellsPart_def, cellsAnchor_def, cellsDelta_def, cellsIns_def, cellsGlyph_def, cellsChar_def, cellsFeature_def, cellsAxis_def, cellsTent_def, cellsRegion_def, cellsFont_def, cellsItem_def, cellsText_def, cellsAsk_def, *]
    have h1 : forms ≠ [] := by intro e; subst e; simp [asE] at *
    (all_goals (try simp only [asT, asE, Int.not_lt, Int.not_le, Nat.not_lt, Nat.not_le] at *); first | assumption | omega | exact pureK_lit rfl rfl (by simp [-List.getD_eq_getElem?_getD, begins, h1, *] <;> (intros; omega)) | exact pureK_lit0 (by simp [-List.getD_eq_getElem?_getD, begins, h1, *] <;> (intros; omega)))
  · (all_goals (try simp only [asT, asE, Int.not_lt, Int.not_le, Nat.not_lt, Nat.not_le] at *); first | assumption | omega | exact pureK_lit rfl rfl (by simp [-List.getD_eq_getElem?_getD, begins, *] <;> (intros; omega)) | exact pureK_lit0 (by simp [-List.getD_eq_getElem?_getD, begins, *] <;> (intros; omega)))
end Go.V
namespace Go.V
open Go Go.Proofs
set_option linter.unusedVariables false
set_option linter.unusedSimpArgs false
set_option maxRecDepth 10000
set_option maxHeartbeats 2000000
/-- The places of items that match sets, each step so far; and whether all do. -/
def walkF (f : Font) (l : Lookup) (run : List Item) (sets : List (List Int)) (step : Int) : Nat → Int → List Int → List Int × Bool
  | 0, i, out => (out, out.length == sets.length)
  | n + 1, i, out =>
    if out.length < sets.length ∧ 0 ≤ i ∧ i < run.length then
      if isSeen f l (run.getD i.toNat default) then
        if (sets.getD out.length default).contains (run.getD i.toNat default).glyph then walkF f l run sets step n (i + step) (out ++ [i])
        else (out, false)
      else walkF f l run sets step n (i + step) out
    else (out, out.length == sets.length)
/-- How many steps are left. -/
def left (len : Nat) (step i : Int) : Nat := if step = 1 then (len - i).toNat else (i + 1).toNat
def walk (f : Font) (l : Lookup) (run : List Item) (i step : Int) (sets : List (List Int)) : List Int × Bool := walkF f l run sets step (left run.length step i) i []
theorem walkF_stop {f : Font} {l : Lookup} {run : List Item} {sets : List (List Int)} {step : Int} {n : Nat} {i : Int} {out : List Int} (h : ¬(out.length < sets.length ∧ 0 ≤ i ∧ i < run.length)) : walkF f l run sets step n i out = (out, out.length == sets.length) := by
  cases n with
  | zero => rfl
  | succ n => rw [walkF, if_neg h]
theorem left_succ {len : Nat} {step i : Int} (hs : step = 1 ∨ step = -1) (h0 : 0 ≤ i) (h1 : i < len) : left len step i = left len step (i + step) + 1 := by
  unfold left; rcases hs with rfl | rfl <;> simp <;> omega
structure Walked (sets : List (List Int)) (run : List Item) : Prop where
  h1 : sets.length ≤ 17592186044416
  h2 : run.length ≤ 9223372036854775806
  h3 : ∀ s ∈ sets, s.length ≤ 9223372036854775806
theorem walk_pure (f : Font) (l : Lookup) (run : List Item) (i0 step : Int) (sets : List (List Int)) (hw : Walked sets run) (hs : step = 1 ∨ step = -1) (hi : -1 ≤ i0 ∧ i0 ≤ run.length) :
    Pure Try.prog 40 [encFont f, encLookup l, rowEItem run, .int i0, .int step, rowELI sets] (.tup [rowEI (walk f l run i0 step sets).1, .bool (walk f l run i0 step sets).2]) := by
  obtain ⟨hw1, hw2, hw3⟩ := hw
  refine pure_of (rs := [.tmp 12, .tmp 13]) (m := 60) Try.func40 rfl rfl rfl fun h => ?_
  simp (maxSteps := 2000000) +contextual (disch := first | omega | assumption) only [go_sem, Nat.reduceAdd, Nat.reduceSub, Nat.reduceMul, Nat.reduceLT, Nat.reduceLeDiff, Nat.reduceEqDiff, reduceCtorEq, ↓reduceIte, Int.reduceLE, Int.reduceLT, Int.reduceToNat, Int.reduceAdd, Int.reduceSub, Int.reduceEq, Int.reduceNeg, List.append_assoc, cellsCall_def, cellsRule_def, cellsLookup_def, cellsPoint_def, cellsOutline_def, cellsPart_def, cellsAnchor_def, cellsDelta_def, cellsIns_def, cellsGlyph_def, cellsChar_def, cellsFeature_def, cellsAxis_def, cellsTent_def, cellsRegion_def, cellsFont_def, cellsItem_def, cellsText_def, cellsAsk_def]
  refine loop2 (ι := Int × List Int × Gr × List Nat) [16,17,18,19,20,21,22,23,24,25,26,27,28,29,30,31,32,33,34,35,36,37,38,39,40,41,42,43,44,45,46,47,48,49,50,51,52,53,54,55,56,57,58,59,60,61,62,63,64,65] (fun x => -1 ≤ x.1 ∧ x.1 ≤ run.length ∧ x.2.1.length ≤ sets.length ∧ Grows 1 h.gl x.2.2.1 x.2.2.2 ∧ walkF f l run sets step (left run.length step x.1) x.1 x.2.1 = walk f l run i0 step sets) (fun x => left run.length step x.1)
    (fun x => [encFont f, encLookup l, rowEItem run, .int i0, .int step, rowELI sets, .ptr h.bx.length 0, .ptr (h.bx.length + 1) 0, .any, .any, .any, .any, .row .full [], .bool false, .row x.2.2.1 (x.2.1.map AV.int), .int x.1, .any, .any, .any, .any, .any, .any, .any, .any, .any, .any, .any, .any, .any, .any, .any, .any, .any, .any, .any, .any, .any, .any, .any, .any, .any, .any, .any, .any, .any, .any, .any, .any, .any, .any, .any, .any, .any, .any, .any, .any, .any, .any, .any, .any, .any, .any, .any, .any, .any, .any])
    (fun x => { bx := h.bx ++ [cellsFont f, cellsLookup l], gl := x.2.2.2, lp := h.lp }) (i0, [], .full, h.gl) ⟨by omega, by omega, by simp, grows_new _ _, rfl⟩ (by simp only [forget, List.foldl_cons, List.foldl_nil, set8, List.set_cons_succ, List.set_cons_zero] <;> rfl) rfl ?_
  rintro L ⟨i, out, gr, gl⟩ ⟨q1, q2, q3, q4, q5⟩ ih
  simp only at q1 q2 q3 q4 q5
  simp (maxSteps := 2000000) +contextual (disch := first | omega | assumption) only [go_sem, Nat.reduceAdd, Nat.reduceSub, Nat.reduceMul, Nat.reduceLT, Nat.reduceLeDiff, Nat.reduceEqDiff, reduceCtorEq, ↓reduceIte, Int.reduceLE, Int.reduceLT, Int.reduceToNat, Int.reduceAdd, Int.reduceSub, Int.reduceEq, Int.reduceNeg, List.append_assoc, cellsCall_def, cellsRule_def, cellsLookup_def, cellsPoint_def, cellsOutline_def, cellsPart_def, cellsAnchor_def, cellsDelta_def, cellsIns_def, cellsGlyph_def, cellsChar_def, cellsFeature_def, cellsAxis_def, cellsTent_def, cellsRegion_def, cellsFont_def, cellsItem_def, cellsText_def, cellsAsk_def]
  have stop : ¬(out.length < sets.length ∧ 0 ≤ i ∧ i < run.length) → pureK h (AV.tup [rowEI (walk f l run i0 step sets).fst, AV.bool (walk f l run i0 step sets).snd])
            (AV.tup [AV.row gr (List.map AV.int out), AV.lit (Value.bool (decide ((out.length : Int) = (sets.length : Int))))]) { bx := h.bx ++ [cellsFont f, cellsLookup l], gl := gl, lp := h.lp } := fun hn => by
    rw [← q5, walkF_stop hn, show decide ((out.length : Int) = (sets.length : Int)) = (out.length == sets.length) by rw [Bool.eq_iff_iff]; simp; omega]
    (all_goals first | assumption | omega | exact pureK_gen (by simp only [go_sem, shut, shutL] <;> rfl) (by intros; simp only [go_sem, cl, clL]) rfl rfl | exact pureK_gen0 (by simp only [go_sem, shut, shutL] <;> rfl) (by intros; simp only [go_sem, cl, clL]) | exact pureK_gl (by simp only [go_sem, shut, shutL] <;> rfl) (by intros; simp only [go_sem, cl, clL]) (Grows.ext (by assumption)) rfl | exact pureK_gl0 (by simp only [go_sem, shut, shutL] <;> rfl) (by intros; simp only [go_sem, cl, clL]) (Grows.ext (by assumption)) rfl | exact pureK_sub (by simp only [go_sem, shut, shutL] <;> rfl) (by intros; simp only [go_sem, cl, clL]) (by assumption) | exact pureK_sub (by simp only [go_sem, shut, shutL] <;> rfl) (by intros; simp only [go_sem, cl, clL]) (Sub.more (by assumption) _))
  refine ⟨fun h1 => ⟨fun h2 => ⟨fun h3 => ?_, fun h3 => stop (by omega)⟩, fun h2 => stop (by omega)⟩, fun h1 => stop (by omega)⟩
  clear stop
  refine awp_drawT (by kernel_rfl) 7 (by kernel_rfl) ?_
  simp (maxSteps := 2000000) +contextual (disch := first | omega | assumption) only [go_sem, Nat.reduceAdd, Nat.reduceSub, Nat.reduceMul, Nat.reduceLT, Nat.reduceLeDiff, Nat.reduceEqDiff, reduceCtorEq, ↓reduceIte, Int.reduceLE, Int.reduceLT, Int.reduceToNat, Int.reduceAdd, Int.reduceSub, Int.reduceEq, Int.reduceNeg, List.append_assoc, cellsCall_def, cellsRule_def, cellsLookup_def, cellsPoint_def, cellsOutline_def, cellsPart_def, cellsAnchor_def, cellsDelta_def, cellsIns_def, cellsGlyph_def, cellsChar_def, cellsFeature_def, cellsAxis_def, cellsTent_def, cellsRegion_def, cellsFont_def, cellsItem_def, cellsText_def, cellsAsk_def, h1, h2, h3]
  refine callq_pure rfl (seen_pure f l _) ?_
  simp (maxSteps := 2000000) +contextual (disch := first | omega | assumption) only [go_sem, Nat.reduceAdd, Nat.reduceSub, Nat.reduceMul, Nat.reduceLT, Nat.reduceLeDiff, Nat.reduceEqDiff, reduceCtorEq, ↓reduceIte, Int.reduceLE, Int.reduceLT, Int.reduceToNat, Int.reduceAdd, Int.reduceSub, Int.reduceEq, Int.reduceNeg, List.append_assoc, cellsCall_def, cellsRule_def, cellsLookup_def, cellsPoint_def, cellsOutline_def, cellsPart_def, cellsAnchor_def, cellsDelta_def, cellsIns_def, cellsGlyph_def, cellsChar_def, cellsFeature_def, cellsAxis_def, cellsTent_def, cellsRegion_def, cellsFont_def, cellsItem_def, cellsText_def, cellsAsk_def, h1, h2, h3]
  have hq : left run.length step (i + step) < left run.length step i := by rw [left_succ hs h2 h3]; omega
  have hn1 : -1 ≤ i + step := by omega
  have hn2 : i + step ≤ run.length := by omega
  rw [left_succ hs h2 h3, walkF, if_pos ⟨h1, h2, h3⟩] at q5
  refine ⟨fun h4 => ?_, fun h4 => ih (i + step, out, gr, gl) ⟨hn1, hn2, q3, q4, by simp only [asT] at h4; rw [if_neg h4] at q5; exact q5⟩ hq⟩
  simp only [asT] at h4
  rw [if_pos h4] at q5
  refine awp_drawT (by kernel_rfl) 12 (by kernel_rfl) ?_
  simp (maxSteps := 2000000) +contextual (disch := first | omega | assumption) only [go_sem, Nat.reduceAdd, Nat.reduceSub, Nat.reduceMul, Nat.reduceLT, Nat.reduceLeDiff, Nat.reduceEqDiff, reduceCtorEq, ↓reduceIte, Int.reduceLE, Int.reduceLT, Int.reduceToNat, Int.reduceAdd, Int.reduceSub, Int.reduceEq, Int.reduceNeg, List.append_assoc, cellsCall_def, cellsRule_def, cellsLookup_def, cellsPoint_def, cellsOutline_def, cellsPart_def, cellsAnchor_def, cellsDelta_def, cellsIns_def, cellsGlyph_def, cellsChar_def, cellsFeature_def, cellsAxis_def, cellsTent_def, cellsRegion_def, cellsFont_def, cellsItem_def, cellsText_def, cellsAsk_def, h1, h2, h3]
  refine callq_pure rfl (In_pure .no (sets.getD out.length default) _ (hw3 _ ?_)) ?_
  · rw [List.getD, List.getElem?_eq_getElem h1]; exact List.getElem_mem h1
  simp (maxSteps := 2000000) +contextual (disch := first | omega | assumption) only [go_sem, Nat.reduceAdd, Nat.reduceSub, Nat.reduceMul, Nat.reduceLT, Nat.reduceLeDiff, Nat.reduceEqDiff, reduceCtorEq, ↓reduceIte, Int.reduceLE, Int.reduceLT, Int.reduceToNat, Int.reduceAdd, Int.reduceSub, Int.reduceEq, Int.reduceNeg, List.append_assoc, cellsCall_def, cellsRule_def, cellsLookup_def, cellsPoint_def, cellsOutline_def, cellsPart_def, cellsAnchor_def, cellsDelta_def, cellsIns_def, cellsGlyph_def, cellsChar_def, cellsFeature_def, cellsAxis_def, cellsTent_def, cellsRegion_def, cellsFont_def, cellsItem_def, cellsText_def, cellsAsk_def, h1, h2, h3]
  refine ⟨fun h5 => ?_, fun h5 => ?_⟩
  · simp only [asT] at h5
    rw [if_pos h5] at q5
    refine append_grow AV.int out [i] (fun _ => rfl) tElem_29 tSize_3 tBytes_3 aZero_3 (by rw [tElem_29]; rfl) rfl (by decide) trivial (by decide) (by simp only [List.length_cons, List.length_nil]; omega) q4 fun gr' gl' g' => ?_
    simp (maxSteps := 2000000) +contextual (disch := first | omega | assumption) only [go_sem, Nat.reduceAdd, Nat.reduceSub, Nat.reduceMul, Nat.reduceLT, Nat.reduceLeDiff, Nat.reduceEqDiff, reduceCtorEq, ↓reduceIte, Int.reduceLE, Int.reduceLT, Int.reduceToNat, Int.reduceAdd, Int.reduceSub, Int.reduceEq, Int.reduceNeg, List.append_assoc, cellsCall_def, cellsRule_def, cellsLookup_def, cellsPoint_def, cellsOutline_def, cellsPart_def, cellsAnchor_def, cellsDelta_def, cellsIns_def, cellsGlyph_def, cellsChar_def, cellsFeature_def, cellsAxis_def, cellsTent_def, cellsRegion_def, cellsFont_def, cellsItem_def, cellsText_def, cellsAsk_def]
    exact ih (i + step, out ++ [i], gr', gl') ⟨hn1, hn2, by simp; omega, g', q5⟩ hq
  · simp only [asT] at h5
    rw [if_neg h5] at q5
    rw [← q5]
    (all_goals first | assumption | omega | exact pureK_gen (by simp only [go_sem, shut, shutL] <;> rfl) (by intros; simp only [go_sem, cl, clL]) rfl rfl | exact pureK_gen0 (by simp only [go_sem, shut, shutL] <;> rfl) (by intros; simp only [go_sem, cl, clL]) | exact pureK_gl (by simp only [go_sem, shut, shutL] <;> rfl) (by intros; simp only [go_sem, cl, clL]) (Grows.ext (by assumption)) rfl | exact pureK_gl0 (by simp only [go_sem, shut, shutL] <;> rfl) (by intros; simp only [go_sem, cl, clL]) (Grows.ext (by assumption)) rfl | exact pureK_sub (by simp only [go_sem, shut, shutL] <;> rfl) (by intros; simp only [go_sem, cl, clL]) (by assumption) | exact pureK_sub (by simp only [go_sem, shut, shutL] <;> rfl) (by intros; simp only [go_sem, cl, clL]) (Sub.more (by assumption) _))
end Go.V
namespace Go.V
open Go Go.Proofs
set_option linter.unusedVariables false
set_option linter.unusedSimpArgs false
set_option maxRecDepth 10000
set_option maxHeartbeats 2000000
theorem walkF_places (f : Font) (l : Lookup) (run : List Item) (sets : List (List Int)) (step : Int) : ∀ (n : Nat) (i : Int) (out : List Int), (∀ x ∈ out, 0 ≤ x ∧ x < run.length) → ∀ x ∈ (walkF f l run sets step n i out).1, 0 ≤ x ∧ x < run.length
  | 0, _, _, h => h
  | n + 1, i, out, h => by
    rw [walkF]
    split
    · rename_i hc
      split
      · split
        · refine walkF_places f l run sets step n _ _ fun x hx => ?_
          rcases List.mem_append.1 hx with hx | hx
          · exact h x hx
          · rw [List.mem_singleton.1 hx]; exact hc.2
        · exact h
      · exact walkF_places f l run sets step n _ _ h
    · exact h
theorem walkF_full (f : Font) (l : Lookup) (run : List Item) (sets : List (List Int)) (step : Int) : ∀ (n : Nat) (i : Int) (out : List Int), (walkF f l run sets step n i out).2 = true → (walkF f l run sets step n i out).1.length = sets.length
  | 0, _, _, h => by simpa [walkF] using h
  | n + 1, i, out, h => by
    rw [walkF] at h ⊢
    split
    · rename_i hc
      rw [if_pos hc] at h
      split
      · rename_i hc2
        rw [if_pos hc2] at h
        split
        · rename_i hc3
          rw [if_pos hc3] at h
          exact walkF_full f l run sets step n _ _ h
        · rename_i hc3
          rw [if_neg hc3] at h; cases h
      · rename_i hc2
        rw [if_neg hc2] at h
        exact walkF_full f l run sets step n _ _ h
    · rename_i hc
      rw [if_neg hc] at h
      simpa using h
theorem walk_places (f : Font) (l : Lookup) (run : List Item) (i step : Int) (sets : List (List Int)) : ∀ x ∈ (walk f l run i step sets).1, 0 ≤ x ∧ x < run.length := walkF_places _ _ _ _ _ _ _ _ (fun x hx => by cases hx)
theorem walk_full {f : Font} {l : Lookup} {run : List Item} {i step : Int} {sets : List (List Int)} (h : (walk f l run i step sets).2 = true) : (walk f l run i step sets).1.length = sets.length := walkF_full _ _ _ _ _ _ _ _ h
theorem getD_mem {l : List Int} {k : Nat} (h : k < l.length) : l.getD k default ∈ l := by
  rw [List.getD, List.getElem?_eq_getElem h]; exact List.getElem_mem h
/-- The places of In, and whether a rule matches. -/
def matchesF (f : Font) (l : Lookup) (r : Rule) (run : List Item) (p : Int) : List Int × Bool :=
  if r.in_.length = 0 then ([], false) else
  if (walk f l run p 1 r.in_).2 = false ∨ ¬(walk f l run p 1 r.in_).1.getD 0 default = p then ([], false) else
  ((walk f l run p 1 r.in_).1, (walk f l run ((walk f l run p 1 r.in_).1.getD ((walk f l run p 1 r.in_).1.length - 1) default + 1) 1 r.ahead).2 && (walk f l run (p - 1) (-1) r.back).2)
theorem matches_pure (f : Font) (l : Lookup) (r : Rule) (run : List Item) (p : Int) (h1 : Walked r.in_ run) (h2 : Walked r.ahead run) (h3 : Walked r.back run) (h4 : 0 ≤ p) (h5 : p < run.length) :
    Pure Try.prog 28 [encFont f, encLookup l, encRule r, rowEItem run, .int p] (.tup [rowEI (matchesF f l r run p).1, .bool (matchesF f l r run p).2]) := by
  have hr := h1.h2
  have hb1 := h1.h1
  refine pure_of (rs := [.tmp 10, .tmp 11]) (m := 68) Try.func28 rfl rfl rfl fun h => ?_
  simp (maxSteps := 2000000) +contextual (disch := first | omega | assumption) only [go_sem, Nat.reduceAdd, Nat.reduceSub, Nat.reduceMul, Nat.reduceLT, Nat.reduceLeDiff, Nat.reduceEqDiff, reduceCtorEq, ↓reduceIte, Int.reduceLE, Int.reduceLT, Int.reduceToNat, Int.reduceAdd, Int.reduceSub, Int.reduceEq, Int.reduceNeg, List.append_assoc, cellsCall_def, cellsRule_def, cellsLookup_def, cellsPoint_def, cellsOutline_def, cellsPart_def, cellsAnchor_def, cellsDelta_def, cellsIns_def, cellsGlyph_def, cellsChar_def, cellsFeature_def, cellsAxis_def, cellsTent_def, cellsRegion_def, cellsFont_def, cellsItem_def, cellsText_def, cellsAsk_def]
  refine ⟨fun h6 => ?_, fun h6 => ?_⟩
  · simp only [asE] at h6
    rw [matchesF, if_pos (by omega)]
    (all_goals first | assumption | omega | exact pureK_gen (by simp only [go_sem, shut, shutL] <;> rfl) (by intros; simp only [go_sem, cl, clL]) rfl rfl | exact pureK_gen0 (by simp only [go_sem, shut, shutL] <;> rfl) (by intros; simp only [go_sem, cl, clL]) | exact pureK_gl (by simp only [go_sem, shut, shutL] <;> rfl) (by intros; simp only [go_sem, cl, clL]) (Grows.ext (by assumption)) rfl | exact pureK_gl0 (by simp only [go_sem, shut, shutL] <;> rfl) (by intros; simp only [go_sem, cl, clL]) (Grows.ext (by assumption)) rfl | exact pureK_sub (by simp only [go_sem, shut, shutL] <;> rfl) (by intros; simp only [go_sem, cl, clL]) (by assumption) | exact pureK_sub (by simp only [go_sem, shut, shutL] <;> rfl) (by intros; simp only [go_sem, cl, clL]) (Sub.more (by assumption) _))
  refine call_pure rfl (walk_pure f l run p 1 r.in_ h1 (.inl rfl) ⟨by omega, by omega⟩) ?_
  simp (maxSteps := 2000000) +contextual (disch := first | omega | assumption) only [go_sem, Nat.reduceAdd, Nat.reduceSub, Nat.reduceMul, Nat.reduceLT, Nat.reduceLeDiff, Nat.reduceEqDiff, reduceCtorEq, ↓reduceIte, Int.reduceLE, Int.reduceLT, Int.reduceToNat, Int.reduceAdd, Int.reduceSub, Int.reduceEq, Int.reduceNeg, List.append_assoc, cellsCall_def, cellsRule_def, cellsLookup_def, cellsPoint_def, cellsOutline_def, cellsPart_def, cellsAnchor_def, cellsDelta_def, cellsIns_def, cellsGlyph_def, cellsChar_def, cellsFeature_def, cellsAxis_def, cellsTent_def, cellsRegion_def, cellsFont_def, cellsItem_def, cellsText_def, cellsAsk_def]
  refine ⟨fun h7 => ?_, fun h7 => ?_⟩
  · have hlen := walk_full h7
    have hpos : 0 < (walk f l run p 1 r.in_).1.length := by
      rcases Nat.eq_zero_or_pos r.in_.length with e | e
      · exact absurd (by rw [e]; rfl) h6
      · omega
    refine ⟨by omega, fun h8 => ?_, fun h8 => ?_⟩
    · refine awp_drawT (by kernel_rfl) 18 (by kernel_rfl) ?_
      have hcast : ((walk f l run p 1 r.in_).1.length : Int) - 1 = (((walk f l run p 1 r.in_).1.length - 1 : Nat) : Int) := by omega
      have hlst := walk_places f l run p 1 r.in_ _ (getD_mem (k := (walk f l run p 1 r.in_).1.length - 1) (by omega))
      simp (maxSteps := 2000000) +contextual (disch := first | omega | assumption) only [go_sem, Nat.reduceAdd, Nat.reduceSub, Nat.reduceMul, Nat.reduceLT, Nat.reduceLeDiff, Nat.reduceEqDiff, reduceCtorEq, ↓reduceIte, Int.reduceLE, Int.reduceLT, Int.reduceToNat, Int.reduceAdd, Int.reduceSub, Int.reduceEq, Int.reduceNeg, List.append_assoc, cellsCall_def, cellsRule_def, cellsLookup_def, cellsPoint_def, cellsOutline_def, cellsPart_def, cellsAnchor_def, cellsDelta_def, cellsIns_def, cellsGlyph_def, cellsChar_def, cellsFeature_def, cellsAxis_def, cellsTent_def, cellsRegion_def, cellsFont_def, cellsItem_def, cellsText_def, cellsAsk_def, hcast]
      refine ⟨by omega, ?_⟩
      refine callq_pure rfl (walk_pure f l run _ 1 r.ahead h2 (.inl rfl) ⟨by omega, by omega⟩) ?_
      simp (maxSteps := 2000000) +contextual (disch := first | omega | assumption) only [go_sem, Nat.reduceAdd, Nat.reduceSub, Nat.reduceMul, Nat.reduceLT, Nat.reduceLeDiff, Nat.reduceEqDiff, reduceCtorEq, ↓reduceIte, Int.reduceLE, Int.reduceLT, Int.reduceToNat, Int.reduceAdd, Int.reduceSub, Int.reduceEq, Int.reduceNeg, List.append_assoc, cellsCall_def, cellsRule_def, cellsLookup_def, cellsPoint_def, cellsOutline_def, cellsPart_def, cellsAnchor_def, cellsDelta_def, cellsIns_def, cellsGlyph_def, cellsChar_def, cellsFeature_def, cellsAxis_def, cellsTent_def, cellsRegion_def, cellsFont_def, cellsItem_def, cellsText_def, cellsAsk_def, hcast]
      refine call_pure rfl (walk_pure f l run _ (-1) r.back h3 (.inr rfl) ⟨by omega, by omega⟩) ?_
      simp (maxSteps := 2000000) +contextual (disch := first | omega | assumption) only [go_sem, Nat.reduceAdd, Nat.reduceSub, Nat.reduceMul, Nat.reduceLT, Nat.reduceLeDiff, Nat.reduceEqDiff, reduceCtorEq, ↓reduceIte, Int.reduceLE, Int.reduceLT, Int.reduceToNat, Int.reduceAdd, Int.reduceSub, Int.reduceEq, Int.reduceNeg, List.append_assoc, cellsCall_def, cellsRule_def, cellsLookup_def, cellsPoint_def, cellsOutline_def, cellsPart_def, cellsAnchor_def, cellsDelta_def, cellsIns_def, cellsGlyph_def, cellsChar_def, cellsFeature_def, cellsAxis_def, cellsTent_def, cellsRegion_def, cellsFont_def, cellsItem_def, cellsText_def, cellsAsk_def]
      simp only [asT, asE] at h7 h8
      have e : matchesF f l r run p = ((walk f l run p 1 r.in_).1, (walk f l run ((walk f l run p 1 r.in_).1.getD ((walk f l run p 1 r.in_).1.length - 1) default + 1) 1 r.ahead).2 && (walk f l run (p - 1) (-1) r.back).2) := by
        rw [matchesF, if_neg (by simp only [asE] at h6; omega), if_neg]
        rintro (h9 | h9)
        · rw [h7] at h9; cases h9
        · exact h9 h8
      rw [e]
      refine ⟨fun h9 => ?_, fun h9 => ?_⟩
      · simp only [asT] at h9
        simp only [h9, Bool.true_and]
        (all_goals first | assumption | omega | exact pureK_gen (by simp only [go_sem, shut, shutL] <;> rfl) (by intros; simp only [go_sem, cl, clL]) rfl rfl | exact pureK_gen0 (by simp only [go_sem, shut, shutL] <;> rfl) (by intros; simp only [go_sem, cl, clL]) | exact pureK_gl (by simp only [go_sem, shut, shutL] <;> rfl) (by intros; simp only [go_sem, cl, clL]) (Grows.ext (by assumption)) rfl | exact pureK_gl0 (by simp only [go_sem, shut, shutL] <;> rfl) (by intros; simp only [go_sem, cl, clL]) (Grows.ext (by assumption)) rfl | exact pureK_sub (by simp only [go_sem, shut, shutL] <;> rfl) (by intros; simp only [go_sem, cl, clL]) (by assumption) | exact pureK_sub (by simp only [go_sem, shut, shutL] <;> rfl) (by intros; simp only [go_sem, cl, clL]) (Sub.more (by assumption) _))
      · simp only [asT, Bool.not_eq_true] at h9
        simp only [h9, Bool.false_and]
        (all_goals first | assumption | omega | exact pureK_gen (by simp only [go_sem, shut, shutL] <;> rfl) (by intros; simp only [go_sem, cl, clL]) rfl rfl | exact pureK_gen0 (by simp only [go_sem, shut, shutL] <;> rfl) (by intros; simp only [go_sem, cl, clL]) | exact pureK_gl (by simp only [go_sem, shut, shutL] <;> rfl) (by intros; simp only [go_sem, cl, clL]) (Grows.ext (by assumption)) rfl | exact pureK_gl0 (by simp only [go_sem, shut, shutL] <;> rfl) (by intros; simp only [go_sem, cl, clL]) (Grows.ext (by assumption)) rfl | exact pureK_sub (by simp only [go_sem, shut, shutL] <;> rfl) (by intros; simp only [go_sem, cl, clL]) (by assumption) | exact pureK_sub (by simp only [go_sem, shut, shutL] <;> rfl) (by intros; simp only [go_sem, cl, clL]) (Sub.more (by assumption) _))
    · simp only [asT, asE] at h7 h8
      rw [matchesF, if_neg (by simp only [asE] at h6; omega), if_pos (.inr h8)]
      (all_goals first | assumption | omega | exact pureK_gen (by simp only [go_sem, shut, shutL] <;> rfl) (by intros; simp only [go_sem, cl, clL]) rfl rfl | exact pureK_gen0 (by simp only [go_sem, shut, shutL] <;> rfl) (by intros; simp only [go_sem, cl, clL]) | exact pureK_gl (by simp only [go_sem, shut, shutL] <;> rfl) (by intros; simp only [go_sem, cl, clL]) (Grows.ext (by assumption)) rfl | exact pureK_gl0 (by simp only [go_sem, shut, shutL] <;> rfl) (by intros; simp only [go_sem, cl, clL]) (Grows.ext (by assumption)) rfl | exact pureK_sub (by simp only [go_sem, shut, shutL] <;> rfl) (by intros; simp only [go_sem, cl, clL]) (by assumption) | exact pureK_sub (by simp only [go_sem, shut, shutL] <;> rfl) (by intros; simp only [go_sem, cl, clL]) (Sub.more (by assumption) _))
  · simp only [asT] at h7
    rw [matchesF, if_neg (by simp only [asE] at h6; omega), if_pos (.inl (by simpa using h7))]
    (all_goals first | assumption | omega | exact pureK_gen (by simp only [go_sem, shut, shutL] <;> rfl) (by intros; simp only [go_sem, cl, clL]) rfl rfl | exact pureK_gen0 (by simp only [go_sem, shut, shutL] <;> rfl) (by intros; simp only [go_sem, cl, clL]) | exact pureK_gl (by simp only [go_sem, shut, shutL] <;> rfl) (by intros; simp only [go_sem, cl, clL]) (Grows.ext (by assumption)) rfl | exact pureK_gl0 (by simp only [go_sem, shut, shutL] <;> rfl) (by intros; simp only [go_sem, cl, clL]) (Grows.ext (by assumption)) rfl | exact pureK_sub (by simp only [go_sem, shut, shutL] <;> rfl) (by intros; simp only [go_sem, cl, clL]) (by assumption) | exact pureK_sub (by simp only [go_sem, shut, shutL] <;> rfl) (by intros; simp only [go_sem, cl, clL]) (Sub.more (by assumption) _))
structure RuleOk (run : List Item) (r : Rule) : Prop where
  h1 : Walked r.in_ run
  h2 : Walked r.ahead run
  h3 : Walked r.back run
structure FontOk (f : Font) (run : List Item) : Prop where
  h1 : f.lookups.length ≤ 17592186044416
  h2 : ∀ l ∈ f.lookups, l.rules.length ≤ 17592186044416 ∧ ∀ r ∈ l.rules, RuleOk run r
/-- The first rule that matches, from one on. -/
def matchFrom (f : Font) (l : Lookup) (run : List Item) (p : Int) : Nat → Nat → Int × List Int
  | 0, _ => (-1, [])
  | n + 1, k => if (matchesF f l (l.rules.getD k default) run p).2 then ((k : Int), (matchesF f l (l.rules.getD k default) run p).1) else matchFrom f l run p n (k + 1)
def matchF (f : Font) (n : Int) (run : List Item) (p : Int) (forms : List Int) : Int × List Int :=
  if begins f n run p forms then matchFrom f (f.lookups.getD n.toNat default) run p (f.lookups.getD n.toNat default).rules.length 0 else (-1, [])
theorem getD_memA {α : Type} [Inhabited α] {l : List α} {k : Nat} (h : k < l.length) : l.getD k default ∈ l := by
  rw [List.getD, List.getElem?_eq_getElem h]; exact List.getElem_mem h
theorem Match_pure (f : Font) (n : Int) (run : List Item) (p : Int) (forms : List Int) (hf : FontOk f run) (hl : forms.length ≤ 9223372036854775806) :
    Pure Try.prog 16 [encFont f, .int n, rowEItem run, .int p, rowEI forms] (.tup [.int (matchF f n run p forms).1, rowEI (matchF f n run p forms).2]) := by
  refine pure_of (rs := [.tmp 10, .tmp 11]) (m := 46) Try.func16 rfl rfl rfl fun h => ?_
  simp (maxSteps := 2000000) +contextual (disch := first | omega | assumption) only [go_sem, Nat.reduceAdd, Nat.reduceSub, Nat.reduceMul, Nat.reduceLT, Nat.reduceLeDiff, Nat.reduceEqDiff, reduceCtorEq, ↓reduceIte, Int.reduceLE, Int.reduceLT, Int.reduceToNat, Int.reduceAdd, Int.reduceSub, Int.reduceEq, Int.reduceNeg, List.append_assoc, cellsCall_def, cellsRule_def, cellsLookup_def, cellsPoint_def, cellsOutline_def, cellsPart_def, cellsAnchor_def, cellsDelta_def, cellsIns_def, cellsGlyph_def, cellsChar_def, cellsFeature_def, cellsAxis_def, cellsTent_def, cellsRegion_def, cellsFont_def, cellsItem_def, cellsText_def, cellsAsk_def]
  refine call_pure rfl (begins_pure f n run p forms hl) ?_
  simp (maxSteps := 2000000) +contextual (disch := first | omega | assumption) only [go_sem, Nat.reduceAdd, Nat.reduceSub, Nat.reduceMul, Nat.reduceLT, Nat.reduceLeDiff, Nat.reduceEqDiff, reduceCtorEq, ↓reduceIte, Int.reduceLE, Int.reduceLT, Int.reduceToNat, Int.reduceAdd, Int.reduceSub, Int.reduceEq, Int.reduceNeg, List.append_assoc, cellsCall_def, cellsRule_def, cellsLookup_def, cellsPoint_def, cellsOutline_def, cellsPart_def, cellsAnchor_def, cellsDelta_def, cellsIns_def, cellsGlyph_def, cellsChar_def, cellsFeature_def, cellsAxis_def, cellsTent_def, cellsRegion_def, cellsFont_def, cellsItem_def, cellsText_def, cellsAsk_def]
  refine ⟨fun h1 => ?_, fun h1 => ?_⟩
  · have h2 := h1
    simp only [asT, begins, Bool.and_eq_true, decide_eq_true_eq] at h2
    obtain ⟨⟨⟨⟨⟨g1, g2⟩, g3⟩, g4⟩, g5⟩, g6⟩ := h2
    refine ⟨g1, g2, ?_⟩
    obtain ⟨hr1, hr2⟩ := hf.h2 _ (getD_memA (k := n.toNat) (l := f.lookups) (by omega))
    have e1 : matchF f n run p forms = matchFrom f (f.lookups.getD n.toNat default) run p (f.lookups.getD n.toNat default).rules.length 0 := by rw [matchF, if_pos (asT_t h1)]
    rw [e1]
    generalize f.lookups.getD n.toNat default = l at *
    refine loop2 [14,15,16,17,18,19,20,21,22,23,24,25,26,27,28,29,30,31,32,33,34,35,36,37,38,39,40,41,42,43,44,45,46,47,48,49,50] (fun k : Nat => k ≤ l.rules.length ∧ matchFrom f l run p (l.rules.length - k) k = matchFrom f l run p l.rules.length 0) (fun k => l.rules.length - k)
      (fun k => [encFont f, .int n, rowEItem run, .int p, rowEI forms, .ptr h.bx.length 0, .any, .any, .any, .any, .int 0, .row .full [], .ptr (h.bx.length + 1) 0, .int k, .any, .any, .any, .any, .any, .any, .any, .any, .any, .any, .any, .any, .any, .any, .any, .any, .any, .any, .any, .any, .any, .any, .any, .any, .any, .any, .any, .any, .any, .any, .any, .any, .any, .any, .any, .any, .any])
      (fun k => { bx := h.bx ++ [cellsFont f, cellsLookup l], gl := h.gl, lp := h.lp }) 0 ⟨by omega, rfl⟩ (by simp only [forget, List.foldl_cons, List.foldl_nil, set8, List.set_cons_succ, List.set_cons_zero] <;> rfl) rfl ?_
    rintro L k ⟨hk, hc⟩ ih
    simp (maxSteps := 2000000) +contextual (disch := first | omega | assumption) only [go_sem, Nat.reduceAdd, Nat.reduceSub, Nat.reduceMul, Nat.reduceLT, Nat.reduceLeDiff, Nat.reduceEqDiff, reduceCtorEq, ↓reduceIte, Int.reduceLE, Int.reduceLT, Int.reduceToNat, Int.reduceAdd, Int.reduceSub, Int.reduceEq, Int.reduceNeg, List.append_assoc, cellsCall_def, cellsRule_def, cellsLookup_def, cellsPoint_def, cellsOutline_def, cellsPart_def, cellsAnchor_def, cellsDelta_def, cellsIns_def, cellsGlyph_def, cellsChar_def, cellsFeature_def, cellsAxis_def, cellsTent_def, cellsRegion_def, cellsFont_def, cellsItem_def, cellsText_def, cellsAsk_def]
    refine ⟨fun hlt => ?_, fun hge => ?_⟩
    · refine awp_drawT (by kernel_rfl) 15 (by kernel_rfl) ?_
      simp (maxSteps := 2000000) +contextual (disch := first | omega | assumption) only [go_sem, Nat.reduceAdd, Nat.reduceSub, Nat.reduceMul, Nat.reduceLT, Nat.reduceLeDiff, Nat.reduceEqDiff, reduceCtorEq, ↓reduceIte, Int.reduceLE, Int.reduceLT, Int.reduceToNat, Int.reduceAdd, Int.reduceSub, Int.reduceEq, Int.reduceNeg, List.append_assoc, cellsCall_def, cellsRule_def, cellsLookup_def, cellsPoint_def, cellsOutline_def, cellsPart_def, cellsAnchor_def, cellsDelta_def, cellsIns_def, cellsGlyph_def, cellsChar_def, cellsFeature_def, cellsAxis_def, cellsTent_def, cellsRegion_def, cellsFont_def, cellsItem_def, cellsText_def, cellsAsk_def, hlt]
      obtain ⟨w1, w2, w3⟩ := hr2 _ (getD_memA hlt)
      refine callq_pure rfl (matches_pure f l (l.rules.getD k default) run p w1 w2 w3 g3 g4) ?_
      simp (maxSteps := 2000000) +contextual (disch := first | omega | assumption) only [go_sem, Nat.reduceAdd, Nat.reduceSub, Nat.reduceMul, Nat.reduceLT, Nat.reduceLeDiff, Nat.reduceEqDiff, reduceCtorEq, ↓reduceIte, Int.reduceLE, Int.reduceLT, Int.reduceToNat, Int.reduceAdd, Int.reduceSub, Int.reduceEq, Int.reduceNeg, List.append_assoc, cellsCall_def, cellsRule_def, cellsLookup_def, cellsPoint_def, cellsOutline_def, cellsPart_def, cellsAnchor_def, cellsDelta_def, cellsIns_def, cellsGlyph_def, cellsChar_def, cellsFeature_def, cellsAxis_def, cellsTent_def, cellsRegion_def, cellsFont_def, cellsItem_def, cellsText_def, cellsAsk_def]
      rw [show l.rules.length - k = (l.rules.length - (k + 1)) + 1 by omega, matchFrom] at hc
      refine ⟨fun h2 => ?_, fun h2 => ?_⟩
      · rw [if_pos (asT_t h2)] at hc
        rw [← hc]
        (all_goals first | assumption | omega | exact pureK_gen (by simp only [go_sem, shut, shutL] <;> rfl) (by intros; simp only [go_sem, cl, clL]) rfl rfl | exact pureK_gen0 (by simp only [go_sem, shut, shutL] <;> rfl) (by intros; simp only [go_sem, cl, clL]) | exact pureK_gl (by simp only [go_sem, shut, shutL] <;> rfl) (by intros; simp only [go_sem, cl, clL]) (Grows.ext (by assumption)) rfl | exact pureK_gl0 (by simp only [go_sem, shut, shutL] <;> rfl) (by intros; simp only [go_sem, cl, clL]) (Grows.ext (by assumption)) rfl | exact pureK_sub (by simp only [go_sem, shut, shutL] <;> rfl) (by intros; simp only [go_sem, cl, clL]) (by assumption) | exact pureK_sub (by simp only [go_sem, shut, shutL] <;> rfl) (by intros; simp only [go_sem, cl, clL]) (Sub.more (by assumption) _))
      · rw [if_neg (asT_f h2)] at hc
        exact ih (k + 1) ⟨by omega, hc⟩ (by omega)
    · rw [show l.rules.length - k = 0 by omega, matchFrom] at hc
      rw [← hc]
      (all_goals first | assumption | omega | exact pureK_gen (by simp only [go_sem, shut, shutL] <;> rfl) (by intros; simp only [go_sem, cl, clL]) rfl rfl | exact pureK_gen0 (by simp only [go_sem, shut, shutL] <;> rfl) (by intros; simp only [go_sem, cl, clL]) | exact pureK_gl (by simp only [go_sem, shut, shutL] <;> rfl) (by intros; simp only [go_sem, cl, clL]) (Grows.ext (by assumption)) rfl | exact pureK_gl0 (by simp only [go_sem, shut, shutL] <;> rfl) (by intros; simp only [go_sem, cl, clL]) (Grows.ext (by assumption)) rfl | exact pureK_sub (by simp only [go_sem, shut, shutL] <;> rfl) (by intros; simp only [go_sem, cl, clL]) (by assumption) | exact pureK_sub (by simp only [go_sem, shut, shutL] <;> rfl) (by intros; simp only [go_sem, cl, clL]) (Sub.more (by assumption) _))
  · rw [matchF, if_neg (asT_f h1)]
    (all_goals first | assumption | omega | exact pureK_gen (by simp only [go_sem, shut, shutL] <;> rfl) (by intros; simp only [go_sem, cl, clL]) rfl rfl | exact pureK_gen0 (by simp only [go_sem, shut, shutL] <;> rfl) (by intros; simp only [go_sem, cl, clL]) | exact pureK_gl (by simp only [go_sem, shut, shutL] <;> rfl) (by intros; simp only [go_sem, cl, clL]) (Grows.ext (by assumption)) rfl | exact pureK_gl0 (by simp only [go_sem, shut, shutL] <;> rfl) (by intros; simp only [go_sem, cl, clL]) (Grows.ext (by assumption)) rfl | exact pureK_sub (by simp only [go_sem, shut, shutL] <;> rfl) (by intros; simp only [go_sem, cl, clL]) (by assumption) | exact pureK_sub (by simp only [go_sem, shut, shutL] <;> rfl) (by intros; simp only [go_sem, cl, clL]) (Sub.more (by assumption) _))
end Go.V
namespace Go.V
open Go Go.Proofs
set_option linter.unusedVariables false
set_option linter.unusedSimpArgs false
set_option maxRecDepth 10000
set_option maxHeartbeats 2000000
/-- The place of the n-th item that is seen, from a place on. -/
def nthF (f : Font) (l : Lookup) (run : List Item) : Nat → Nat → Int → Int
  | 0, _, _ => -1
  | m + 1, i, n => if isSeen f l (run.getD i default) then (if n = 0 then (i : Int) else nthF f l run m (i + 1) (n - 1)) else nthF f l run m (i + 1) n
def nth (f : Font) (l : Lookup) (run : List Item) (p : Nat) (n : Int) : Int := if n < 0 then -1 else nthF f l run (run.length - p) p n
theorem nth_pure (f : Font) (l : Lookup) (run : List Item) (p : Nat) (n : Int) (hn : n ≤ 9223372036854775807) (hr : run.length ≤ 9223372036854775806) (hp : p ≤ 9223372036854775807) : Pure Try.prog 50 [encFont f, encLookup l, rowEItem run, .int p, .int n] (.int (nth f l run p n)) := by
  refine pure_of (rs := [.tmp 10]) (m := 28) Try.func50 rfl rfl rfl fun h => ?_
  simp (maxSteps := 2000000) +contextual (disch := first | omega | assumption) only [go_sem, Nat.reduceAdd, Nat.reduceSub, Nat.reduceMul, Nat.reduceLT, Nat.reduceLeDiff, Nat.reduceEqDiff, reduceCtorEq, ↓reduceIte, Int.reduceLE, Int.reduceLT, Int.reduceToNat, Int.reduceAdd, Int.reduceSub, Int.reduceEq, Int.reduceNeg, List.append_assoc, cellsCall_def, cellsRule_def, cellsLookup_def, cellsPoint_def, cellsOutline_def, cellsPart_def, cellsAnchor_def, cellsDelta_def, cellsIns_def, cellsGlyph_def, cellsChar_def, cellsFeature_def, cellsAxis_def, cellsTent_def, cellsRegion_def, cellsFont_def, cellsItem_def, cellsText_def, cellsAsk_def]
  refine ⟨fun h1 => ?_, fun h1 => ?_⟩
  · rw [nth, if_pos h1]
    (all_goals first | assumption | omega | exact pureK_gen (by simp only [go_sem, shut, shutL] <;> rfl) (by intros; simp only [go_sem, cl, clL]) rfl rfl | exact pureK_gen0 (by simp only [go_sem, shut, shutL] <;> rfl) (by intros; simp only [go_sem, cl, clL]) | exact pureK_gl (by simp only [go_sem, shut, shutL] <;> rfl) (by intros; simp only [go_sem, cl, clL]) (Grows.ext (by assumption)) rfl | exact pureK_gl0 (by simp only [go_sem, shut, shutL] <;> rfl) (by intros; simp only [go_sem, cl, clL]) (Grows.ext (by assumption)) rfl | exact pureK_sub (by simp only [go_sem, shut, shutL] <;> rfl) (by intros; simp only [go_sem, cl, clL]) (by assumption) | exact pureK_sub (by simp only [go_sem, shut, shutL] <;> rfl) (by intros; simp only [go_sem, cl, clL]) (Sub.more (by assumption) _))
  refine loop2 (ι := Nat × Int) [12,13,14,15,16,17,18,19,20,21,22,23,24,25,26,27,28,29,30,31,32] (fun x => (x.1 ≤ run.length ∨ x.1 = p) ∧ 0 ≤ x.2 ∧ x.2 ≤ n ∧ nthF f l run (run.length - x.1) x.1 x.2 = nth f l run p n) (fun x => run.length - x.1)
    (fun x => [encFont f, encLookup l, rowEItem run, .int p, .int x.2, .ptr h.bx.length 0, .ptr (h.bx.length + 1) 0, .any, .any, .any, .int 0, .int x.1, .any, .any, .any, .any, .any, .any, .any, .any, .any, .any, .any, .any, .any, .any, .any, .any, .any, .any, .any, .any, .any])
    (fun x => { bx := h.bx ++ [cellsFont f, cellsLookup l], gl := h.gl, lp := h.lp }) (p, n) ⟨.inr rfl, by omega, by omega, by rw [nth, if_neg h1]⟩ (by simp only [forget, List.foldl_cons, List.foldl_nil, set8, List.set_cons_succ, List.set_cons_zero] <;> rfl) rfl ?_
  rintro L ⟨i, m⟩ ⟨q1, q2, q3, q4⟩ ih
  simp only at q1 q2 q3 q4
  simp (maxSteps := 2000000) +contextual (disch := first | omega | assumption) only [go_sem, Nat.reduceAdd, Nat.reduceSub, Nat.reduceMul, Nat.reduceLT, Nat.reduceLeDiff, Nat.reduceEqDiff, reduceCtorEq, ↓reduceIte, Int.reduceLE, Int.reduceLT, Int.reduceToNat, Int.reduceAdd, Int.reduceSub, Int.reduceEq, Int.reduceNeg, List.append_assoc, cellsCall_def, cellsRule_def, cellsLookup_def, cellsPoint_def, cellsOutline_def, cellsPart_def, cellsAnchor_def, cellsDelta_def, cellsIns_def, cellsGlyph_def, cellsChar_def, cellsFeature_def, cellsAxis_def, cellsTent_def, cellsRegion_def, cellsFont_def, cellsItem_def, cellsText_def, cellsAsk_def]
  refine ⟨fun hlt => ?_, fun hge => ?_⟩
  · refine awp_drawT (by kernel_rfl) 7 (by kernel_rfl) ?_
    simp (maxSteps := 2000000) +contextual (disch := first | omega | assumption) only [go_sem, Nat.reduceAdd, Nat.reduceSub, Nat.reduceMul, Nat.reduceLT, Nat.reduceLeDiff, Nat.reduceEqDiff, reduceCtorEq, ↓reduceIte, Int.reduceLE, Int.reduceLT, Int.reduceToNat, Int.reduceAdd, Int.reduceSub, Int.reduceEq, Int.reduceNeg, List.append_assoc, cellsCall_def, cellsRule_def, cellsLookup_def, cellsPoint_def, cellsOutline_def, cellsPart_def, cellsAnchor_def, cellsDelta_def, cellsIns_def, cellsGlyph_def, cellsChar_def, cellsFeature_def, cellsAxis_def, cellsTent_def, cellsRegion_def, cellsFont_def, cellsItem_def, cellsText_def, cellsAsk_def, hlt]
    refine callq_pure rfl (seen_pure f l _) ?_
    simp (maxSteps := 2000000) +contextual (disch := first | omega | assumption) only [go_sem, Nat.reduceAdd, Nat.reduceSub, Nat.reduceMul, Nat.reduceLT, Nat.reduceLeDiff, Nat.reduceEqDiff, reduceCtorEq, ↓reduceIte, Int.reduceLE, Int.reduceLT, Int.reduceToNat, Int.reduceAdd, Int.reduceSub, Int.reduceEq, Int.reduceNeg, List.append_assoc, cellsCall_def, cellsRule_def, cellsLookup_def, cellsPoint_def, cellsOutline_def, cellsPart_def, cellsAnchor_def, cellsDelta_def, cellsIns_def, cellsGlyph_def, cellsChar_def, cellsFeature_def, cellsAxis_def, cellsTent_def, cellsRegion_def, cellsFont_def, cellsItem_def, cellsText_def, cellsAsk_def]
    rw [show run.length - i = (run.length - (i + 1)) + 1 by omega, nthF] at q4
    refine ⟨fun h2 => ⟨fun h3 => ?_, fun h3 => ?_⟩, fun h2 => ?_⟩
    · rw [if_pos (asT_t h2), if_pos (asE_t h3)] at q4
      rw [← q4]
      (all_goals first | assumption | omega | exact pureK_gen (by simp only [go_sem, shut, shutL] <;> rfl) (by intros; simp only [go_sem, cl, clL]) rfl rfl | exact pureK_gen0 (by simp only [go_sem, shut, shutL] <;> rfl) (by intros; simp only [go_sem, cl, clL]) | exact pureK_gl (by simp only [go_sem, shut, shutL] <;> rfl) (by intros; simp only [go_sem, cl, clL]) (Grows.ext (by assumption)) rfl | exact pureK_gl0 (by simp only [go_sem, shut, shutL] <;> rfl) (by intros; simp only [go_sem, cl, clL]) (Grows.ext (by assumption)) rfl | exact pureK_sub (by simp only [go_sem, shut, shutL] <;> rfl) (by intros; simp only [go_sem, cl, clL]) (by assumption) | exact pureK_sub (by simp only [go_sem, shut, shutL] <;> rfl) (by intros; simp only [go_sem, cl, clL]) (Sub.more (by assumption) _))
    · rw [if_pos (asT_t h2), if_neg (asE_f h3)] at q4
      have := asE_f h3
      exact ih (i + 1, m - 1) ⟨by simp only; omega, by simp only; omega, by simp only; omega, q4⟩ (by simp only; omega)
    · rw [if_neg (asT_f h2)] at q4
      exact ih (i + 1, m) ⟨by simp only; omega, q2, q3, q4⟩ (by simp only; omega)
  · rw [show run.length - i = 0 by omega, nthF] at q4
    rw [← q4]
    (all_goals first | assumption | omega | exact pureK_gen (by simp only [go_sem, shut, shutL] <;> rfl) (by intros; simp only [go_sem, cl, clL]) rfl rfl | exact pureK_gen0 (by simp only [go_sem, shut, shutL] <;> rfl) (by intros; simp only [go_sem, cl, clL]) | exact pureK_gl (by simp only [go_sem, shut, shutL] <;> rfl) (by intros; simp only [go_sem, cl, clL]) (Grows.ext (by assumption)) rfl | exact pureK_gl0 (by simp only [go_sem, shut, shutL] <;> rfl) (by intros; simp only [go_sem, cl, clL]) (Grows.ext (by assumption)) rfl | exact pureK_sub (by simp only [go_sem, shut, shutL] <;> rfl) (by intros; simp only [go_sem, cl, clL]) (by assumption) | exact pureK_sub (by simp only [go_sem, shut, shutL] <;> rfl) (by intros; simp only [go_sem, cl, clL]) (Sub.more (by assumption) _))
/-- The glyph that a rule has for one. -/
def otherF (r : Rule) (g : Int) : Nat → Nat → Int × Bool
  | 0, _ => (0, false)
  | m + 1, i => if i < (r.in_.getD 0 default).length ∧ i < r.out.length then (if (r.in_.getD 0 default).getD i default = g then (r.out.getD i default, true) else otherF r g m (i + 1)) else (0, false)
def other (r : Rule) (g : Int) : Int × Bool := otherF r g r.out.length 0
theorem other_pure (r : Rule) (g : Int) (h1 : 0 < r.in_.length) (h2 : (r.in_.getD 0 default).length ≤ 9223372036854775806) : Pure Try.prog 47 [encRule r, .int g] (.tup [.int (other r g).1, .bool (other r g).2]) := by
  refine pure_of (rs := [.tmp 4, .tmp 5]) (m := 35) Try.func47 rfl rfl rfl fun h => ?_
  simp (maxSteps := 2000000) +contextual (disch := first | omega | assumption) only [go_sem, Nat.reduceAdd, Nat.reduceSub, Nat.reduceMul, Nat.reduceLT, Nat.reduceLeDiff, Nat.reduceEqDiff, reduceCtorEq, ↓reduceIte, Int.reduceLE, Int.reduceLT, Int.reduceToNat, Int.reduceAdd, Int.reduceSub, Int.reduceEq, Int.reduceNeg, List.append_assoc, cellsCall_def, cellsRule_def, cellsLookup_def, cellsPoint_def, cellsOutline_def, cellsPart_def, cellsAnchor_def, cellsDelta_def, cellsIns_def, cellsGlyph_def, cellsChar_def, cellsFeature_def, cellsAxis_def, cellsTent_def, cellsRegion_def, cellsFont_def, cellsItem_def, cellsText_def, cellsAsk_def]
  refine loop2 [7,8,9,10,11,12,13,14,15,16,17,18,19,20,21,22,23,24,25,26,27,28,29,30,31,32,33,34,35,36] (fun i : Nat => i ≤ r.out.length ∧ i ≤ (r.in_.getD 0 default).length ∧ otherF r g (r.out.length - i) i = other r g) (fun i => r.out.length - i)
    (fun i => [encRule r, .int g, .ptr h.bx.length 0, .any, .int 0, .bool false, .int i, .any, .any, .any, .any, .any, .any, .any, .any, .any, .any, .any, .any, .any, .any, .any, .any, .any, .any, .any, .any, .any, .any, .any, .any, .any, .any, .any, .any, .any, .any])
    (fun i => { bx := h.bx ++ [cellsRule r], gl := h.gl, lp := h.lp }) 0 ⟨by omega, by omega, rfl⟩ (by simp only [forget, List.foldl_cons, List.foldl_nil, set8, List.set_cons_succ, List.set_cons_zero] <;> rfl) rfl ?_
  rintro L i ⟨q1, q2, q3⟩ ih
  have h1' : (0 : Int) < r.in_.length := by omega
  simp (maxSteps := 2000000) +contextual (disch := first | omega | assumption) only [go_sem, Nat.reduceAdd, Nat.reduceSub, Nat.reduceMul, Nat.reduceLT, Nat.reduceLeDiff, Nat.reduceEqDiff, reduceCtorEq, ↓reduceIte, Int.reduceLE, Int.reduceLT, Int.reduceToNat, Int.reduceAdd, Int.reduceSub, Int.reduceEq, Int.reduceNeg, List.append_assoc, cellsCall_def, cellsRule_def, cellsLookup_def, cellsPoint_def, cellsOutline_def, cellsPart_def, cellsAnchor_def, cellsDelta_def, cellsIns_def, cellsGlyph_def, cellsChar_def, cellsFeature_def, cellsAxis_def, cellsTent_def, cellsRegion_def, cellsFont_def, cellsItem_def, cellsText_def, cellsAsk_def, h1']
  refine ⟨fun g1 => ⟨fun g2 => ?_, fun g2 => ?_⟩, fun g1 => ?_⟩
  · rw [show r.out.length - i = (r.out.length - (i + 1)) + 1 by omega, otherF, if_pos ⟨g1, g2⟩] at q3
    refine ⟨fun g3 => ?_, fun g3 => ?_⟩
    · rw [if_pos (asE_t g3)] at q3
      rw [← q3]
      (all_goals first | assumption | omega | exact pureK_gen (by simp only [go_sem, shut, shutL] <;> rfl) (by intros; simp only [go_sem, cl, clL]) rfl rfl | exact pureK_gen0 (by simp only [go_sem, shut, shutL] <;> rfl) (by intros; simp only [go_sem, cl, clL]) | exact pureK_gl (by simp only [go_sem, shut, shutL] <;> rfl) (by intros; simp only [go_sem, cl, clL]) (Grows.ext (by assumption)) rfl | exact pureK_gl0 (by simp only [go_sem, shut, shutL] <;> rfl) (by intros; simp only [go_sem, cl, clL]) (Grows.ext (by assumption)) rfl | exact pureK_sub (by simp only [go_sem, shut, shutL] <;> rfl) (by intros; simp only [go_sem, cl, clL]) (by assumption) | exact pureK_sub (by simp only [go_sem, shut, shutL] <;> rfl) (by intros; simp only [go_sem, cl, clL]) (Sub.more (by assumption) _))
    · rw [if_neg (asE_f g3)] at q3
      exact ih (i + 1) ⟨by omega, by omega, q3⟩ (by omega)
  · have e : otherF r g (r.out.length - i) i = (0, false) := by
      cases r.out.length - i with
      | zero => rfl
      | succ m => rw [otherF, if_neg (by omega)]
    rw [← q3, e]
    (all_goals first | assumption | omega | exact pureK_gen (by simp only [go_sem, shut, shutL] <;> rfl) (by intros; simp only [go_sem, cl, clL]) rfl rfl | exact pureK_gen0 (by simp only [go_sem, shut, shutL] <;> rfl) (by intros; simp only [go_sem, cl, clL]) | exact pureK_gl (by simp only [go_sem, shut, shutL] <;> rfl) (by intros; simp only [go_sem, cl, clL]) (Grows.ext (by assumption)) rfl | exact pureK_gl0 (by simp only [go_sem, shut, shutL] <;> rfl) (by intros; simp only [go_sem, cl, clL]) (Grows.ext (by assumption)) rfl | exact pureK_sub (by simp only [go_sem, shut, shutL] <;> rfl) (by intros; simp only [go_sem, cl, clL]) (by assumption) | exact pureK_sub (by simp only [go_sem, shut, shutL] <;> rfl) (by intros; simp only [go_sem, cl, clL]) (Sub.more (by assumption) _))
  · have e : otherF r g (r.out.length - i) i = (0, false) := by
      cases r.out.length - i with
      | zero => rfl
      | succ m => rw [otherF, if_neg (by omega)]
    rw [← q3, e]
    (all_goals first | assumption | omega | exact pureK_gen (by simp only [go_sem, shut, shutL] <;> rfl) (by intros; simp only [go_sem, cl, clL]) rfl rfl | exact pureK_gen0 (by simp only [go_sem, shut, shutL] <;> rfl) (by intros; simp only [go_sem, cl, clL]) | exact pureK_gl (by simp only [go_sem, shut, shutL] <;> rfl) (by intros; simp only [go_sem, cl, clL]) (Grows.ext (by assumption)) rfl | exact pureK_gl0 (by simp only [go_sem, shut, shutL] <;> rfl) (by intros; simp only [go_sem, cl, clL]) (Grows.ext (by assumption)) rfl | exact pureK_sub (by simp only [go_sem, shut, shutL] <;> rfl) (by intros; simp only [go_sem, cl, clL]) (by assumption) | exact pureK_sub (by simp only [go_sem, shut, shutL] <;> rfl) (by intros; simp only [go_sem, cl, clL]) (Sub.more (by assumption) _))
end Go.V
namespace Go.V
open Go Go.Proofs
set_option linter.unusedVariables false
set_option linter.unusedSimpArgs false
set_option maxRecDepth 10000
set_option maxHeartbeats 2000000
/-- A run with items taken out, and others there. -/
def cutF (run : List Item) (a b : Nat) (l : List Item) : List Item := run.take a ++ l ++ run.drop b
theorem cut_pure (run : List Item) (a b : Nat) (l : List Item) (h1 : run.length ≤ 1048576) (h2 : l.length ≤ 1048576) (ha : a ≤ run.length) (hb : b ≤ run.length) : Pure Try.prog 48 [rowEItem run, .int a, .int b, rowEItem l] (rowEItem (cutF run a b l)) := by
  refine pure_of (rs := [.tmp 8]) (m := 20) Try.func48 rfl rfl rfl fun h => ?_
  simp (maxSteps := 2000000) +contextual (disch := first | omega | assumption) only [go_sem, Nat.reduceAdd, Nat.reduceSub, Nat.reduceMul, Nat.reduceLT, Nat.reduceLeDiff, Nat.reduceEqDiff, reduceCtorEq, ↓reduceIte, Int.reduceLE, Int.reduceLT, Int.reduceToNat, Int.reduceAdd, Int.reduceSub, Int.reduceEq, Int.reduceNeg, List.append_assoc, cellsCall_def, cellsRule_def, cellsLookup_def, cellsPoint_def, cellsOutline_def, cellsPart_def, cellsAnchor_def, cellsDelta_def, cellsIns_def, cellsGlyph_def, cellsChar_def, cellsFeature_def, cellsAxis_def, cellsTent_def, cellsRegion_def, cellsFont_def, cellsItem_def, cellsText_def, cellsAsk_def]
  refine slice_to encItem run (fun _ => rfl) tElem_32 tSize_51 trivial (by omega) (by omega) ?_
  simp (maxSteps := 2000000) +contextual (disch := first | omega | assumption) only [go_sem, Nat.reduceAdd, Nat.reduceSub, Nat.reduceMul, Nat.reduceLT, Nat.reduceLeDiff, Nat.reduceEqDiff, reduceCtorEq, ↓reduceIte, Int.reduceLE, Int.reduceLT, Int.reduceToNat, Int.reduceAdd, Int.reduceSub, Int.reduceEq, Int.reduceNeg, List.append_assoc, cellsCall_def, cellsRule_def, cellsLookup_def, cellsPoint_def, cellsOutline_def, cellsPart_def, cellsAnchor_def, cellsDelta_def, cellsIns_def, cellsGlyph_def, cellsChar_def, cellsFeature_def, cellsAxis_def, cellsTent_def, cellsRegion_def, cellsFont_def, cellsItem_def, cellsText_def, cellsAsk_def]
  refine append_grow (g2 := .no) encItem [] (run.take a) (fun _ => rfl) tElem_32 tSize_51 tBytes_51 aZero_51 (by rw [tElem_32]; rfl) rfl (by decide) trivial (by decide) (by simp only [List.length_take, List.length_nil]; omega) (grows_new _ _) fun gr gl hg => ?_
  simp (maxSteps := 2000000) +contextual (disch := first | omega | assumption) only [go_sem, Nat.reduceAdd, Nat.reduceSub, Nat.reduceMul, Nat.reduceLT, Nat.reduceLeDiff, Nat.reduceEqDiff, reduceCtorEq, ↓reduceIte, Int.reduceLE, Int.reduceLT, Int.reduceToNat, Int.reduceAdd, Int.reduceSub, Int.reduceEq, Int.reduceNeg, cellsCall_def, cellsRule_def, cellsLookup_def, cellsPoint_def, cellsOutline_def, cellsPart_def, cellsAnchor_def, cellsDelta_def, cellsIns_def, cellsGlyph_def, cellsChar_def, cellsFeature_def, cellsAxis_def, cellsTent_def, cellsRegion_def, cellsFont_def, cellsItem_def, cellsText_def, cellsAsk_def]
  refine append_grow (g2 := .no) encItem (run.take a) l (fun _ => rfl) tElem_32 tSize_51 tBytes_51 aZero_51 (by rw [tElem_32]; rfl) rfl (by decide) trivial (by decide) (by simp only [List.length_take, List.length_append, List.length_nil]; omega) hg fun gr gl hg => ?_
  simp (maxSteps := 2000000) +contextual (disch := first | omega | assumption) only [go_sem, Nat.reduceAdd, Nat.reduceSub, Nat.reduceMul, Nat.reduceLT, Nat.reduceLeDiff, Nat.reduceEqDiff, reduceCtorEq, ↓reduceIte, Int.reduceLE, Int.reduceLT, Int.reduceToNat, Int.reduceAdd, Int.reduceSub, Int.reduceEq, Int.reduceNeg, cellsCall_def, cellsRule_def, cellsLookup_def, cellsPoint_def, cellsOutline_def, cellsPart_def, cellsAnchor_def, cellsDelta_def, cellsIns_def, cellsGlyph_def, cellsChar_def, cellsFeature_def, cellsAxis_def, cellsTent_def, cellsRegion_def, cellsFont_def, cellsItem_def, cellsText_def, cellsAsk_def]
  refine slice_from encItem run (fun _ => rfl) tElem_32 tSize_51 trivial (by omega) (by omega) ?_
  simp (maxSteps := 2000000) +contextual (disch := first | omega | assumption) only [go_sem, Nat.reduceAdd, Nat.reduceSub, Nat.reduceMul, Nat.reduceLT, Nat.reduceLeDiff, Nat.reduceEqDiff, reduceCtorEq, ↓reduceIte, Int.reduceLE, Int.reduceLT, Int.reduceToNat, Int.reduceAdd, Int.reduceSub, Int.reduceEq, Int.reduceNeg, cellsCall_def, cellsRule_def, cellsLookup_def, cellsPoint_def, cellsOutline_def, cellsPart_def, cellsAnchor_def, cellsDelta_def, cellsIns_def, cellsGlyph_def, cellsChar_def, cellsFeature_def, cellsAxis_def, cellsTent_def, cellsRegion_def, cellsFont_def, cellsItem_def, cellsText_def, cellsAsk_def]
  refine append_grow (g2 := .no) encItem (run.take a ++ l) (run.drop b) (fun _ => rfl) tElem_32 tSize_51 tBytes_51 aZero_51 (by rw [tElem_32]; rfl) rfl (by decide) trivial (by decide) (by simp only [List.length_take, List.length_append, List.length_nil, List.length_drop]; omega) hg fun gr gl hg => ?_
  simp (maxSteps := 2000000) +contextual (disch := first | omega | assumption) only [go_sem, Nat.reduceAdd, Nat.reduceSub, Nat.reduceMul, Nat.reduceLT, Nat.reduceLeDiff, Nat.reduceEqDiff, reduceCtorEq, ↓reduceIte, Int.reduceLE, Int.reduceLT, Int.reduceToNat, Int.reduceAdd, Int.reduceSub, Int.reduceEq, Int.reduceNeg, cellsCall_def, cellsRule_def, cellsLookup_def, cellsPoint_def, cellsOutline_def, cellsPart_def, cellsAnchor_def, cellsDelta_def, cellsIns_def, cellsGlyph_def, cellsChar_def, cellsFeature_def, cellsAxis_def, cellsTent_def, cellsRegion_def, cellsFont_def, cellsItem_def, cellsText_def, cellsAsk_def]
  rw [cutF]
  (all_goals first | assumption | omega | exact pureK_gen (by simp only [go_sem, shut, shutL] <;> rfl) (by intros; simp only [go_sem, cl, clL]) rfl rfl | exact pureK_gen0 (by simp only [go_sem, shut, shutL] <;> rfl) (by intros; simp only [go_sem, cl, clL]) | exact pureK_gl (by simp only [go_sem, shut, shutL] <;> rfl) (by intros; simp only [go_sem, cl, clL]) (Grows.ext (by assumption)) rfl | exact pureK_gl0 (by simp only [go_sem, shut, shutL] <;> rfl) (by intros; simp only [go_sem, cl, clL]) (Grows.ext (by assumption)) rfl | exact pureK_sub (by simp only [go_sem, shut, shutL] <;> rfl) (by intros; simp only [go_sem, cl, clL]) (by assumption) | exact pureK_sub (by simp only [go_sem, shut, shutL] <;> rfl) (by intros; simp only [go_sem, cl, clL]) (Sub.more (by assumption) _))
end Go.V
namespace Go.V
open Go Go.Proofs
set_option linter.unusedVariables false
set_option linter.unusedSimpArgs false
set_option maxRecDepth 10000
set_option maxHeartbeats 2000000
theorem seen_call (t : Text) (i step : Int) (h : Hp) (K : AV → Hp → Prop) (k : K (.clo (.func 57) [] [.ptr (h.bx.length + 1) 0, .ptr h.bx.length 0, .ptr (h.bx.length + 2) 0]) { h with bx := h.bx ++ [cellsText t, [.int i], [.int step]] }) : ACall Try.prog 52 [encText t, .int i, .int step] h K := by
  refine acall_walk (rs := [.tmp 6]) (m := 5) Try.func52 rfl rfl rfl ?_
  simp (maxSteps := 2000000) +contextual (disch := first | omega | assumption) only [go_sem, Nat.reduceAdd, Nat.reduceSub, Nat.reduceMul, Nat.reduceLT, Nat.reduceLeDiff, Nat.reduceEqDiff, reduceCtorEq, ↓reduceIte, Int.reduceLE, Int.reduceLT, Int.reduceToNat, Int.reduceAdd, Int.reduceSub, Int.reduceEq, Int.reduceNeg, List.append_assoc, cellsCall_def, cellsRule_def, cellsLookup_def, cellsPoint_def, cellsOutline_def, cellsPart_def, cellsAnchor_def, cellsDelta_def, cellsIns_def, cellsGlyph_def, cellsChar_def, cellsFeature_def, cellsAxis_def, cellsTent_def, cellsRegion_def, cellsFont_def, cellsItem_def, cellsText_def, cellsAsk_def]
  exact k
/-- The iterator, over any invariant. -/
theorem seen1_call (t : Text) (hr : t.run.length ≤ 9223372036854775806) (i0 step : Int) (hs : step = 1 ∨ step = -1) (hi : -1 ≤ i0 ∧ i0 ≤ 9223372036854775807) (y : AV) (kF kT kS : Nat) (S : Int → Hp → Prop) (Fin : Hp → Prop)
    (b1 : ∀ i h, S i h → h.bx[kF]? = some [.int i0] ∧ h.bx[kT]? = some (cellsText t) ∧ h.bx[kS]? = some [.int step])
    (b2 : ∀ i h, S i h → 0 ≤ i → i < t.run.length → over t i = false → ACallV Try.prog y [.int i] h (fun r h' => (r = .bool true ∧ S (i + step) h') ∨ (r = .bool false ∧ Fin h')))
    (b3 : ∀ i h, S i h → 0 ≤ i → i < t.run.length → over t i = true → S (i + step) h)
    (b4 : ∀ i h, S i h → ¬(0 ≤ i ∧ i < t.run.length) → Fin h) (h : Hp) (h0 : S i0 h) : ACall Try.prog 57 [y, .ptr kF 0, .ptr kT 0, .ptr kS 0] h (fun _ h' => Fin h') := by
  have hF := (b1 i0 h h0).1
  refine acall_walk (rs := []) (m := 25) Try.func57 rfl rfl rfl ?_
  simp (maxSteps := 2000000) +contextual (disch := first | omega | assumption) only [go_sem, Nat.reduceAdd, Nat.reduceSub, Nat.reduceMul, Nat.reduceLT, Nat.reduceLeDiff, Nat.reduceEqDiff, reduceCtorEq, ↓reduceIte, Int.reduceLE, Int.reduceLT, Int.reduceToNat, Int.reduceAdd, Int.reduceSub, Int.reduceEq, Int.reduceNeg, List.append_assoc, cellsCall_def, cellsRule_def, cellsLookup_def, cellsPoint_def, cellsOutline_def, cellsPart_def, cellsAnchor_def, cellsDelta_def, cellsIns_def, cellsGlyph_def, cellsChar_def, cellsFeature_def, cellsAxis_def, cellsTent_def, cellsRegion_def, cellsFont_def, cellsItem_def, cellsText_def, cellsAsk_def, hF]
  refine loop2 (ι := Int × Hp) [6,7,8,9,10,11,12,13,14,15,16,17,18,19,20,21,22,23,24,25,26,27,28] (fun x => -1 ≤ x.1 ∧ (x.1 ≤ t.run.length ∨ x.1 = i0) ∧ S x.1 x.2) (fun x => left t.run.length step x.1)
    (fun x => [y, .ptr kF 0, .ptr kT 0, .ptr kS 0, .any, .int x.1, .any, .any, .any, .any, .any, .any, .any, .any, .any, .any, .any, .any, .any, .any, .any, .any, .any, .any, .any, .any, .any, .any, .any]) (fun x => x.2) (i0, h) ⟨hi.1, .inr rfl, h0⟩ (by simp only [forget, List.foldl_cons, List.foldl_nil, set8, List.set_cons_succ, List.set_cons_zero] <;> rfl) rfl ?_
  rintro L ⟨i, g⟩ ⟨q1, q2, q3⟩ ih
  simp only at q1 q2 q3
  obtain ⟨c1, c2, c3⟩ := b1 i g q3
  rw [cellsText_def] at c2
  simp (maxSteps := 2000000) +contextual (disch := first | omega | assumption) only [go_sem, Nat.reduceAdd, Nat.reduceSub, Nat.reduceMul, Nat.reduceLT, Nat.reduceLeDiff, Nat.reduceEqDiff, reduceCtorEq, ↓reduceIte, Int.reduceLE, Int.reduceLT, Int.reduceToNat, Int.reduceAdd, Int.reduceSub, Int.reduceEq, Int.reduceNeg, List.append_assoc, cellsCall_def, cellsRule_def, cellsLookup_def, cellsPoint_def, cellsOutline_def, cellsPart_def, cellsAnchor_def, cellsDelta_def, cellsIns_def, cellsGlyph_def, cellsChar_def, cellsFeature_def, cellsAxis_def, cellsTent_def, cellsRegion_def, cellsFont_def, cellsItem_def, cellsText_def, cellsAsk_def, c2, c3]
  refine ⟨fun h1 => ⟨fun h2 => ?_, fun h2 => b4 i g q3 (by omega)⟩, fun h1 => b4 i g q3 (by omega)⟩
  have hl := left_succ hs h1 h2
  refine call_pure rfl (over_pure t i h1 h2) ?_
  simp (maxSteps := 2000000) +contextual (disch := first | omega | assumption) only [go_sem, Nat.reduceAdd, Nat.reduceSub, Nat.reduceMul, Nat.reduceLT, Nat.reduceLeDiff, Nat.reduceEqDiff, reduceCtorEq, ↓reduceIte, Int.reduceLE, Int.reduceLT, Int.reduceToNat, Int.reduceAdd, Int.reduceSub, Int.reduceEq, Int.reduceNeg, List.append_assoc, cellsCall_def, cellsRule_def, cellsLookup_def, cellsPoint_def, cellsOutline_def, cellsPart_def, cellsAnchor_def, cellsDelta_def, cellsIns_def, cellsGlyph_def, cellsChar_def, cellsFeature_def, cellsAxis_def, cellsTent_def, cellsRegion_def, cellsFont_def, cellsItem_def, cellsText_def, cellsAsk_def, c3]
  refine ⟨fun h3 => ?_, fun h3 => ?_⟩
  · exact ih (i + step, g) ⟨by simp only; omega, by simp only; omega, b3 i g q3 h1 h2 (asT_t h3)⟩ (by simp only; omega)
  · refine call_v (b2 i g q3 h1 h2 (by simpa using asT_f h3)) fun r h' hr => ?_
    rcases hr with ⟨rfl, hS⟩ | ⟨rfl, hF'⟩
    · obtain ⟨d1, d2, d3⟩ := b1 _ h' hS
      simp (maxSteps := 2000000) +contextual (disch := first | omega | assumption) only [go_sem, Nat.reduceAdd, Nat.reduceSub, Nat.reduceMul, Nat.reduceLT, Nat.reduceLeDiff, Nat.reduceEqDiff, reduceCtorEq, ↓reduceIte, Int.reduceLE, Int.reduceLT, Int.reduceToNat, Int.reduceAdd, Int.reduceSub, Int.reduceEq, Int.reduceNeg, List.append_assoc, cellsCall_def, cellsRule_def, cellsLookup_def, cellsPoint_def, cellsOutline_def, cellsPart_def, cellsAnchor_def, cellsDelta_def, cellsIns_def, cellsGlyph_def, cellsChar_def, cellsFeature_def, cellsAxis_def, cellsTent_def, cellsRegion_def, cellsFont_def, cellsItem_def, cellsText_def, cellsAsk_def, d3, h3]
      exact ih (i + step, h') ⟨by simp only; omega, by simp only; omega, hS⟩ (by simp only; omega)
    · simp (maxSteps := 2000000) +contextual (disch := first | omega | assumption) only [go_sem, Nat.reduceAdd, Nat.reduceSub, Nat.reduceMul, Nat.reduceLT, Nat.reduceLeDiff, Nat.reduceEqDiff, reduceCtorEq, ↓reduceIte, Int.reduceLE, Int.reduceLT, Int.reduceToNat, Int.reduceAdd, Int.reduceSub, Int.reduceEq, Int.reduceNeg, List.append_assoc, cellsCall_def, cellsRule_def, cellsLookup_def, cellsPoint_def, cellsOutline_def, cellsPart_def, cellsAnchor_def, cellsDelta_def, cellsIns_def, cellsGlyph_def, cellsChar_def, cellsFeature_def, cellsAxis_def, cellsTent_def, cellsRegion_def, cellsFont_def, cellsItem_def, cellsText_def, cellsAsk_def, h3]
      exact hF'
end Go.V
namespace Go.V
open Go Go.Proofs
set_option linter.unusedVariables false
set_option linter.unusedSimpArgs false
set_option maxRecDepth 10000
set_option maxHeartbeats 2000000
/-- A loop over what is seen. -/
theorem range_seen {g : Operand} {ps : Array Tmp} {assign body : Code} {Q : Exit → List AV → Hp → Prop} {tm : List AV} {h : Hp} {kF kT kS : Nat} (t : Text) (hr : t.run.length ≤ 9223372036854775806) (i0 step : Int) (hs : step = 1 ∨ step = -1) (hi : -1 ≤ i0 ∧ i0 ≤ 9223372036854775807) (hps : ps.size = 1)
    (hg : ev tm g = .clo (.func 57) [] [.ptr kF 0, .ptr kT 0, .ptr kS 0]) (I : Int → Hp → Prop) (h0 : I i0 h) (hK : ∀ i h', I i h' → Keeps h h')
    (hb : ∀ i h', I i h' → h'.bx[kF]? = some [.int i0] ∧ h'.bx[kT]? = some (cellsText t) ∧ h'.bx[kS]? = some [.int step])
    (skip : ∀ i h', I i h' → 0 ≤ i → i < t.run.length → over t i = true → I (i + step) h')
    (stop : ∀ i h', I i h' → ¬(0 ≤ i ∧ i < t.run.length) → Q .normal tm h')
    (round : ∀ i h' L L', I i h' → 0 ≤ i → i < t.run.length → over t i = false → cw Try.prog assign (asgQ Try.prog h body L L' (endQ Q tm h L' (I (i + step)))) (setParams tm ps [.int i]) { h' with lp := h.lp ++ [L] }) :
    @AWpI Try.prog ⟨.rangeFunc g ps assign body, Q⟩ tm h := by
  refine awp_rangeI hg rfl (seen1_call t hr i0 step hs hi (.yld h.lp.length) kF kT kS (fun i hh => recS h ⟨tm, ps, assign, body, .ready⟩ (I i) hh) (recF Try.prog Q tm h) ?_ ?_ ?_ ?_ _ ⟨h, h0, rfl⟩)
  · rintro i hh ⟨h', hI, rfl⟩; exact hb i h' hI
  · rintro i hh ⟨h', hI, rfl⟩ h1 h2 h3; exact round_of (by simp [hps]) (fun L L' => round i h' L L' hI h1 h2 h3)
  · rintro i hh ⟨h', hI, rfl⟩ h1 h2 h3; exact ⟨h', skip i h' hI h1 h2 h3, rfl⟩
  · rintro i hh ⟨h', hI, rfl⟩ h1; exact ⟨h', ⟨tm, ps, assign, body, .ready⟩, hK i h' hI, rfl, stop i h' hI h1⟩
theorem keeps_app {b e e' : List (List AV)} {gl gl' : List Nat} {lp : List LInfo} (h1 : e.length ≤ e'.length) (h2 : gl.length ≤ gl'.length) (h3 : ∀ cs ∈ e', cs ∈ e ∨ clL (b.length + e'.length) gl'.length lp.length cs = true) : Keeps { bx := b ++ e, gl := gl, lp := lp } { bx := b ++ e', gl := gl', lp := lp } := by
  refine ⟨rfl, by simp; omega, h2, fun cs hc => ?_⟩
  rcases List.mem_append.1 hc with hc | hc
  · exact .inl (List.mem_append_left _ hc)
  · rcases h3 cs hc with h4 | h4
    · exact .inl (List.mem_append_right _ h4)
    · exact .inr (by simpa using h4)
theorem cl_grow {gl0 gl : List Nat} {gr : Gr} {sz nb nl : Nat} (g : Grows sz gl0 gr gl) (l : List Int) : cl nb gl.length nl (.row gr (l.map AV.int)) = true := by
  have h1 : clL nb gl.length nl (l.map AV.int) = true := clL_enc (fun a => rfl) l
  rcases g with ⟨rfl, rfl⟩ | ⟨e, rfl, rfl⟩
  · simp only [cl, h1]; rfl
  · simp only [cl, h1, clG]; simp
theorem seen_over (t : Text) (i : Int) : isSeen t.f t.l (t.run.getD i.toNat default) = !over t i := by rw [isSeen, over, Bool.not_and]
/-- The places of items that are in sets, one by one; whether all are. -/
def follow (t : Text) (i step : Int) (sets : List (List Int)) : List Int × Bool :=
  if (walk t.f t.l t.run i step sets).2 then ((walk t.f t.l t.run i step sets).1, true) else ([], false)
theorem follow_pure (t : Text) (i0 step : Int) (sets : List (List Int)) (hw : Walked sets t.run) (hs : step = 1 ∨ step = -1) (hi : -1 ≤ i0 ∧ i0 ≤ t.run.length) :
    Pure Try.prog 37 [encText t, .int i0, .int step, rowELI sets] (.tup [rowEI (follow t i0 step sets).1, .bool (follow t i0 step sets).2]) := by
  obtain ⟨hw1, hw2, hw3⟩ := hw
  refine pure_of (rs := [.cell 8 29, .cell 9 4]) (m := 39) Try.func37 rfl rfl rfl fun h => ?_
  simp (maxSteps := 2000000) +contextual (disch := first | omega | assumption) only [go_sem, Nat.reduceAdd, Nat.reduceSub, Nat.reduceMul, Nat.reduceLT, Nat.reduceLeDiff, Nat.reduceEqDiff, reduceCtorEq, ↓reduceIte, Int.reduceLE, Int.reduceLT, Int.reduceToNat, Int.reduceAdd, Int.reduceSub, Int.reduceEq, Int.reduceNeg, List.append_assoc, cellsCall_def, cellsRule_def, cellsLookup_def, cellsPoint_def, cellsOutline_def, cellsPart_def, cellsAnchor_def, cellsDelta_def, cellsIns_def, cellsGlyph_def, cellsChar_def, cellsFeature_def, cellsAxis_def, cellsTent_def, cellsRegion_def, cellsFont_def, cellsItem_def, cellsText_def, cellsAsk_def]
  refine ⟨fun h1 => ?_, fun h1 => ?_⟩
  · have e : follow t i0 step sets = ([], true) := by
      have := asE_t h1
      rw [follow, walk, walkF_stop (by simp; omega)]
      have h2 : sets.length = 0 := by omega
      simp [h2]
    rw [e]
    (all_goals first | assumption | omega | exact pureK_gen (by simp only [go_sem, shut, shutL] <;> rfl) (by intros; simp only [go_sem, cl, clL]) rfl rfl | exact pureK_gen0 (by simp only [go_sem, shut, shutL] <;> rfl) (by intros; simp only [go_sem, cl, clL]) | exact pureK_gl (by simp only [go_sem, shut, shutL] <;> rfl) (by intros; simp only [go_sem, cl, clL]) (Grows.ext (by assumption)) rfl | exact pureK_gl0 (by simp only [go_sem, shut, shutL] <;> rfl) (by intros; simp only [go_sem, cl, clL]) (Grows.ext (by assumption)) rfl | exact pureK_sub (by simp only [go_sem, shut, shutL] <;> rfl) (by intros; simp only [go_sem, cl, clL]) (by assumption) | exact pureK_sub (by simp only [go_sem, shut, shutL] <;> rfl) (by intros; simp only [go_sem, cl, clL]) (Sub.more (by assumption) _))
  refine call_with rfl (seen_call t i0 step _ _ ?_)
  simp (maxSteps := 2000000) +contextual (disch := first | omega | assumption) only [go_sem, Nat.reduceAdd, Nat.reduceSub, Nat.reduceMul, Nat.reduceLT, Nat.reduceLeDiff, Nat.reduceEqDiff, reduceCtorEq, ↓reduceIte, Int.reduceLE, Int.reduceLT, Int.reduceToNat, Int.reduceAdd, Int.reduceSub, Int.reduceEq, Int.reduceNeg, List.append_assoc, cellsCall_def, cellsRule_def, cellsLookup_def, cellsPoint_def, cellsOutline_def, cellsPart_def, cellsAnchor_def, cellsDelta_def, cellsIns_def, cellsGlyph_def, cellsChar_def, cellsFeature_def, cellsAxis_def, cellsTent_def, cellsRegion_def, cellsFont_def, cellsItem_def, cellsText_def, cellsAsk_def]
  have kp : ∀ (x8 x9 x10 : AV) (gl : List Nat), h.gl.length ≤ gl.length → (∀ nb, cl nb gl.length h.lp.length x8 = true) → (∀ nb, cl nb gl.length h.lp.length x9 = true) → (∀ nb, cl nb gl.length h.lp.length x10 = true) →
      Keeps { bx := h.bx ++ [cellsText t, [rowELI sets], [.row .full []], [.bool false], [.row .full []], cellsText t, [.int i0], [.int step]], gl := h.gl, lp := h.lp } { bx := h.bx ++ [cellsText t, [rowELI sets], [x8], [x9], [x10], cellsText t, [.int i0], [.int step]], gl := gl, lp := h.lp } := fun x8 x9 x10 gl k1 k2 k3 k4 => by
    refine keeps_app (by simp) k1 fun cs hc => ?_
    simp only [List.mem_cons, List.not_mem_nil, or_false] at hc ⊢
    rcases hc with rfl | rfl | rfl | rfl | rfl | rfl | rfl | rfl
    · simp
    · simp
    · exact .inr (by simp only [clL, k2, Bool.and_self])
    · exact .inr (by simp only [clL, k3, Bool.and_self])
    · exact .inr (by simp only [clL, k4, Bool.and_self])
    · simp
    · simp
    · simp
  refine range_seen t hw2 i0 step hs ⟨hi.1, by omega⟩ rfl rfl (fun i h' => ∃ (out : List Int) (gr : Gr) (gl : List Nat), h' = { bx := h.bx ++ [cellsText t, [rowELI sets], [.row .full []], [.bool false], [.row gr (out.map AV.int)], cellsText t, [.int i0], [.int step]], gl := gl, lp := h.lp } ∧ Grows 1 h.gl gr gl ∧ out.length < sets.length ∧ walkF t.f t.l t.run sets step (left t.run.length step i) i out = walk t.f t.l t.run i0 step sets)
    ⟨[], .full, h.gl, rfl, grows_new _ _, by have := asE_f h1; simp only [List.length_nil]; omega, rfl⟩ ?_ ?_ ?_ ?_ ?_
  · rintro i h' ⟨out, gr, gl, rfl, g1, g2, g3⟩
    obtain ⟨x, hx⟩ := g1.ext
    exact kp _ _ _ _ (by rw [hx]; simp) (fun _ => rfl) (fun _ => rfl) (fun _ => cl_grow g1 out)
  · rintro i h' ⟨out, gr, gl, rfl, g1, g2, g3⟩
    refine ⟨get_own _ _ _, get_own _ _ _, get_own _ _ _⟩
  · rintro i h' ⟨out, gr, gl, rfl, g1, g2, g3⟩ q1 q2 q3
    refine ⟨out, gr, gl, rfl, g1, g2, ?_⟩
    rw [left_succ hs q1 q2, walkF, if_pos ⟨g2, q1, q2⟩, seen_over, q3] at g3
    exact g3
  · rintro i h' ⟨out, gr, gl, rfl, g1, g2, g3⟩ q1
    simp (maxSteps := 2000000) +contextual (disch := first | omega | assumption) only [go_sem, Nat.reduceAdd, Nat.reduceSub, Nat.reduceMul, Nat.reduceLT, Nat.reduceLeDiff, Nat.reduceEqDiff, reduceCtorEq, ↓reduceIte, Int.reduceLE, Int.reduceLT, Int.reduceToNat, Int.reduceAdd, Int.reduceSub, Int.reduceEq, Int.reduceNeg, List.append_assoc, cellsCall_def, cellsRule_def, cellsLookup_def, cellsPoint_def, cellsOutline_def, cellsPart_def, cellsAnchor_def, cellsDelta_def, cellsIns_def, cellsGlyph_def, cellsChar_def, cellsFeature_def, cellsAxis_def, cellsTent_def, cellsRegion_def, cellsFont_def, cellsItem_def, cellsText_def, cellsAsk_def]
    rw [walkF_stop (by omega)] at g3
    have e : follow t i0 step sets = ([], false) := by
      rw [follow, ← g3, if_neg (by simp; omega)]
    rw [e]
    (all_goals first | assumption | omega | exact pureK_gen (by simp only [go_sem, shut, shutL] <;> rfl) (by intros; simp only [go_sem, cl, clL]) rfl rfl | exact pureK_gen0 (by simp only [go_sem, shut, shutL] <;> rfl) (by intros; simp only [go_sem, cl, clL]) | exact pureK_gl (by simp only [go_sem, shut, shutL] <;> rfl) (by intros; simp only [go_sem, cl, clL]) (Grows.ext (by assumption)) rfl | exact pureK_gl0 (by simp only [go_sem, shut, shutL] <;> rfl) (by intros; simp only [go_sem, cl, clL]) (Grows.ext (by assumption)) rfl | exact pureK_sub (by simp only [go_sem, shut, shutL] <;> rfl) (by intros; simp only [go_sem, cl, clL]) (by assumption) | exact pureK_sub (by simp only [go_sem, shut, shutL] <;> rfl) (by intros; simp only [go_sem, cl, clL]) (Sub.more (by assumption) _))
  · rintro i h' L L' ⟨out, gr, gl, rfl, g1, g2, g3⟩ q1 q2 q3
    simp (maxSteps := 2000000) +contextual (disch := first | omega | assumption) only [go_sem, Nat.reduceAdd, Nat.reduceSub, Nat.reduceMul, Nat.reduceLT, Nat.reduceLeDiff, Nat.reduceEqDiff, reduceCtorEq, ↓reduceIte, Int.reduceLE, Int.reduceLT, Int.reduceToNat, Int.reduceAdd, Int.reduceSub, Int.reduceEq, Int.reduceNeg, List.append_assoc, cellsCall_def, cellsRule_def, cellsLookup_def, cellsPoint_def, cellsOutline_def, cellsPart_def, cellsAnchor_def, cellsDelta_def, cellsIns_def, cellsGlyph_def, cellsChar_def, cellsFeature_def, cellsAxis_def, cellsTent_def, cellsRegion_def, cellsFont_def, cellsItem_def, cellsText_def, cellsAsk_def]
    refine awp_drawT (by kernel_rfl) 13 (by kernel_rfl) ?_
    simp (maxSteps := 2000000) +contextual (disch := first | omega | assumption) only [go_sem, Nat.reduceAdd, Nat.reduceSub, Nat.reduceMul, Nat.reduceLT, Nat.reduceLeDiff, Nat.reduceEqDiff, reduceCtorEq, ↓reduceIte, Int.reduceLE, Int.reduceLT, Int.reduceToNat, Int.reduceAdd, Int.reduceSub, Int.reduceEq, Int.reduceNeg, List.append_assoc, cellsCall_def, cellsRule_def, cellsLookup_def, cellsPoint_def, cellsOutline_def, cellsPart_def, cellsAnchor_def, cellsDelta_def, cellsIns_def, cellsGlyph_def, cellsChar_def, cellsFeature_def, cellsAxis_def, cellsTent_def, cellsRegion_def, cellsFont_def, cellsItem_def, cellsText_def, cellsAsk_def, q1, q2, g2]
    refine callq_pure rfl (Contains_pure .no (sets.getD out.length default) _ (hw3 _ (getD_memA g2))) ?_
    simp (maxSteps := 2000000) +contextual (disch := first | omega | assumption) only [go_sem, Nat.reduceAdd, Nat.reduceSub, Nat.reduceMul, Nat.reduceLT, Nat.reduceLeDiff, Nat.reduceEqDiff, reduceCtorEq, ↓reduceIte, Int.reduceLE, Int.reduceLT, Int.reduceToNat, Int.reduceAdd, Int.reduceSub, Int.reduceEq, Int.reduceNeg, List.append_assoc, cellsCall_def, cellsRule_def, cellsLookup_def, cellsPoint_def, cellsOutline_def, cellsPart_def, cellsAnchor_def, cellsDelta_def, cellsIns_def, cellsGlyph_def, cellsChar_def, cellsFeature_def, cellsAxis_def, cellsTent_def, cellsRegion_def, cellsFont_def, cellsItem_def, cellsText_def, cellsAsk_def, q1, q2, g2]
    rw [left_succ hs q1 q2, walkF, if_pos ⟨g2, q1, q2⟩, seen_over, q3] at g3
    simp only [Bool.not_false, if_true] at g3
    refine ⟨fun h5 => ?_, fun h5 => ?_⟩
    · rw [if_pos (asT_t h5)] at g3
      refine append_grow (g2 := .full) AV.int out [i] (fun _ => rfl) tElem_29 tSize_3 tBytes_3 aZero_3 (by rw [tElem_29]; rfl) rfl (by decide) trivial (by decide) (by simp only [List.length_cons, List.length_nil]; omega) g1 fun gr' gl' g' => ?_
      simp (maxSteps := 2000000) +contextual (disch := first | omega | assumption) only [go_sem, Nat.reduceAdd, Nat.reduceSub, Nat.reduceMul, Nat.reduceLT, Nat.reduceLeDiff, Nat.reduceEqDiff, reduceCtorEq, ↓reduceIte, Int.reduceLE, Int.reduceLT, Int.reduceToNat, Int.reduceAdd, Int.reduceSub, Int.reduceEq, Int.reduceNeg, List.append_assoc, cellsCall_def, cellsRule_def, cellsLookup_def, cellsPoint_def, cellsOutline_def, cellsPart_def, cellsAnchor_def, cellsDelta_def, cellsIns_def, cellsGlyph_def, cellsChar_def, cellsFeature_def, cellsAxis_def, cellsTent_def, cellsRegion_def, cellsFont_def, cellsItem_def, cellsText_def, cellsAsk_def]
      have hgl : h.gl.length ≤ gl'.length := by obtain ⟨x, hx⟩ := g'.ext; rw [hx]; simp
      refine ⟨fun h6 => ⟨kp _ _ _ _ hgl (fun _ => cl_grow g' (out ++ [i])) (fun _ => rfl) (fun _ => cl_grow g' (out ++ [i])), ?_⟩, fun h6 => ⟨out ++ [i], gr', gl', rfl, g', by have := asE_f h6; simp only [List.length_append, List.length_cons, List.length_nil]; omega, g3⟩⟩
      have h7 : (out ++ [i]).length = sets.length := by have := asE_t h6; simp only [List.length_append, List.length_cons, List.length_nil]; omega
      rw [walkF_stop (by omega)] at g3
      have e : follow t i0 step sets = (out ++ [i], true) := by
        rw [follow, ← g3, if_pos (by simpa using h7)]
      rw [e]
      (all_goals first | assumption | omega | exact pureK_gen (by simp only [go_sem, shut, shutL] <;> rfl) (by intros; simp only [go_sem, cl, clL]) rfl rfl | exact pureK_gen0 (by simp only [go_sem, shut, shutL] <;> rfl) (by intros; simp only [go_sem, cl, clL]) | exact pureK_gl (by simp only [go_sem, shut, shutL] <;> rfl) (by intros; simp only [go_sem, cl, clL]) (Grows.ext (by assumption)) rfl | exact pureK_gl0 (by simp only [go_sem, shut, shutL] <;> rfl) (by intros; simp only [go_sem, cl, clL]) (Grows.ext (by assumption)) rfl | exact pureK_sub (by simp only [go_sem, shut, shutL] <;> rfl) (by intros; simp only [go_sem, cl, clL]) (by assumption) | exact pureK_sub (by simp only [go_sem, shut, shutL] <;> rfl) (by intros; simp only [go_sem, cl, clL]) (Sub.more (by assumption) _))
    · rw [if_neg (asT_f h5)] at g3
      have e : follow t i0 step sets = ([], false) := by
        rw [follow, ← g3, if_neg (by simp)]
      rw [e]
      have hgl : h.gl.length ≤ gl.length := by obtain ⟨x, hx⟩ := g1.ext; rw [hx]; simp
      refine ⟨kp _ _ _ _ hgl (fun _ => rfl) (fun _ => rfl) (fun _ => cl_grow g1 out), ?_⟩
      (all_goals first | assumption | omega | exact pureK_gen (by simp only [go_sem, shut, shutL] <;> rfl) (by intros; simp only [go_sem, cl, clL]) rfl rfl | exact pureK_gen0 (by simp only [go_sem, shut, shutL] <;> rfl) (by intros; simp only [go_sem, cl, clL]) | exact pureK_gl (by simp only [go_sem, shut, shutL] <;> rfl) (by intros; simp only [go_sem, cl, clL]) (Grows.ext (by assumption)) rfl | exact pureK_gl0 (by simp only [go_sem, shut, shutL] <;> rfl) (by intros; simp only [go_sem, cl, clL]) (Grows.ext (by assumption)) rfl | exact pureK_sub (by simp only [go_sem, shut, shutL] <;> rfl) (by intros; simp only [go_sem, cl, clL]) (by assumption) | exact pureK_sub (by simp only [go_sem, shut, shutL] <;> rfl) (by intros; simp only [go_sem, cl, clL]) (Sub.more (by assumption) _))
end Go.V
namespace Go.V
open Go Go.Proofs
set_option linter.unusedVariables false
set_option linter.unusedSimpArgs false
set_option maxRecDepth 10000
set_option maxHeartbeats 2000000
/-- Does a rule match at a place? -/
def tryF (t : Text) (r : Rule) (p : Int) : List Int × Bool :=
  if r.in_.length = 0 then ([], false) else
  if (follow t p 1 r.in_).2 = false then ([], false) else
  if (follow t ((follow t p 1 r.in_).1.getD ((follow t p 1 r.in_).1.length - 1) default + 1) 1 r.ahead).2 = false then ([], false) else
  ((follow t p 1 r.in_).1, (follow t (p - 1) (-1) r.back).2)
def findFrom (t : Text) (p : Int) : Nat → Nat → Int × List Int
  | 0, _ => (-1, [])
  | n + 1, k => if (tryF t (t.l.rules.getD k default) p).2 then ((k : Int), (tryF t (t.l.rules.getD k default) p).1) else findFrom t p n (k + 1)
def mayBegin (t : Text) (p : Int) (forms : List Int) : Bool := decide (0 ≤ p) && decide (p < t.run.length) && !over t p && (forms.isEmpty || forms.contains (t.run.getD p.toNat default).form)
def find (t : Text) (p : Int) (forms : List Int) : Int × List Int := if mayBegin t p forms then findFrom t p t.l.rules.length 0 else (-1, [])
theorem follow_some {t : Text} {i step : Int} {sets : List (List Int)} (h : (follow t i step sets).2 = true) : (follow t i step sets).1.length = sets.length ∧ ∀ x ∈ (follow t i step sets).1, 0 ≤ x ∧ x < t.run.length := by
  unfold follow at h ⊢
  split at h
  · rename_i hw
    rw [if_pos hw]
    exact ⟨walk_full hw, walk_places _ _ _ _ _ _⟩
  · cases h
theorem find_pure (t : Text) (p : Int) (forms : List Int) (hf : forms.length ≤ 9223372036854775806) (ht : t.l.rules.length ≤ 17592186044416) (hr : ∀ r ∈ t.l.rules, RuleOk t.run r) (hl : t.run.length ≤ 9223372036854775806) :
    Pure Try.prog 26 [encText t, .int p, rowEI forms] (.tup [.int (find t p forms).1, rowEI (find t p forms).2]) := by
  refine pure_of (rs := [.tmp 6, .tmp 7]) (m := 95) Try.func26 rfl rfl rfl fun h => ?_
  simp (maxSteps := 2000000) +contextual (disch := first | omega | assumption) only [go_sem, Nat.reduceAdd, Nat.reduceSub, Nat.reduceMul, Nat.reduceLT, Nat.reduceLeDiff, Nat.reduceEqDiff, reduceCtorEq, ↓reduceIte, Int.reduceLE, Int.reduceLT, Int.reduceToNat, Int.reduceAdd, Int.reduceSub, Int.reduceEq, Int.reduceNeg, List.append_assoc, cellsCall_def, cellsRule_def, cellsLookup_def, cellsPoint_def, cellsOutline_def, cellsPart_def, cellsAnchor_def, cellsDelta_def, cellsIns_def, cellsGlyph_def, cellsChar_def, cellsFeature_def, cellsAxis_def, cellsTent_def, cellsRegion_def, cellsFont_def, cellsItem_def, cellsText_def, cellsAsk_def]
  have none : mayBegin t p forms = false → find t p forms = (-1, []) := fun e => by rw [find, e]; rfl
  refine ⟨fun h1 => ?_, fun h1 => ⟨fun h2 => ?_, fun h2 => ?_⟩⟩
  · rw [none (by simp [mayBegin]; omega)]
    (all_goals first | assumption | omega | exact pureK_gen (by simp only [go_sem, shut, shutL] <;> rfl) (by intros; simp only [go_sem, cl, clL]) rfl rfl | exact pureK_gen0 (by simp only [go_sem, shut, shutL] <;> rfl) (by intros; simp only [go_sem, cl, clL]) | exact pureK_gl (by simp only [go_sem, shut, shutL] <;> rfl) (by intros; simp only [go_sem, cl, clL]) (Grows.ext (by assumption)) rfl | exact pureK_gl0 (by simp only [go_sem, shut, shutL] <;> rfl) (by intros; simp only [go_sem, cl, clL]) (Grows.ext (by assumption)) rfl | exact pureK_sub (by simp only [go_sem, shut, shutL] <;> rfl) (by intros; simp only [go_sem, cl, clL]) (by assumption) | exact pureK_sub (by simp only [go_sem, shut, shutL] <;> rfl) (by intros; simp only [go_sem, cl, clL]) (Sub.more (by assumption) _))
  · rw [none (by simp [mayBegin]; omega)]
    (all_goals first | assumption | omega | exact pureK_gen (by simp only [go_sem, shut, shutL] <;> rfl) (by intros; simp only [go_sem, cl, clL]) rfl rfl | exact pureK_gen0 (by simp only [go_sem, shut, shutL] <;> rfl) (by intros; simp only [go_sem, cl, clL]) | exact pureK_gl (by simp only [go_sem, shut, shutL] <;> rfl) (by intros; simp only [go_sem, cl, clL]) (Grows.ext (by assumption)) rfl | exact pureK_gl0 (by simp only [go_sem, shut, shutL] <;> rfl) (by intros; simp only [go_sem, cl, clL]) (Grows.ext (by assumption)) rfl | exact pureK_sub (by simp only [go_sem, shut, shutL] <;> rfl) (by intros; simp only [go_sem, cl, clL]) (by assumption) | exact pureK_sub (by simp only [go_sem, shut, shutL] <;> rfl) (by intros; simp only [go_sem, cl, clL]) (Sub.more (by assumption) _))
  refine call_pure rfl (over_pure t p (by omega) (by omega)) ?_
  simp (maxSteps := 2000000) +contextual (disch := first | omega | assumption) only [go_sem, Nat.reduceAdd, Nat.reduceSub, Nat.reduceMul, Nat.reduceLT, Nat.reduceLeDiff, Nat.reduceEqDiff, reduceCtorEq, ↓reduceIte, Int.reduceLE, Int.reduceLT, Int.reduceToNat, Int.reduceAdd, Int.reduceSub, Int.reduceEq, Int.reduceNeg, List.append_assoc, cellsCall_def, cellsRule_def, cellsLookup_def, cellsPoint_def, cellsOutline_def, cellsPart_def, cellsAnchor_def, cellsDelta_def, cellsIns_def, cellsGlyph_def, cellsChar_def, cellsFeature_def, cellsAxis_def, cellsTent_def, cellsRegion_def, cellsFont_def, cellsItem_def, cellsText_def, cellsAsk_def, h1, h2]
  have d1 : decide (0 ≤ p) = true := decide_eq_true (by omega)
  have d2 : decide (p < t.run.length) = true := decide_eq_true (by omega)
  refine ⟨fun h3 => ?_, fun h3 => ⟨fun h4 => ⟨by omega, by omega, call_pure rfl (Contains_pure .no forms _ hf) ?_⟩, fun h4 => ?_⟩⟩
  · rw [none (by simp only [mayBegin, d1, d2, asT_t h3]; rfl)]
    (all_goals first | assumption | omega | exact pureK_gen (by simp only [go_sem, shut, shutL] <;> rfl) (by intros; simp only [go_sem, cl, clL]) rfl rfl | exact pureK_gen0 (by simp only [go_sem, shut, shutL] <;> rfl) (by intros; simp only [go_sem, cl, clL]) | exact pureK_gl (by simp only [go_sem, shut, shutL] <;> rfl) (by intros; simp only [go_sem, cl, clL]) (Grows.ext (by assumption)) rfl | exact pureK_gl0 (by simp only [go_sem, shut, shutL] <;> rfl) (by intros; simp only [go_sem, cl, clL]) (Grows.ext (by assumption)) rfl | exact pureK_sub (by simp only [go_sem, shut, shutL] <;> rfl) (by intros; simp only [go_sem, cl, clL]) (by assumption) | exact pureK_sub (by simp only [go_sem, shut, shutL] <;> rfl) (by intros; simp only [go_sem, cl, clL]) (Sub.more (by assumption) _))
  · have h6 : forms.isEmpty = false := by cases forms with
      | nil => simp at h4
      | cons => rfl
    simp (maxSteps := 2000000) +contextual (disch := first | omega | assumption) only [go_sem, Nat.reduceAdd, Nat.reduceSub, Nat.reduceMul, Nat.reduceLT, Nat.reduceLeDiff, Nat.reduceEqDiff, reduceCtorEq, ↓reduceIte, Int.reduceLE, Int.reduceLT, Int.reduceToNat, Int.reduceAdd, Int.reduceSub, Int.reduceEq, Int.reduceNeg, List.append_assoc, cellsCall_def, cellsRule_def, cellsLookup_def, cellsPoint_def, cellsOutline_def, cellsPart_def, cellsAnchor_def, cellsDelta_def, cellsIns_def, cellsGlyph_def, cellsChar_def, cellsFeature_def, cellsAxis_def, cellsTent_def, cellsRegion_def, cellsFont_def, cellsItem_def, cellsText_def, cellsAsk_def, h1, h2, h3, h4]
    refine ⟨fun h5 => ?_, fun h5 => ?_⟩
    · have hm : mayBegin t p forms = true := by
        simp only [mayBegin, d1, d2, h6, asT_t h5, Bool.not_eq_true _ ▸ asT_f h3]; rfl
      rw [show find t p forms = findFrom t p t.l.rules.length 0 by rw [find, if_pos hm]]
      refine loop2 (ι := Nat × Hp) [8,9,10,11,12,13,14,15,16,17,18,19,20,21,22,23,24,25,26,27,28,29,30,31,32,33,34,35,36,37,38,39,40,41,42,43,44,45,46,47,51,52,53,54,55,56,57,58,59,60,61,62,63,64,65,66,67,68,69,70,71,72,73,74,75,76,77,78,79,80,81,82,83,84,85,86,87,88,89,90,91,92,93,94,95,96,97] (fun x => x.1 ≤ t.l.rules.length ∧ findFrom t p (t.l.rules.length - x.1) x.1 = findFrom t p t.l.rules.length 0 ∧ Sub h x.2 ∧ ∀ e, (x.2.bx ++ e)[h.bx.length]? = some (cellsText t)) (fun x => t.l.rules.length - x.1)
        (fun x => [encText t, .int p, rowEI forms, .ptr h.bx.length 0, .any, .any, .int 0, .row .full [], .any, .any, .any, .any, .any, .any, .any, .any, .any, .any, .any, .any, .any, .any, .any, .any, .any, .any, .any, .any, .any, .any, .any, .any, .any, .any, .any, .any, .any, .any, .any, .any, .any, .any, .any, .any, .any, .any, .any, .any, rowERule t.l.rules, .int t.l.rules.length, .int x.1, .any, .any, .any, .any, .any, .any, .any, .any, .any, .any, .any, .any, .any, .any, .any, .any, .any, .any, .any, .any, .any, .any, .any, .any, .any, .any, .any, .any, .any, .any, .any, .any, .any, .any, .any, .any, .any, .any, .any, .any, .any, .any, .any, .any, .any, .any, .any]) (fun x => x.2) (0, _) ⟨Nat.zero_le _, rfl, Sub.start, fun e => by rw [List.append_assoc, get_own0]; rfl⟩ (by simp only [forget, List.foldl_cons, List.foldl_nil, set8, List.set_cons_succ, List.set_cons_zero] <;> rfl) rfl ?_
      rintro L ⟨k, g⟩ ⟨q1, q2, q3, q4⟩ ih
      simp only at q1 q2 q3 q4
      rw [cellsText_def] at q4
      have q5 := q4 []
      rw [List.append_nil] at q5
      simp (maxSteps := 2000000) +contextual (disch := first | omega | assumption) only [go_sem, Nat.reduceAdd, Nat.reduceSub, Nat.reduceMul, Nat.reduceLT, Nat.reduceLeDiff, Nat.reduceEqDiff, reduceCtorEq, ↓reduceIte, Int.reduceLE, Int.reduceLT, Int.reduceToNat, Int.reduceAdd, Int.reduceSub, Int.reduceEq, Int.reduceNeg, List.append_assoc, cellsCall_def, cellsRule_def, cellsLookup_def, cellsPoint_def, cellsOutline_def, cellsPart_def, cellsAnchor_def, cellsDelta_def, cellsIns_def, cellsGlyph_def, cellsChar_def, cellsFeature_def, cellsAxis_def, cellsTent_def, cellsRegion_def, cellsFont_def, cellsItem_def, cellsText_def, cellsAsk_def, q4, q5]
      refine ⟨fun g1 => ?_, fun g1 => ?_⟩
      · have hok := hr _ (getD_memA g1)
        rw [show t.l.rules.length - k = (t.l.rules.length - (k + 1)) + 1 by omega, findFrom] at q2
        generalize t.l.rules.getD k default = r at *
        have cond : (tryF t r p).2 = false → findFrom t p (t.l.rules.length - (k + 1)) (k + 1) = findFrom t p t.l.rules.length 0 := fun e => by rw [if_neg (by simp [e])] at q2; exact q2
        have keep : ∀ x, ∀ e, ((g.bx ++ [x]) ++ e)[h.bx.length]? = some (cellsText t) := fun x e => by rw [List.append_assoc]; exact q4 _
        have hb1 := hok.h1.h1
        refine ⟨fun g2 => ?_, fun g2 => ?_⟩
        · have e : (tryF t r p).2 = false := by rw [tryF, if_pos (by have := asE_t g2; omega)]
          exact ih (k + 1, _) ⟨by simp only; omega, cond e, q3.more _, keep _⟩ (by simp only; omega)
        have e0 : ¬r.in_.length = 0 := by have := asE_f g2; omega
        refine call_pure rfl (follow_pure t p 1 r.in_ hok.h1 (.inl rfl) ⟨by omega, by omega⟩) ?_
        simp (maxSteps := 2000000) +contextual (disch := first | omega | assumption) only [go_sem, Nat.reduceAdd, Nat.reduceSub, Nat.reduceMul, Nat.reduceLT, Nat.reduceLeDiff, Nat.reduceEqDiff, reduceCtorEq, ↓reduceIte, Int.reduceLE, Int.reduceLT, Int.reduceToNat, Int.reduceAdd, Int.reduceSub, Int.reduceEq, Int.reduceNeg, List.append_assoc, cellsCall_def, cellsRule_def, cellsLookup_def, cellsPoint_def, cellsOutline_def, cellsPart_def, cellsAnchor_def, cellsDelta_def, cellsIns_def, cellsGlyph_def, cellsChar_def, cellsFeature_def, cellsAxis_def, cellsTent_def, cellsRegion_def, cellsFont_def, cellsItem_def, cellsText_def, cellsAsk_def, q4, q5]
        refine ⟨fun g3 => ?_, fun g3 => ?_⟩
        · obtain ⟨f1, f2⟩ := follow_some (asT_t g3)
          have hcast : ((follow t p 1 r.in_).1.length : Int) - 1 = (((follow t p 1 r.in_).1.length - 1 : Nat) : Int) := by omega
          have hlst := f2 _ (getD_mem (k := (follow t p 1 r.in_).1.length - 1) (by omega))
          refine awp_drawT (by kernel_rfl) 16 (by kernel_rfl) ?_
          simp (maxSteps := 2000000) +contextual (disch := first | omega | assumption) only [go_sem, Nat.reduceAdd, Nat.reduceSub, Nat.reduceMul, Nat.reduceLT, Nat.reduceLeDiff, Nat.reduceEqDiff, reduceCtorEq, ↓reduceIte, Int.reduceLE, Int.reduceLT, Int.reduceToNat, Int.reduceAdd, Int.reduceSub, Int.reduceEq, Int.reduceNeg, List.append_assoc, cellsCall_def, cellsRule_def, cellsLookup_def, cellsPoint_def, cellsOutline_def, cellsPart_def, cellsAnchor_def, cellsDelta_def, cellsIns_def, cellsGlyph_def, cellsChar_def, cellsFeature_def, cellsAxis_def, cellsTent_def, cellsRegion_def, cellsFont_def, cellsItem_def, cellsText_def, cellsAsk_def, q4, q5, hcast]
          refine ⟨by omega, ?_⟩
          refine callq_pure rfl (follow_pure t _ 1 r.ahead hok.h2 (.inl rfl) ⟨by omega, by omega⟩) ?_
          simp (maxSteps := 2000000) +contextual (disch := first | omega | assumption) only [go_sem, Nat.reduceAdd, Nat.reduceSub, Nat.reduceMul, Nat.reduceLT, Nat.reduceLeDiff, Nat.reduceEqDiff, reduceCtorEq, ↓reduceIte, Int.reduceLE, Int.reduceLT, Int.reduceToNat, Int.reduceAdd, Int.reduceSub, Int.reduceEq, Int.reduceNeg, List.append_assoc, cellsCall_def, cellsRule_def, cellsLookup_def, cellsPoint_def, cellsOutline_def, cellsPart_def, cellsAnchor_def, cellsDelta_def, cellsIns_def, cellsGlyph_def, cellsChar_def, cellsFeature_def, cellsAxis_def, cellsTent_def, cellsRegion_def, cellsFont_def, cellsItem_def, cellsText_def, cellsAsk_def, q4, q5]
          refine ⟨fun g4 => ?_, fun g4 => ?_⟩
          · refine call_pure rfl (follow_pure t (p - 1) (-1) r.back hok.h3 (.inr rfl) ⟨by omega, by omega⟩) ?_
            have e : tryF t r p = ((follow t p 1 r.in_).1, (follow t (p - 1) (-1) r.back).2) := by
              rw [tryF, if_neg e0, if_neg (by rw [asT_t g3]; simp), if_neg (by rw [asT_t g4]; simp)]
            simp (maxSteps := 2000000) +contextual (disch := first | omega | assumption) only [go_sem, Nat.reduceAdd, Nat.reduceSub, Nat.reduceMul, Nat.reduceLT, Nat.reduceLeDiff, Nat.reduceEqDiff, reduceCtorEq, ↓reduceIte, Int.reduceLE, Int.reduceLT, Int.reduceToNat, Int.reduceAdd, Int.reduceSub, Int.reduceEq, Int.reduceNeg, List.append_assoc, cellsCall_def, cellsRule_def, cellsLookup_def, cellsPoint_def, cellsOutline_def, cellsPart_def, cellsAnchor_def, cellsDelta_def, cellsIns_def, cellsGlyph_def, cellsChar_def, cellsFeature_def, cellsAxis_def, cellsTent_def, cellsRegion_def, cellsFont_def, cellsItem_def, cellsText_def, cellsAsk_def, q4, q5]
            refine ⟨fun g5 => ?_, fun g5 => ?_⟩
            · rw [e, if_pos (asT_t g5)] at q2
              rw [← q2]
              (all_goals first | assumption | omega | exact pureK_gen (by simp only [go_sem, shut, shutL] <;> rfl) (by intros; simp only [go_sem, cl, clL]) rfl rfl | exact pureK_gen0 (by simp only [go_sem, shut, shutL] <;> rfl) (by intros; simp only [go_sem, cl, clL]) | exact pureK_gl (by simp only [go_sem, shut, shutL] <;> rfl) (by intros; simp only [go_sem, cl, clL]) (Grows.ext (by assumption)) rfl | exact pureK_gl0 (by simp only [go_sem, shut, shutL] <;> rfl) (by intros; simp only [go_sem, cl, clL]) (Grows.ext (by assumption)) rfl | exact pureK_sub (by simp only [go_sem, shut, shutL] <;> rfl) (by intros; simp only [go_sem, cl, clL]) (by assumption) | exact pureK_sub (by simp only [go_sem, shut, shutL] <;> rfl) (by intros; simp only [go_sem, cl, clL]) (Sub.more (by assumption) _))
            · exact ih (k + 1, _) ⟨by simp only; omega, cond (by rw [e]; exact Bool.not_eq_true _ ▸ asT_f g5), q3.more _, keep _⟩ (by simp only; omega)
          · have e : (tryF t r p).2 = false := by rw [tryF, if_neg e0, if_neg (by rw [asT_t g3]; simp), if_pos (by exact Bool.not_eq_true _ ▸ asT_f g4)]
            exact ih (k + 1, _) ⟨by simp only; omega, cond e, q3.more _, keep _⟩ (by simp only; omega)
        · have e : (tryF t r p).2 = false := by rw [tryF, if_neg e0, if_pos (by exact Bool.not_eq_true _ ▸ asT_f g3)]
          exact ih (k + 1, _) ⟨by simp only; omega, cond e, q3.more _, keep _⟩ (by simp only; omega)
      · rw [show t.l.rules.length - k = 0 by omega, findFrom] at q2
        rw [← q2]
        (all_goals first | assumption | omega | exact pureK_gen (by simp only [go_sem, shut, shutL] <;> rfl) (by intros; simp only [go_sem, cl, clL]) rfl rfl | exact pureK_gen0 (by simp only [go_sem, shut, shutL] <;> rfl) (by intros; simp only [go_sem, cl, clL]) | exact pureK_gl (by simp only [go_sem, shut, shutL] <;> rfl) (by intros; simp only [go_sem, cl, clL]) (Grows.ext (by assumption)) rfl | exact pureK_gl0 (by simp only [go_sem, shut, shutL] <;> rfl) (by intros; simp only [go_sem, cl, clL]) (Grows.ext (by assumption)) rfl | exact pureK_sub (by simp only [go_sem, shut, shutL] <;> rfl) (by intros; simp only [go_sem, cl, clL]) (by assumption) | exact pureK_sub (by simp only [go_sem, shut, shutL] <;> rfl) (by intros; simp only [go_sem, cl, clL]) (Sub.more (by assumption) _))
    · rw [none (by simp only [mayBegin, d1, d2, h6, Bool.not_eq_true _ ▸ asT_f h5]; simp)]
      (all_goals first | assumption | omega | exact pureK_gen (by simp only [go_sem, shut, shutL] <;> rfl) (by intros; simp only [go_sem, cl, clL]) rfl rfl | exact pureK_gen0 (by simp only [go_sem, shut, shutL] <;> rfl) (by intros; simp only [go_sem, cl, clL]) | exact pureK_gl (by simp only [go_sem, shut, shutL] <;> rfl) (by intros; simp only [go_sem, cl, clL]) (Grows.ext (by assumption)) rfl | exact pureK_gl0 (by simp only [go_sem, shut, shutL] <;> rfl) (by intros; simp only [go_sem, cl, clL]) (Grows.ext (by assumption)) rfl | exact pureK_sub (by simp only [go_sem, shut, shutL] <;> rfl) (by intros; simp only [go_sem, cl, clL]) (by assumption) | exact pureK_sub (by simp only [go_sem, shut, shutL] <;> rfl) (by intros; simp only [go_sem, cl, clL]) (Sub.more (by assumption) _))
  · have h6 : forms = [] := List.eq_nil_of_length_eq_zero (by omega)
    have hm : mayBegin t p forms = true := by
      simp only [mayBegin, d1, d2, h6, Bool.not_eq_true _ ▸ asT_f h3]; rfl
    rw [show find t p forms = findFrom t p t.l.rules.length 0 by rw [find, if_pos hm]]
    refine loop2 (ι := Nat × Hp) [8,9,10,11,12,13,14,15,16,17,18,19,20,21,22,23,24,25,26,27,28,29,30,31,32,33,34,35,36,37,38,39,40,41,42,43,44,45,46,47,51,52,53,54,55,56,57,58,59,60,61,62,63,64,65,66,67,68,69,70,71,72,73,74,75,76,77,78,79,80,81,82,83,84,85,86,87,88,89,90,91,92,93,94,95,96,97] (fun x => x.1 ≤ t.l.rules.length ∧ findFrom t p (t.l.rules.length - x.1) x.1 = findFrom t p t.l.rules.length 0 ∧ Sub h x.2 ∧ ∀ e, (x.2.bx ++ e)[h.bx.length]? = some (cellsText t)) (fun x => t.l.rules.length - x.1)
      (fun x => [encText t, .int p, rowEI forms, .ptr h.bx.length 0, .any, .any, .int 0, .row .full [], .any, .any, .any, .any, .any, .any, .any, .any, .any, .any, .any, .any, .any, .any, .any, .any, .any, .any, .any, .any, .any, .any, .any, .any, .any, .any, .any, .any, .any, .any, .any, .any, .any, .any, .any, .any, .any, .any, .any, .any, rowERule t.l.rules, .int t.l.rules.length, .int x.1, .any, .any, .any, .any, .any, .any, .any, .any, .any, .any, .any, .any, .any, .any, .any, .any, .any, .any, .any, .any, .any, .any, .any, .any, .any, .any, .any, .any, .any, .any, .any, .any, .any, .any, .any, .any, .any, .any, .any, .any, .any, .any, .any, .any, .any, .any, .any]) (fun x => x.2) (0, _) ⟨Nat.zero_le _, rfl, Sub.start, fun e => by rw [List.append_assoc, get_own0]; rfl⟩ (by simp only [forget, List.foldl_cons, List.foldl_nil, set8, List.set_cons_succ, List.set_cons_zero] <;> rfl) rfl ?_
    rintro L ⟨k, g⟩ ⟨q1, q2, q3, q4⟩ ih
    simp only at q1 q2 q3 q4
    rw [cellsText_def] at q4
    have q5 := q4 []
    rw [List.append_nil] at q5
    simp (maxSteps := 2000000) +contextual (disch := first | omega | assumption) only [go_sem, Nat.reduceAdd, Nat.reduceSub, Nat.reduceMul, Nat.reduceLT, Nat.reduceLeDiff, Nat.reduceEqDiff, reduceCtorEq, ↓reduceIte, Int.reduceLE, Int.reduceLT, Int.reduceToNat, Int.reduceAdd, Int.reduceSub, Int.reduceEq, Int.reduceNeg, List.append_assoc, cellsCall_def, cellsRule_def, cellsLookup_def, cellsPoint_def, cellsOutline_def, cellsPart_def, cellsAnchor_def, cellsDelta_def, cellsIns_def, cellsGlyph_def, cellsChar_def, cellsFeature_def, cellsAxis_def, cellsTent_def, cellsRegion_def, cellsFont_def, cellsItem_def, cellsText_def, cellsAsk_def, q4, q5]
    refine ⟨fun g1 => ?_, fun g1 => ?_⟩
    · have hok := hr _ (getD_memA g1)
      rw [show t.l.rules.length - k = (t.l.rules.length - (k + 1)) + 1 by omega, findFrom] at q2
      generalize t.l.rules.getD k default = r at *
      have cond : (tryF t r p).2 = false → findFrom t p (t.l.rules.length - (k + 1)) (k + 1) = findFrom t p t.l.rules.length 0 := fun e => by rw [if_neg (by simp [e])] at q2; exact q2
      have keep : ∀ x, ∀ e, ((g.bx ++ [x]) ++ e)[h.bx.length]? = some (cellsText t) := fun x e => by rw [List.append_assoc]; exact q4 _
      have hb1 := hok.h1.h1
      refine ⟨fun g2 => ?_, fun g2 => ?_⟩
      · have e : (tryF t r p).2 = false := by rw [tryF, if_pos (by have := asE_t g2; omega)]
        exact ih (k + 1, _) ⟨by simp only; omega, cond e, q3.more _, keep _⟩ (by simp only; omega)
      have e0 : ¬r.in_.length = 0 := by have := asE_f g2; omega
      refine call_pure rfl (follow_pure t p 1 r.in_ hok.h1 (.inl rfl) ⟨by omega, by omega⟩) ?_
      simp (maxSteps := 2000000) +contextual (disch := first | omega | assumption) only [go_sem, Nat.reduceAdd, Nat.reduceSub, Nat.reduceMul, Nat.reduceLT, Nat.reduceLeDiff, Nat.reduceEqDiff, reduceCtorEq, ↓reduceIte, Int.reduceLE, Int.reduceLT, Int.reduceToNat, Int.reduceAdd, Int.reduceSub, Int.reduceEq, Int.reduceNeg, List.append_assoc, cellsCall_def, cellsRule_def, cellsLookup_def, cellsPoint_def, cellsOutline_def, cellsPart_def, cellsAnchor_def, cellsDelta_def, cellsIns_def, cellsGlyph_def, cellsChar_def, cellsFeature_def, cellsAxis_def, cellsTent_def, cellsRegion_def, cellsFont_def, cellsItem_def, cellsText_def, cellsAsk_def, q4, q5]
      refine ⟨fun g3 => ?_, fun g3 => ?_⟩
      · obtain ⟨f1, f2⟩ := follow_some (asT_t g3)
        have hcast : ((follow t p 1 r.in_).1.length : Int) - 1 = (((follow t p 1 r.in_).1.length - 1 : Nat) : Int) := by omega
        have hlst := f2 _ (getD_mem (k := (follow t p 1 r.in_).1.length - 1) (by omega))
        refine awp_drawT (by kernel_rfl) 16 (by kernel_rfl) ?_
        simp (maxSteps := 2000000) +contextual (disch := first | omega | assumption) only [go_sem, Nat.reduceAdd, Nat.reduceSub, Nat.reduceMul, Nat.reduceLT, Nat.reduceLeDiff, Nat.reduceEqDiff, reduceCtorEq, ↓reduceIte, Int.reduceLE, Int.reduceLT, Int.reduceToNat, Int.reduceAdd, Int.reduceSub, Int.reduceEq, Int.reduceNeg, List.append_assoc, cellsCall_def, cellsRule_def, cellsLookup_def, cellsPoint_def, cellsOutline_def, cellsPart_def, cellsAnchor_def, cellsDelta_def, cellsIns_def, cellsGlyph_def, cellsChar_def, cellsFeature_def, cellsAxis_def, cellsTent_def, cellsRegion_def, cellsFont_def, cellsItem_def, cellsText_def, cellsAsk_def, q4, q5, hcast]
        refine ⟨by omega, ?_⟩
        refine callq_pure rfl (follow_pure t _ 1 r.ahead hok.h2 (.inl rfl) ⟨by omega, by omega⟩) ?_
        simp (maxSteps := 2000000) +contextual (disch := first | omega | assumption) only [go_sem, Nat.reduceAdd, Nat.reduceSub, Nat.reduceMul, Nat.reduceLT, Nat.reduceLeDiff, Nat.reduceEqDiff, reduceCtorEq, ↓reduceIte, Int.reduceLE, Int.reduceLT, Int.reduceToNat, Int.reduceAdd, Int.reduceSub, Int.reduceEq, Int.reduceNeg, List.append_assoc, cellsCall_def, cellsRule_def, cellsLookup_def, cellsPoint_def, cellsOutline_def, cellsPart_def, cellsAnchor_def, cellsDelta_def, cellsIns_def, cellsGlyph_def, cellsChar_def, cellsFeature_def, cellsAxis_def, cellsTent_def, cellsRegion_def, cellsFont_def, cellsItem_def, cellsText_def, cellsAsk_def, q4, q5]
        refine ⟨fun g4 => ?_, fun g4 => ?_⟩
        · refine call_pure rfl (follow_pure t (p - 1) (-1) r.back hok.h3 (.inr rfl) ⟨by omega, by omega⟩) ?_
          have e : tryF t r p = ((follow t p 1 r.in_).1, (follow t (p - 1) (-1) r.back).2) := by
            rw [tryF, if_neg e0, if_neg (by rw [asT_t g3]; simp), if_neg (by rw [asT_t g4]; simp)]
          simp (maxSteps := 2000000) +contextual (disch := first | omega | assumption) only [go_sem, Nat.reduceAdd, Nat.reduceSub, Nat.reduceMul, Nat.reduceLT, Nat.reduceLeDiff, Nat.reduceEqDiff, reduceCtorEq, ↓reduceIte, Int.reduceLE, Int.reduceLT, Int.reduceToNat, Int.reduceAdd, Int.reduceSub, Int.reduceEq, Int.reduceNeg, List.append_assoc, cellsCall_def, cellsRule_def, cellsLookup_def, cellsPoint_def, cellsOutline_def, cellsPart_def, cellsAnchor_def, cellsDelta_def, cellsIns_def, cellsGlyph_def, cellsChar_def, cellsFeature_def, cellsAxis_def, cellsTent_def, cellsRegion_def, cellsFont_def, cellsItem_def, cellsText_def, cellsAsk_def, q4, q5]
          refine ⟨fun g5 => ?_, fun g5 => ?_⟩
          · rw [e, if_pos (asT_t g5)] at q2
            rw [← q2]
            (all_goals first | assumption | omega | exact pureK_gen (by simp only [go_sem, shut, shutL] <;> rfl) (by intros; simp only [go_sem, cl, clL]) rfl rfl | exact pureK_gen0 (by simp only [go_sem, shut, shutL] <;> rfl) (by intros; simp only [go_sem, cl, clL]) | exact pureK_gl (by simp only [go_sem, shut, shutL] <;> rfl) (by intros; simp only [go_sem, cl, clL]) (Grows.ext (by assumption)) rfl | exact pureK_gl0 (by simp only [go_sem, shut, shutL] <;> rfl) (by intros; simp only [go_sem, cl, clL]) (Grows.ext (by assumption)) rfl | exact pureK_sub (by simp only [go_sem, shut, shutL] <;> rfl) (by intros; simp only [go_sem, cl, clL]) (by assumption) | exact pureK_sub (by simp only [go_sem, shut, shutL] <;> rfl) (by intros; simp only [go_sem, cl, clL]) (Sub.more (by assumption) _))
          · exact ih (k + 1, _) ⟨by simp only; omega, cond (by rw [e]; exact Bool.not_eq_true _ ▸ asT_f g5), q3.more _, keep _⟩ (by simp only; omega)
        · have e : (tryF t r p).2 = false := by rw [tryF, if_neg e0, if_neg (by rw [asT_t g3]; simp), if_pos (by exact Bool.not_eq_true _ ▸ asT_f g4)]
          exact ih (k + 1, _) ⟨by simp only; omega, cond e, q3.more _, keep _⟩ (by simp only; omega)
      · have e : (tryF t r p).2 = false := by rw [tryF, if_neg e0, if_pos (by exact Bool.not_eq_true _ ▸ asT_f g3)]
        exact ih (k + 1, _) ⟨by simp only; omega, cond e, q3.more _, keep _⟩ (by simp only; omega)
    · rw [show t.l.rules.length - k = 0 by omega, findFrom] at q2
      rw [← q2]
      (all_goals first | assumption | omega | exact pureK_gen (by simp only [go_sem, shut, shutL] <;> rfl) (by intros; simp only [go_sem, cl, clL]) rfl rfl | exact pureK_gen0 (by simp only [go_sem, shut, shutL] <;> rfl) (by intros; simp only [go_sem, cl, clL]) | exact pureK_gl (by simp only [go_sem, shut, shutL] <;> rfl) (by intros; simp only [go_sem, cl, clL]) (Grows.ext (by assumption)) rfl | exact pureK_gl0 (by simp only [go_sem, shut, shutL] <;> rfl) (by intros; simp only [go_sem, cl, clL]) (Grows.ext (by assumption)) rfl | exact pureK_sub (by simp only [go_sem, shut, shutL] <;> rfl) (by intros; simp only [go_sem, cl, clL]) (by assumption) | exact pureK_sub (by simp only [go_sem, shut, shutL] <;> rfl) (by intros; simp only [go_sem, cl, clL]) (Sub.more (by assumption) _))
end Go.V
namespace Go.V
open Go Go.Proofs
set_option linter.unusedVariables false
set_option linter.unusedSimpArgs false
set_option maxRecDepth 10000
set_option maxHeartbeats 2000000
/-- The rules' own Match. -/
def ownMatch (f : Font) (n : Int) (run : List Item) (p : Int) (forms : List Int) : Int × List Int :=
  if (atF f n run).2 then find (atF f n run).1 p forms else (-1, [])
theorem atF_some {f : Font} {n : Int} {run : List Item} (h : (atF f n run).2 = true) : 0 ≤ n ∧ n < f.lookups.length ∧ (atF f n run).1 = ⟨f, f.lookups.getD n.toNat default, run⟩ := by
  unfold atF at h ⊢
  split at h
  · rename_i hc; exact ⟨hc.1, hc.2, by rw [if_pos hc]⟩
  · cases h
theorem ownMatch_pure (f : Font) (n : Int) (run : List Item) (p : Int) (forms : List Int) (hf : FontOk f run) (hl : forms.length ≤ 9223372036854775806) (hr : run.length ≤ 9223372036854775806) :
    Pure Try.prog 15 [encFont f, .int n, rowEItem run, .int p, rowEI forms] (.tup [.int (ownMatch f n run p forms).1, rowEI (ownMatch f n run p forms).2]) := by
  refine pure_of (rs := [.tmp 10, .tmp 11]) (m := 24) Try.func15 rfl rfl rfl fun h => ?_
  simp (maxSteps := 2000000) +contextual (disch := first | omega | assumption) only [go_sem, Nat.reduceAdd, Nat.reduceSub, Nat.reduceMul, Nat.reduceLT, Nat.reduceLeDiff, Nat.reduceEqDiff, reduceCtorEq, ↓reduceIte, Int.reduceLE, Int.reduceLT, Int.reduceToNat, Int.reduceAdd, Int.reduceSub, Int.reduceEq, Int.reduceNeg, List.append_assoc, cellsCall_def, cellsRule_def, cellsLookup_def, cellsPoint_def, cellsOutline_def, cellsPart_def, cellsAnchor_def, cellsDelta_def, cellsIns_def, cellsGlyph_def, cellsChar_def, cellsFeature_def, cellsAxis_def, cellsTent_def, cellsRegion_def, cellsFont_def, cellsItem_def, cellsText_def, cellsAsk_def]
  refine call_pure rfl (at_pure f n run) ?_
  simp (maxSteps := 2000000) +contextual (disch := first | omega | assumption) only [go_sem, Nat.reduceAdd, Nat.reduceSub, Nat.reduceMul, Nat.reduceLT, Nat.reduceLeDiff, Nat.reduceEqDiff, reduceCtorEq, ↓reduceIte, Int.reduceLE, Int.reduceLT, Int.reduceToNat, Int.reduceAdd, Int.reduceSub, Int.reduceEq, Int.reduceNeg, List.append_assoc, cellsCall_def, cellsRule_def, cellsLookup_def, cellsPoint_def, cellsOutline_def, cellsPart_def, cellsAnchor_def, cellsDelta_def, cellsIns_def, cellsGlyph_def, cellsChar_def, cellsFeature_def, cellsAxis_def, cellsTent_def, cellsRegion_def, cellsFont_def, cellsItem_def, cellsText_def, cellsAsk_def]
  refine ⟨fun h1 => ?_, fun h1 => ?_⟩
  · obtain ⟨g1, g2, g3⟩ := atF_some (asT_t h1)
    rw [ownMatch, if_pos (asT_t h1)]
    obtain ⟨k1, k2⟩ := hf.h2 _ (getD_memA (k := n.toNat) (l := f.lookups) (by omega))
    refine call_pure rfl (find_pure (atF f n run).1 p forms hl (by rw [g3]; exact k1) (by rw [g3]; exact k2) (by rw [g3]; exact hr)) ?_
    simp (maxSteps := 2000000) +contextual (disch := first | omega | assumption) only [go_sem, Nat.reduceAdd, Nat.reduceSub, Nat.reduceMul, Nat.reduceLT, Nat.reduceLeDiff, Nat.reduceEqDiff, reduceCtorEq, ↓reduceIte, Int.reduceLE, Int.reduceLT, Int.reduceToNat, Int.reduceAdd, Int.reduceSub, Int.reduceEq, Int.reduceNeg, List.append_assoc, cellsCall_def, cellsRule_def, cellsLookup_def, cellsPoint_def, cellsOutline_def, cellsPart_def, cellsAnchor_def, cellsDelta_def, cellsIns_def, cellsGlyph_def, cellsChar_def, cellsFeature_def, cellsAxis_def, cellsTent_def, cellsRegion_def, cellsFont_def, cellsItem_def, cellsText_def, cellsAsk_def]
    (all_goals first | assumption | omega | exact pureK_gen (by simp only [go_sem, shut, shutL] <;> rfl) (by intros; simp only [go_sem, cl, clL]) rfl rfl | exact pureK_gen0 (by simp only [go_sem, shut, shutL] <;> rfl) (by intros; simp only [go_sem, cl, clL]) | exact pureK_gl (by simp only [go_sem, shut, shutL] <;> rfl) (by intros; simp only [go_sem, cl, clL]) (Grows.ext (by assumption)) rfl | exact pureK_gl0 (by simp only [go_sem, shut, shutL] <;> rfl) (by intros; simp only [go_sem, cl, clL]) (Grows.ext (by assumption)) rfl | exact pureK_sub (by simp only [go_sem, shut, shutL] <;> rfl) (by intros; simp only [go_sem, cl, clL]) (by assumption) | exact pureK_sub (by simp only [go_sem, shut, shutL] <;> rfl) (by intros; simp only [go_sem, cl, clL]) (Sub.more (by assumption) _))
  · rw [ownMatch, if_neg (asT_f h1)]
    (all_goals first | assumption | omega | exact pureK_gen (by simp only [go_sem, shut, shutL] <;> rfl) (by intros; simp only [go_sem, cl, clL]) rfl rfl | exact pureK_gen0 (by simp only [go_sem, shut, shutL] <;> rfl) (by intros; simp only [go_sem, cl, clL]) | exact pureK_gl (by simp only [go_sem, shut, shutL] <;> rfl) (by intros; simp only [go_sem, cl, clL]) (Grows.ext (by assumption)) rfl | exact pureK_gl0 (by simp only [go_sem, shut, shutL] <;> rfl) (by intros; simp only [go_sem, cl, clL]) (Grows.ext (by assumption)) rfl | exact pureK_sub (by simp only [go_sem, shut, shutL] <;> rfl) (by intros; simp only [go_sem, cl, clL]) (by assumption) | exact pureK_sub (by simp only [go_sem, shut, shutL] <;> rfl) (by intros; simp only [go_sem, cl, clL]) (Sub.more (by assumption) _))
/-- Is a font, or a run, too much? -/
def bigRule (r : Rule) : Bool := decide (8 < r.in_.length) || decide (8 < r.ahead.length) || decide (8 < r.back.length) || decide (8 < r.out.length) || decide (4 < r.calls.length) || r.in_.any (fun s => decide (60 < s.length)) || r.ahead.any (fun s => decide (60 < s.length)) || r.back.any (fun s => decide (60 < s.length))
def bigLookup (l : Lookup) : Bool := decide (12 < l.rules.length) || l.rules.any bigRule
def big (f : Font) (run : List Item) : Bool := decide (300 < run.length) || decide (40 < f.lookups.length) || f.lookups.any bigLookup
end Go.V
namespace Go.V
open Go Go.Proofs
set_option linter.unusedVariables false
set_option linter.unusedSimpArgs false
set_option maxRecDepth 10000
set_option maxHeartbeats 2000000
/-- No row is longer than a number of the language's can tell. -/
structure Lens (f : Font) : Prop where
  h1 : f.lookups.length ≤ 9223372036854775806
  h2 : ∀ l ∈ f.lookups, l.rules.length ≤ 9223372036854775806 ∧ ∀ r ∈ l.rules, r.in_.length ≤ 9223372036854775806 ∧ r.ahead.length ≤ 9223372036854775806 ∧ r.back.length ≤ 9223372036854775806
theorem Big_pure (f : Font) (run : List Item) (hf : Lens f) : Pure Try.prog 14 [encFont f, rowEItem run] (.bool (big f run)) := by
  obtain ⟨hf1, hf2⟩ := hf
  refine pure_of (rs := [.tmp 4]) (m := 87) Try.func14 rfl rfl rfl fun h => ?_
  simp (maxSteps := 2000000) +contextual (disch := first | omega | assumption) only [go_sem, Nat.reduceAdd, Nat.reduceSub, Nat.reduceMul, Nat.reduceLT, Nat.reduceLeDiff, Nat.reduceEqDiff, reduceCtorEq, ↓reduceIte, Int.reduceLE, Int.reduceLT, Int.reduceToNat, Int.reduceAdd, Int.reduceSub, Int.reduceEq, Int.reduceNeg, List.append_assoc, cellsCall_def, cellsRule_def, cellsLookup_def, cellsPoint_def, cellsOutline_def, cellsPart_def, cellsAnchor_def, cellsDelta_def, cellsIns_def, cellsGlyph_def, cellsChar_def, cellsFeature_def, cellsAxis_def, cellsTent_def, cellsRegion_def, cellsFont_def, cellsItem_def, cellsText_def, cellsAsk_def]
  refine ⟨fun h1 => ?_, fun h1 => ⟨fun h2 => ?_, fun h2 => ?_⟩⟩
  · rw [show big f run = true by simp [big]; omega]
    (all_goals first | assumption | omega | exact pureK_gen (by simp only [go_sem, shut, shutL] <;> rfl) (by intros; simp only [go_sem, cl, clL]) rfl rfl | exact pureK_gen0 (by simp only [go_sem, shut, shutL] <;> rfl) (by intros; simp only [go_sem, cl, clL]) | exact pureK_gl (by simp only [go_sem, shut, shutL] <;> rfl) (by intros; simp only [go_sem, cl, clL]) (Grows.ext (by assumption)) rfl | exact pureK_gl0 (by simp only [go_sem, shut, shutL] <;> rfl) (by intros; simp only [go_sem, cl, clL]) (Grows.ext (by assumption)) rfl | exact pureK_sub (by simp only [go_sem, shut, shutL] <;> rfl) (by intros; simp only [go_sem, cl, clL]) (by assumption) | exact pureK_sub (by simp only [go_sem, shut, shutL] <;> rfl) (by intros; simp only [go_sem, cl, clL]) (Sub.more (by assumption) _))
  · rw [show big f run = true by simp [big]; omega]
    (all_goals first | assumption | omega | exact pureK_gen (by simp only [go_sem, shut, shutL] <;> rfl) (by intros; simp only [go_sem, cl, clL]) rfl rfl | exact pureK_gen0 (by simp only [go_sem, shut, shutL] <;> rfl) (by intros; simp only [go_sem, cl, clL]) | exact pureK_gl (by simp only [go_sem, shut, shutL] <;> rfl) (by intros; simp only [go_sem, cl, clL]) (Grows.ext (by assumption)) rfl | exact pureK_gl0 (by simp only [go_sem, shut, shutL] <;> rfl) (by intros; simp only [go_sem, cl, clL]) (Grows.ext (by assumption)) rfl | exact pureK_sub (by simp only [go_sem, shut, shutL] <;> rfl) (by intros; simp only [go_sem, cl, clL]) (by assumption) | exact pureK_sub (by simp only [go_sem, shut, shutL] <;> rfl) (by intros; simp only [go_sem, cl, clL]) (Sub.more (by assumption) _))
  have e0 : big f run = f.lookups.any bigLookup := by rw [big, decide_eq_false (by omega), decide_eq_false (by omega)]; rfl
  rw [e0]
  refine loop2 (ι := Nat × Hp) [6,7,8,9,10,11,12,13,14,15,16,17,18,19,20,21,22,23,24,25,26,27,28,29,30,31,32,33,34,35,36,37,38,39,40,41,42,43,44,45,46,47,48,49,50,51,52,53,54,55,56,57,58,59,60,61,62,63,64,65,66,67,68,69,70,71,72,73,74,75,76,77,78,79,80,81,82,83,84,85,86,87,88] (fun x => x.1 ≤ f.lookups.length ∧ (f.lookups.take x.1).any bigLookup = false ∧ Sub h x.2 ∧ ∀ e, (x.2.bx ++ e)[h.bx.length]? = some (cellsFont f)) (fun x => f.lookups.length - x.1)
    (fun x => [encFont f, rowEItem run, .ptr h.bx.length 0, .any, .bool false, .int x.1, .any, .any, .any, .any, .any, .any, .any, .any, .any, .any, .any, .any, .any, .any, .any, .any, .any, .any, .any, .any, .any, .any, .any, .any, .any, .any, .any, .any, .any, .any, .any, .any, .any, .any, .any, .any, .any, .any, .any, .any, .any, .any, .any, .any, .any, .any, .any, .any, .any, .any, .any, .any, .any, .any, .any, .any, .any, .any, .any, .any, .any, .any, .any, .any, .any, .any, .any, .any, .any, .any, .any, .any, .any, .any, .any, .any, .any, .any, .any, .any, .any, .any, .any]) (fun x => x.2) (0, _) ⟨Nat.zero_le _, by simp, Sub.start, fun e => by rw [List.append_assoc, get_own0]; rfl⟩ (by simp only [forget, List.foldl_cons, List.foldl_nil, set8, List.set_cons_succ, List.set_cons_zero] <;> rfl) rfl ?_
  rintro L ⟨k, g⟩ ⟨q1, q2, q3, q4⟩ ih
  simp only at q1 q2 q3 q4
  rw [cellsFont_def] at q4
  have q5 := q4 []
  rw [List.append_nil] at q5
  simp (maxSteps := 2000000) +contextual (disch := first | omega | assumption) only [go_sem, Nat.reduceAdd, Nat.reduceSub, Nat.reduceMul, Nat.reduceLT, Nat.reduceLeDiff, Nat.reduceEqDiff, reduceCtorEq, ↓reduceIte, Int.reduceLE, Int.reduceLT, Int.reduceToNat, Int.reduceAdd, Int.reduceSub, Int.reduceEq, Int.reduceNeg, List.append_assoc, cellsCall_def, cellsRule_def, cellsLookup_def, cellsPoint_def, cellsOutline_def, cellsPart_def, cellsAnchor_def, cellsDelta_def, cellsIns_def, cellsGlyph_def, cellsChar_def, cellsFeature_def, cellsAxis_def, cellsTent_def, cellsRegion_def, cellsFont_def, cellsItem_def, cellsText_def, cellsAsk_def, q4, q5]
  refine ⟨fun g1 => ⟨fun g2 => ?_, fun g2 => ?_⟩, fun g1 => ?_⟩
  · rw [any_of g1 (by rw [bigLookup, decide_eq_true (by omega)]; rfl)]
    (all_goals first | assumption | omega | exact pureK_gen (by simp only [go_sem, shut, shutL] <;> rfl) (by intros; simp only [go_sem, cl, clL]) rfl rfl | exact pureK_gen0 (by simp only [go_sem, shut, shutL] <;> rfl) (by intros; simp only [go_sem, cl, clL]) | exact pureK_gl (by simp only [go_sem, shut, shutL] <;> rfl) (by intros; simp only [go_sem, cl, clL]) (Grows.ext (by assumption)) rfl | exact pureK_gl0 (by simp only [go_sem, shut, shutL] <;> rfl) (by intros; simp only [go_sem, cl, clL]) (Grows.ext (by assumption)) rfl | exact pureK_sub (by simp only [go_sem, shut, shutL] <;> rfl) (by intros; simp only [go_sem, cl, clL]) (by assumption) | exact pureK_sub (by simp only [go_sem, shut, shutL] <;> rfl) (by intros; simp only [go_sem, cl, clL]) (Sub.more (by assumption) _))
  · obtain ⟨k1, k2⟩ := hf2 _ (getD_memA g1)
    have nx : bigLookup (f.lookups.getD k default) = false → (f.lookups.take (k + 1)).any bigLookup = false := fun e => take_succ_any g1 q2 e
    have hit : bigLookup (f.lookups.getD k default) = true → f.lookups.any bigLookup = true := fun e => any_of g1 e
    generalize f.lookups.getD k default = l at *
    have eL : bigLookup l = l.rules.any bigRule := by rw [bigLookup, decide_eq_false (by omega)]; rfl
    refine loop2 (ι := Nat × Hp) [8,9,10,11,12,13,14,15,16,17,18,19,20,21,22,23,24,25,26,27,28,29,30,31,32,33,34,35,36,37,38,39,40,41,42,43,44,45,46,47,48,49,50,51,52,53,54,55,56,57,58,59,60,61,62,63,64,65,66,67,68,69,70,71,72,73,74,75,76,77,78,79,80,81,82,83,84,85,86,87,88] (fun x => x.1 ≤ l.rules.length ∧ (l.rules.take x.1).any bigRule = false ∧ Sub h x.2 ∧ (∀ e, (x.2.bx ++ e)[h.bx.length]? = some (cellsFont f)) ∧ ∀ e, (x.2.bx ++ e)[g.bx.length]? = some (cellsLookup l)) (fun x => l.rules.length - x.1)
      (fun x => [encFont f, rowEItem run, .ptr h.bx.length 0, .any, .bool false, .int k, .ptr g.bx.length 0, .int x.1, .any, .any, .any, .any, .any, .any, .any, .any, .any, .any, .any, .any, .any, .any, .any, .any, .any, .any, .any, .any, .any, .any, .any, .any, .any, .any, .any, .any, .any, .any, .any, .any, .any, .any, .any, .any, .any, .any, .any, .any, .any, .any, .any, .any, .any, .any, .any, .any, .any, .any, .any, .any, .any, .any, .any, .any, .any, .any, .any, .any, .any, .any, .any, .any, .any, .any, .any, .any, .any, .any, .any, .any, .any, .any, .any, .any, .any, .any, .any, .any, .any]) (fun x => x.2) (0, _) ⟨Nat.zero_le _, by simp, q3.more _, fun e => by simp only; rw [List.append_assoc]; exact q4 _, fun e => by simp only; rw [List.append_assoc, get_own0]; rfl⟩ (by simp only [forget, List.foldl_cons, List.foldl_nil, set8, List.set_cons_succ, List.set_cons_zero] <;> rfl) rfl ?_
    rintro L2 ⟨m, g'⟩ ⟨p1, p2, p3, p4, p5⟩ ih2
    simp only at p1 p2 p3 p4 p5
    rw [cellsFont_def] at p4
    rw [cellsLookup_def] at p5
    have p6 := p5 []
    rw [List.append_nil] at p6
    simp (maxSteps := 2000000) +contextual (disch := first | omega | assumption) only [go_sem, Nat.reduceAdd, Nat.reduceSub, Nat.reduceMul, Nat.reduceLT, Nat.reduceLeDiff, Nat.reduceEqDiff, reduceCtorEq, ↓reduceIte, Int.reduceLE, Int.reduceLT, Int.reduceToNat, Int.reduceAdd, Int.reduceSub, Int.reduceEq, Int.reduceNeg, List.append_assoc, cellsCall_def, cellsRule_def, cellsLookup_def, cellsPoint_def, cellsOutline_def, cellsPart_def, cellsAnchor_def, cellsDelta_def, cellsIns_def, cellsGlyph_def, cellsChar_def, cellsFeature_def, cellsAxis_def, cellsTent_def, cellsRegion_def, cellsFont_def, cellsItem_def, cellsText_def, cellsAsk_def, p4, p5, p6]
    refine ⟨fun g3 => ?_, fun g3 => ?_⟩
    · have yes : bigRule (l.rules.getD m default) = true → f.lookups.any bigLookup = true := fun e => hit (by rw [eL]; exact any_of g3 e)
      have no : bigRule (l.rules.getD m default) = false → (l.rules.take (m + 1)).any bigRule = false := fun e => take_succ_any g3 p2 e
      obtain ⟨w1, w2, w3⟩ := k2 _ (getD_memA g3)
      generalize l.rules.getD m default = r at *
      refine ⟨fun c1 => ?_, fun c1 => ⟨fun c2 => ?_, fun c2 => ⟨fun c3 => ?_, fun c3 => ⟨fun c4 => ?_, fun c4 => ⟨fun c5 => ?_, fun c5 => ?_⟩⟩⟩⟩⟩
      · rw [yes (by simp [bigRule]; omega)]
        (all_goals first | assumption | omega | exact pureK_gen (by simp only [go_sem, shut, shutL] <;> rfl) (by intros; simp only [go_sem, cl, clL]) rfl rfl | exact pureK_gen0 (by simp only [go_sem, shut, shutL] <;> rfl) (by intros; simp only [go_sem, cl, clL]) | exact pureK_gl (by simp only [go_sem, shut, shutL] <;> rfl) (by intros; simp only [go_sem, cl, clL]) (Grows.ext (by assumption)) rfl | exact pureK_gl0 (by simp only [go_sem, shut, shutL] <;> rfl) (by intros; simp only [go_sem, cl, clL]) (Grows.ext (by assumption)) rfl | exact pureK_sub (by simp only [go_sem, shut, shutL] <;> rfl) (by intros; simp only [go_sem, cl, clL]) (by assumption) | exact pureK_sub (by simp only [go_sem, shut, shutL] <;> rfl) (by intros; simp only [go_sem, cl, clL]) (Sub.more (by assumption) _))
      · rw [yes (by simp [bigRule]; omega)]
        (all_goals first | assumption | omega | exact pureK_gen (by simp only [go_sem, shut, shutL] <;> rfl) (by intros; simp only [go_sem, cl, clL]) rfl rfl | exact pureK_gen0 (by simp only [go_sem, shut, shutL] <;> rfl) (by intros; simp only [go_sem, cl, clL]) | exact pureK_gl (by simp only [go_sem, shut, shutL] <;> rfl) (by intros; simp only [go_sem, cl, clL]) (Grows.ext (by assumption)) rfl | exact pureK_gl0 (by simp only [go_sem, shut, shutL] <;> rfl) (by intros; simp only [go_sem, cl, clL]) (Grows.ext (by assumption)) rfl | exact pureK_sub (by simp only [go_sem, shut, shutL] <;> rfl) (by intros; simp only [go_sem, cl, clL]) (by assumption) | exact pureK_sub (by simp only [go_sem, shut, shutL] <;> rfl) (by intros; simp only [go_sem, cl, clL]) (Sub.more (by assumption) _))
      · rw [yes (by simp [bigRule]; omega)]
        (all_goals first | assumption | omega | exact pureK_gen (by simp only [go_sem, shut, shutL] <;> rfl) (by intros; simp only [go_sem, cl, clL]) rfl rfl | exact pureK_gen0 (by simp only [go_sem, shut, shutL] <;> rfl) (by intros; simp only [go_sem, cl, clL]) | exact pureK_gl (by simp only [go_sem, shut, shutL] <;> rfl) (by intros; simp only [go_sem, cl, clL]) (Grows.ext (by assumption)) rfl | exact pureK_gl0 (by simp only [go_sem, shut, shutL] <;> rfl) (by intros; simp only [go_sem, cl, clL]) (Grows.ext (by assumption)) rfl | exact pureK_sub (by simp only [go_sem, shut, shutL] <;> rfl) (by intros; simp only [go_sem, cl, clL]) (by assumption) | exact pureK_sub (by simp only [go_sem, shut, shutL] <;> rfl) (by intros; simp only [go_sem, cl, clL]) (Sub.more (by assumption) _))
      · rw [yes (by simp [bigRule]; omega)]
        (all_goals first | assumption | omega | exact pureK_gen (by simp only [go_sem, shut, shutL] <;> rfl) (by intros; simp only [go_sem, cl, clL]) rfl rfl | exact pureK_gen0 (by simp only [go_sem, shut, shutL] <;> rfl) (by intros; simp only [go_sem, cl, clL]) | exact pureK_gl (by simp only [go_sem, shut, shutL] <;> rfl) (by intros; simp only [go_sem, cl, clL]) (Grows.ext (by assumption)) rfl | exact pureK_gl0 (by simp only [go_sem, shut, shutL] <;> rfl) (by intros; simp only [go_sem, cl, clL]) (Grows.ext (by assumption)) rfl | exact pureK_sub (by simp only [go_sem, shut, shutL] <;> rfl) (by intros; simp only [go_sem, cl, clL]) (by assumption) | exact pureK_sub (by simp only [go_sem, shut, shutL] <;> rfl) (by intros; simp only [go_sem, cl, clL]) (Sub.more (by assumption) _))
      · rw [yes (by simp [bigRule]; omega)]
        (all_goals first | assumption | omega | exact pureK_gen (by simp only [go_sem, shut, shutL] <;> rfl) (by intros; simp only [go_sem, cl, clL]) rfl rfl | exact pureK_gen0 (by simp only [go_sem, shut, shutL] <;> rfl) (by intros; simp only [go_sem, cl, clL]) | exact pureK_gl (by simp only [go_sem, shut, shutL] <;> rfl) (by intros; simp only [go_sem, cl, clL]) (Grows.ext (by assumption)) rfl | exact pureK_gl0 (by simp only [go_sem, shut, shutL] <;> rfl) (by intros; simp only [go_sem, cl, clL]) (Grows.ext (by assumption)) rfl | exact pureK_sub (by simp only [go_sem, shut, shutL] <;> rfl) (by intros; simp only [go_sem, cl, clL]) (by assumption) | exact pureK_sub (by simp only [go_sem, shut, shutL] <;> rfl) (by intros; simp only [go_sem, cl, clL]) (Sub.more (by assumption) _))
      have er : bigRule r = (r.in_.any (fun s => decide (60 < s.length)) || r.ahead.any (fun s => decide (60 < s.length)) || r.back.any (fun s => decide (60 < s.length))) := by
        rw [bigRule, decide_eq_false (by omega), decide_eq_false (by omega), decide_eq_false (by omega), decide_eq_false (by omega), decide_eq_false (by omega)]; simp
      refine call_pure rfl (wide_pure .no r.in_ w1) ?_
      simp (maxSteps := 2000000) +contextual (disch := first | omega | assumption) only [go_sem, Nat.reduceAdd, Nat.reduceSub, Nat.reduceMul, Nat.reduceLT, Nat.reduceLeDiff, Nat.reduceEqDiff, reduceCtorEq, ↓reduceIte, Int.reduceLE, Int.reduceLT, Int.reduceToNat, Int.reduceAdd, Int.reduceSub, Int.reduceEq, Int.reduceNeg, List.append_assoc, cellsCall_def, cellsRule_def, cellsLookup_def, cellsPoint_def, cellsOutline_def, cellsPart_def, cellsAnchor_def, cellsDelta_def, cellsIns_def, cellsGlyph_def, cellsChar_def, cellsFeature_def, cellsAxis_def, cellsTent_def, cellsRegion_def, cellsFont_def, cellsItem_def, cellsText_def, cellsAsk_def, p4, p5, p6]
      refine ⟨fun c6 => ?_, fun c6 => ?_⟩
      · rw [yes (by rw [er, asT_t c6]; rfl)]
        (all_goals first | assumption | omega | exact pureK_gen (by simp only [go_sem, shut, shutL] <;> rfl) (by intros; simp only [go_sem, cl, clL]) rfl rfl | exact pureK_gen0 (by simp only [go_sem, shut, shutL] <;> rfl) (by intros; simp only [go_sem, cl, clL]) | exact pureK_gl (by simp only [go_sem, shut, shutL] <;> rfl) (by intros; simp only [go_sem, cl, clL]) (Grows.ext (by assumption)) rfl | exact pureK_gl0 (by simp only [go_sem, shut, shutL] <;> rfl) (by intros; simp only [go_sem, cl, clL]) (Grows.ext (by assumption)) rfl | exact pureK_sub (by simp only [go_sem, shut, shutL] <;> rfl) (by intros; simp only [go_sem, cl, clL]) (by assumption) | exact pureK_sub (by simp only [go_sem, shut, shutL] <;> rfl) (by intros; simp only [go_sem, cl, clL]) (Sub.more (by assumption) _))
      refine call_pure rfl (wide_pure .no r.ahead w2) ?_
      simp (maxSteps := 2000000) +contextual (disch := first | omega | assumption) only [go_sem, Nat.reduceAdd, Nat.reduceSub, Nat.reduceMul, Nat.reduceLT, Nat.reduceLeDiff, Nat.reduceEqDiff, reduceCtorEq, ↓reduceIte, Int.reduceLE, Int.reduceLT, Int.reduceToNat, Int.reduceAdd, Int.reduceSub, Int.reduceEq, Int.reduceNeg, List.append_assoc, cellsCall_def, cellsRule_def, cellsLookup_def, cellsPoint_def, cellsOutline_def, cellsPart_def, cellsAnchor_def, cellsDelta_def, cellsIns_def, cellsGlyph_def, cellsChar_def, cellsFeature_def, cellsAxis_def, cellsTent_def, cellsRegion_def, cellsFont_def, cellsItem_def, cellsText_def, cellsAsk_def, p4, p5, p6, c6]
      refine ⟨fun c7 => ?_, fun c7 => ?_⟩
      · rw [yes (by rw [er, asT_t c7]; simp)]
        (all_goals first | assumption | omega | exact pureK_gen (by simp only [go_sem, shut, shutL] <;> rfl) (by intros; simp only [go_sem, cl, clL]) rfl rfl | exact pureK_gen0 (by simp only [go_sem, shut, shutL] <;> rfl) (by intros; simp only [go_sem, cl, clL]) | exact pureK_gl (by simp only [go_sem, shut, shutL] <;> rfl) (by intros; simp only [go_sem, cl, clL]) (Grows.ext (by assumption)) rfl | exact pureK_gl0 (by simp only [go_sem, shut, shutL] <;> rfl) (by intros; simp only [go_sem, cl, clL]) (Grows.ext (by assumption)) rfl | exact pureK_sub (by simp only [go_sem, shut, shutL] <;> rfl) (by intros; simp only [go_sem, cl, clL]) (by assumption) | exact pureK_sub (by simp only [go_sem, shut, shutL] <;> rfl) (by intros; simp only [go_sem, cl, clL]) (Sub.more (by assumption) _))
      refine call_pure rfl (wide_pure .no r.back w3) ?_
      simp (maxSteps := 2000000) +contextual (disch := first | omega | assumption) only [go_sem, Nat.reduceAdd, Nat.reduceSub, Nat.reduceMul, Nat.reduceLT, Nat.reduceLeDiff, Nat.reduceEqDiff, reduceCtorEq, ↓reduceIte, Int.reduceLE, Int.reduceLT, Int.reduceToNat, Int.reduceAdd, Int.reduceSub, Int.reduceEq, Int.reduceNeg, List.append_assoc, cellsCall_def, cellsRule_def, cellsLookup_def, cellsPoint_def, cellsOutline_def, cellsPart_def, cellsAnchor_def, cellsDelta_def, cellsIns_def, cellsGlyph_def, cellsChar_def, cellsFeature_def, cellsAxis_def, cellsTent_def, cellsRegion_def, cellsFont_def, cellsItem_def, cellsText_def, cellsAsk_def, p4, p5, p6, c6, c7]
      refine ⟨fun c8 => ?_, fun c8 => ?_⟩
      · rw [yes (by rw [er, asT_t c8]; simp)]
        (all_goals first | assumption | omega | exact pureK_gen (by simp only [go_sem, shut, shutL] <;> rfl) (by intros; simp only [go_sem, cl, clL]) rfl rfl | exact pureK_gen0 (by simp only [go_sem, shut, shutL] <;> rfl) (by intros; simp only [go_sem, cl, clL]) | exact pureK_gl (by simp only [go_sem, shut, shutL] <;> rfl) (by intros; simp only [go_sem, cl, clL]) (Grows.ext (by assumption)) rfl | exact pureK_gl0 (by simp only [go_sem, shut, shutL] <;> rfl) (by intros; simp only [go_sem, cl, clL]) (Grows.ext (by assumption)) rfl | exact pureK_sub (by simp only [go_sem, shut, shutL] <;> rfl) (by intros; simp only [go_sem, cl, clL]) (by assumption) | exact pureK_sub (by simp only [go_sem, shut, shutL] <;> rfl) (by intros; simp only [go_sem, cl, clL]) (Sub.more (by assumption) _))
      have e8 : bigRule r = false := by rw [er, eq_false_of_ne_true (asT_f c6), eq_false_of_ne_true (asT_f c7), eq_false_of_ne_true (asT_f c8)]; rfl
      exact ih2 (m + 1, _) ⟨by simp only; omega, no e8, p3.more _, fun e => by simp only; rw [List.append_assoc]; exact p4 _, fun e => by simp only; rw [List.append_assoc]; exact p5 _⟩ (by simp only; omega)
    · exact ih (k + 1, g') ⟨by simp only; omega, nx (by rw [eL]; exact any_end p1 g3 p2), p3, p4⟩ (by simp only; omega)
  · rw [any_end q1 g1 q2]
    (all_goals first | assumption | omega | exact pureK_gen (by simp only [go_sem, shut, shutL] <;> rfl) (by intros; simp only [go_sem, cl, clL]) rfl rfl | exact pureK_gen0 (by simp only [go_sem, shut, shutL] <;> rfl) (by intros; simp only [go_sem, cl, clL]) | exact pureK_gl (by simp only [go_sem, shut, shutL] <;> rfl) (by intros; simp only [go_sem, cl, clL]) (Grows.ext (by assumption)) rfl | exact pureK_gl0 (by simp only [go_sem, shut, shutL] <;> rfl) (by intros; simp only [go_sem, cl, clL]) (Grows.ext (by assumption)) rfl | exact pureK_sub (by simp only [go_sem, shut, shutL] <;> rfl) (by intros; simp only [go_sem, cl, clL]) (by assumption) | exact pureK_sub (by simp only [go_sem, shut, shutL] <;> rfl) (by intros; simp only [go_sem, cl, clL]) (Sub.more (by assumption) _))
end Go.V
