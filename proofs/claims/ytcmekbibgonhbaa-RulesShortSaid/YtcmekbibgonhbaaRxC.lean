/- What functions of chapter 11 answer, over plain data. No conditions. -/
import Derived.Test.YtcmekbibgonhbaaRxB
namespace Go.V
open Go Go.Proofs Go.Shelf
set_option linter.unusedVariables false
set_option linter.unusedSimpArgs false
set_option maxRecDepth 10000
set_option maxHeartbeats 2000000
structure RuleT (r : Rule) : Prop where
  h1 : r.out.length ≤ 500
  h2 : r.calls.length ≤ 500
  h3 : ∀ c ∈ r.calls, -9223372036854775808 ≤ c.at_ ∧ c.at_ ≤ 9223372036854775807
  h4 : ∀ s ∈ r.in_, s.length ≤ 9223372036854775806
theorem Places.last {run : List Item} {r : Rule} {p : Int} {l : List Int} (h : Places run r p l) : 0 ≤ lastOf l ∧ lastOf l < run.length := h.hi.h2 _ (getD_memA (k := l.length - 1) (l := l) (by have := h.h0; omega))
theorem Places.first {run : List Item} {r : Rule} {p : Int} {l : List Int} (h : Places run r p l) : 0 ≤ p ∧ p < run.length := by rw [← h.hp]; exact h.hi.h2 _ (getD_memA h.h0)
theorem Inc.le_last {n : Nat} {l : List Int} (h : Inc n l) (h0 : 0 < l.length) : ∀ x ∈ l, x ≤ lastOf l := fun x hx => by
  obtain ⟨i, hi, rfl⟩ := List.mem_iff_getElem.1 hx
  have hl : l.length - 1 < l.length := by omega
  have e : lastOf l = l[l.length - 1] := by rw [lastOf, List.getD, List.getElem?_eq_getElem hl]; rfl
  rw [e]
  by_cases hil : i = l.length - 1
  · subst hil; exact Int.le_refl _
  · exact Int.le_of_lt (List.pairwise_iff_getElem.1 h.h1 i (l.length - 1) hi hl (by omega))
theorem Inc.last_ge {n : Nat} {l : List Int} (h : Inc n l) (h0 : 0 < l.length) : (l.length : Int) ≤ lastOf l + 1 := by
  have hl := h.h2 _ (getD_memA (k := l.length - 1) (l := l) (by omega))
  have hl' : 0 ≤ lastOf l := hl.1
  have : Inc (lastOf l + 1).toNat l := ⟨h.h1, fun x hx => ⟨(h.h2 x hx).1, by have := h.le_last h0 x hx; omega⟩⟩
  have := this.len
  omega
theorem call_callI {called : Int → List Item → Int → List Item} (hng : NoGrow called) (t : Text) (deep : Int) (ht : TriedAt t.f called (deep + 1)) (hd : 0 ≤ deep ∧ deep ≤ 100) (k : Nat) (p : Int) (hp : 0 ≤ p ∧ p ≤ 500000) (calls : List Call) (hc : calls.length ≤ 500) (h : Hp) (hk : h.bx[k]? = some (cellsText t)) (hr : t.run.length ≤ 500000) (hat : ∀ c ∈ calls, -9223372036854775808 ≤ c.at_ ∧ c.at_ ≤ 9223372036854775807) :
    ACall Try.prog 45 [.ptr k 0, .int p, rowECall calls, .int deep] h (fun _ h' => h' = { h with bx := h.bx.set k (cellsText { t with run := callsF called t.f t.l p.toNat calls t.run }) }) := by
  obtain ⟨n, rfl⟩ := Int.eq_ofNat_of_zero_le hp.1
  exact call_call hng t deep ht hd k n (by omega) calls hc h hk hr hat
theorem otherF_index (r : Rule) (g : Int) : ∀ (m i : Nat), i + m = r.out.length → (((r.in_.getD 0 default).take i).contains g = false) → otherF r g m i = (if (r.in_.getD 0 default).contains g = true ∧ (r.in_.getD 0 default).idxOf g < r.out.length then (r.out.getD ((r.in_.getD 0 default).idxOf g) default, true) else (0, false))
  | 0, i, hm, hc => by
    rw [otherF, if_neg]
    rintro ⟨h1, h2⟩
    have h3 : (r.in_.getD 0 default).idxOf g < i := by omega
    have h4 : (r.in_.getD 0 default).idxOf g < (r.in_.getD 0 default).length := List.idxOf_lt_length_of_mem (by simpa using h1)
    have h5 : g ∈ (r.in_.getD 0 default).take i := by
      have e := List.getElem_idxOf h4
      rw [← e]
      exact List.mem_iff_getElem.2 ⟨_, by rw [List.length_take]; omega, List.getElem_take⟩
    have h6 : ¬ g ∈ (r.in_.getD 0 default).take i := by simpa [List.contains_iff_mem] using hc
    exact h6 h5
  | m + 1, i, hm, hc => by
    rw [otherF]
    split
    · rename_i h1
      split
      · rename_i h2
        have h3 := contains_of h1.1 h2
        have h4 := idxOf_at h1.1 hc h2
        rw [if_pos ⟨h3, by omega⟩, h4]
      · rename_i h2
        exact otherF_index r g m (i + 1) (by omega) (take_succ_contains h1.1 hc h2)
    · rename_i h1
      have h2 : ¬ i < (r.in_.getD 0 default).length := by omega
      have h3 : (r.in_.getD 0 default).contains g = false := by
        rw [List.take_of_length_le (by omega)] at hc; exact hc
      rw [if_neg (by rw [h3]; simp)]
theorem other_index (r : Rule) (g : Int) : other r g = (if (r.in_.getD 0 default).contains g = true ∧ (r.in_.getD 0 default).idxOf g < r.out.length then (r.out.getD ((r.in_.getD 0 default).idxOf g) default, true) else (0, false)) :=
  otherF_index r g _ 0 (by omega) (by simp)
theorem fin_do {h : Hp} {t : Text} {k : Nat} {R R' : List Item} {v v' : Int} {e : List (List AV)} {gl : List Nat} {lp : List LInfo} (hv : v' = v) (hR : R' = R) (hg : ∃ x, gl = h.gl ++ x) (hl : lp = h.lp) :
    ∃ h2, Fin h (fun x h' => x = .int v ∧ h' = { h with bx := h.bx.set k (cellsText { t with run := R }) }) (.lit (.int .i64 v')) { bx := h.bx.set k (cellsText { t with run := R' }) ++ e, gl := gl, lp := lp } h2 := by
  subst hv; subst hR
  exact fin_one (cs := cellsText { t with run := R' }) (r2 := .int v') ⟨rfl, rfl⟩ rfl (fun _ _ _ => rfl) (shutL_cellsText _) (fun nb ng nl => clL_cellsText _ nb ng nl) ⟨_, rfl⟩ hg hl
theorem fin_do0 {h : Hp} {t : Text} {k : Nat} {R : List Item} {v v' : Int} {e : List (List AV)} {gl : List Nat} {lp : List LInfo} (hk : h.bx[k]? = some (cellsText t)) (hv : v' = v) (hR : t.run = R) (hg : ∃ x, gl = h.gl ++ x) (hl : lp = h.lp) :
    ∃ h2, Fin h (fun x h' => x = .int v ∧ h' = { h with bx := h.bx.set k (cellsText { t with run := R }) }) (.lit (.int .i64 v')) { bx := h.bx ++ e, gl := gl, lp := lp } h2 := by
  subst hR
  have := fin_do (h := h) (t := t) (k := k) (e := e) (gl := gl) (lp := lp) hv (rfl : t.run = t.run) hg hl
  have e : h.bx.set k (cellsText { t with run := t.run }) = h.bx := set_same hk
  rw [e] at this ⊢
  exact this
theorem max0 {n : Int} (h : 0 ≤ n) : (if n > 0 then n else 0) = n := by split <;> omega
theorem map_take_succ {α β : Type} [Inhabited α] (f : α → β) {l : List α} {k : Nat} (h : k < l.length) : (l.take (k + 1)).map f = (l.take k).map f ++ [f (l.getD k default)] := by
  rw [List.take_add_one, List.getElem?_eq_getElem h, List.map_append, List.getD, List.getElem?_eq_getElem h]; rfl
/-- What own code tells of where it goes on. -/
theorem do_call {called : Int → List Item → Int → List Item} (hng : NoGrow called) (t : Text) (deep : Int) (ht : TriedAt t.f called (deep + 1)) (hd : 0 ≤ deep ∧ deep ≤ 100) (k : Nat) (r : Rule) (p : Int) (l : List Int) (hp : Places t.run r p l) (rt : RuleT r) (h : Hp) (hk : h.bx[k]? = some (cellsText t)) (hr : t.run.length ≤ 500000) :
    ACall Try.prog 33 [.ptr k 0, encRule r, rowEI l, .int deep] h (fun x h' => x = .int (doneNext t.l t.run (doneRun called t.f t.l r t.run l) l) ∧ h' = { h with bx := h.bx.set k (cellsText { t with run := doneRun called t.f t.l r t.run l }) }) := by
  have hlt := (List.getElem?_eq_some_iff.1 hk).1
  have gB := old_all hk
  have gB' := gB
  rw [cellsText_def] at gB
  have hlast := hp.last
  have hfirst := hp.first
  have hl0 := hp.h0
  have hpz := hp.hp
  have hl0' : (0 : Int) < l.length := by omega
  have hll := hp.hi.len
  have hcast : (l.length : Int) - 1 = ((l.length - 1 : Nat) : Int) := by omega
  have hl1 : ((l.length - 1 : Nat) : Int) < l.length := by omega
  have hlast' : l.getD (l.length - 1) default = lastOf l := rfl
  have ho := rt.h1
  refine acall_fin ?_
  refine acall_walk (rs := [.tmp 8]) (m := 165) Try.func33 rfl rfl rfl ?_
  simp (maxSteps := 2000000) +contextual (disch := first | omega | assumption) only [go_sem, Nat.reduceAdd, Nat.reduceSub, Nat.reduceMul, Nat.reduceLT, Nat.reduceLeDiff, Nat.reduceEqDiff, reduceCtorEq, ↓reduceIte, Int.reduceLE, Int.reduceLT, Int.reduceToNat, Int.reduceAdd, Int.reduceSub, Int.reduceEq, Int.reduceNeg, List.append_assoc, cellsCall_def, cellsRule_def, cellsLookup_def, cellsPoint_def, cellsOutline_def, cellsPart_def, cellsAnchor_def, cellsDelta_def, cellsIns_def, cellsGlyph_def, cellsChar_def, cellsFeature_def, cellsAxis_def, cellsTent_def, cellsRegion_def, cellsFont_def, cellsItem_def, cellsText_def, cellsAsk_def]
  refine awp_drawT (by kernel_rfl) 11 (by kernel_rfl) ?_
  simp (maxSteps := 2000000) +contextual (disch := first | omega | assumption) only [go_sem, Nat.reduceAdd, Nat.reduceSub, Nat.reduceMul, Nat.reduceLT, Nat.reduceLeDiff, Nat.reduceEqDiff, reduceCtorEq, ↓reduceIte, Int.reduceLE, Int.reduceLT, Int.reduceToNat, Int.reduceAdd, Int.reduceSub, Int.reduceEq, Int.reduceNeg, List.append_assoc, cellsCall_def, cellsRule_def, cellsLookup_def, cellsPoint_def, cellsOutline_def, cellsPart_def, cellsAnchor_def, cellsDelta_def, cellsIns_def, cellsGlyph_def, cellsChar_def, cellsFeature_def, cellsAxis_def, cellsTent_def, cellsRegion_def, cellsFont_def, cellsItem_def, cellsText_def, cellsAsk_def, gB, hl0', hcast, hl1, hpz, hlast']
  refine ⟨by omega, by omega, ?_⟩
  have hpt : (l.getD 0 default).toNat = p.toNat := by rw [hpz]
  have hpl : p.toNat < t.run.length := by omega
  have hrest : restOf t.run l = (t.run.length : Int) - 1 - lastOf l := rfl
  generalize hx0 : t.run.getD p.toNat default = x0
  refine ⟨fun k2 => ?_, fun k2 => ⟨fun k3 => ?_, fun k3 => ⟨fun k4 => ?_, fun k4 => ⟨fun k6 => ?_, fun k6 => ⟨fun k1 => ?_, fun k1 => ⟨fun k5 => ?_, fun k5 => ?_⟩⟩⟩⟩⟩⟩
  · -- Multiple
    have eR : doneRun called t.f t.l r t.run l = multF r t.run p.toNat := by rw [doneRun, if_neg (by have := asE_t k2; omega), if_pos (asE_t k2), hpt]
    have eN : ∀ R, doneNext t.l t.run R l = (R.length : Int) - restOf t.run l := fun R => by rw [doneNext, if_neg (by have := asE_t k2; omega), if_neg (by have := asE_t k2; omega)]
    rw [eR, eN]
    refine awp_drawT (by kernel_rfl) 11 (by kernel_rfl) ?_
    simp (maxSteps := 2000000) +contextual (disch := first | omega | assumption) only [go_sem, Nat.reduceAdd, Nat.reduceSub, Nat.reduceMul, Nat.reduceLT, Nat.reduceLeDiff, Nat.reduceEqDiff, reduceCtorEq, ↓reduceIte, Int.reduceLE, Int.reduceLT, Int.reduceToNat, Int.reduceAdd, Int.reduceSub, Int.reduceEq, Int.reduceNeg, List.append_assoc, cellsCall_def, cellsRule_def, cellsLookup_def, cellsPoint_def, cellsOutline_def, cellsPart_def, cellsAnchor_def, cellsDelta_def, cellsIns_def, cellsGlyph_def, cellsChar_def, cellsFeature_def, cellsAxis_def, cellsTent_def, cellsRegion_def, cellsFont_def, cellsItem_def, cellsText_def, cellsAsk_def, gB, k2]
    refine ⟨fun a1 => ⟨fun a2 => ?_, fun a2 => ?_⟩, fun a1 => ?_⟩
    · have em : multF r t.run p.toNat = t.run := by rw [multF, if_neg (by omega)]
      rw [em]
      refine fin_do0 (R := t.run) hk ?_ rfl ⟨[], by simp⟩ rfl
      rw [hrest, max0 (by omega)]
    all_goals
      have em : multF r t.run p.toNat = putF t.run p.toNat (r.out.map (withG x0)) := by rw [multF, if_pos (by omega), hx0]
      rw [em]
      refine loop3 (ι := Nat × Gr × List Nat) [15, 17, 84, 85, 86, 87, 88, 89, 90, 91, 92, 93, 94] [17, 85, 86, 87, 88, 89, 90, 91, 92, 93, 94] (fun y => [(15, .row y.2.1 (((r.out.take y.1).map (withG x0)).map encItem)), (84, .int y.1)]) (fun y => y.1 ≤ r.out.length ∧ Grows 6 h.gl y.2.1 y.2.2) (fun y => r.out.length - y.1) (fun y => { bx := h.bx ++ [cellsRule r, cellsItem x0], gl := y.2.2, lp := h.lp }) (0, .full, h.gl) ⟨Nat.zero_le _, grows_new _ _⟩ (by simp only [setTr_nil, setTr_cons, forget, List.foldl_cons, List.foldl_nil, set8, List.set_cons_succ, List.set_cons_zero] <;> rfl) rfl ?_
      rintro L ⟨m, gr, gl⟩ ⟨q1, q2⟩ ih; simp only [setTr_nil, setTr_cons, forget, List.foldl_cons, List.foldl_nil, set8, List.set_cons_succ, List.set_cons_zero] at ih ⊢
      simp only at q1 q2
      simp (maxSteps := 2000000) +contextual (disch := first | omega | assumption) only [go_sem, Nat.reduceAdd, Nat.reduceSub, Nat.reduceMul, Nat.reduceLT, Nat.reduceLeDiff, Nat.reduceEqDiff, reduceCtorEq, ↓reduceIte, Int.reduceLE, Int.reduceLT, Int.reduceToNat, Int.reduceAdd, Int.reduceSub, Int.reduceEq, Int.reduceNeg, List.append_assoc, cellsCall_def, cellsRule_def, cellsLookup_def, cellsPoint_def, cellsOutline_def, cellsPart_def, cellsAnchor_def, cellsDelta_def, cellsIns_def, cellsGlyph_def, cellsChar_def, cellsFeature_def, cellsAxis_def, cellsTent_def, cellsRegion_def, cellsFont_def, cellsItem_def, cellsText_def, cellsAsk_def]
      refine ⟨fun g1 => ?_, fun g1 => ?_⟩
      · refine call_pure rfl (with_pure x0 _) ?_
        simp (maxSteps := 2000000) +contextual (disch := first | omega | assumption) only [go_sem, Nat.reduceAdd, Nat.reduceSub, Nat.reduceMul, Nat.reduceLT, Nat.reduceLeDiff, Nat.reduceEqDiff, reduceCtorEq, ↓reduceIte, Int.reduceLE, Int.reduceLT, Int.reduceToNat, Int.reduceAdd, Int.reduceSub, Int.reduceEq, Int.reduceNeg, List.append_assoc, cellsCall_def, cellsRule_def, cellsLookup_def, cellsPoint_def, cellsOutline_def, cellsPart_def, cellsAnchor_def, cellsDelta_def, cellsIns_def, cellsGlyph_def, cellsChar_def, cellsFeature_def, cellsAxis_def, cellsTent_def, cellsRegion_def, cellsFont_def, cellsItem_def, cellsText_def, cellsAsk_def]
        refine append_grow (g2 := .full) encItem ((r.out.take m).map (withG x0)) [withG x0 (r.out.getD m default)] (fun _ => rfl) tElem_32 tSize_51 tBytes_51 aZero_51 (by rw [tElem_32]; rfl) rfl (by decide) trivial (by decide) (by simp only [List.length_map, List.length_take, List.length_cons, List.length_nil]; omega) q2 fun gr' gl' g' => ?_
        rw [← map_take_succ _ g1]
        simp (maxSteps := 2000000) +contextual (disch := first | omega | assumption) only [go_sem, Nat.reduceAdd, Nat.reduceSub, Nat.reduceMul, Nat.reduceLT, Nat.reduceLeDiff, Nat.reduceEqDiff, reduceCtorEq, ↓reduceIte, Int.reduceLE, Int.reduceLT, Int.reduceToNat, Int.reduceAdd, Int.reduceSub, Int.reduceEq, Int.reduceNeg, List.append_assoc, cellsCall_def, cellsRule_def, cellsLookup_def, cellsPoint_def, cellsOutline_def, cellsPart_def, cellsAnchor_def, cellsDelta_def, cellsIns_def, cellsGlyph_def, cellsChar_def, cellsFeature_def, cellsAxis_def, cellsTent_def, cellsRegion_def, cellsFont_def, cellsItem_def, cellsText_def, cellsAsk_def]
        exact ih (m + 1, gr', gl') ⟨by simp only; omega, g'⟩ (by simp only; omega)
      · rw [List.take_of_length_le (by omega)]
        refine call_with rfl (((put_callI t k p (r.out.map (withG x0)) _ (gB' _) hfirst hr (by rw [List.length_map]; omega)).shut (by simp only [go_sem, shut, shutL] <;> rfl)).mono fun x h' e => ?_)
        subst e
        rw [sk hlt]
        have hpl2 := putF_len (l := r.out.map (withG x0)) hpl
        rw [List.length_map] at hpl2
        generalize hP : putF t.run p.toNat (r.out.map (withG x0)) = P at *
        simp (maxSteps := 2000000) +contextual (disch := first | omega | assumption) only [go_sem, Nat.reduceAdd, Nat.reduceSub, Nat.reduceMul, Nat.reduceLT, Nat.reduceLeDiff, Nat.reduceEqDiff, reduceCtorEq, ↓reduceIte, Int.reduceLE, Int.reduceLT, Int.reduceToNat, Int.reduceAdd, Int.reduceSub, Int.reduceEq, Int.reduceNeg, List.append_assoc, cellsCall_def, cellsRule_def, cellsLookup_def, cellsPoint_def, cellsOutline_def, cellsPart_def, cellsAnchor_def, cellsDelta_def, cellsIns_def, cellsGlyph_def, cellsChar_def, cellsFeature_def, cellsAxis_def, cellsTent_def, cellsRegion_def, cellsFont_def, cellsItem_def, cellsText_def, cellsAsk_def, gsk, hlt]
        refine fin_do (R := P) (R' := P) ?_ rfl (Grows.ext q2) rfl
        rw [hrest, max0 (by omega)]
  · -- Ligature
    have eR : doneRun called t.f t.l r t.run l = ligF r t.run l := by rw [doneRun, if_neg (by have := asE_t k3; omega), if_neg (by have := asE_t k3; omega), if_pos (asE_t k3)]
    have eN : ∀ R, doneNext t.l t.run R l = (R.length : Int) - restOf t.run l := fun R => by rw [doneNext, if_neg (by have := asE_t k3; omega), if_neg (by have := asE_t k3; omega)]
    rw [eR, eN]
    refine ⟨fun a1 => ?_, fun a1 => ?_⟩
    · refine call_with rfl ((join_call t k l (r.out.getD 0 default) _ (gB' _) (by intro e; subst e; simp at hl0) hp.hi hr).mono fun x h' e => ?_)
      subst e
      rw [sk hlt]
      have hj := joinF_len (g := r.out.getD 0 default) hp.hi hl0
      rw [ligF, if_pos (by omega)]
      generalize hP : joinF t.run l (r.out.getD 0 default) = P at *
      simp (maxSteps := 2000000) +contextual (disch := first | omega | assumption) only [go_sem, Nat.reduceAdd, Nat.reduceSub, Nat.reduceMul, Nat.reduceLT, Nat.reduceLeDiff, Nat.reduceEqDiff, reduceCtorEq, ↓reduceIte, Int.reduceLE, Int.reduceLT, Int.reduceToNat, Int.reduceAdd, Int.reduceSub, Int.reduceEq, Int.reduceNeg, List.append_assoc, cellsCall_def, cellsRule_def, cellsLookup_def, cellsPoint_def, cellsOutline_def, cellsPart_def, cellsAnchor_def, cellsDelta_def, cellsIns_def, cellsGlyph_def, cellsChar_def, cellsFeature_def, cellsAxis_def, cellsTent_def, cellsRegion_def, cellsFont_def, cellsItem_def, cellsText_def, cellsAsk_def, gsk, hlt]
      have hlst := hp.hi.last_ge hl0
      refine fin_do (R := P) (R' := P) ?_ rfl ⟨[], by simp⟩ rfl
      rw [hrest, max0 (by omega)]
    · have em : ligF r t.run l = t.run := by rw [ligF, if_neg (by omega)]
      rw [em]
      refine fin_do0 (R := t.run) hk ?_ rfl ⟨[], by simp⟩ rfl
      rw [hrest, max0 (by omega)]
  · -- Chain
    have eR : doneRun called t.f t.l r t.run l = callsF called t.f t.l p.toNat r.calls t.run := by rw [doneRun, if_neg (by have := asE_t k4; omega), if_neg (by have := asE_t k4; omega), if_neg (by have := asE_t k4; omega), if_pos (asE_t k4), hpt]
    have eN : ∀ R, doneNext t.l t.run R l = (if (R.length : Int) - restOf t.run l ≤ p then p + 1 else R.length - restOf t.run l) := fun R => by rw [doneNext, if_pos (asE_t k4), hpz]
    rw [eR, eN]
    have hcl := callsF_len hng t.f t.l p.toNat r.calls t.run
    refine call_with rfl ((call_callI hng t deep ht hd k p ⟨hfirst.1, by omega⟩ r.calls rt.h2 _ (gB' _) hr rt.h3).mono fun x h' e => ?_)
    subst e
    rw [sk hlt]
    generalize hP : callsF called t.f t.l p.toNat r.calls t.run = P at *
    simp (maxSteps := 2000000) +contextual (disch := first | omega | assumption) only [go_sem, Nat.reduceAdd, Nat.reduceSub, Nat.reduceMul, Nat.reduceLT, Nat.reduceLeDiff, Nat.reduceEqDiff, reduceCtorEq, ↓reduceIte, Int.reduceLE, Int.reduceLT, Int.reduceToNat, Int.reduceAdd, Int.reduceSub, Int.reduceEq, Int.reduceNeg, List.append_assoc, cellsCall_def, cellsRule_def, cellsLookup_def, cellsPoint_def, cellsOutline_def, cellsPart_def, cellsAnchor_def, cellsDelta_def, cellsIns_def, cellsGlyph_def, cellsChar_def, cellsFeature_def, cellsAxis_def, cellsTent_def, cellsRegion_def, cellsFont_def, cellsItem_def, cellsText_def, cellsAsk_def, gsk, hlt]
    refine fin_do (R := P) (R' := P) ?_ rfl ⟨[], by simp⟩ rfl
    rw [hrest]; split <;> split <;> omega
  · -- Pair
    have eR : doneRun called t.f t.l r t.run l = pairF r t.run p.toNat := by rw [doneRun, if_neg (by have := asE_t k6; omega), if_neg (by have := asE_t k6; omega), if_neg (by have := asE_t k6; omega), if_neg (by have := asE_t k6; omega), if_pos (asE_t k6), hpt]
    have eN : ∀ R, doneNext t.l t.run R l = (if 1 < l.length then lastOf l else (R.length : Int) - restOf t.run l) := fun R => by
      have := asE_t k6
      rw [doneNext, if_neg (by omega)]
      by_cases h1 : 1 < l.length
      · rw [if_pos ⟨by omega, h1⟩, if_pos h1]
      · rw [if_neg (fun h2 => h1 h2.2), if_neg h1]
    rw [eR, eN]
    refine call_with rfl (((put_callI t k p [{ x0 with advance := IntKind.i64.wrap (x0.advance + r.x) }] _ (gB' _) hfirst hr (by simp)).shut (by simp only [go_sem, shut, shutL] <;> rfl)).mono fun x h' e => ?_)
    subst e
    rw [sk hlt]
    have hP : putF t.run p.toNat [{ x0 with advance := IntKind.i64.wrap (x0.advance + r.x) }] = pairF r t.run p.toNat := by rw [pairF, hx0]
    have hPl : (pairF r t.run p.toNat).length = t.run.length := putF1 hpl
    rw [hP]
    generalize pairF r t.run p.toNat = P at *
    simp (maxSteps := 2000000) +contextual (disch := first | omega | assumption) only [go_sem, Nat.reduceAdd, Nat.reduceSub, Nat.reduceMul, Nat.reduceLT, Nat.reduceLeDiff, Nat.reduceEqDiff, reduceCtorEq, ↓reduceIte, Int.reduceLE, Int.reduceLT, Int.reduceToNat, Int.reduceAdd, Int.reduceSub, Int.reduceEq, Int.reduceNeg, List.append_assoc, cellsCall_def, cellsRule_def, cellsLookup_def, cellsPoint_def, cellsOutline_def, cellsPart_def, cellsAnchor_def, cellsDelta_def, cellsIns_def, cellsGlyph_def, cellsChar_def, cellsFeature_def, cellsAxis_def, cellsTent_def, cellsRegion_def, cellsFont_def, cellsItem_def, cellsText_def, cellsAsk_def, gsk, hlt]
    refine ⟨fun a1 => ?_, fun a1 => ?_⟩
    · refine fin_do (R := P) (R' := P) ?_ rfl ⟨[], by simp⟩ rfl
      rw [if_pos (by omega)]
    · refine fin_do (R := P) (R' := P) ?_ rfl ⟨[], by simp⟩ rfl
      rw [max0 (by omega), if_neg (by omega), hrest]
  · -- Single
    have eR : doneRun called t.f t.l r t.run l = singleF r t.run p.toNat := by rw [doneRun, if_pos (by have := asE_t k1; omega), hpt]
    have eN : ∀ R, doneNext t.l t.run R l = (R.length : Int) - restOf t.run l := fun R => by rw [doneNext, if_neg (by have := asE_t k1; omega), if_neg (by have := asE_t k1; omega)]
    rw [eR, eN]
    have hin : 0 < r.in_.length := by rw [← hp.hn]; exact hl0
    have hin' : (0 : Int) < r.in_.length := by omega
    refine awp_drawT (by kernel_rfl) 8 (by kernel_rfl) ?_
    simp (maxSteps := 2000000) +contextual (disch := first | omega | assumption) only [go_sem, Nat.reduceAdd, Nat.reduceSub, Nat.reduceMul, Nat.reduceLT, Nat.reduceLeDiff, Nat.reduceEqDiff, reduceCtorEq, ↓reduceIte, Int.reduceLE, Int.reduceLT, Int.reduceToNat, Int.reduceAdd, Int.reduceSub, Int.reduceEq, Int.reduceNeg, List.append_assoc, cellsCall_def, cellsRule_def, cellsLookup_def, cellsPoint_def, cellsOutline_def, cellsPart_def, cellsAnchor_def, cellsDelta_def, cellsIns_def, cellsGlyph_def, cellsChar_def, cellsFeature_def, cellsAxis_def, cellsTent_def, cellsRegion_def, cellsFont_def, cellsItem_def, cellsText_def, cellsAsk_def, hin']
    refine callq_pure rfl (Index_pure .no (r.in_.getD 0 default) x0.glyph (rt.h4 _ (getD_memA hin))) ?_
    have hoi := other_index r x0.glyph
    have hidx : indexOf (r.in_.getD 0 default) x0.glyph = if (r.in_.getD 0 default).contains x0.glyph then ((r.in_.getD 0 default).idxOf x0.glyph : Int) else -1 := rfl
    simp (maxSteps := 2000000) +contextual (disch := first | omega | assumption) only [go_sem, Nat.reduceAdd, Nat.reduceSub, Nat.reduceMul, Nat.reduceLT, Nat.reduceLeDiff, Nat.reduceEqDiff, reduceCtorEq, ↓reduceIte, Int.reduceLE, Int.reduceLT, Int.reduceToNat, Int.reduceAdd, Int.reduceSub, Int.reduceEq, Int.reduceNeg, List.append_assoc, cellsCall_def, cellsRule_def, cellsLookup_def, cellsPoint_def, cellsOutline_def, cellsPart_def, cellsAnchor_def, cellsDelta_def, cellsIns_def, cellsGlyph_def, cellsChar_def, cellsFeature_def, cellsAxis_def, cellsTent_def, cellsRegion_def, cellsFont_def, cellsItem_def, cellsText_def, cellsAsk_def, gB]
    have stay : ¬((r.in_.getD 0 default).contains x0.glyph = true ∧ (r.in_.getD 0 default).idxOf x0.glyph < r.out.length) → singleF r t.run p.toNat = t.run := fun hn => by rw [singleF, hx0, hoi, if_neg hn, if_neg (by simp)]
    refine ⟨fun a1 => ⟨fun a2 => ?_, fun a2 => ?_⟩, fun a1 => ?_⟩
    · have hc : (r.in_.getD 0 default).contains x0.glyph = true := by
        cases hc : (r.in_.getD 0 default).contains x0.glyph with
        | true => rfl
        | false => rw [hidx, hc] at a1; simp at a1
      rw [hidx, if_pos hc] at a1 a2 ⊢
      have hot : other r x0.glyph = (r.out.getD ((r.in_.getD 0 default).idxOf x0.glyph) default, true) := by rw [hoi, if_pos ⟨hc, by omega⟩]
      have ei : singleF r t.run p.toNat = putF t.run p.toNat [withG x0 (r.out.getD ((r.in_.getD 0 default).idxOf x0.glyph) default)] := by rw [singleF, hx0, hot, if_pos rfl]
      rw [ei]
      generalize (r.in_.getD 0 default).idxOf x0.glyph = ix at *
      refine awp_drawT (by kernel_rfl) 10 (by kernel_rfl) ?_
      simp (maxSteps := 2000000) +contextual (disch := first | omega | assumption) only [go_sem, Nat.reduceAdd, Nat.reduceSub, Nat.reduceMul, Nat.reduceLT, Nat.reduceLeDiff, Nat.reduceEqDiff, reduceCtorEq, ↓reduceIte, Int.reduceLE, Int.reduceLT, Int.reduceToNat, Int.reduceAdd, Int.reduceSub, Int.reduceEq, Int.reduceNeg, List.append_assoc, cellsCall_def, cellsRule_def, cellsLookup_def, cellsPoint_def, cellsOutline_def, cellsPart_def, cellsAnchor_def, cellsDelta_def, cellsIns_def, cellsGlyph_def, cellsChar_def, cellsFeature_def, cellsAxis_def, cellsTent_def, cellsRegion_def, cellsFont_def, cellsItem_def, cellsText_def, cellsAsk_def, a1, a2, gB]
      refine callq_pure rfl (with_pure x0 _) ?_
      simp (maxSteps := 2000000) +contextual (disch := first | omega | assumption) only [go_sem, Nat.reduceAdd, Nat.reduceSub, Nat.reduceMul, Nat.reduceLT, Nat.reduceLeDiff, Nat.reduceEqDiff, reduceCtorEq, ↓reduceIte, Int.reduceLE, Int.reduceLT, Int.reduceToNat, Int.reduceAdd, Int.reduceSub, Int.reduceEq, Int.reduceNeg, List.append_assoc, cellsCall_def, cellsRule_def, cellsLookup_def, cellsPoint_def, cellsOutline_def, cellsPart_def, cellsAnchor_def, cellsDelta_def, cellsIns_def, cellsGlyph_def, cellsChar_def, cellsFeature_def, cellsAxis_def, cellsTent_def, cellsRegion_def, cellsFont_def, cellsItem_def, cellsText_def, cellsAsk_def, a1, a2]
      refine call_with rfl (((put_callI t k p [withG x0 (r.out.getD ix default)] _ (gB' _) hfirst hr (by simp)).shut (by simp only [go_sem, shut, shutL] <;> rfl)).mono fun x h' e => ?_)
      subst e
      rw [sk hlt]
      have hPl : (putF t.run p.toNat [withG x0 (r.out.getD ix default)]).length = t.run.length := putF1 hpl
      generalize putF t.run p.toNat [withG x0 (r.out.getD ix default)] = P at *
      simp (maxSteps := 2000000) +contextual (disch := first | omega | assumption) only [go_sem, Nat.reduceAdd, Nat.reduceSub, Nat.reduceMul, Nat.reduceLT, Nat.reduceLeDiff, Nat.reduceEqDiff, reduceCtorEq, ↓reduceIte, Int.reduceLE, Int.reduceLT, Int.reduceToNat, Int.reduceAdd, Int.reduceSub, Int.reduceEq, Int.reduceNeg, List.append_assoc, cellsCall_def, cellsRule_def, cellsLookup_def, cellsPoint_def, cellsOutline_def, cellsPart_def, cellsAnchor_def, cellsDelta_def, cellsIns_def, cellsGlyph_def, cellsChar_def, cellsFeature_def, cellsAxis_def, cellsTent_def, cellsRegion_def, cellsFont_def, cellsItem_def, cellsText_def, cellsAsk_def, gsk, hlt]
      refine fin_do (R := P) (R' := P) ?_ rfl ⟨[], by simp⟩ rfl
      rw [hrest, max0 (by omega)]
    · rw [stay fun ⟨hc, h2⟩ => a2 (by rw [hidx, if_pos hc]; omega)]
      refine fin_do0 (R := t.run) hk ?_ rfl ⟨[], by simp⟩ rfl
      rw [hrest, max0 (by omega)]
    · rw [stay fun ⟨hc, h2⟩ => a1 (by rw [hidx, if_pos hc]; omega)]
      refine fin_do0 (R := t.run) hk ?_ rfl ⟨[], by simp⟩ rfl
      rw [hrest, max0 (by omega)]
  · -- Reverse
    have eR : doneRun called t.f t.l r t.run l = singleF r t.run p.toNat := by rw [doneRun, if_pos (by have := asE_t k5; omega), hpt]
    have eN : ∀ R, doneNext t.l t.run R l = (R.length : Int) - restOf t.run l := fun R => by rw [doneNext, if_neg (by have := asE_t k5; omega), if_neg (by have := asE_t k5; omega)]
    rw [eR, eN]
    have hin : 0 < r.in_.length := by rw [← hp.hn]; exact hl0
    have hin' : (0 : Int) < r.in_.length := by omega
    refine awp_drawT (by kernel_rfl) 8 (by kernel_rfl) ?_
    simp (maxSteps := 2000000) +contextual (disch := first | omega | assumption) only [go_sem, Nat.reduceAdd, Nat.reduceSub, Nat.reduceMul, Nat.reduceLT, Nat.reduceLeDiff, Nat.reduceEqDiff, reduceCtorEq, ↓reduceIte, Int.reduceLE, Int.reduceLT, Int.reduceToNat, Int.reduceAdd, Int.reduceSub, Int.reduceEq, Int.reduceNeg, List.append_assoc, cellsCall_def, cellsRule_def, cellsLookup_def, cellsPoint_def, cellsOutline_def, cellsPart_def, cellsAnchor_def, cellsDelta_def, cellsIns_def, cellsGlyph_def, cellsChar_def, cellsFeature_def, cellsAxis_def, cellsTent_def, cellsRegion_def, cellsFont_def, cellsItem_def, cellsText_def, cellsAsk_def, hin']
    refine callq_pure rfl (Index_pure .no (r.in_.getD 0 default) x0.glyph (rt.h4 _ (getD_memA hin))) ?_
    have hoi := other_index r x0.glyph
    have hidx : indexOf (r.in_.getD 0 default) x0.glyph = if (r.in_.getD 0 default).contains x0.glyph then ((r.in_.getD 0 default).idxOf x0.glyph : Int) else -1 := rfl
    simp (maxSteps := 2000000) +contextual (disch := first | omega | assumption) only [go_sem, Nat.reduceAdd, Nat.reduceSub, Nat.reduceMul, Nat.reduceLT, Nat.reduceLeDiff, Nat.reduceEqDiff, reduceCtorEq, ↓reduceIte, Int.reduceLE, Int.reduceLT, Int.reduceToNat, Int.reduceAdd, Int.reduceSub, Int.reduceEq, Int.reduceNeg, List.append_assoc, cellsCall_def, cellsRule_def, cellsLookup_def, cellsPoint_def, cellsOutline_def, cellsPart_def, cellsAnchor_def, cellsDelta_def, cellsIns_def, cellsGlyph_def, cellsChar_def, cellsFeature_def, cellsAxis_def, cellsTent_def, cellsRegion_def, cellsFont_def, cellsItem_def, cellsText_def, cellsAsk_def, gB]
    have stay : ¬((r.in_.getD 0 default).contains x0.glyph = true ∧ (r.in_.getD 0 default).idxOf x0.glyph < r.out.length) → singleF r t.run p.toNat = t.run := fun hn => by rw [singleF, hx0, hoi, if_neg hn, if_neg (by simp)]
    refine ⟨fun a1 => ⟨fun a2 => ?_, fun a2 => ?_⟩, fun a1 => ?_⟩
    · have hc : (r.in_.getD 0 default).contains x0.glyph = true := by
        cases hc : (r.in_.getD 0 default).contains x0.glyph with
        | true => rfl
        | false => rw [hidx, hc] at a1; simp at a1
      rw [hidx, if_pos hc] at a1 a2 ⊢
      have hot : other r x0.glyph = (r.out.getD ((r.in_.getD 0 default).idxOf x0.glyph) default, true) := by rw [hoi, if_pos ⟨hc, by omega⟩]
      have ei : singleF r t.run p.toNat = putF t.run p.toNat [withG x0 (r.out.getD ((r.in_.getD 0 default).idxOf x0.glyph) default)] := by rw [singleF, hx0, hot, if_pos rfl]
      rw [ei]
      generalize (r.in_.getD 0 default).idxOf x0.glyph = ix at *
      refine awp_drawT (by kernel_rfl) 10 (by kernel_rfl) ?_
      simp (maxSteps := 2000000) +contextual (disch := first | omega | assumption) only [go_sem, Nat.reduceAdd, Nat.reduceSub, Nat.reduceMul, Nat.reduceLT, Nat.reduceLeDiff, Nat.reduceEqDiff, reduceCtorEq, ↓reduceIte, Int.reduceLE, Int.reduceLT, Int.reduceToNat, Int.reduceAdd, Int.reduceSub, Int.reduceEq, Int.reduceNeg, List.append_assoc, cellsCall_def, cellsRule_def, cellsLookup_def, cellsPoint_def, cellsOutline_def, cellsPart_def, cellsAnchor_def, cellsDelta_def, cellsIns_def, cellsGlyph_def, cellsChar_def, cellsFeature_def, cellsAxis_def, cellsTent_def, cellsRegion_def, cellsFont_def, cellsItem_def, cellsText_def, cellsAsk_def, a1, a2, gB]
      refine callq_pure rfl (with_pure x0 _) ?_
      simp (maxSteps := 2000000) +contextual (disch := first | omega | assumption) only [go_sem, Nat.reduceAdd, Nat.reduceSub, Nat.reduceMul, Nat.reduceLT, Nat.reduceLeDiff, Nat.reduceEqDiff, reduceCtorEq, ↓reduceIte, Int.reduceLE, Int.reduceLT, Int.reduceToNat, Int.reduceAdd, Int.reduceSub, Int.reduceEq, Int.reduceNeg, List.append_assoc, cellsCall_def, cellsRule_def, cellsLookup_def, cellsPoint_def, cellsOutline_def, cellsPart_def, cellsAnchor_def, cellsDelta_def, cellsIns_def, cellsGlyph_def, cellsChar_def, cellsFeature_def, cellsAxis_def, cellsTent_def, cellsRegion_def, cellsFont_def, cellsItem_def, cellsText_def, cellsAsk_def, a1, a2]
      refine call_with rfl (((put_callI t k p [withG x0 (r.out.getD ix default)] _ (gB' _) hfirst hr (by simp)).shut (by simp only [go_sem, shut, shutL] <;> rfl)).mono fun x h' e => ?_)
      subst e
      rw [sk hlt]
      have hPl : (putF t.run p.toNat [withG x0 (r.out.getD ix default)]).length = t.run.length := putF1 hpl
      generalize putF t.run p.toNat [withG x0 (r.out.getD ix default)] = P at *
      simp (maxSteps := 2000000) +contextual (disch := first | omega | assumption) only [go_sem, Nat.reduceAdd, Nat.reduceSub, Nat.reduceMul, Nat.reduceLT, Nat.reduceLeDiff, Nat.reduceEqDiff, reduceCtorEq, ↓reduceIte, Int.reduceLE, Int.reduceLT, Int.reduceToNat, Int.reduceAdd, Int.reduceSub, Int.reduceEq, Int.reduceNeg, List.append_assoc, cellsCall_def, cellsRule_def, cellsLookup_def, cellsPoint_def, cellsOutline_def, cellsPart_def, cellsAnchor_def, cellsDelta_def, cellsIns_def, cellsGlyph_def, cellsChar_def, cellsFeature_def, cellsAxis_def, cellsTent_def, cellsRegion_def, cellsFont_def, cellsItem_def, cellsText_def, cellsAsk_def, gsk, hlt]
      refine fin_do (R := P) (R' := P) ?_ rfl ⟨[], by simp⟩ rfl
      rw [hrest, max0 (by omega)]
    · rw [stay fun ⟨hc, h2⟩ => a2 (by rw [hidx, if_pos hc]; omega)]
      refine fin_do0 (R := t.run) hk ?_ rfl ⟨[], by simp⟩ rfl
      rw [hrest, max0 (by omega)]
    · rw [stay fun ⟨hc, h2⟩ => a1 (by rw [hidx, if_pos hc]; omega)]
      refine fin_do0 (R := t.run) hk ?_ rfl ⟨[], by simp⟩ rfl
      rw [hrest, max0 (by omega)]
  · have eR : doneRun called t.f t.l r t.run l = t.run := by
      have := asE_f k1; have := asE_f k2; have := asE_f k3; have := asE_f k4; have := asE_f k5; have := asE_f k6
      rw [doneRun, if_neg (by omega), if_neg (by omega), if_neg (by omega), if_neg (by omega), if_neg (by omega)]
    have eN : doneNext t.l t.run t.run l = (t.run.length : Int) - restOf t.run l := by
      have := asE_f k4; have := asE_f k6
      rw [doneNext, if_neg (by omega), if_neg (by omega)]
    rw [eR, eN]
    refine fin_do0 (R := t.run) hk ?_ rfl ⟨[], by simp⟩ rfl
    rw [hrest, max0 (by omega)]
end Go.V
namespace Go.V
open Go Go.Proofs Go.Shelf
set_option linter.unusedVariables false
set_option linter.unusedSimpArgs false
set_option maxRecDepth 10000
set_option maxHeartbeats 2000000
/-- A font whose lookups are not too much. -/
structure Tame (f : Font) : Prop where
  h1 : f.lookups.length ≤ 17592186044416
  h2 : ∀ l ∈ f.lookups, l.rules.length ≤ 17592186044416 ∧ ∀ r ∈ l.rules, RuleT r ∧ r.in_.length ≤ 17592186044416 ∧ r.ahead.length ≤ 17592186044416 ∧ r.back.length ≤ 17592186044416 ∧ (∀ s ∈ r.ahead, s.length ≤ 9223372036854775806) ∧ (∀ s ∈ r.back, s.length ≤ 9223372036854775806)
theorem Tame.ok {f : Font} (h : Tame f) {run : List Item} (hr : run.length ≤ 500000) : FontOk f run :=
  ⟨h.h1, fun l hl => ⟨(h.h2 l hl).1, fun r hr' => by
    obtain ⟨a, b, c, d, e, g⟩ := (h.h2 l hl).2 r hr'
    exact ⟨⟨b, by omega, a.h4⟩, ⟨c, by omega, e⟩, ⟨d, by omega, g⟩⟩⟩⟩
theorem find_match {f : Font} {k : Int} {run : List Item} {p : Int} {forms : List Int} (hk : 0 ≤ k ∧ k < f.lookups.length) : find ⟨f, f.lookups.getD k.toNat default, run⟩ p forms = matchF f k run p forms := by
  rw [← own_match, ownMatch, show atF f k run = _ from if_pos hk]
  simp only [if_true]
def stepF (called : Int → List Item → Int → List Item) (f : Font) (k : Int) (run : List Item) (p : Int) : List Item :=
  if 0 ≤ k ∧ k < f.lookups.length ∧ 1 ≤ (f.lookups.getD k.toNat default).kind ∧ (f.lookups.getD k.toNat default).kind ≤ 4 then
    if (matchF f k run p []).1 < 0 then run
    else doneRun called f (f.lookups.getD k.toNat default) ((f.lookups.getD k.toNat default).rules.getD (matchF f k run p []).1.toNat default) run (matchF f k run p []).2
  else run
theorem tried_pure {f : Font} (hf : Tame f) {called : Int → List Item → Int → List Item} (hng : NoGrow called) {deep : Int} (hd : 1 ≤ deep ∧ deep ≤ 5) (ht : deep ≤ 4 → TriedAt f called (deep + 1)) : TriedAt f (fun k run p => if 4 < deep then run else stepF called f k run p) deep := by
  intro k run p hr
  simp only
  generalize hV : (if 4 < deep then run else stepF called f k run p) = V
  refine pure_of (rs := [.tmp 10]) (m := 55) Try.func56 rfl rfl rfl fun h => ?_
  simp (maxSteps := 2000000) +contextual (disch := first | omega | assumption) only [go_sem, Nat.reduceAdd, Nat.reduceSub, Nat.reduceMul, Nat.reduceLT, Nat.reduceLeDiff, Nat.reduceEqDiff, reduceCtorEq, ↓reduceIte, Int.reduceLE, Int.reduceLT, Int.reduceToNat, Int.reduceAdd, Int.reduceSub, Int.reduceEq, Int.reduceNeg, List.append_assoc, cellsCall_def, cellsRule_def, cellsLookup_def, cellsPoint_def, cellsOutline_def, cellsPart_def, cellsAnchor_def, cellsDelta_def, cellsIns_def, cellsGlyph_def, cellsChar_def, cellsFeature_def, cellsAxis_def, cellsTent_def, cellsRegion_def, cellsFont_def, cellsItem_def, cellsText_def, cellsAsk_def]
  refine call_pure rfl (at_pure f k run) ?_
  by_cases hv : 0 ≤ k ∧ k < f.lookups.length
  · rw [show atF f k run = (⟨f, f.lookups.getD k.toNat default, run⟩, true) from if_pos hv]
    have hlk := hf.h2 _ (getD_memA (k := k.toNat) (l := f.lookups) (by omega))
    have hro := ((hf.ok hr).h2 _ (getD_memA (k := k.toNat) (l := f.lookups) (by omega))).2
    have hfm := find_match (run := run) (p := p) (forms := []) hv
    have hmk : 0 ≤ (matchF f k run p []).1 → Places run ((f.lookups.getD k.toNat default).rules.getD (matchF f k run p []).1.toNat default) p (matchF f k run p []).2 ∧ (matchF f k run p []).1.toNat < (f.lookups.getD k.toNat default).rules.length := fun h => ⟨(match_ok (forms := []) h).places, (match_ok (forms := []) h).hm⟩
    have v1 : 4 < deep → V = run := fun h => by rw [← hV, if_pos h]
    have v2 : ¬4 < deep → ¬(1 ≤ (f.lookups.getD k.toNat default).kind ∧ (f.lookups.getD k.toNat default).kind ≤ 4) → V = run := fun h h' => by rw [← hV, if_neg h, stepF, if_neg (fun q => h' q.2.2)]
    have v3 : ¬4 < deep → (1 ≤ (f.lookups.getD k.toNat default).kind ∧ (f.lookups.getD k.toNat default).kind ≤ 4) → (matchF f k run p []).1 < 0 → V = run := fun h h' h'' => by rw [← hV, if_neg h, stepF, if_pos ⟨hv.1, hv.2, h'⟩, if_pos h'']
    have v4 : ¬4 < deep → (1 ≤ (f.lookups.getD k.toNat default).kind ∧ (f.lookups.getD k.toNat default).kind ≤ 4) → ¬(matchF f k run p []).1 < 0 → V = doneRun called f (f.lookups.getD k.toNat default) ((f.lookups.getD k.toNat default).rules.getD (matchF f k run p []).1.toNat default) run (matchF f k run p []).2 := fun h h' h'' => by rw [← hV, if_neg h, stepF, if_pos ⟨hv.1, hv.2, h'⟩, if_neg h'']
    clear hV
    generalize f.lookups.getD k.toNat default = lk at *
    generalize matchF f k run p [] = mt at *
    simp (maxSteps := 2000000) +contextual (disch := first | omega | assumption) only [go_sem, Nat.reduceAdd, Nat.reduceSub, Nat.reduceMul, Nat.reduceLT, Nat.reduceLeDiff, Nat.reduceEqDiff, reduceCtorEq, ↓reduceIte, Int.reduceLE, Int.reduceLT, Int.reduceToNat, Int.reduceAdd, Int.reduceSub, Int.reduceEq, Int.reduceNeg, List.append_assoc, cellsCall_def, cellsRule_def, cellsLookup_def, cellsPoint_def, cellsOutline_def, cellsPart_def, cellsAnchor_def, cellsDelta_def, cellsIns_def, cellsGlyph_def, cellsChar_def, cellsFeature_def, cellsAxis_def, cellsTent_def, cellsRegion_def, cellsFont_def, cellsItem_def, cellsText_def, cellsAsk_def]
    refine ⟨fun a1 => ?_, fun a1 => ⟨fun a2 => ?_, fun a2 => ⟨fun a3 => ?_, fun a3 => ?_⟩⟩⟩
    · rw [v1 a1]
      (all_goals first | assumption | omega | exact pureK_gen (by simp only [go_sem, shut, shutL] <;> rfl) (by intros; simp only [go_sem, cl, clL]) rfl rfl | exact pureK_gen0 (by simp only [go_sem, shut, shutL] <;> rfl) (by intros; simp only [go_sem, cl, clL]) | exact pureK_gl (by simp only [go_sem, shut, shutL] <;> rfl) (by intros; simp only [go_sem, cl, clL]) (Grows.ext (by assumption)) rfl | exact pureK_gl0 (by simp only [go_sem, shut, shutL] <;> rfl) (by intros; simp only [go_sem, cl, clL]) (Grows.ext (by assumption)) rfl | exact pureK_sub (by simp only [go_sem, shut, shutL] <;> rfl) (by intros; simp only [go_sem, cl, clL]) (by assumption) | exact pureK_sub (by simp only [go_sem, shut, shutL] <;> rfl) (by intros; simp only [go_sem, cl, clL]) (Sub.more (by assumption) _))
    · rw [v2 a1 (by omega)]
      (all_goals first | assumption | omega | exact pureK_gen (by simp only [go_sem, shut, shutL] <;> rfl) (by intros; simp only [go_sem, cl, clL]) rfl rfl | exact pureK_gen0 (by simp only [go_sem, shut, shutL] <;> rfl) (by intros; simp only [go_sem, cl, clL]) | exact pureK_gl (by simp only [go_sem, shut, shutL] <;> rfl) (by intros; simp only [go_sem, cl, clL]) (Grows.ext (by assumption)) rfl | exact pureK_gl0 (by simp only [go_sem, shut, shutL] <;> rfl) (by intros; simp only [go_sem, cl, clL]) (Grows.ext (by assumption)) rfl | exact pureK_sub (by simp only [go_sem, shut, shutL] <;> rfl) (by intros; simp only [go_sem, cl, clL]) (by assumption) | exact pureK_sub (by simp only [go_sem, shut, shutL] <;> rfl) (by intros; simp only [go_sem, cl, clL]) (Sub.more (by assumption) _))
    · rw [v2 a1 (by omega)]
      (all_goals first | assumption | omega | exact pureK_gen (by simp only [go_sem, shut, shutL] <;> rfl) (by intros; simp only [go_sem, cl, clL]) rfl rfl | exact pureK_gen0 (by simp only [go_sem, shut, shutL] <;> rfl) (by intros; simp only [go_sem, cl, clL]) | exact pureK_gl (by simp only [go_sem, shut, shutL] <;> rfl) (by intros; simp only [go_sem, cl, clL]) (Grows.ext (by assumption)) rfl | exact pureK_gl0 (by simp only [go_sem, shut, shutL] <;> rfl) (by intros; simp only [go_sem, cl, clL]) (Grows.ext (by assumption)) rfl | exact pureK_sub (by simp only [go_sem, shut, shutL] <;> rfl) (by intros; simp only [go_sem, cl, clL]) (by assumption) | exact pureK_sub (by simp only [go_sem, shut, shutL] <;> rfl) (by intros; simp only [go_sem, cl, clL]) (Sub.more (by assumption) _))
    refine call_shut rfl (find_pure ⟨f, lk, run⟩ p [] (by simp) hlk.1 (fun r hr' => hro r hr') (by simp only; omega)) (by simp only [go_sem, shut, shutL] <;> rfl) ?_
    rw [hfm]
    simp (maxSteps := 2000000) +contextual (disch := first | omega | assumption) only [go_sem, Nat.reduceAdd, Nat.reduceSub, Nat.reduceMul, Nat.reduceLT, Nat.reduceLeDiff, Nat.reduceEqDiff, reduceCtorEq, ↓reduceIte, Int.reduceLE, Int.reduceLT, Int.reduceToNat, Int.reduceAdd, Int.reduceSub, Int.reduceEq, Int.reduceNeg, List.append_assoc, cellsCall_def, cellsRule_def, cellsLookup_def, cellsPoint_def, cellsOutline_def, cellsPart_def, cellsAnchor_def, cellsDelta_def, cellsIns_def, cellsGlyph_def, cellsChar_def, cellsFeature_def, cellsAxis_def, cellsTent_def, cellsRegion_def, cellsFont_def, cellsItem_def, cellsText_def, cellsAsk_def]
    refine ⟨fun a4 => ?_, fun a4 => ?_⟩
    · obtain ⟨hpl, hmi⟩ := hmk a4
      obtain ⟨j, hj⟩ := Int.eq_ofNat_of_zero_le a4
      rw [v4 a1 (by omega) (by omega)]
      rw [hj] at hpl hmi ⊢
      rw [Int.toNat_natCast] at hpl hmi ⊢
      simp (maxSteps := 2000000) +contextual (disch := first | omega | assumption) only [go_sem, Nat.reduceAdd, Nat.reduceSub, Nat.reduceMul, Nat.reduceLT, Nat.reduceLeDiff, Nat.reduceEqDiff, reduceCtorEq, ↓reduceIte, Int.reduceLE, Int.reduceLT, Int.reduceToNat, Int.reduceAdd, Int.reduceSub, Int.reduceEq, Int.reduceNeg, List.append_assoc, cellsCall_def, cellsRule_def, cellsLookup_def, cellsPoint_def, cellsOutline_def, cellsPart_def, cellsAnchor_def, cellsDelta_def, cellsIns_def, cellsGlyph_def, cellsChar_def, cellsFeature_def, cellsAxis_def, cellsTent_def, cellsRegion_def, cellsFont_def, cellsItem_def, cellsText_def, cellsAsk_def, hmi]
      refine call_with rfl ((do_call hng ⟨f, lk, run⟩ deep (ht (by omega)) ⟨by omega, by omega⟩ (h.bx.length + 1) (lk.rules.getD j default) p mt.2 hpl (hlk.2 _ (getD_memA hmi)).1 _ (get_own _ _ 1) hr).mono fun x h' e => ?_)
      obtain ⟨e1, e2⟩ := e
      subst e1; subst e2
      simp (maxSteps := 2000000) +contextual (disch := first | omega | assumption) only [go_sem, Nat.reduceAdd, Nat.reduceSub, Nat.reduceMul, Nat.reduceLT, Nat.reduceLeDiff, Nat.reduceEqDiff, reduceCtorEq, ↓reduceIte, Int.reduceLE, Int.reduceLT, Int.reduceToNat, Int.reduceAdd, Int.reduceSub, Int.reduceEq, Int.reduceNeg, List.append_assoc, cellsCall_def, cellsRule_def, cellsLookup_def, cellsPoint_def, cellsOutline_def, cellsPart_def, cellsAnchor_def, cellsDelta_def, cellsIns_def, cellsGlyph_def, cellsChar_def, cellsFeature_def, cellsAxis_def, cellsTent_def, cellsRegion_def, cellsFont_def, cellsItem_def, cellsText_def, cellsAsk_def]
      (all_goals first | assumption | omega | exact pureK_gen (by simp only [go_sem, shut, shutL] <;> rfl) (by intros; simp only [go_sem, cl, clL]) rfl rfl | exact pureK_gen0 (by simp only [go_sem, shut, shutL] <;> rfl) (by intros; simp only [go_sem, cl, clL]) | exact pureK_gl (by simp only [go_sem, shut, shutL] <;> rfl) (by intros; simp only [go_sem, cl, clL]) (Grows.ext (by assumption)) rfl | exact pureK_gl0 (by simp only [go_sem, shut, shutL] <;> rfl) (by intros; simp only [go_sem, cl, clL]) (Grows.ext (by assumption)) rfl | exact pureK_sub (by simp only [go_sem, shut, shutL] <;> rfl) (by intros; simp only [go_sem, cl, clL]) (by assumption) | exact pureK_sub (by simp only [go_sem, shut, shutL] <;> rfl) (by intros; simp only [go_sem, cl, clL]) (Sub.more (by assumption) _))
    · rw [v3 a1 (by omega) (by omega)]
      (all_goals first | assumption | omega | exact pureK_gen (by simp only [go_sem, shut, shutL] <;> rfl) (by intros; simp only [go_sem, cl, clL]) rfl rfl | exact pureK_gen0 (by simp only [go_sem, shut, shutL] <;> rfl) (by intros; simp only [go_sem, cl, clL]) | exact pureK_gl (by simp only [go_sem, shut, shutL] <;> rfl) (by intros; simp only [go_sem, cl, clL]) (Grows.ext (by assumption)) rfl | exact pureK_gl0 (by simp only [go_sem, shut, shutL] <;> rfl) (by intros; simp only [go_sem, cl, clL]) (Grows.ext (by assumption)) rfl | exact pureK_sub (by simp only [go_sem, shut, shutL] <;> rfl) (by intros; simp only [go_sem, cl, clL]) (by assumption) | exact pureK_sub (by simp only [go_sem, shut, shutL] <;> rfl) (by intros; simp only [go_sem, cl, clL]) (Sub.more (by assumption) _))
  · rw [show atF f k run = _ from if_neg hv]
    have hst : V = run := by
      have : stepF called f k run p = run := by rw [stepF, if_neg (fun h => hv ⟨h.1, h.2.1⟩)]
      rw [← hV, this, ite_self]
    clear hV
    subst hst
    simp (maxSteps := 2000000) +contextual (disch := first | omega | assumption) only [go_sem, Nat.reduceAdd, Nat.reduceSub, Nat.reduceMul, Nat.reduceLT, Nat.reduceLeDiff, Nat.reduceEqDiff, reduceCtorEq, ↓reduceIte, Int.reduceLE, Int.reduceLT, Int.reduceToNat, Int.reduceAdd, Int.reduceSub, Int.reduceEq, Int.reduceNeg, List.append_assoc, cellsCall_def, cellsRule_def, cellsLookup_def, cellsPoint_def, cellsOutline_def, cellsPart_def, cellsAnchor_def, cellsDelta_def, cellsIns_def, cellsGlyph_def, cellsChar_def, cellsFeature_def, cellsAxis_def, cellsTent_def, cellsRegion_def, cellsFont_def, cellsItem_def, cellsText_def, cellsAsk_def]
    (all_goals first | assumption | omega | exact pureK_gen (by simp only [go_sem, shut, shutL] <;> rfl) (by intros; simp only [go_sem, cl, clL]) rfl rfl | exact pureK_gen0 (by simp only [go_sem, shut, shutL] <;> rfl) (by intros; simp only [go_sem, cl, clL]) | exact pureK_gl (by simp only [go_sem, shut, shutL] <;> rfl) (by intros; simp only [go_sem, cl, clL]) (Grows.ext (by assumption)) rfl | exact pureK_gl0 (by simp only [go_sem, shut, shutL] <;> rfl) (by intros; simp only [go_sem, cl, clL]) (Grows.ext (by assumption)) rfl | exact pureK_sub (by simp only [go_sem, shut, shutL] <;> rfl) (by intros; simp only [go_sem, cl, clL]) (by assumption) | exact pureK_sub (by simp only [go_sem, shut, shutL] <;> rfl) (by intros; simp only [go_sem, cl, clL]) (Sub.more (by assumption) _))
/-- Each call, so deep. -/
theorem tried_all {f : Font} (hf : Tame f) : ∀ n : Nat, n ≤ 4 → TriedAt f (calledF f n) (5 - n)
  | 0, _ => by
    have h := tried_pure hf (called := fun _ run _ => run) (fun k run p => by show run.length ≤ _; omega) (deep := 5) (by omega) (fun h => by omega)
    intro k run p hr
    have := h k run p hr
    simp only at this
    rw [if_pos (by omega)] at this
    exact this
  | n + 1, hn => by
    have ih := tried_all hf n (by omega)
    have h := tried_pure hf (calledF_len f n) (deep := 5 - ((n + 1 : Nat) : Int)) (by omega) (fun _ => by rw [show (5 : Int) - ((n + 1 : Nat) : Int) + 1 = 5 - n by omega]; exact ih)
    intro k run p hr
    have := h k run p hr
    simp only at this
    rw [if_neg (by omega)] at this
    exact this
end Go.V
namespace Go.V
open Go Go.Proofs Go.Shelf
set_option linter.unusedVariables false
set_option linter.unusedSimpArgs false
set_option maxRecDepth 10000
set_option maxHeartbeats 2000000
theorem split_at {α : Type} [Inhabited α] {l : List α} {a : Nat} (h : a < l.length) : l = l.take a ++ l.getD a default :: l.drop (a + 1) := by
  conv => lhs; rw [← List.take_append_drop a l, List.drop_eq_getElem_cons h]
  rw [List.getD, List.getElem?_eq_getElem h]; rfl
theorem zip_mem {α : Type} {l : List α} {k : Nat} {p : α × Nat} (h : p ∈ l.zipIdx k) : k ≤ p.2 ∧ p.2 < k + l.length := by
  obtain ⟨x, i⟩ := p
  have := List.mem_zipIdx h
  simp only; omega
theorem filter_out {l : List Item} {k a : Nat} {js : List Int} (h : ∀ x ∈ js, (a : Int) < x) (hk : k + l.length ≤ a + 1) : ((l.zipIdx k).filter (fun p => !js.contains (p.2 : Int))).map Prod.fst = l := by
  have : (l.zipIdx k).filter (fun p => !js.contains (p.2 : Int)) = l.zipIdx k := by
    rw [List.filter_eq_self]
    intro p hp
    have h1 := zip_mem hp
    simp only [Bool.not_eq_true', List.contains_eq_mem, decide_eq_false_iff_not]
    intro h2
    have := h _ h2
    omega
  rw [this]; simp
theorem rem_eq : ∀ {js : List Int} {run : List Item}, Inc run.length js → remF run js = (run.zipIdx.filter (fun p => !js.contains (p.2 : Int))).map Prod.fst
  | [], run, _ => by
    have : run.zipIdx.filter (fun p => !([] : List Int).contains (p.2 : Int)) = run.zipIdx := by rw [List.filter_eq_self]; simp
    rw [this]; simp [remF]
  | a :: js, run, hi => by
    obtain ⟨h1, h2⟩ := hi
    obtain ⟨k1, k2⟩ := List.pairwise_cons.1 h1
    have ha := h2 a (List.mem_cons_self ..)
    obtain ⟨n, rfl⟩ := Int.eq_ofNat_of_zero_le ha.1
    have hn : n < run.length := by omega
    have ih := rem_eq (js := js) (run := run) ⟨k2, fun x hx => h2 x (List.mem_cons_of_mem _ hx)⟩
    have hAl : (run.take n).length = n := by rw [List.length_take]; omega
    rw [remF, ih]
    conv => lhs; rw [split_at hn]
    conv => rhs; rw [split_at hn]
    generalize hA : run.take n = A at *
    generalize run.getD n default = y at *
    generalize run.drop (n + 1) = B at *
    simp only [List.zipIdx_append, List.zipIdx_cons, List.filter_append, List.filter_cons, hAl, Nat.zero_add, Int.toNat_natCast]
    have e1 : (!js.contains (n : Int)) = true := by
      simp only [Bool.not_eq_true', List.contains_eq_mem, decide_eq_false_iff_not]
      intro h; have := k1 _ h; omega
    have e2 : (!((n : Int) :: js).contains (n : Int)) = false := by simp
    have e3 : (B.zipIdx (n + 1)).filter (fun p => !((n : Int) :: js).contains (p.2 : Int)) = (B.zipIdx (n + 1)).filter (fun p => !js.contains (p.2 : Int)) := by
      refine List.filter_congr fun p hp => ?_
      have := zip_mem hp
      simp only [List.contains_cons]
      rw [show ((p.2 : Int) == (n : Int)) = false by simp; omega, Bool.false_or]
    have e4 : (A.zipIdx.filter (fun p => !((n : Int) :: js).contains (p.2 : Int))) = A.zipIdx.filter (fun p => !js.contains (p.2 : Int)) := by
      refine List.filter_congr fun p hp => ?_
      have := zip_mem hp
      simp only [List.contains_cons]
      rw [show ((p.2 : Int) == (n : Int)) = false by simp; omega, Bool.false_or]
    rw [e1, e2, e3, e4]
    simp only [if_true, Bool.false_eq_true, if_false, List.map_append, List.map_cons]
    rw [filter_out (a := n) (k := 0) k1 (by omega)]
    simp only [putF, List.append_nil]
    rw [List.take_left' hAl]
    generalize List.map Prod.fst (List.filter _ (B.zipIdx (n + 1))) = Bf
    rw [show A ++ y :: Bf = (A ++ [y]) ++ Bf by simp, List.drop_left' (by simp [hAl])]
def keepL (l : List Int) (i : Nat) : Bool := decide ((i : Int) = l.getD 0 default) || !l.contains (i : Int)
def itemL (l : List Int) (g c : Int) (p : Item × Nat) : Item := if (p.2 : Int) = l.getD 0 default then ⟨g, c, p.1.form, p.1.advance, p.1.x, p.1.y⟩ else p.1
def ligL (run : List Item) (l : List Int) (g c : Int) : List Item := (run.zipIdx.filter (fun p => keepL l p.2)).map (itemL l g c)
theorem lig_eq {run : List Item} {l : List Int} {g : Int} (hi : Inc run.length l) (h0 : 0 < l.length) : joinF run l g = ligL run l g (leastF run (l.drop 1) (run.getD (l.getD 0 default).toNat default).cluster) := by
  cases l with
  | nil => simp at h0
  | cons a js =>
    obtain ⟨h1, h2⟩ := hi
    obtain ⟨k1, k2⟩ := List.pairwise_cons.1 h1
    have ha := h2 a (List.mem_cons_self ..)
    obtain ⟨n, rfl⟩ := Int.eq_ofNat_of_zero_le ha.1
    have hn : n < run.length := by omega
    have hAl : (run.take n).length = n := by rw [List.length_take]; omega
    simp only [joinF, List.getD_cons_zero, List.drop_succ_cons, List.drop_zero, Int.toNat_natCast]
    generalize leastF run js (run.getD n default).cluster = c
    have hput : (putF run n [{ run.getD n default with glyph := g, cluster := c }]).length = run.length := putF1 hn
    rw [rem_eq ⟨k2, fun x hx => by rw [hput]; exact h2 x (List.mem_cons_of_mem _ hx)⟩]
    simp only [putF, ligL]
    conv => rhs; rw [split_at hn]
    generalize hA : run.take n = A at *
    generalize run.getD n default = y at *
    generalize run.drop (n + 1) = B at *
    simp only [List.append_assoc, List.cons_append, List.nil_append, List.zipIdx_append, List.zipIdx_cons, List.filter_append, List.filter_cons, hAl, Nat.zero_add]
    have e1 : (!js.contains (n : Int)) = true := by
      simp only [Bool.not_eq_true', List.contains_eq_mem, decide_eq_false_iff_not]
      intro h; have := k1 _ h; omega
    have e2 : keepL ((n : Int) :: js) n = true := by simp [keepL]
    have e3 : (B.zipIdx (n + 1)).filter (fun p => keepL ((n : Int) :: js) p.2) = (B.zipIdx (n + 1)).filter (fun p => !js.contains (p.2 : Int)) := by
      refine List.filter_congr fun p hp => ?_
      have := zip_mem hp
      simp only [keepL, List.contains_cons, List.getD_cons_zero]
      rw [show ((p.2 : Int) == (n : Int)) = false by simp; omega, decide_eq_false (by omega), Bool.false_or, Bool.false_or]
    have e4 : (A.zipIdx.filter (fun p => keepL ((n : Int) :: js) p.2)) = A.zipIdx := by
      rw [List.filter_eq_self]
      intro p hp
      have := zip_mem hp
      simp only [keepL, List.contains_cons, List.getD_cons_zero]
      rw [show ((p.2 : Int) == (n : Int)) = false by simp; omega, decide_eq_false (by omega), Bool.false_or, Bool.false_or]
      simp only [Bool.not_eq_true', List.contains_eq_mem, decide_eq_false_iff_not]
      intro h; have := k1 _ h; omega
    have m1 : A.zipIdx.map (itemL ((n : Int) :: js) g c) = A := by
      have : A.zipIdx.map (itemL ((n : Int) :: js) g c) = A.zipIdx.map Prod.fst := by
        refine List.map_congr_left fun p hp => ?_
        have := zip_mem hp
        rw [itemL, List.getD_cons_zero, if_neg (by omega)]
      rw [this]; simp
    have m2 : ∀ q : Nat → Bool, ((B.zipIdx (n + 1)).filter (fun p => q p.2)).map (itemL ((n : Int) :: js) g c) = ((B.zipIdx (n + 1)).filter (fun p => q p.2)).map Prod.fst := fun q => by
      refine List.map_congr_left fun p hp => ?_
      have := zip_mem (List.mem_filter.1 hp).1
      rw [itemL, List.getD_cons_zero, if_neg (by omega)]
    rw [e1, e2, e3, e4]
    simp only [if_true, List.map_append, List.map_cons]
    rw [filter_out (a := n) (k := 0) k1 (by omega), m1, m2 (fun i => !js.contains (i : Int))]
    simp [itemL]
theorem ligL_step {run : List Item} {l : List Int} {g c : Int} {i : Nat} (h : i < run.length) : ligL (run.take (i + 1)) l g c = ligL (run.take i) l g c ++ (if keepL l i then [itemL l g c (run.getD i default, i)] else []) := by
  have hl : (run.take i).length = i := by rw [List.length_take]; omega
  rw [ligL, List.take_add_one, List.getElem?_eq_getElem h]
  simp only [Option.toList_some, List.zipIdx_append, List.zipIdx_cons, List.zipIdx_nil, List.filter_append, List.map_append, hl, Nat.zero_add]
  rw [← ligL]
  congr 1
  rw [List.filter_cons, List.getD, List.getElem?_eq_getElem h]
  simp only [Option.getD_some]
  split
  · simp
  · simp
end Go.V
namespace Go.V
open Go Go.Proofs Go.Shelf
set_option linter.unusedVariables false
set_option linter.unusedSimpArgs false
set_option maxRecDepth 10000
set_option maxHeartbeats 2000000
theorem least_all {run : List Item} {l : List Int} (h0 : 0 < l.length) : leastF run l (run.getD (l.getD 0 default).toNat default).cluster = leastF run (l.drop 1) (run.getD (l.getD 0 default).toNat default).cluster := by
  cases l with
  | nil => simp at h0
  | cons a js =>
    simp only [leastF, List.foldl_cons, List.getD_cons_zero, List.drop_succ_cons, List.drop_zero]
    rw [if_neg (by omega)]
theorem ligated_pure (run : List Item) (r : Rule) (l : List Int) (hi : Inc run.length l) (h0 : 0 < l.length) (ho : 0 < r.out.length) (h1 : run.length ≤ 500000) :
    Pure Try.prog 49 [rowEItem run, encRule r, rowEI l] (rowEItem (joinF run l (r.out.getD 0 default))) := by
  have hll := hi.len
  have b0 := hi.h2 _ (getD_memA (k := 0) (l := l) h0)
  have h0' : (0 : Int) < l.length := by omega
  have ho' : (0 : Int) < r.out.length := by omega
  rw [lig_eq hi h0, ← least_all h0]
  refine pure_of (rs := [.tmp 6]) (m := 79) Try.func49 rfl rfl rfl fun h => ?_
  simp (maxSteps := 2000000) +contextual (disch := first | omega | assumption) only [go_sem, Nat.reduceAdd, Nat.reduceSub, Nat.reduceMul, Nat.reduceLT, Nat.reduceLeDiff, Nat.reduceEqDiff, reduceCtorEq, ↓reduceIte, Int.reduceLE, Int.reduceLT, Int.reduceToNat, Int.reduceAdd, Int.reduceSub, Int.reduceEq, Int.reduceNeg, List.append_assoc, cellsCall_def, cellsRule_def, cellsLookup_def, cellsPoint_def, cellsOutline_def, cellsPart_def, cellsAnchor_def, cellsDelta_def, cellsIns_def, cellsGlyph_def, cellsChar_def, cellsFeature_def, cellsAxis_def, cellsTent_def, cellsRegion_def, cellsFont_def, cellsItem_def, cellsText_def, cellsAsk_def, h0', b0]
  generalize hx0 : run.getD (l.getD 0 default).toNat default = x0
  refine loop3 (ι := Nat) [8, 9, 20, 21, 22, 23, 24, 25, 26, 27, 28, 29, 30, 31, 32, 33, 34, 35, 36, 37, 38, 39, 40, 41, 42, 43] [20, 21, 22, 23, 24, 25, 26, 27, 28, 29, 30, 31, 32, 33, 34, 35, 36, 37, 38, 39, 40, 41, 42, 43] (fun m => [(8, .int (leastF run (l.take m) x0.cluster)), (9, .int m)]) (fun m => m ≤ l.length) (fun m => l.length - m) (fun m => { bx := h.bx ++ [cellsRule r], gl := h.gl, lp := h.lp }) 0 (Nat.zero_le _) (by simp only [setTr_nil, setTr_cons, forget, List.foldl_cons, List.foldl_nil, set8, List.set_cons_succ, List.set_cons_zero] <;> rfl) rfl ?_
  rintro L m q1 ih; simp only [setTr_nil, setTr_cons, forget, List.foldl_cons, List.foldl_nil, set8, List.set_cons_succ, List.set_cons_zero] at ih ⊢
  simp (maxSteps := 2000000) +contextual (disch := first | omega | assumption) only [go_sem, Nat.reduceAdd, Nat.reduceSub, Nat.reduceMul, Nat.reduceLT, Nat.reduceLeDiff, Nat.reduceEqDiff, reduceCtorEq, ↓reduceIte, Int.reduceLE, Int.reduceLT, Int.reduceToNat, Int.reduceAdd, Int.reduceSub, Int.reduceEq, Int.reduceNeg, List.append_assoc, cellsCall_def, cellsRule_def, cellsLookup_def, cellsPoint_def, cellsOutline_def, cellsPart_def, cellsAnchor_def, cellsDelta_def, cellsIns_def, cellsGlyph_def, cellsChar_def, cellsFeature_def, cellsAxis_def, cellsTent_def, cellsRegion_def, cellsFont_def, cellsItem_def, cellsText_def, cellsAsk_def]
  refine ⟨fun g1 => ?_, fun g1 => ?_⟩
  · have hm := hi.h2 _ (getD_memA (k := m) (l := l) g1)
    simp (maxSteps := 2000000) +contextual (disch := first | omega | assumption) only [go_sem, Nat.reduceAdd, Nat.reduceSub, Nat.reduceMul, Nat.reduceLT, Nat.reduceLeDiff, Nat.reduceEqDiff, reduceCtorEq, ↓reduceIte, Int.reduceLE, Int.reduceLT, Int.reduceToNat, Int.reduceAdd, Int.reduceSub, Int.reduceEq, Int.reduceNeg, List.append_assoc, cellsCall_def, cellsRule_def, cellsLookup_def, cellsPoint_def, cellsOutline_def, cellsPart_def, cellsAnchor_def, cellsDelta_def, cellsIns_def, cellsGlyph_def, cellsChar_def, cellsFeature_def, cellsAxis_def, cellsTent_def, cellsRegion_def, cellsFont_def, cellsItem_def, cellsText_def, cellsAsk_def, g1, hm]
    have es := leastF_succ (run := run) (c := x0.cluster) g1
    refine ⟨fun g2 => ?_, fun g2 => ?_⟩
    · have := ih (m + 1) (by omega) (by omega)
      rw [es, if_pos g2] at this
      exact this
    · have := ih (m + 1) (by omega) (by omega)
      rw [es, if_neg g2] at this
      exact this
  · rw [List.take_of_length_le (by omega)]
    clear ih
    generalize leastF run l x0.cluster = c
    refine loop3 (ι := Nat × Gr × Hp) [7, 10, 11, 44, 45, 46, 47, 48, 49, 50, 51, 52, 53, 54, 55, 56, 57, 58, 59, 60, 61, 62, 63, 64, 65, 66, 67, 68, 69, 70, 71, 72, 73, 74, 75, 76, 77, 78, 79, 80] [11, 44, 45, 46, 47, 48, 49, 50, 51, 52, 53, 54, 55, 56, 57, 58, 59, 60, 61, 62, 63, 64, 65, 66, 67, 68, 69, 70, 71, 72, 73, 74, 75, 76, 77, 78, 79, 80] (fun y => [(7, .row y.2.1 ((ligL (run.take y.1) l (r.out.getD 0 default) c).map encItem)), (10, .int y.1)]) (fun y => y.1 ≤ run.length ∧ (∃ e, y.2.2.bx = h.bx ++ ([cellsRule r] ++ e)) ∧ Grows 6 h.gl y.2.1 y.2.2.gl ∧ y.2.2.lp = h.lp) (fun y => run.length - y.1) (fun y => y.2.2) (0, .full, { bx := h.bx ++ [cellsRule r], gl := h.gl, lp := h.lp }) ⟨Nat.zero_le _, ⟨[], rfl⟩, grows_new _ _, rfl⟩ (by simp only [setTr_nil, setTr_cons, forget, List.foldl_cons, List.foldl_nil, set8, List.set_cons_succ, List.set_cons_zero] <;> rfl) rfl ?_
    rintro L ⟨i, gr, ⟨B, gl, lp⟩⟩ ⟨q1, ⟨e, q2⟩, q3, q4⟩ ih; simp only [setTr_nil, setTr_cons, forget, List.foldl_cons, List.foldl_nil, set8, List.set_cons_succ, List.set_cons_zero] at ih ⊢
    simp only at q1 q2 q3 q4
    subst q4
    have gR : ∀ e', (B ++ e')[h.bx.length]? = some (cellsRule r) := fun e' => by rw [q2, List.append_assoc, List.append_assoc, get_own0]; rfl
    rw [cellsRule_def] at gR
    have gR0 := gR []
    rw [List.append_nil] at gR0
    have hlen : (ligL (run.take i) l (r.out.getD 0 default) c).length ≤ i := by
      rw [ligL, List.length_map]
      refine Nat.le_trans (List.length_filter_le _ _) ?_
      rw [List.length_zipIdx, List.length_take]; omega
    simp (maxSteps := 2000000) +contextual (disch := first | omega | assumption) only [go_sem, Nat.reduceAdd, Nat.reduceSub, Nat.reduceMul, Nat.reduceLT, Nat.reduceLeDiff, Nat.reduceEqDiff, reduceCtorEq, ↓reduceIte, Int.reduceLE, Int.reduceLT, Int.reduceToNat, Int.reduceAdd, Int.reduceSub, Int.reduceEq, Int.reduceNeg, List.append_assoc, cellsCall_def, cellsRule_def, cellsLookup_def, cellsPoint_def, cellsOutline_def, cellsPart_def, cellsAnchor_def, cellsDelta_def, cellsIns_def, cellsGlyph_def, cellsChar_def, cellsFeature_def, cellsAxis_def, cellsTent_def, cellsRegion_def, cellsFont_def, cellsItem_def, cellsText_def, cellsAsk_def, gR, gR0]
    refine ⟨fun g1 => ?_, fun g1 => ?_⟩
    · have hst := ligL_step (run := run) (l := l) (g := r.out.getD 0 default) (c := c) (i := i) (by omega)
      have ap : ∀ (x : Item) (B' : List (List AV)) (e' : List (List AV)) (K : HA), B' = B ++ e' → (∀ gr' gl', Grows 6 h.gl gr' gl' → K.k (.row gr' ((ligL (run.take i) l (r.out.getD 0 default) c ++ [x]).map encItem)) { bx := B', gl := gl', lp := h.lp }) → @appendI Try.prog 32 32 (.row gr ((ligL (run.take i) l (r.out.getD 0 default) c).map encItem)) (.row .full ([x].map encItem)) { bx := B', gl := gl, lp := h.lp } K := fun x B' e' K _ k =>
        append_grow (g2 := .full) encItem (ligL (run.take i) l (r.out.getD 0 default) c) [x] (fun _ => rfl) tElem_32 tSize_51 tBytes_51 aZero_51 (by rw [tElem_32]; rfl) rfl (by decide) trivial (by decide) (by simp only [List.length_cons, List.length_nil]; omega) q3 fun gr' gl' g' => k gr' gl' g'
      have hin' : (0 : Int) < l.length := h0'
      refine ⟨h0', fun g2 => ⟨ho', h0', ?_⟩, fun g2 => ⟨h0', ?_⟩⟩
      · have hk : keepL l i = true := by rw [keepL, decide_eq_true (asE_t g2)]; rfl
        rw [hk, if_pos rfl, itemL, if_pos (asE_t g2)] at hst
        generalize hx1 : (⟨r.out.getD 0 default, c, (run.getD i default).form, (run.getD i default).advance, (run.getD i default).x, (run.getD i default).y⟩ : Item) = x1 at hst
        refine ap ⟨r.out.getD 0 default, c, (run.getD i default).form, (run.getD i default).advance, (run.getD i default).x, (run.getD i default).y⟩ _ [_] _ rfl fun gr' gl' g' => ?_
        simp (maxSteps := 2000000) +contextual (disch := first | omega | assumption) only [go_sem, Nat.reduceAdd, Nat.reduceSub, Nat.reduceMul, Nat.reduceLT, Nat.reduceLeDiff, Nat.reduceEqDiff, reduceCtorEq, ↓reduceIte, Int.reduceLE, Int.reduceLT, Int.reduceToNat, Int.reduceAdd, Int.reduceSub, Int.reduceEq, Int.reduceNeg, List.append_assoc, cellsCall_def, cellsRule_def, cellsLookup_def, cellsPoint_def, cellsOutline_def, cellsPart_def, cellsAnchor_def, cellsDelta_def, cellsIns_def, cellsGlyph_def, cellsChar_def, cellsFeature_def, cellsAxis_def, cellsTent_def, cellsRegion_def, cellsFont_def, cellsItem_def, cellsText_def, cellsAsk_def]
        rw [hx1, ← hst]
        have := ih (i + 1, gr', { bx := B ++ [cellsItem x1], gl := gl', lp := h.lp }) ⟨by simp only; omega, ⟨e ++ [cellsItem x1], by simp only; rw [q2]; simp only [List.append_assoc]⟩, g', rfl⟩ (by simp only; omega)
        rw [← hx1] at this
        exact this
      · refine call_pure rfl (In_pure .no l i (by omega)) ?_
        simp (maxSteps := 2000000) +contextual (disch := first | omega | assumption) only [go_sem, Nat.reduceAdd, Nat.reduceSub, Nat.reduceMul, Nat.reduceLT, Nat.reduceLeDiff, Nat.reduceEqDiff, reduceCtorEq, ↓reduceIte, Int.reduceLE, Int.reduceLT, Int.reduceToNat, Int.reduceAdd, Int.reduceSub, Int.reduceEq, Int.reduceNeg, List.append_assoc, cellsCall_def, cellsRule_def, cellsLookup_def, cellsPoint_def, cellsOutline_def, cellsPart_def, cellsAnchor_def, cellsDelta_def, cellsIns_def, cellsGlyph_def, cellsChar_def, cellsFeature_def, cellsAxis_def, cellsTent_def, cellsRegion_def, cellsFont_def, cellsItem_def, cellsText_def, cellsAsk_def, g2]
        refine ⟨fun g3 => ?_, fun g3 => ?_⟩
        · have hk : keepL l i = false := by
            rw [keepL, decide_eq_false (asE_f g2), asT_t g3]; rfl
          rw [hk, if_neg (by simp), List.append_nil] at hst
          rw [← hst]
          exact ih (i + 1, gr, { bx := B ++ [cellsItem (run.getD i default)], gl := gl, lp := h.lp }) ⟨by simp only; omega, ⟨e ++ [cellsItem (run.getD i default)], by simp only; rw [q2]; simp only [List.append_assoc]⟩, q3, rfl⟩ (by simp only; omega)
        · have hk : keepL l i = true := by
            rw [keepL, eq_false_of_ne_true (asT_f g3)]; simp
          rw [hk, if_pos rfl, itemL, if_neg (asE_f g2)] at hst
          refine ap (run.getD i default) _ [_] _ rfl fun gr' gl' g' => ?_
          simp (maxSteps := 2000000) +contextual (disch := first | omega | assumption) only [go_sem, Nat.reduceAdd, Nat.reduceSub, Nat.reduceMul, Nat.reduceLT, Nat.reduceLeDiff, Nat.reduceEqDiff, reduceCtorEq, ↓reduceIte, Int.reduceLE, Int.reduceLT, Int.reduceToNat, Int.reduceAdd, Int.reduceSub, Int.reduceEq, Int.reduceNeg, List.append_assoc, cellsCall_def, cellsRule_def, cellsLookup_def, cellsPoint_def, cellsOutline_def, cellsPart_def, cellsAnchor_def, cellsDelta_def, cellsIns_def, cellsGlyph_def, cellsChar_def, cellsFeature_def, cellsAxis_def, cellsTent_def, cellsRegion_def, cellsFont_def, cellsItem_def, cellsText_def, cellsAsk_def]
          rw [← hst]
          exact ih (i + 1, gr', { bx := B ++ [cellsItem (run.getD i default)], gl := gl', lp := h.lp }) ⟨by simp only; omega, ⟨e ++ [cellsItem (run.getD i default)], by simp only; rw [q2]; simp only [List.append_assoc]⟩, g', rfl⟩ (by simp only; omega)
    · rw [List.take_of_length_le (by omega)]
      have hsub : Sub h { bx := B, gl := gl, lp := h.lp } := ⟨⟨_, q2⟩, q3.ext, rfl⟩
      (all_goals first | assumption | omega | exact pureK_gen (by simp only [go_sem, shut, shutL] <;> rfl) (by intros; simp only [go_sem, cl, clL]) rfl rfl | exact pureK_gen0 (by simp only [go_sem, shut, shutL] <;> rfl) (by intros; simp only [go_sem, cl, clL]) | exact pureK_gl (by simp only [go_sem, shut, shutL] <;> rfl) (by intros; simp only [go_sem, cl, clL]) (Grows.ext (by assumption)) rfl | exact pureK_gl0 (by simp only [go_sem, shut, shutL] <;> rfl) (by intros; simp only [go_sem, cl, clL]) (Grows.ext (by assumption)) rfl | exact pureK_sub (by simp only [go_sem, shut, shutL] <;> rfl) (by intros; simp only [go_sem, cl, clL]) (by assumption) | exact pureK_sub (by simp only [go_sem, shut, shutL] <;> rfl) (by intros; simp only [go_sem, cl, clL]) (Sub.more (by assumption) _))
end Go.V
namespace Go.V
open Go Go.Proofs Go.Shelf
set_option linter.unusedVariables false
set_option linter.unusedSimpArgs false
set_option maxRecDepth 10000
set_option maxHeartbeats 2000000
/-- A lookup that is called, so deep: the document's. -/
def CalledAt (f : Font) (called : Int → List Item → Int → List Item) (deep : Int) : Prop := ∀ (k : Int) (run : List Item) (p : Int), run.length ≤ 500000 → Pure Try.prog 51 [encFont f, .int k, rowEItem run, .int p, .int deep] (rowEItem (called k run p))
theorem pureK_two {h : Hp} {R : List Item} {N N' : Int} {e : List (List AV)} {gl : List Nat} {lp : List LInfo} (hN : N' = N) (hg : gl = h.gl) (hl : lp = h.lp) : pureK h (.tup [rowEItem R, .int N]) (.tup [rowEItem R, .lit (.int .i64 N')]) { bx := h.bx ++ e, gl := gl, lp := lp } := by
  subst hN
  exact pureK_gen (by simp only [shut, shutL, shut_rowEItem]) (fun _ _ _ => by simp only [cl, clL, cl_rowEItem, Bool.and_self]) hg hl
theorem nth_pureI (f : Font) (l : Lookup) (run : List Item) (p : Int) (n : Int) (hn : n ≤ 9223372036854775807) (hr : run.length ≤ 9223372036854775806) (hp : 0 ≤ p ∧ p ≤ 9223372036854775807) : Pure Try.prog 50 [encFont f, encLookup l, rowEItem run, .int p, .int n] (.int (nth f l run p.toNat n)) := by
  obtain ⟨q, rfl⟩ := Int.eq_ofNat_of_zero_le hp.1
  exact nth_pure f l run q n hn hr (by omega)
theorem cut_pureI (run : List Item) (p : Int) (l : List Item) (h1 : run.length ≤ 500000) (h2 : l.length ≤ 500000) (hp : 0 ≤ p ∧ p < run.length) : Pure Try.prog 48 [rowEItem run, .int p, .int (p + 1), rowEItem l] (rowEItem (putF run p.toNat l)) := by
  obtain ⟨q, rfl⟩ := Int.eq_ofNat_of_zero_le hp.1
  have := cut_pure run q (q + 1) l (by omega) (by omega) (by omega) (by omega)
  rw [show ((q + 1 : Nat) : Int) = (q : Int) + 1 by omega] at this
  exact this
theorem done_pure {called : Int → List Item → Int → List Item} (hng : NoGrow called) {f : Font} (hf : Tame f) {deep : Int} (hd : 0 ≤ deep ∧ deep ≤ 100) (ht : CalledAt f called (deep + 1)) (k j : Nat) (hk : k < f.lookups.length) (hj : j < (f.lookups.getD k default).rules.length) (run : List Item) (p : Int) (l : List Int) (hp : Places run ((f.lookups.getD k default).rules.getD j default) p l) (hr : run.length ≤ 500000) :
    Pure Try.prog 34 [encFont f, .int k, rowEItem run, .int j, rowEI l, .int deep] (.tup [rowEItem (doneRun called f (f.lookups.getD k default) ((f.lookups.getD k default).rules.getD j default) run l), .int (doneNext (f.lookups.getD k default) run (doneRun called f (f.lookups.getD k default) ((f.lookups.getD k default).rules.getD j default) run l) l)]) := by
  have hlast := hp.last
  have hfirst := hp.first
  have hl0 := hp.h0
  have hpz := hp.hp
  have hl0' : (0 : Int) < l.length := by omega
  have hll := hp.hi.len
  have hcast : (l.length : Int) - 1 = ((l.length - 1 : Nat) : Int) := by omega
  have hl1 : ((l.length - 1 : Nat) : Int) < l.length := by omega
  have hlast' : l.getD (l.length - 1) default = lastOf l := rfl
  have rt := ((hf.h2 _ (getD_memA hk)).2 _ (getD_memA hj)).1
  have ho := rt.h1
  have hkI : (k : Int) < f.lookups.length := by omega
  have hjI : (j : Int) < (f.lookups.getD k default).rules.length := by omega
  have hpt : (l.getD 0 default).toNat = p.toNat := by rw [hpz]
  have hpl : p.toNat < run.length := by omega
  have hrest : restOf run l = (run.length : Int) - 1 - lastOf l := rfl
  refine pure_of (rs := [.tmp 12, .tmp 13]) (m := 201) Try.func34 rfl rfl rfl fun h => ?_
  simp (maxSteps := 2000000) +contextual (disch := first | omega | assumption) only [go_sem, Nat.reduceAdd, Nat.reduceSub, Nat.reduceMul, Nat.reduceLT, Nat.reduceLeDiff, Nat.reduceEqDiff, reduceCtorEq, ↓reduceIte, Int.reduceLE, Int.reduceLT, Int.reduceToNat, Int.reduceAdd, Int.reduceSub, Int.reduceEq, Int.reduceNeg, List.append_assoc, cellsCall_def, cellsRule_def, cellsLookup_def, cellsPoint_def, cellsOutline_def, cellsPart_def, cellsAnchor_def, cellsDelta_def, cellsIns_def, cellsGlyph_def, cellsChar_def, cellsFeature_def, cellsAxis_def, cellsTent_def, cellsRegion_def, cellsFont_def, cellsItem_def, cellsText_def, cellsAsk_def, hkI, hjI, hl0', hcast, hl1, hpz, hlast']
  generalize hlk : f.lookups.getD k default = lk at *

  generalize lk.rules.getD j default = rl at *
  refine ⟨fun k1 => ?_, fun k1 => ⟨fun k5 => ?_, fun k5 => ⟨fun k2 => ?_, fun k2 => ⟨fun k3 => ?_, fun k3 => ⟨fun k4 => ?_, fun k4 => ⟨fun k6 => ?_, fun k6 => ?_⟩⟩⟩⟩⟩⟩
  · have eR : doneRun called f lk rl run l = singleF rl run p.toNat := by rw [doneRun, if_pos (by have := asE_t k1; omega), hpt]
    have eN : ∀ R, doneNext lk run R l = (R.length : Int) - restOf run l := fun R => by rw [doneNext, if_neg (by have := asE_t k1; omega), if_neg (by have := asE_t k1; omega)]
    rw [eR, eN]
    have hin : 0 < rl.in_.length := by rw [← hp.hn]; exact hl0
    refine awp_drawT (by kernel_rfl) 12 (by kernel_rfl) ?_
    simp (maxSteps := 2000000) +contextual (disch := first | omega | assumption) only [go_sem, Nat.reduceAdd, Nat.reduceSub, Nat.reduceMul, Nat.reduceLT, Nat.reduceLeDiff, Nat.reduceEqDiff, reduceCtorEq, ↓reduceIte, Int.reduceLE, Int.reduceLT, Int.reduceToNat, Int.reduceAdd, Int.reduceSub, Int.reduceEq, Int.reduceNeg, List.append_assoc, cellsCall_def, cellsRule_def, cellsLookup_def, cellsPoint_def, cellsOutline_def, cellsPart_def, cellsAnchor_def, cellsDelta_def, cellsIns_def, cellsGlyph_def, cellsChar_def, cellsFeature_def, cellsAxis_def, cellsTent_def, cellsRegion_def, cellsFont_def, cellsItem_def, cellsText_def, cellsAsk_def, hfirst]
    refine callq_pure rfl (other_pure rl _ hin (rt.h4 _ (getD_memA hin))) ?_
    generalize hx0 : run.getD p.toNat default = x0
    simp (maxSteps := 2000000) +contextual (disch := first | omega | assumption) only [go_sem, Nat.reduceAdd, Nat.reduceSub, Nat.reduceMul, Nat.reduceLT, Nat.reduceLeDiff, Nat.reduceEqDiff, reduceCtorEq, ↓reduceIte, Int.reduceLE, Int.reduceLT, Int.reduceToNat, Int.reduceAdd, Int.reduceSub, Int.reduceEq, Int.reduceNeg, List.append_assoc, cellsCall_def, cellsRule_def, cellsLookup_def, cellsPoint_def, cellsOutline_def, cellsPart_def, cellsAnchor_def, cellsDelta_def, cellsIns_def, cellsGlyph_def, cellsChar_def, cellsFeature_def, cellsAxis_def, cellsTent_def, cellsRegion_def, cellsFont_def, cellsItem_def, cellsText_def, cellsAsk_def]
    refine ⟨fun a1 => ?_, fun a1 => ?_⟩
    · have ei : singleF rl run p.toNat = putF run p.toNat [withG x0 (other rl x0.glyph).1] := by rw [singleF, hx0, if_pos (asT_t a1)]
      rw [ei]
      simp (maxSteps := 2000000) +contextual (disch := first | omega | assumption) only [go_sem, Nat.reduceAdd, Nat.reduceSub, Nat.reduceMul, Nat.reduceLT, Nat.reduceLeDiff, Nat.reduceEqDiff, reduceCtorEq, ↓reduceIte, Int.reduceLE, Int.reduceLT, Int.reduceToNat, Int.reduceAdd, Int.reduceSub, Int.reduceEq, Int.reduceNeg, List.append_assoc, cellsCall_def, cellsRule_def, cellsLookup_def, cellsPoint_def, cellsOutline_def, cellsPart_def, cellsAnchor_def, cellsDelta_def, cellsIns_def, cellsGlyph_def, cellsChar_def, cellsFeature_def, cellsAxis_def, cellsTent_def, cellsRegion_def, cellsFont_def, cellsItem_def, cellsText_def, cellsAsk_def, hfirst, hx0]
      refine call_shut rfl (cut_pureI run p [withG x0 (other rl x0.glyph).1] hr (by simp) hfirst) (by simp only [go_sem, shut, shutL] <;> rfl) ?_
      have hPl : (putF run p.toNat [withG x0 (other rl x0.glyph).1]).length = run.length := putF1 hpl
      generalize putF run p.toNat [withG x0 (other rl x0.glyph).1] = P at *
      simp (maxSteps := 2000000) +contextual (disch := first | omega | assumption) only [go_sem, Nat.reduceAdd, Nat.reduceSub, Nat.reduceMul, Nat.reduceLT, Nat.reduceLeDiff, Nat.reduceEqDiff, reduceCtorEq, ↓reduceIte, Int.reduceLE, Int.reduceLT, Int.reduceToNat, Int.reduceAdd, Int.reduceSub, Int.reduceEq, Int.reduceNeg, List.append_assoc, cellsCall_def, cellsRule_def, cellsLookup_def, cellsPoint_def, cellsOutline_def, cellsPart_def, cellsAnchor_def, cellsDelta_def, cellsIns_def, cellsGlyph_def, cellsChar_def, cellsFeature_def, cellsAxis_def, cellsTent_def, cellsRegion_def, cellsFont_def, cellsItem_def, cellsText_def, cellsAsk_def]
      exact pureK_two (by omega) rfl rfl
    · have ei : singleF rl run p.toNat = run := by rw [singleF, hx0, if_neg (asT_f a1)]
      rw [ei]
      exact pureK_two (by omega) rfl rfl
  · have eR : doneRun called f lk rl run l = singleF rl run p.toNat := by rw [doneRun, if_pos (by have := asE_t k5; omega), hpt]
    have eN : ∀ R, doneNext lk run R l = (R.length : Int) - restOf run l := fun R => by rw [doneNext, if_neg (by have := asE_t k5; omega), if_neg (by have := asE_t k5; omega)]
    rw [eR, eN]
    have hin : 0 < rl.in_.length := by rw [← hp.hn]; exact hl0
    refine awp_drawT (by kernel_rfl) 12 (by kernel_rfl) ?_
    simp (maxSteps := 2000000) +contextual (disch := first | omega | assumption) only [go_sem, Nat.reduceAdd, Nat.reduceSub, Nat.reduceMul, Nat.reduceLT, Nat.reduceLeDiff, Nat.reduceEqDiff, reduceCtorEq, ↓reduceIte, Int.reduceLE, Int.reduceLT, Int.reduceToNat, Int.reduceAdd, Int.reduceSub, Int.reduceEq, Int.reduceNeg, List.append_assoc, cellsCall_def, cellsRule_def, cellsLookup_def, cellsPoint_def, cellsOutline_def, cellsPart_def, cellsAnchor_def, cellsDelta_def, cellsIns_def, cellsGlyph_def, cellsChar_def, cellsFeature_def, cellsAxis_def, cellsTent_def, cellsRegion_def, cellsFont_def, cellsItem_def, cellsText_def, cellsAsk_def, hfirst]
    refine callq_pure rfl (other_pure rl _ hin (rt.h4 _ (getD_memA hin))) ?_
    generalize hx0 : run.getD p.toNat default = x0
    simp (maxSteps := 2000000) +contextual (disch := first | omega | assumption) only [go_sem, Nat.reduceAdd, Nat.reduceSub, Nat.reduceMul, Nat.reduceLT, Nat.reduceLeDiff, Nat.reduceEqDiff, reduceCtorEq, ↓reduceIte, Int.reduceLE, Int.reduceLT, Int.reduceToNat, Int.reduceAdd, Int.reduceSub, Int.reduceEq, Int.reduceNeg, List.append_assoc, cellsCall_def, cellsRule_def, cellsLookup_def, cellsPoint_def, cellsOutline_def, cellsPart_def, cellsAnchor_def, cellsDelta_def, cellsIns_def, cellsGlyph_def, cellsChar_def, cellsFeature_def, cellsAxis_def, cellsTent_def, cellsRegion_def, cellsFont_def, cellsItem_def, cellsText_def, cellsAsk_def]
    refine ⟨fun a1 => ?_, fun a1 => ?_⟩
    · have ei : singleF rl run p.toNat = putF run p.toNat [withG x0 (other rl x0.glyph).1] := by rw [singleF, hx0, if_pos (asT_t a1)]
      rw [ei]
      simp (maxSteps := 2000000) +contextual (disch := first | omega | assumption) only [go_sem, Nat.reduceAdd, Nat.reduceSub, Nat.reduceMul, Nat.reduceLT, Nat.reduceLeDiff, Nat.reduceEqDiff, reduceCtorEq, ↓reduceIte, Int.reduceLE, Int.reduceLT, Int.reduceToNat, Int.reduceAdd, Int.reduceSub, Int.reduceEq, Int.reduceNeg, List.append_assoc, cellsCall_def, cellsRule_def, cellsLookup_def, cellsPoint_def, cellsOutline_def, cellsPart_def, cellsAnchor_def, cellsDelta_def, cellsIns_def, cellsGlyph_def, cellsChar_def, cellsFeature_def, cellsAxis_def, cellsTent_def, cellsRegion_def, cellsFont_def, cellsItem_def, cellsText_def, cellsAsk_def, hfirst, hx0]
      refine call_shut rfl (cut_pureI run p [withG x0 (other rl x0.glyph).1] hr (by simp) hfirst) (by simp only [go_sem, shut, shutL] <;> rfl) ?_
      have hPl : (putF run p.toNat [withG x0 (other rl x0.glyph).1]).length = run.length := putF1 hpl
      generalize putF run p.toNat [withG x0 (other rl x0.glyph).1] = P at *
      simp (maxSteps := 2000000) +contextual (disch := first | omega | assumption) only [go_sem, Nat.reduceAdd, Nat.reduceSub, Nat.reduceMul, Nat.reduceLT, Nat.reduceLeDiff, Nat.reduceEqDiff, reduceCtorEq, ↓reduceIte, Int.reduceLE, Int.reduceLT, Int.reduceToNat, Int.reduceAdd, Int.reduceSub, Int.reduceEq, Int.reduceNeg, List.append_assoc, cellsCall_def, cellsRule_def, cellsLookup_def, cellsPoint_def, cellsOutline_def, cellsPart_def, cellsAnchor_def, cellsDelta_def, cellsIns_def, cellsGlyph_def, cellsChar_def, cellsFeature_def, cellsAxis_def, cellsTent_def, cellsRegion_def, cellsFont_def, cellsItem_def, cellsText_def, cellsAsk_def]
      exact pureK_two (by omega) rfl rfl
    · have ei : singleF rl run p.toNat = run := by rw [singleF, hx0, if_neg (asT_f a1)]
      rw [ei]
      exact pureK_two (by omega) rfl rfl
  · have eR : doneRun called f lk rl run l = multF rl run p.toNat := by rw [doneRun, if_neg (by have := asE_t k2; omega), if_pos (asE_t k2), hpt]
    have eN : ∀ R, doneNext lk run R l = (R.length : Int) - restOf run l := fun R => by rw [doneNext, if_neg (by have := asE_t k2; omega), if_neg (by have := asE_t k2; omega)]
    rw [eR, eN]
    refine ⟨fun a1 => ?_, fun a1 => ⟨fun a1 => ?_, fun a2 => ?_⟩⟩
    rotate_right
    · rw [show multF rl run p.toNat = run by rw [multF, if_neg (by omega)]]
      exact pureK_two (by omega) rfl rfl
    all_goals
      have em : multF rl run p.toNat = putF run p.toNat (rl.out.map (withG (run.getD p.toNat default))) := by rw [multF, if_pos (by omega)]
      rw [em]
      generalize hx0 : run.getD p.toNat default = x0 at *
      refine loop3 (ι := Nat × Gr × Hp) [22, 23, 24, 98, 99, 100, 101, 102, 103, 104, 105, 106, 107, 108, 109, 110, 111, 112, 113, 114, 115, 116, 117, 118] [24, 98, 99, 100, 101, 102, 103, 104, 105, 106, 107, 108, 109, 110, 111, 112, 113, 114, 115, 116, 117, 118] (fun y => [(22, .row y.2.1 (((rl.out.take y.1).map (withG x0)).map encItem)), (23, .int y.1)]) (fun y => y.1 ≤ rl.out.length ∧ (∃ e, y.2.2.bx = h.bx ++ ([cellsFont f, cellsLookup lk, cellsRule rl] ++ e)) ∧ Grows 6 h.gl y.2.1 y.2.2.gl ∧ y.2.2.lp = h.lp) (fun y => rl.out.length - y.1) (fun y => y.2.2) (0, .full, { bx := h.bx ++ [cellsFont f, cellsLookup lk, cellsRule rl], gl := h.gl, lp := h.lp }) ⟨Nat.zero_le _, ⟨[], rfl⟩, grows_new _ _, rfl⟩ (by simp only [setTr_nil, setTr_cons, forget, List.foldl_cons, List.foldl_nil, set8, List.set_cons_succ, List.set_cons_zero] <;> rfl) rfl ?_
      rintro L ⟨m, gr, ⟨B, gl, lp⟩⟩ ⟨q1, ⟨e, q2⟩, q3, q4⟩ ih; simp only [setTr_nil, setTr_cons, forget, List.foldl_cons, List.foldl_nil, set8, List.set_cons_succ, List.set_cons_zero] at ih ⊢
      simp only at q1 q2 q3 q4
      subst q4
      have gR : ∀ e', (B ++ e')[h.bx.length + 2]? = some (cellsRule rl) := fun e' => by rw [q2, List.append_assoc, List.append_assoc, get_own]; rfl
      rw [cellsRule_def] at gR
      have gR0 := gR []
      rw [List.append_nil] at gR0
      simp (maxSteps := 2000000) +contextual (disch := first | omega | assumption) only [go_sem, Nat.reduceAdd, Nat.reduceSub, Nat.reduceMul, Nat.reduceLT, Nat.reduceLeDiff, Nat.reduceEqDiff, reduceCtorEq, ↓reduceIte, Int.reduceLE, Int.reduceLT, Int.reduceToNat, Int.reduceAdd, Int.reduceSub, Int.reduceEq, Int.reduceNeg, List.append_assoc, cellsCall_def, cellsRule_def, cellsLookup_def, cellsPoint_def, cellsOutline_def, cellsPart_def, cellsAnchor_def, cellsDelta_def, cellsIns_def, cellsGlyph_def, cellsChar_def, cellsFeature_def, cellsAxis_def, cellsTent_def, cellsRegion_def, cellsFont_def, cellsItem_def, cellsText_def, cellsAsk_def, gR, gR0]
      refine ⟨fun g1 => ?_, fun g1 => ?_⟩
      · simp (maxSteps := 2000000) +contextual (disch := first | omega | assumption) only [go_sem, Nat.reduceAdd, Nat.reduceSub, Nat.reduceMul, Nat.reduceLT, Nat.reduceLeDiff, Nat.reduceEqDiff, reduceCtorEq, ↓reduceIte, Int.reduceLE, Int.reduceLT, Int.reduceToNat, Int.reduceAdd, Int.reduceSub, Int.reduceEq, Int.reduceNeg, List.append_assoc, cellsCall_def, cellsRule_def, cellsLookup_def, cellsPoint_def, cellsOutline_def, cellsPart_def, cellsAnchor_def, cellsDelta_def, cellsIns_def, cellsGlyph_def, cellsChar_def, cellsFeature_def, cellsAxis_def, cellsTent_def, cellsRegion_def, cellsFont_def, cellsItem_def, cellsText_def, cellsAsk_def, gR, gR0, hfirst, hx0, g1]
        refine append_grow (g2 := .full) encItem ((rl.out.take m).map (withG x0)) [withG x0 (rl.out.getD m default)] (fun _ => rfl) tElem_32 tSize_51 tBytes_51 aZero_51 (by rw [tElem_32]; rfl) rfl (by decide) trivial (by decide) (by simp only [List.length_map, List.length_take, List.length_cons, List.length_nil]; omega) q3 fun gr' gl' g' => ?_
        rw [← map_take_succ _ g1]
        simp (maxSteps := 2000000) +contextual (disch := first | omega | assumption) only [go_sem, Nat.reduceAdd, Nat.reduceSub, Nat.reduceMul, Nat.reduceLT, Nat.reduceLeDiff, Nat.reduceEqDiff, reduceCtorEq, ↓reduceIte, Int.reduceLE, Int.reduceLT, Int.reduceToNat, Int.reduceAdd, Int.reduceSub, Int.reduceEq, Int.reduceNeg, List.append_assoc, cellsCall_def, cellsRule_def, cellsLookup_def, cellsPoint_def, cellsOutline_def, cellsPart_def, cellsAnchor_def, cellsDelta_def, cellsIns_def, cellsGlyph_def, cellsChar_def, cellsFeature_def, cellsAxis_def, cellsTent_def, cellsRegion_def, cellsFont_def, cellsItem_def, cellsText_def, cellsAsk_def]
        exact ih (m + 1, gr', { bx := B ++ [cellsItem (withG x0 (rl.out.getD m default))], gl := gl', lp := h.lp }) ⟨by simp only; omega, ⟨e ++ [cellsItem (withG x0 (rl.out.getD m default))], by simp only; rw [q2]; simp only [List.append_assoc]⟩, g', rfl⟩ (by simp only; omega)
      · rw [List.take_of_length_le (by omega)]
        refine call_shut rfl (cut_pureI run p (rl.out.map (withG x0)) hr (by rw [List.length_map]; omega) hfirst) (by simp only [go_sem, shut, shutL] <;> rfl) ?_
        have hpl2 := putF_len (l := rl.out.map (withG x0)) hpl
        rw [List.length_map] at hpl2
        generalize hP : putF run p.toNat (rl.out.map (withG x0)) = P at *
        simp (maxSteps := 2000000) +contextual (disch := first | omega | assumption) only [go_sem, Nat.reduceAdd, Nat.reduceSub, Nat.reduceMul, Nat.reduceLT, Nat.reduceLeDiff, Nat.reduceEqDiff, reduceCtorEq, ↓reduceIte, Int.reduceLE, Int.reduceLT, Int.reduceToNat, Int.reduceAdd, Int.reduceSub, Int.reduceEq, Int.reduceNeg, List.append_assoc, cellsCall_def, cellsRule_def, cellsLookup_def, cellsPoint_def, cellsOutline_def, cellsPart_def, cellsAnchor_def, cellsDelta_def, cellsIns_def, cellsGlyph_def, cellsChar_def, cellsFeature_def, cellsAxis_def, cellsTent_def, cellsRegion_def, cellsFont_def, cellsItem_def, cellsText_def, cellsAsk_def]
        rw [show (P.length : Int) - (run.length - lastOf l - 1) = P.length - restOf run l by omega]
        have hsub : Sub h { bx := B, gl := gl, lp := h.lp } := ⟨⟨_, q2⟩, q3.ext, rfl⟩
        exact pureK_sub (by simp only [shut, shutL, shut_rowEItem]) (fun _ _ _ => by simp only [cl, clL, cl_rowEItem, Bool.and_self]) hsub
  · have eR : doneRun called f lk rl run l = ligF rl run l := by rw [doneRun, if_neg (by have := asE_t k3; omega), if_neg (by have := asE_t k3; omega), if_pos (asE_t k3)]
    have eN : ∀ R, doneNext lk run R l = (R.length : Int) - restOf run l := fun R => by rw [doneNext, if_neg (by have := asE_t k3; omega), if_neg (by have := asE_t k3; omega)]
    rw [eR, eN]
    refine ⟨fun a1 => ?_, fun a1 => ?_⟩
    · refine call_pure rfl (ligated_pure run rl l hp.hi hl0 (by omega) hr) ?_
      have hj := joinF_len (g := rl.out.getD 0 default) hp.hi hl0
      have hlst := hp.hi.last_ge hl0
      rw [ligF, if_pos (by omega)]
      generalize hP : joinF run l (rl.out.getD 0 default) = P at *
      simp (maxSteps := 2000000) +contextual (disch := first | omega | assumption) only [go_sem, Nat.reduceAdd, Nat.reduceSub, Nat.reduceMul, Nat.reduceLT, Nat.reduceLeDiff, Nat.reduceEqDiff, reduceCtorEq, ↓reduceIte, Int.reduceLE, Int.reduceLT, Int.reduceToNat, Int.reduceAdd, Int.reduceSub, Int.reduceEq, Int.reduceNeg, List.append_assoc, cellsCall_def, cellsRule_def, cellsLookup_def, cellsPoint_def, cellsOutline_def, cellsPart_def, cellsAnchor_def, cellsDelta_def, cellsIns_def, cellsGlyph_def, cellsChar_def, cellsFeature_def, cellsAxis_def, cellsTent_def, cellsRegion_def, cellsFont_def, cellsItem_def, cellsText_def, cellsAsk_def]
      exact pureK_two (by omega) rfl rfl
    · rw [show ligF rl run l = run by rw [ligF, if_neg (by omega)]]
      exact pureK_two (by omega) rfl rfl
  · have eR : doneRun called f lk rl run l = callsF called f lk p.toNat rl.calls run := by rw [doneRun, if_neg (by have := asE_t k4; omega), if_neg (by have := asE_t k4; omega), if_neg (by have := asE_t k4; omega), if_pos (asE_t k4), hpt]
    have eN : ∀ R, doneNext lk run R l = (if (R.length : Int) - restOf run l ≤ p then p + 1 else R.length - restOf run l) := fun R => by rw [doneNext, if_pos (asE_t k4), hpz]
    rw [eR, eN]
    have hcl := fun m => callsF_len hng f lk p.toNat (rl.calls.take m) run
    refine loop3 (ι := Nat) [2, 25, 26, 137, 138, 139, 140, 141, 142, 143, 144, 145, 146, 147, 148, 149, 150, 151, 152, 153, 154, 155, 156, 157, 158, 159, 160, 161, 162, 163, 164, 165, 166, 167, 168] [26, 137, 138, 139, 140, 141, 142, 143, 144, 145, 146, 147, 148, 149, 150, 151, 152, 153, 154, 155, 156, 157, 158, 159, 160, 161, 162, 163, 164, 165, 166, 167, 168] (fun m => [(2, rowEItem (callsF called f lk p.toNat (rl.calls.take m) run)), (25, .int m)]) (fun m => m ≤ rl.calls.length) (fun m => rl.calls.length - m) (fun _ => { bx := h.bx ++ [cellsFont f, cellsLookup lk, cellsRule rl], gl := h.gl, lp := h.lp }) 0 (Nat.zero_le _) (by simp only [setTr_nil, setTr_cons, forget, List.foldl_cons, List.foldl_nil, set8, List.set_cons_succ, List.set_cons_zero] <;> rfl) rfl ?_
    rintro L m q1 ih; simp only [setTr_nil, setTr_cons, forget, List.foldl_cons, List.foldl_nil, set8, List.set_cons_succ, List.set_cons_zero] at ih ⊢
    have hm := hcl m
    have hst := fun hm => callsF_take (called := called) (f := f) (lk := lk) (p := p.toNat) (calls := rl.calls) (run := run) (m := m) hm
    have hcc := rt.h2
    generalize hR : callsF called f lk p.toNat (rl.calls.take m) run = R at *
    simp (maxSteps := 2000000) +contextual (disch := first | omega | assumption) only [go_sem, Nat.reduceAdd, Nat.reduceSub, Nat.reduceMul, Nat.reduceLT, Nat.reduceLeDiff, Nat.reduceEqDiff, reduceCtorEq, ↓reduceIte, Int.reduceLE, Int.reduceLT, Int.reduceToNat, Int.reduceAdd, Int.reduceSub, Int.reduceEq, Int.reduceNeg, List.append_assoc, cellsCall_def, cellsRule_def, cellsLookup_def, cellsPoint_def, cellsOutline_def, cellsPart_def, cellsAnchor_def, cellsDelta_def, cellsIns_def, cellsGlyph_def, cellsChar_def, cellsFeature_def, cellsAxis_def, cellsTent_def, cellsRegion_def, cellsFont_def, cellsItem_def, cellsText_def, cellsAsk_def]
    refine ⟨fun g1 => ?_, fun g1 => ?_⟩
    · have hca := rt.h3 _ (getD_memA g1)
      have hst := hst g1
      generalize hc : rl.calls.getD m default = c at *
      refine awp_drawT (by kernel_rfl) 12 (by kernel_rfl) ?_
      simp (maxSteps := 2000000) +contextual (disch := first | omega | assumption) only [go_sem, Nat.reduceAdd, Nat.reduceSub, Nat.reduceMul, Nat.reduceLT, Nat.reduceLeDiff, Nat.reduceEqDiff, reduceCtorEq, ↓reduceIte, Int.reduceLE, Int.reduceLT, Int.reduceToNat, Int.reduceAdd, Int.reduceSub, Int.reduceEq, Int.reduceNeg, List.append_assoc, cellsCall_def, cellsRule_def, cellsLookup_def, cellsPoint_def, cellsOutline_def, cellsPart_def, cellsAnchor_def, cellsDelta_def, cellsIns_def, cellsGlyph_def, cellsChar_def, cellsFeature_def, cellsAxis_def, cellsTent_def, cellsRegion_def, cellsFont_def, cellsItem_def, cellsText_def, cellsAsk_def, g1, hc]
      refine callq_pure rfl (nth_pureI f lk R p c.at_ hca.2 (by omega) ⟨hfirst.1, by omega⟩) ?_
      simp (maxSteps := 2000000) +contextual (disch := first | omega | assumption) only [go_sem, Nat.reduceAdd, Nat.reduceSub, Nat.reduceMul, Nat.reduceLT, Nat.reduceLeDiff, Nat.reduceEqDiff, reduceCtorEq, ↓reduceIte, Int.reduceLE, Int.reduceLT, Int.reduceToNat, Int.reduceAdd, Int.reduceSub, Int.reduceEq, Int.reduceNeg, List.append_assoc, cellsCall_def, cellsRule_def, cellsLookup_def, cellsPoint_def, cellsOutline_def, cellsPart_def, cellsAnchor_def, cellsDelta_def, cellsIns_def, cellsGlyph_def, cellsChar_def, cellsFeature_def, cellsAxis_def, cellsTent_def, cellsRegion_def, cellsFont_def, cellsItem_def, cellsText_def, cellsAsk_def, g1, hc]
      refine ⟨fun g2 => ?_, fun g2 => ?_⟩
      · rw [if_pos g2] at hst
        refine awp_drawT (by kernel_rfl) 12 (by kernel_rfl) ?_
        simp (maxSteps := 2000000) +contextual (disch := first | omega | assumption) only [go_sem, Nat.reduceAdd, Nat.reduceSub, Nat.reduceMul, Nat.reduceLT, Nat.reduceLeDiff, Nat.reduceEqDiff, reduceCtorEq, ↓reduceIte, Int.reduceLE, Int.reduceLT, Int.reduceToNat, Int.reduceAdd, Int.reduceSub, Int.reduceEq, Int.reduceNeg, List.append_assoc, cellsCall_def, cellsRule_def, cellsLookup_def, cellsPoint_def, cellsOutline_def, cellsPart_def, cellsAnchor_def, cellsDelta_def, cellsIns_def, cellsGlyph_def, cellsChar_def, cellsFeature_def, cellsAxis_def, cellsTent_def, cellsRegion_def, cellsFont_def, cellsItem_def, cellsText_def, cellsAsk_def, g1, hc]
        refine callq_pure rfl (ht c.lookup R _ (by omega)) ?_
        simp (maxSteps := 2000000) +contextual (disch := first | omega | assumption) only [go_sem, Nat.reduceAdd, Nat.reduceSub, Nat.reduceMul, Nat.reduceLT, Nat.reduceLeDiff, Nat.reduceEqDiff, reduceCtorEq, ↓reduceIte, Int.reduceLE, Int.reduceLT, Int.reduceToNat, Int.reduceAdd, Int.reduceSub, Int.reduceEq, Int.reduceNeg, List.append_assoc, cellsCall_def, cellsRule_def, cellsLookup_def, cellsPoint_def, cellsOutline_def, cellsPart_def, cellsAnchor_def, cellsDelta_def, cellsIns_def, cellsGlyph_def, cellsChar_def, cellsFeature_def, cellsAxis_def, cellsTent_def, cellsRegion_def, cellsFont_def, cellsItem_def, cellsText_def, cellsAsk_def, g1, hc]
        rw [← hst]
        exact ih (m + 1) (by omega) (by omega)
      · rw [if_neg g2] at hst
        rw [← hst]
        exact ih (m + 1) (by omega) (by omega)
    · rw [show callsF called f lk p.toNat rl.calls run = R by rw [← hR, List.take_of_length_le (by omega)]]
      refine ⟨fun g2 => ?_, fun g2 => ?_⟩
      · rw [if_pos (by omega)]
        exact pureK_two rfl rfl rfl
      · rw [if_neg (by omega)]
        exact pureK_two (by omega) rfl rfl
  · have eR : doneRun called f lk rl run l = pairF rl run p.toNat := by rw [doneRun, if_neg (by have := asE_t k6; omega), if_neg (by have := asE_t k6; omega), if_neg (by have := asE_t k6; omega), if_neg (by have := asE_t k6; omega), if_pos (asE_t k6), hpt]
    have eN : ∀ R, doneNext lk run R l = (if 1 < l.length then lastOf l else (R.length : Int) - restOf run l) := fun R => by
      have := asE_t k6
      rw [doneNext, if_neg (by omega)]
      by_cases h1 : 1 < l.length
      · rw [if_pos ⟨by omega, h1⟩, if_pos h1]
      · rw [if_neg (fun h2 => h1 h2.2), if_neg h1]
    rw [eR, eN]
    refine ⟨hfirst.1, hfirst.2, ?_⟩
    generalize hx0 : run.getD p.toNat default = x0
    have hP : putF run p.toNat [{ x0 with advance := IntKind.i64.wrap (x0.advance + rl.x) }] = pairF rl run p.toNat := by rw [pairF, hx0]
    refine call_shut rfl (cut_pureI run p [{ x0 with advance := IntKind.i64.wrap (x0.advance + rl.x) }] hr (by simp) hfirst) (by simp only [go_sem, shut, shutL] <;> rfl) ?_
    have hPl : (pairF rl run p.toNat).length = run.length := putF1 hpl
    rw [hP]
    generalize pairF rl run p.toNat = P at *
    have hlg := hp.hi.le_last hl0 _ (getD_memA (k := 0) (l := l) hl0)
    have hl2 : 1 < l.length → p < lastOf l := fun h => by
      have := List.pairwise_iff_getElem.1 hp.hi.h1 0 (l.length - 1) (by omega) (by omega) (by omega)
      rw [← hpz, lastOf, List.getD, List.getD, List.getElem?_eq_getElem (by omega), List.getElem?_eq_getElem (by omega)]
      exact this
    have hl3 : ¬1 < l.length → lastOf l = p := fun h => by rw [← hpz, lastOf, show l.length - 1 = 0 by omega]
    simp (maxSteps := 2000000) +contextual (disch := first | omega | assumption) only [go_sem, Nat.reduceAdd, Nat.reduceSub, Nat.reduceMul, Nat.reduceLT, Nat.reduceLeDiff, Nat.reduceEqDiff, reduceCtorEq, ↓reduceIte, Int.reduceLE, Int.reduceLT, Int.reduceToNat, Int.reduceAdd, Int.reduceSub, Int.reduceEq, Int.reduceNeg, List.append_assoc, cellsCall_def, cellsRule_def, cellsLookup_def, cellsPoint_def, cellsOutline_def, cellsPart_def, cellsAnchor_def, cellsDelta_def, cellsIns_def, cellsGlyph_def, cellsChar_def, cellsFeature_def, cellsAxis_def, cellsTent_def, cellsRegion_def, cellsFont_def, cellsItem_def, cellsText_def, cellsAsk_def]
    refine ⟨fun a1 => ?_, fun a1 => ?_⟩
    · by_cases h2 : 1 < l.length
      · rw [if_pos h2]
        exact pureK_two rfl rfl rfl
      · have := hl3 h2; omega
    · by_cases h2 : 1 < l.length
      · have := hl2 h2; omega
      · rw [if_neg h2]
        exact pureK_two (by omega) rfl rfl
  · have eR : doneRun called f lk rl run l = run := by
      have := asE_f k1; have := asE_f k2; have := asE_f k3; have := asE_f k4; have := asE_f k5; have := asE_f k6
      rw [doneRun, if_neg (by omega), if_neg (by omega), if_neg (by omega), if_neg (by omega), if_neg (by omega)]
    have eN : doneNext lk run run l = (run.length : Int) - restOf run l := by
      have := asE_f k4; have := asE_f k6
      rw [doneNext, if_neg (by omega), if_neg (by omega)]
    rw [eR, eN]
    exact pureK_two (by omega) rfl rfl
end Go.V
namespace Go.V
open Go Go.Proofs Go.Shelf
set_option linter.unusedVariables false
set_option linter.unusedSimpArgs false
set_option maxRecDepth 10000
set_option maxHeartbeats 2000000
theorem Called_pure {f : Font} (hf : Tame f) {called : Int → List Item → Int → List Item} (hng : NoGrow called) {deep : Int} (hd : 1 ≤ deep ∧ deep ≤ 5) (ht : deep ≤ 4 → CalledAt f called (deep + 1)) : CalledAt f (fun k run p => if 4 < deep then run else stepF called f k run p) deep := by
  intro k run p hr
  simp only
  generalize hV : (if 4 < deep then run else stepF called f k run p) = V
  have v1 : 4 < deep → V = run := fun h => by rw [← hV, if_pos h]
  have v0 : ¬4 < deep → ¬(0 ≤ k ∧ k < f.lookups.length) → V = run := fun h h' => by rw [← hV, if_neg h, stepF, if_neg (fun q => h' ⟨q.1, q.2.1⟩)]
  have v2 : ¬4 < deep → ¬(1 ≤ (f.lookups.getD k.toNat default).kind ∧ (f.lookups.getD k.toNat default).kind ≤ 4) → V = run := fun h h' => by rw [← hV, if_neg h, stepF, if_neg (fun q => h' q.2.2)]
  have v3 : ¬4 < deep → (0 ≤ k ∧ k < f.lookups.length) → (1 ≤ (f.lookups.getD k.toNat default).kind ∧ (f.lookups.getD k.toNat default).kind ≤ 4) → (matchF f k run p []).1 < 0 → V = run := fun h hv h' h'' => by rw [← hV, if_neg h, stepF, if_pos ⟨hv.1, hv.2, h'⟩, if_pos h'']
  have v4 : ¬4 < deep → (0 ≤ k ∧ k < f.lookups.length) → (1 ≤ (f.lookups.getD k.toNat default).kind ∧ (f.lookups.getD k.toNat default).kind ≤ 4) → ¬(matchF f k run p []).1 < 0 → V = doneRun called f (f.lookups.getD k.toNat default) ((f.lookups.getD k.toNat default).rules.getD (matchF f k run p []).1.toNat default) run (matchF f k run p []).2 := fun h hv h' h'' => by rw [← hV, if_neg h, stepF, if_pos ⟨hv.1, hv.2, h'⟩, if_neg h'']
  clear hV
  refine pure_of (rs := [.tmp 10]) (m := 64) Try.func51 rfl rfl rfl fun h => ?_
  simp (maxSteps := 2000000) +contextual (disch := first | omega | assumption) only [go_sem, Nat.reduceAdd, Nat.reduceSub, Nat.reduceMul, Nat.reduceLT, Nat.reduceLeDiff, Nat.reduceEqDiff, reduceCtorEq, ↓reduceIte, Int.reduceLE, Int.reduceLT, Int.reduceToNat, Int.reduceAdd, Int.reduceSub, Int.reduceEq, Int.reduceNeg, List.append_assoc, cellsCall_def, cellsRule_def, cellsLookup_def, cellsPoint_def, cellsOutline_def, cellsPart_def, cellsAnchor_def, cellsDelta_def, cellsIns_def, cellsGlyph_def, cellsChar_def, cellsFeature_def, cellsAxis_def, cellsTent_def, cellsRegion_def, cellsFont_def, cellsItem_def, cellsText_def, cellsAsk_def]
  refine ⟨fun a1 => ?_, fun a1 => ⟨fun a2 => ?_, fun a2 => ⟨fun a3 => ?_, fun a3 => ?_⟩⟩⟩
  · rw [v1 a1]
    (all_goals first | assumption | omega | exact pureK_gen (by simp only [go_sem, shut, shutL] <;> rfl) (by intros; simp only [go_sem, cl, clL]) rfl rfl | exact pureK_gen0 (by simp only [go_sem, shut, shutL] <;> rfl) (by intros; simp only [go_sem, cl, clL]) | exact pureK_gl (by simp only [go_sem, shut, shutL] <;> rfl) (by intros; simp only [go_sem, cl, clL]) (Grows.ext (by assumption)) rfl | exact pureK_gl0 (by simp only [go_sem, shut, shutL] <;> rfl) (by intros; simp only [go_sem, cl, clL]) (Grows.ext (by assumption)) rfl | exact pureK_sub (by simp only [go_sem, shut, shutL] <;> rfl) (by intros; simp only [go_sem, cl, clL]) (by assumption) | exact pureK_sub (by simp only [go_sem, shut, shutL] <;> rfl) (by intros; simp only [go_sem, cl, clL]) (Sub.more (by assumption) _))
  · rw [v0 a1 (by omega)]
    (all_goals first | assumption | omega | exact pureK_gen (by simp only [go_sem, shut, shutL] <;> rfl) (by intros; simp only [go_sem, cl, clL]) rfl rfl | exact pureK_gen0 (by simp only [go_sem, shut, shutL] <;> rfl) (by intros; simp only [go_sem, cl, clL]) | exact pureK_gl (by simp only [go_sem, shut, shutL] <;> rfl) (by intros; simp only [go_sem, cl, clL]) (Grows.ext (by assumption)) rfl | exact pureK_gl0 (by simp only [go_sem, shut, shutL] <;> rfl) (by intros; simp only [go_sem, cl, clL]) (Grows.ext (by assumption)) rfl | exact pureK_sub (by simp only [go_sem, shut, shutL] <;> rfl) (by intros; simp only [go_sem, cl, clL]) (by assumption) | exact pureK_sub (by simp only [go_sem, shut, shutL] <;> rfl) (by intros; simp only [go_sem, cl, clL]) (Sub.more (by assumption) _))
  · rw [v0 a1 (by omega)]
    (all_goals first | assumption | omega | exact pureK_gen (by simp only [go_sem, shut, shutL] <;> rfl) (by intros; simp only [go_sem, cl, clL]) rfl rfl | exact pureK_gen0 (by simp only [go_sem, shut, shutL] <;> rfl) (by intros; simp only [go_sem, cl, clL]) | exact pureK_gl (by simp only [go_sem, shut, shutL] <;> rfl) (by intros; simp only [go_sem, cl, clL]) (Grows.ext (by assumption)) rfl | exact pureK_gl0 (by simp only [go_sem, shut, shutL] <;> rfl) (by intros; simp only [go_sem, cl, clL]) (Grows.ext (by assumption)) rfl | exact pureK_sub (by simp only [go_sem, shut, shutL] <;> rfl) (by intros; simp only [go_sem, cl, clL]) (by assumption) | exact pureK_sub (by simp only [go_sem, shut, shutL] <;> rfl) (by intros; simp only [go_sem, cl, clL]) (Sub.more (by assumption) _))
  obtain ⟨kn, rfl⟩ := Int.eq_ofNat_of_zero_le (show 0 ≤ k by omega)
  have hkn : kn < f.lookups.length := by omega
  have hmk : 0 ≤ (matchF f kn run p []).1 → Places run ((f.lookups.getD kn default).rules.getD (matchF f kn run p []).1.toNat default) p (matchF f kn run p []).2 ∧ (matchF f kn run p []).1.toNat < (f.lookups.getD kn default).rules.length := fun h => ⟨by have := (match_ok (forms := []) h).places; rwa [Int.toNat_natCast] at this, by have := (match_ok (forms := []) h).hm; rwa [Int.toNat_natCast] at this⟩
  rw [Int.toNat_natCast] at v2 v3 v4 ⊢
  refine ⟨by omega, by omega, fun a4 => ?_, fun a4 => ⟨by omega, by omega, fun a5 => ?_, fun a5 => ?_⟩⟩
  · rw [v2 a1 (by omega)]
    (all_goals first | assumption | omega | exact pureK_gen (by simp only [go_sem, shut, shutL] <;> rfl) (by intros; simp only [go_sem, cl, clL]) rfl rfl | exact pureK_gen0 (by simp only [go_sem, shut, shutL] <;> rfl) (by intros; simp only [go_sem, cl, clL]) | exact pureK_gl (by simp only [go_sem, shut, shutL] <;> rfl) (by intros; simp only [go_sem, cl, clL]) (Grows.ext (by assumption)) rfl | exact pureK_gl0 (by simp only [go_sem, shut, shutL] <;> rfl) (by intros; simp only [go_sem, cl, clL]) (Grows.ext (by assumption)) rfl | exact pureK_sub (by simp only [go_sem, shut, shutL] <;> rfl) (by intros; simp only [go_sem, cl, clL]) (by assumption) | exact pureK_sub (by simp only [go_sem, shut, shutL] <;> rfl) (by intros; simp only [go_sem, cl, clL]) (Sub.more (by assumption) _))
  · rw [v2 a1 (by omega)]
    (all_goals first | assumption | omega | exact pureK_gen (by simp only [go_sem, shut, shutL] <;> rfl) (by intros; simp only [go_sem, cl, clL]) rfl rfl | exact pureK_gen0 (by simp only [go_sem, shut, shutL] <;> rfl) (by intros; simp only [go_sem, cl, clL]) | exact pureK_gl (by simp only [go_sem, shut, shutL] <;> rfl) (by intros; simp only [go_sem, cl, clL]) (Grows.ext (by assumption)) rfl | exact pureK_gl0 (by simp only [go_sem, shut, shutL] <;> rfl) (by intros; simp only [go_sem, cl, clL]) (Grows.ext (by assumption)) rfl | exact pureK_sub (by simp only [go_sem, shut, shutL] <;> rfl) (by intros; simp only [go_sem, cl, clL]) (by assumption) | exact pureK_sub (by simp only [go_sem, shut, shutL] <;> rfl) (by intros; simp only [go_sem, cl, clL]) (Sub.more (by assumption) _))
  refine call_shut rfl (Match_pure f kn run p [] (hf.ok hr) (by simp)) (by simp only [go_sem, shut, shutL] <;> rfl) ?_
  have hdp := fun j l hj hp => done_pure hng hf (deep := deep) (by omega) (ht (by omega)) kn j hkn hj run p l hp hr
  generalize matchF f kn run p [] = mt at *
  generalize f.lookups.getD kn default = lk at *
  simp (maxSteps := 2000000) +contextual (disch := first | omega | assumption) only [go_sem, Nat.reduceAdd, Nat.reduceSub, Nat.reduceMul, Nat.reduceLT, Nat.reduceLeDiff, Nat.reduceEqDiff, reduceCtorEq, ↓reduceIte, Int.reduceLE, Int.reduceLT, Int.reduceToNat, Int.reduceAdd, Int.reduceSub, Int.reduceEq, Int.reduceNeg, List.append_assoc, cellsCall_def, cellsRule_def, cellsLookup_def, cellsPoint_def, cellsOutline_def, cellsPart_def, cellsAnchor_def, cellsDelta_def, cellsIns_def, cellsGlyph_def, cellsChar_def, cellsFeature_def, cellsAxis_def, cellsTent_def, cellsRegion_def, cellsFont_def, cellsItem_def, cellsText_def, cellsAsk_def]
  refine ⟨fun a6 => ?_, fun a6 => ?_⟩
  · rw [v3 a1 (by omega) (by omega) a6]
    (all_goals first | assumption | omega | exact pureK_gen (by simp only [go_sem, shut, shutL] <;> rfl) (by intros; simp only [go_sem, cl, clL]) rfl rfl | exact pureK_gen0 (by simp only [go_sem, shut, shutL] <;> rfl) (by intros; simp only [go_sem, cl, clL]) | exact pureK_gl (by simp only [go_sem, shut, shutL] <;> rfl) (by intros; simp only [go_sem, cl, clL]) (Grows.ext (by assumption)) rfl | exact pureK_gl0 (by simp only [go_sem, shut, shutL] <;> rfl) (by intros; simp only [go_sem, cl, clL]) (Grows.ext (by assumption)) rfl | exact pureK_sub (by simp only [go_sem, shut, shutL] <;> rfl) (by intros; simp only [go_sem, cl, clL]) (by assumption) | exact pureK_sub (by simp only [go_sem, shut, shutL] <;> rfl) (by intros; simp only [go_sem, cl, clL]) (Sub.more (by assumption) _))
  · obtain ⟨hpl, hmi⟩ := hmk (by omega)
    rw [v4 a1 (by omega) (by omega) a6]
    obtain ⟨j, hj⟩ := Int.eq_ofNat_of_zero_le (show 0 ≤ mt.1 by omega)
    rw [hj] at hpl hmi ⊢
    rw [Int.toNat_natCast] at hpl hmi ⊢
    refine call_pure rfl (hdp j mt.2 hmi hpl) ?_
    simp (maxSteps := 2000000) +contextual (disch := first | omega | assumption) only [go_sem, Nat.reduceAdd, Nat.reduceSub, Nat.reduceMul, Nat.reduceLT, Nat.reduceLeDiff, Nat.reduceEqDiff, reduceCtorEq, ↓reduceIte, Int.reduceLE, Int.reduceLT, Int.reduceToNat, Int.reduceAdd, Int.reduceSub, Int.reduceEq, Int.reduceNeg, List.append_assoc, cellsCall_def, cellsRule_def, cellsLookup_def, cellsPoint_def, cellsOutline_def, cellsPart_def, cellsAnchor_def, cellsDelta_def, cellsIns_def, cellsGlyph_def, cellsChar_def, cellsFeature_def, cellsAxis_def, cellsTent_def, cellsRegion_def, cellsFont_def, cellsItem_def, cellsText_def, cellsAsk_def]
    (all_goals first | assumption | omega | exact pureK_gen (by simp only [go_sem, shut, shutL] <;> rfl) (by intros; simp only [go_sem, cl, clL]) rfl rfl | exact pureK_gen0 (by simp only [go_sem, shut, shutL] <;> rfl) (by intros; simp only [go_sem, cl, clL]) | exact pureK_gl (by simp only [go_sem, shut, shutL] <;> rfl) (by intros; simp only [go_sem, cl, clL]) (Grows.ext (by assumption)) rfl | exact pureK_gl0 (by simp only [go_sem, shut, shutL] <;> rfl) (by intros; simp only [go_sem, cl, clL]) (Grows.ext (by assumption)) rfl | exact pureK_sub (by simp only [go_sem, shut, shutL] <;> rfl) (by intros; simp only [go_sem, cl, clL]) (by assumption) | exact pureK_sub (by simp only [go_sem, shut, shutL] <;> rfl) (by intros; simp only [go_sem, cl, clL]) (Sub.more (by assumption) _))
/-- Each call, so deep. -/
theorem called_all {f : Font} (hf : Tame f) : ∀ n : Nat, n ≤ 4 → CalledAt f (calledF f n) (5 - n)
  | 0, _ => by
    have h := Called_pure hf (called := fun _ run _ => run) (fun k run p => by show run.length ≤ _; omega) (deep := 5) (by omega) (fun h => by omega)
    intro k run p hr
    have := h k run p hr
    simp only at this
    rw [if_pos (by omega)] at this
    exact this
  | n + 1, hn => by
    have ih := called_all hf n (by omega)
    have h := Called_pure hf (calledF_len f n) (deep := 5 - ((n + 1 : Nat) : Int)) (by omega) (fun _ => by rw [show (5 : Int) - ((n + 1 : Nat) : Int) + 1 = 5 - n by omega]; exact ih)
    intro k run p hr
    have := h k run p hr
    simp only at this
    rw [if_neg (by omega)] at this
    exact this
end Go.V
namespace Go.V
open Go Go.Proofs Go.Shelf
set_option linter.unusedVariables false
set_option linter.unusedSimpArgs false
set_option maxRecDepth 10000
set_option maxHeartbeats 2000000
theorem Inc.lt_last {n : Nat} {l : List Int} (h : Inc n l) (h1 : 1 < l.length) : l.getD 0 default < lastOf l := by
  have := List.pairwise_iff_getElem.1 h.h1 0 (l.length - 1) (by omega) (by omega) (by omega)
  rw [lastOf, List.getD, List.getD, List.getElem?_eq_getElem (by omega), List.getElem?_eq_getElem (by omega)]
  exact this
/-- What a lookup does at a place, and where it goes on. -/
def stepRun (f : Font) (k : Int) (forms : List Int) (run : List Item) (p : Int) : List Item :=
  if (matchF f k run p forms).1 < 0 then run
  else doneRun (calledF f 4) f (f.lookups.getD k.toNat default) ((f.lookups.getD k.toNat default).rules.getD (matchF f k run p forms).1.toNat default) run (matchF f k run p forms).2
def stepNext (f : Font) (k : Int) (forms : List Int) (run : List Item) (p : Int) : Int :=
  if (matchF f k run p forms).1 < 0 then p + 1
  else doneNext (f.lookups.getD k.toNat default) run (stepRun f k forms run p) (matchF f k run p forms).2
def fore (f : Font) (k : Int) (forms : List Int) : Nat → List Item → Int → List Item
  | 0, run, _ => run
  | n + 1, run, p => if p < run.length then fore f k forms n (stepRun f k forms run p) (stepNext f k forms run p) else run
def rear (f : Font) (k : Int) (forms : List Int) : Nat → List Item → List Item
  | 0, run => run
  | n + 1, run => rear f k forms n (stepRun f k forms run n)
def applyF (f : Font) (k : Int) (run : List Item) (forms : List Int) : List Item :=
  if 0 ≤ k ∧ k < f.lookups.length ∧ 1 ≤ (f.lookups.getD k.toNat default).kind ∧ (f.lookups.getD k.toNat default).kind ≤ 6 then
    if (f.lookups.getD k.toNat default).kind = 5 then rear f k forms run.length run else fore f k forms run.length run 0
  else run
theorem stepRun_len (f : Font) (k : Int) (forms : List Int) (run : List Item) (p : Int) : (stepRun f k forms run p).length ≤ max run.length 500 := by
  rw [stepRun]
  split
  · omega
  · exact doneRun_len (calledF_len f 4) (match_ok (by omega)).places
/-- It goes on, and what is left is less. -/
theorem stepNext_less {f : Font} {k : Int} {forms : List Int} {run : List Item} {p : Int} (h0 : 0 ≤ p) (h1 : p < run.length) : 0 ≤ stepNext f k forms run p ∧ ((stepRun f k forms run p).length : Int) - stepNext f k forms run p < run.length - p ∧ stepNext f k forms run p ≤ max (p + 1) (max (stepRun f k forms run p).length run.length) := by
  rw [stepNext]
  split
  · rename_i hm
    rw [stepRun, if_pos hm]; omega
  · rename_i hm
    have hp := (match_ok (forms := forms) (f := f) (k := k) (run := run) (p := p) (by omega)).places
    have hlast := hp.last
    have hl0 := hp.h0
    have hpz := hp.hp
    have hle := hp.hi.le_last hl0 _ (getD_memA (k := 0) (l := (matchF f k run p forms).2) hl0)
    have hge := hp.hi.last_ge hl0
    rw [hpz] at hle
    have hrest : restOf run (matchF f k run p forms).2 = (run.length : Int) - 1 - lastOf (matchF f k run p forms).2 := rfl
    have hlen : (f.lookups.getD k.toNat default).kind ≠ 4 → ¬((f.lookups.getD k.toNat default).kind = 6 ∧ 1 < (matchF f k run p forms).2.length) → restOf run (matchF f k run p forms).2 ≤ (stepRun f k forms run p).length := fun h4 h6 => by
      have hb : ((matchF f k run p forms).2.getD 0 default).toNat < run.length := by omega
      rw [stepRun, if_neg hm, doneRun]
      split
      · unfold singleF; split
        · rw [putF1 hb]; omega
        · omega
      split
      · unfold multF; split
        · have := putF_len (l := ((f.lookups.getD k.toNat default).rules.getD (matchF f k run p forms).1.toNat default).out.map fun g => withG (run.getD ((matchF f k run p forms).2.getD 0 default).toNat default) g) hb
          rw [List.length_map] at this; omega
        · omega
      split
      · unfold ligF; split
        · have := joinF_len (g := ((f.lookups.getD k.toNat default).rules.getD (matchF f k run p forms).1.toNat default).out.getD 0 default) hp.hi hl0
          omega
        · omega
      split
      · unfold pairF; rw [putF1 hb]; omega
      · omega
    have hl6 : (f.lookups.getD k.toNat default).kind = 6 → (stepRun f k forms run p).length = run.length := fun h6 => by
      have hb : ((matchF f k run p forms).2.getD 0 default).toNat < run.length := by omega
      rw [stepRun, if_neg hm, doneRun, if_neg (by omega), if_neg (by omega), if_neg (by omega), if_neg (by omega), if_pos h6, pairF, putF1 hb]
    generalize stepRun f k forms run p = R at *
    rw [doneNext]
    split
    · rw [hpz]; split <;> omega
    · rename_i h4
      split
      · rename_i h6
        have := hl6 h6.1
        have hl2 := hp.hi.lt_last h6.2
        rw [hpz] at hl2
        omega
      · rename_i h6
        have := hlen h4 h6
        omega
end Go.V
namespace Go.V
open Go Go.Proofs Go.Shelf
set_option linter.unusedVariables false
set_option linter.unusedSimpArgs false
set_option maxRecDepth 10000
set_option maxHeartbeats 2000000
theorem ownApply_pure {f : Font} (hf : Tame f) (k : Int) (run : List Item) (forms : List Int) (hl : forms.length ≤ 9223372036854775806) (hr : run.length ≤ 500000) : Pure Try.prog 18 [encFont f, .int k, rowEItem run, rowEI forms] (rowEItem (applyF f k run forms)) := by
  generalize hV : applyF f k run forms = V
  refine pure_of (rs := [.tmp 8]) (m := 92) Try.func18 rfl rfl rfl fun h => ?_
  simp (maxSteps := 2000000) +contextual (disch := first | omega | assumption) only [go_sem, Nat.reduceAdd, Nat.reduceSub, Nat.reduceMul, Nat.reduceLT, Nat.reduceLeDiff, Nat.reduceEqDiff, reduceCtorEq, ↓reduceIte, Int.reduceLE, Int.reduceLT, Int.reduceToNat, Int.reduceAdd, Int.reduceSub, Int.reduceEq, Int.reduceNeg, List.append_assoc, cellsCall_def, cellsRule_def, cellsLookup_def, cellsPoint_def, cellsOutline_def, cellsPart_def, cellsAnchor_def, cellsDelta_def, cellsIns_def, cellsGlyph_def, cellsChar_def, cellsFeature_def, cellsAxis_def, cellsTent_def, cellsRegion_def, cellsFont_def, cellsItem_def, cellsText_def, cellsAsk_def]
  refine awp_drawT (by kernel_rfl) 9 (by kernel_rfl) ?_
  simp (maxSteps := 2000000) +contextual (disch := first | omega | assumption) only [go_sem, Nat.reduceAdd, Nat.reduceSub, Nat.reduceMul, Nat.reduceLT, Nat.reduceLeDiff, Nat.reduceEqDiff, reduceCtorEq, ↓reduceIte, Int.reduceLE, Int.reduceLT, Int.reduceToNat, Int.reduceAdd, Int.reduceSub, Int.reduceEq, Int.reduceNeg, List.append_assoc, cellsCall_def, cellsRule_def, cellsLookup_def, cellsPoint_def, cellsOutline_def, cellsPart_def, cellsAnchor_def, cellsDelta_def, cellsIns_def, cellsGlyph_def, cellsChar_def, cellsFeature_def, cellsAxis_def, cellsTent_def, cellsRegion_def, cellsFont_def, cellsItem_def, cellsText_def, cellsAsk_def]
  refine callq_pure rfl (Clone_pure .no run (by omega)) ?_
  simp (maxSteps := 2000000) +contextual (disch := first | omega | assumption) only [go_sem, Nat.reduceAdd, Nat.reduceSub, Nat.reduceMul, Nat.reduceLT, Nat.reduceLeDiff, Nat.reduceEqDiff, reduceCtorEq, ↓reduceIte, Int.reduceLE, Int.reduceLT, Int.reduceToNat, Int.reduceAdd, Int.reduceSub, Int.reduceEq, Int.reduceNeg, List.append_assoc, cellsCall_def, cellsRule_def, cellsLookup_def, cellsPoint_def, cellsOutline_def, cellsPart_def, cellsAnchor_def, cellsDelta_def, cellsIns_def, cellsGlyph_def, cellsChar_def, cellsFeature_def, cellsAxis_def, cellsTent_def, cellsRegion_def, cellsFont_def, cellsItem_def, cellsText_def, cellsAsk_def]
  refine callq_pure rfl (at_pure f k run) ?_
  by_cases hv : 0 ≤ k ∧ k < f.lookups.length
  · rw [show atF f k run = (⟨f, f.lookups.getD k.toNat default, run⟩, true) from if_pos hv]
    have hk0 : (k.toNat : Int) = k := by omega
    have hlk := hf.h2 _ (getD_memA (k := k.toNat) (l := f.lookups) (by omega))
    have hro := fun run hr => ((hf.ok (run := run) hr).h2 _ (getD_memA (k := k.toNat) (l := f.lookups) (by omega))).2
    have hfm := fun run p => find_match (run := run) (p := p) (forms := forms) hv
    have hd : ∀ (run : List Item) (p : Int) (kb : Nat) (h : Hp), run.length ≤ 500000 → 0 ≤ (matchF f k run p forms).1 → h.bx[kb]? = some (cellsText ⟨f, f.lookups.getD k.toNat default, run⟩) → ACall Try.prog 33 [.ptr kb 0, encRule ((f.lookups.getD k.toNat default).rules.getD (matchF f k run p forms).1.toNat default), rowEI (matchF f k run p forms).2, .int 0] h (fun x h' => x = .int (stepNext f k forms run p) ∧ h' = { h with bx := h.bx.set kb (cellsText ⟨f, f.lookups.getD k.toNat default, stepRun f k forms run p⟩) }) := fun run p kb h hr hm hkb => by
      have mo := match_ok (forms := forms) hm
      have := do_call (calledF_len f 4) ⟨f, f.lookups.getD k.toNat default, run⟩ 0 (tried_all hf 4 (by omega)) ⟨by omega, by omega⟩ kb _ p _ mo.places (hlk.2 _ (getD_memA mo.hm)).1 h hkb hr
      rw [stepNext, if_neg (by omega), stepRun, if_neg (by omega)]
      exact this
    have hml : ∀ run p, 0 ≤ (matchF f k run p forms).1 → (matchF f k run p forms).1.toNat < (f.lookups.getD k.toNat default).rules.length := fun run p hm => (match_ok (forms := forms) hm).hm
    have v2 : ¬(1 ≤ (f.lookups.getD k.toNat default).kind ∧ (f.lookups.getD k.toNat default).kind ≤ 6) → V = run := fun h => by rw [← hV, applyF, if_neg (fun q => h q.2.2)]
    have v3 : (1 ≤ (f.lookups.getD k.toNat default).kind ∧ (f.lookups.getD k.toNat default).kind ≤ 6) → (f.lookups.getD k.toNat default).kind = 5 → V = rear f k forms run.length run := fun h h' => by rw [← hV, applyF, if_pos ⟨hv.1, hv.2, h⟩, if_pos h']
    have v4 : (1 ≤ (f.lookups.getD k.toNat default).kind ∧ (f.lookups.getD k.toNat default).kind ≤ 6) → ¬(f.lookups.getD k.toNat default).kind = 5 → V = fore f k forms run.length run 0 := fun h h' => by rw [← hV, applyF, if_pos ⟨hv.1, hv.2, h⟩, if_neg h']
    clear hV
    generalize f.lookups.getD k.toNat default = lk at *
    simp (maxSteps := 2000000) +contextual (disch := first | omega | assumption) only [go_sem, Nat.reduceAdd, Nat.reduceSub, Nat.reduceMul, Nat.reduceLT, Nat.reduceLeDiff, Nat.reduceEqDiff, reduceCtorEq, ↓reduceIte, Int.reduceLE, Int.reduceLT, Int.reduceToNat, Int.reduceAdd, Int.reduceSub, Int.reduceEq, Int.reduceNeg, List.append_assoc, cellsCall_def, cellsRule_def, cellsLookup_def, cellsPoint_def, cellsOutline_def, cellsPart_def, cellsAnchor_def, cellsDelta_def, cellsIns_def, cellsGlyph_def, cellsChar_def, cellsFeature_def, cellsAxis_def, cellsTent_def, cellsRegion_def, cellsFont_def, cellsItem_def, cellsText_def, cellsAsk_def]
    refine ⟨fun a1 => ?_, fun a1 => ⟨fun a2 => ?_, fun a2 => ⟨fun a3 => ?_, fun a3 => ?_⟩⟩⟩
    · rw [v2 (by omega)]
      (all_goals first | assumption | omega | exact pureK_gen (by simp only [go_sem, shut, shutL] <;> rfl) (by intros; simp only [go_sem, cl, clL]) rfl rfl | exact pureK_gen0 (by simp only [go_sem, shut, shutL] <;> rfl) (by intros; simp only [go_sem, cl, clL]) | exact pureK_gl (by simp only [go_sem, shut, shutL] <;> rfl) (by intros; simp only [go_sem, cl, clL]) (Grows.ext (by assumption)) rfl | exact pureK_gl0 (by simp only [go_sem, shut, shutL] <;> rfl) (by intros; simp only [go_sem, cl, clL]) (Grows.ext (by assumption)) rfl | exact pureK_sub (by simp only [go_sem, shut, shutL] <;> rfl) (by intros; simp only [go_sem, cl, clL]) (by assumption) | exact pureK_sub (by simp only [go_sem, shut, shutL] <;> rfl) (by intros; simp only [go_sem, cl, clL]) (Sub.more (by assumption) _))
    · rw [v2 (by omega)]
      (all_goals first | assumption | omega | exact pureK_gen (by simp only [go_sem, shut, shutL] <;> rfl) (by intros; simp only [go_sem, cl, clL]) rfl rfl | exact pureK_gen0 (by simp only [go_sem, shut, shutL] <;> rfl) (by intros; simp only [go_sem, cl, clL]) | exact pureK_gl (by simp only [go_sem, shut, shutL] <;> rfl) (by intros; simp only [go_sem, cl, clL]) (Grows.ext (by assumption)) rfl | exact pureK_gl0 (by simp only [go_sem, shut, shutL] <;> rfl) (by intros; simp only [go_sem, cl, clL]) (Grows.ext (by assumption)) rfl | exact pureK_sub (by simp only [go_sem, shut, shutL] <;> rfl) (by intros; simp only [go_sem, cl, clL]) (by assumption) | exact pureK_sub (by simp only [go_sem, shut, shutL] <;> rfl) (by intros; simp only [go_sem, cl, clL]) (Sub.more (by assumption) _))
    · rw [v3 (by omega) (asE_t a3)]
      refine loop3 (ι := Int × List Item) [11, 12, 13, 73, 74, 75, 76, 77, 78, 79, 80, 81, 82, 83, 84, 85, 86, 87, 88, 89, 90, 91, 92, 93] [12, 13, 73, 74, 75, 76, 77, 78, 79, 80, 81, 82, 83, 84, 85, 86, 87, 88, 89, 90, 91, 92, 93] (fun y => [(11, .int y.1)]) (fun y => -1 ≤ y.1 ∧ y.1 ≤ 500000 ∧ y.2.length ≤ 500000 ∧ rear f k forms (y.1 + 1).toNat y.2 = rear f k forms run.length run) (fun y => (y.1 + 1).toNat) (fun y => { bx := h.bx ++ [cellsFont f, cellsText ⟨f, lk, y.2⟩], gl := h.gl, lp := h.lp }) ((run.length : Int) - 1, run) ⟨by simp only; omega, by simp only; omega, hr, by simp only; congr 1; omega⟩ (by simp only [setTr_nil, setTr_cons, forget, List.foldl_cons, List.foldl_nil, set8, List.set_cons_succ, List.set_cons_zero] <;> rfl) rfl ?_
      rintro L ⟨i, R⟩ ⟨q1, q2, q3, q4⟩ ih; simp only [setTr_nil, setTr_cons, forget, List.foldl_cons, List.foldl_nil, set8, List.set_cons_succ, List.set_cons_zero] at ih ⊢
      simp only at q1 q2 q3 q4
      simp (maxSteps := 2000000) +contextual (disch := first | omega | assumption) only [go_sem, Nat.reduceAdd, Nat.reduceSub, Nat.reduceMul, Nat.reduceLT, Nat.reduceLeDiff, Nat.reduceEqDiff, reduceCtorEq, ↓reduceIte, Int.reduceLE, Int.reduceLT, Int.reduceToNat, Int.reduceAdd, Int.reduceSub, Int.reduceEq, Int.reduceNeg, List.append_assoc, cellsCall_def, cellsRule_def, cellsLookup_def, cellsPoint_def, cellsOutline_def, cellsPart_def, cellsAnchor_def, cellsDelta_def, cellsIns_def, cellsGlyph_def, cellsChar_def, cellsFeature_def, cellsAxis_def, cellsTent_def, cellsRegion_def, cellsFont_def, cellsItem_def, cellsText_def, cellsAsk_def]
      refine ⟨fun g1 => ?_, fun g1 => ?_⟩
      · rw [show (i + 1).toNat = i.toNat + 1 by omega, rear, show ((i.toNat : Nat) : Int) = i by omega] at q4
        refine call_pure rfl (find_pure ⟨f, lk, R⟩ i forms hl hlk.1 (fun r hr' => hro R q3 r hr') (by simp only; omega)) ?_
        rw [hfm]
        simp (maxSteps := 2000000) +contextual (disch := first | omega | assumption) only [go_sem, Nat.reduceAdd, Nat.reduceSub, Nat.reduceMul, Nat.reduceLT, Nat.reduceLeDiff, Nat.reduceEqDiff, reduceCtorEq, ↓reduceIte, Int.reduceLE, Int.reduceLT, Int.reduceToNat, Int.reduceAdd, Int.reduceSub, Int.reduceEq, Int.reduceNeg, List.append_assoc, cellsCall_def, cellsRule_def, cellsLookup_def, cellsPoint_def, cellsOutline_def, cellsPart_def, cellsAnchor_def, cellsDelta_def, cellsIns_def, cellsGlyph_def, cellsChar_def, cellsFeature_def, cellsAxis_def, cellsTent_def, cellsRegion_def, cellsFont_def, cellsItem_def, cellsText_def, cellsAsk_def]
        refine ⟨fun g2 => ?_, fun g2 => ?_⟩
        · have hmm := hml R i g2
          have hdd := fun kb h => hd R i kb h q3 g2
          have hsl := stepRun_len f k forms R i
          generalize hmt : matchF f k R i forms = mt at *
          obtain ⟨j, hj⟩ := Int.eq_ofNat_of_zero_le g2
          rw [hj, Int.toNat_natCast] at hmm hdd
          rw [hj]
          simp (maxSteps := 2000000) +contextual (disch := first | omega | assumption) only [go_sem, Nat.reduceAdd, Nat.reduceSub, Nat.reduceMul, Nat.reduceLT, Nat.reduceLeDiff, Nat.reduceEqDiff, reduceCtorEq, ↓reduceIte, Int.reduceLE, Int.reduceLT, Int.reduceToNat, Int.reduceAdd, Int.reduceSub, Int.reduceEq, Int.reduceNeg, List.append_assoc, cellsCall_def, cellsRule_def, cellsLookup_def, cellsPoint_def, cellsOutline_def, cellsPart_def, cellsAnchor_def, cellsDelta_def, cellsIns_def, cellsGlyph_def, cellsChar_def, cellsFeature_def, cellsAxis_def, cellsTent_def, cellsRegion_def, cellsFont_def, cellsItem_def, cellsText_def, cellsAsk_def, hmm]
          refine call_with rfl ((hdd (h.bx.length + 1) _ (get_own _ _ 1)).mono fun x h' e => ?_)
          obtain ⟨e1, e2⟩ := e
          subst e1; subst e2
          simp (maxSteps := 2000000) +contextual (disch := first | omega | assumption) only [go_sem, Nat.reduceAdd, Nat.reduceSub, Nat.reduceMul, Nat.reduceLT, Nat.reduceLeDiff, Nat.reduceEqDiff, reduceCtorEq, ↓reduceIte, Int.reduceLE, Int.reduceLT, Int.reduceToNat, Int.reduceAdd, Int.reduceSub, Int.reduceEq, Int.reduceNeg, List.append_assoc, cellsCall_def, cellsRule_def, cellsLookup_def, cellsPoint_def, cellsOutline_def, cellsPart_def, cellsAnchor_def, cellsDelta_def, cellsIns_def, cellsGlyph_def, cellsChar_def, cellsFeature_def, cellsAxis_def, cellsTent_def, cellsRegion_def, cellsFont_def, cellsItem_def, cellsText_def, cellsAsk_def]
          exact ih (i - 1, stepRun f k forms R i) ⟨by simp only; omega, by simp only; omega, by simp only; omega, by simp only; rw [show (i - 1 + 1).toNat = i.toNat by omega]; exact q4⟩ (by simp only; omega)
        · have hsr : stepRun f k forms R i = R := by rw [stepRun, if_pos (by omega)]
          rw [hsr] at q4
          exact ih (i - 1, R) ⟨by simp only; omega, by simp only; omega, q3, by simp only; rw [show (i - 1 + 1).toNat = i.toNat by omega]; exact q4⟩ (by simp only; omega)
      · rw [show (i + 1).toNat = 0 by omega, rear] at q4
        rw [← q4]
        (all_goals first | assumption | omega | exact pureK_gen (by simp only [go_sem, shut, shutL] <;> rfl) (by intros; simp only [go_sem, cl, clL]) rfl rfl | exact pureK_gen0 (by simp only [go_sem, shut, shutL] <;> rfl) (by intros; simp only [go_sem, cl, clL]) | exact pureK_gl (by simp only [go_sem, shut, shutL] <;> rfl) (by intros; simp only [go_sem, cl, clL]) (Grows.ext (by assumption)) rfl | exact pureK_gl0 (by simp only [go_sem, shut, shutL] <;> rfl) (by intros; simp only [go_sem, cl, clL]) (Grows.ext (by assumption)) rfl | exact pureK_sub (by simp only [go_sem, shut, shutL] <;> rfl) (by intros; simp only [go_sem, cl, clL]) (by assumption) | exact pureK_sub (by simp only [go_sem, shut, shutL] <;> rfl) (by intros; simp only [go_sem, cl, clL]) (Sub.more (by assumption) _))
    · rw [v4 (by omega) (asE_f a3)]
      refine loop3 (ι := Nat × Int × List Item) [14, 15, 16, 29, 30, 31, 32, 33, 34, 35, 36, 37, 38, 39, 40, 41, 42, 43, 44, 45, 46, 47, 48, 49, 50, 51, 52] [15, 16, 29, 30, 31, 32, 33, 34, 35, 36, 37, 38, 39, 40, 41, 42, 43, 44, 45, 46, 47, 48, 49, 50, 51, 52] (fun y => [(14, .int y.2.1)]) (fun y => 0 ≤ y.2.1 ∧ y.2.1 ≤ 1000000 ∧ y.2.2.length ≤ 500000 ∧ (y.2.2.length : Int) - y.2.1 ≤ y.1 ∧ fore f k forms y.1 y.2.2 y.2.1 = fore f k forms run.length run 0) (fun y => y.1) (fun y => { bx := h.bx ++ [cellsFont f, cellsText ⟨f, lk, y.2.2⟩], gl := h.gl, lp := h.lp }) (run.length, 0, run) ⟨by simp only; omega, by simp only; omega, hr, by simp only; omega, rfl⟩ (by simp only [setTr_nil, setTr_cons, forget, List.foldl_cons, List.foldl_nil, set8, List.set_cons_succ, List.set_cons_zero] <;> rfl) rfl ?_
      rintro L ⟨n, i, R⟩ ⟨q1, q2, q3, q4, q5⟩ ih; simp only [setTr_nil, setTr_cons, forget, List.foldl_cons, List.foldl_nil, set8, List.set_cons_succ, List.set_cons_zero] at ih ⊢
      simp only at q1 q2 q3 q4 q5
      simp (maxSteps := 2000000) +contextual (disch := first | omega | assumption) only [go_sem, Nat.reduceAdd, Nat.reduceSub, Nat.reduceMul, Nat.reduceLT, Nat.reduceLeDiff, Nat.reduceEqDiff, reduceCtorEq, ↓reduceIte, Int.reduceLE, Int.reduceLT, Int.reduceToNat, Int.reduceAdd, Int.reduceSub, Int.reduceEq, Int.reduceNeg, List.append_assoc, cellsCall_def, cellsRule_def, cellsLookup_def, cellsPoint_def, cellsOutline_def, cellsPart_def, cellsAnchor_def, cellsDelta_def, cellsIns_def, cellsGlyph_def, cellsChar_def, cellsFeature_def, cellsAxis_def, cellsTent_def, cellsRegion_def, cellsFont_def, cellsItem_def, cellsText_def, cellsAsk_def]
      refine ⟨fun g1 => ?_, fun g1 => ?_⟩
      · obtain ⟨n, rfl⟩ : ∃ m, n = m + 1 := ⟨n - 1, by omega⟩
        rw [fore, if_pos g1] at q5
        have hless := stepNext_less (f := f) (k := k) (forms := forms) q1 g1
        refine call_pure rfl (find_pure ⟨f, lk, R⟩ i forms hl hlk.1 (fun r hr' => hro R q3 r hr') (by simp only; omega)) ?_
        rw [hfm]
        simp (maxSteps := 2000000) +contextual (disch := first | omega | assumption) only [go_sem, Nat.reduceAdd, Nat.reduceSub, Nat.reduceMul, Nat.reduceLT, Nat.reduceLeDiff, Nat.reduceEqDiff, reduceCtorEq, ↓reduceIte, Int.reduceLE, Int.reduceLT, Int.reduceToNat, Int.reduceAdd, Int.reduceSub, Int.reduceEq, Int.reduceNeg, List.append_assoc, cellsCall_def, cellsRule_def, cellsLookup_def, cellsPoint_def, cellsOutline_def, cellsPart_def, cellsAnchor_def, cellsDelta_def, cellsIns_def, cellsGlyph_def, cellsChar_def, cellsFeature_def, cellsAxis_def, cellsTent_def, cellsRegion_def, cellsFont_def, cellsItem_def, cellsText_def, cellsAsk_def]
        refine ⟨fun g2 => ?_, fun g2 => ?_⟩
        · have hsr : stepRun f k forms R i = R := by rw [stepRun, if_pos g2]
          have hsn : stepNext f k forms R i = i + 1 := by rw [stepNext, if_pos g2]
          rw [hsr, hsn] at q5
          exact ih (n, i + 1, R) ⟨by simp only; omega, by simp only; omega, q3, by simp only; omega, q5⟩ (by simp only; omega)
        · have hmm := hml R i (by omega)
          have hdd := fun kb h => hd R i kb h q3 (by omega)
          have hsl := stepRun_len f k forms R i
          generalize hmt : matchF f k R i forms = mt at *
          obtain ⟨j, hj⟩ := Int.eq_ofNat_of_zero_le (show 0 ≤ mt.1 by omega)
          rw [hj, Int.toNat_natCast] at hmm hdd
          rw [hj]
          simp (maxSteps := 2000000) +contextual (disch := first | omega | assumption) only [go_sem, Nat.reduceAdd, Nat.reduceSub, Nat.reduceMul, Nat.reduceLT, Nat.reduceLeDiff, Nat.reduceEqDiff, reduceCtorEq, ↓reduceIte, Int.reduceLE, Int.reduceLT, Int.reduceToNat, Int.reduceAdd, Int.reduceSub, Int.reduceEq, Int.reduceNeg, List.append_assoc, cellsCall_def, cellsRule_def, cellsLookup_def, cellsPoint_def, cellsOutline_def, cellsPart_def, cellsAnchor_def, cellsDelta_def, cellsIns_def, cellsGlyph_def, cellsChar_def, cellsFeature_def, cellsAxis_def, cellsTent_def, cellsRegion_def, cellsFont_def, cellsItem_def, cellsText_def, cellsAsk_def, hmm]
          refine call_with rfl ((hdd (h.bx.length + 1) _ (get_own _ _ 1)).mono fun x h' e => ?_)
          obtain ⟨e1, e2⟩ := e
          subst e1; subst e2
          simp (maxSteps := 2000000) +contextual (disch := first | omega | assumption) only [go_sem, Nat.reduceAdd, Nat.reduceSub, Nat.reduceMul, Nat.reduceLT, Nat.reduceLeDiff, Nat.reduceEqDiff, reduceCtorEq, ↓reduceIte, Int.reduceLE, Int.reduceLT, Int.reduceToNat, Int.reduceAdd, Int.reduceSub, Int.reduceEq, Int.reduceNeg, List.append_assoc, cellsCall_def, cellsRule_def, cellsLookup_def, cellsPoint_def, cellsOutline_def, cellsPart_def, cellsAnchor_def, cellsDelta_def, cellsIns_def, cellsGlyph_def, cellsChar_def, cellsFeature_def, cellsAxis_def, cellsTent_def, cellsRegion_def, cellsFont_def, cellsItem_def, cellsText_def, cellsAsk_def]
          exact ih (n, stepNext f k forms R i, stepRun f k forms R i) ⟨hless.1, by simp only; omega, by simp only; omega, by simp only; omega, q5⟩ (by simp only; omega)
      · have e : fore f k forms n R i = R := by
          cases n with
          | zero => rfl
          | succ n => rw [fore, if_neg g1]
        rw [← q5, e]
        (all_goals first | assumption | omega | exact pureK_gen (by simp only [go_sem, shut, shutL] <;> rfl) (by intros; simp only [go_sem, cl, clL]) rfl rfl | exact pureK_gen0 (by simp only [go_sem, shut, shutL] <;> rfl) (by intros; simp only [go_sem, cl, clL]) | exact pureK_gl (by simp only [go_sem, shut, shutL] <;> rfl) (by intros; simp only [go_sem, cl, clL]) (Grows.ext (by assumption)) rfl | exact pureK_gl0 (by simp only [go_sem, shut, shutL] <;> rfl) (by intros; simp only [go_sem, cl, clL]) (Grows.ext (by assumption)) rfl | exact pureK_sub (by simp only [go_sem, shut, shutL] <;> rfl) (by intros; simp only [go_sem, cl, clL]) (by assumption) | exact pureK_sub (by simp only [go_sem, shut, shutL] <;> rfl) (by intros; simp only [go_sem, cl, clL]) (Sub.more (by assumption) _))
  · rw [show atF f k run = _ from if_neg hv]
    have hst : V = run := by rw [← hV, applyF, if_neg (fun q => hv ⟨q.1, q.2.1⟩)]
    clear hV
    subst hst
    simp (maxSteps := 2000000) +contextual (disch := first | omega | assumption) only [go_sem, Nat.reduceAdd, Nat.reduceSub, Nat.reduceMul, Nat.reduceLT, Nat.reduceLeDiff, Nat.reduceEqDiff, reduceCtorEq, ↓reduceIte, Int.reduceLE, Int.reduceLT, Int.reduceToNat, Int.reduceAdd, Int.reduceSub, Int.reduceEq, Int.reduceNeg, List.append_assoc, cellsCall_def, cellsRule_def, cellsLookup_def, cellsPoint_def, cellsOutline_def, cellsPart_def, cellsAnchor_def, cellsDelta_def, cellsIns_def, cellsGlyph_def, cellsChar_def, cellsFeature_def, cellsAxis_def, cellsTent_def, cellsRegion_def, cellsFont_def, cellsItem_def, cellsText_def, cellsAsk_def]
    refine call_pure rfl (Clone_pure .no _ (by omega)) ?_
    simp (maxSteps := 2000000) +contextual (disch := first | omega | assumption) only [go_sem, Nat.reduceAdd, Nat.reduceSub, Nat.reduceMul, Nat.reduceLT, Nat.reduceLeDiff, Nat.reduceEqDiff, reduceCtorEq, ↓reduceIte, Int.reduceLE, Int.reduceLT, Int.reduceToNat, Int.reduceAdd, Int.reduceSub, Int.reduceEq, Int.reduceNeg, List.append_assoc, cellsCall_def, cellsRule_def, cellsLookup_def, cellsPoint_def, cellsOutline_def, cellsPart_def, cellsAnchor_def, cellsDelta_def, cellsIns_def, cellsGlyph_def, cellsChar_def, cellsFeature_def, cellsAxis_def, cellsTent_def, cellsRegion_def, cellsFont_def, cellsItem_def, cellsText_def, cellsAsk_def]
    (all_goals first | assumption | omega | exact pureK_gen (by simp only [go_sem, shut, shutL] <;> rfl) (by intros; simp only [go_sem, cl, clL]) rfl rfl | exact pureK_gen0 (by simp only [go_sem, shut, shutL] <;> rfl) (by intros; simp only [go_sem, cl, clL]) | exact pureK_gl (by simp only [go_sem, shut, shutL] <;> rfl) (by intros; simp only [go_sem, cl, clL]) (Grows.ext (by assumption)) rfl | exact pureK_gl0 (by simp only [go_sem, shut, shutL] <;> rfl) (by intros; simp only [go_sem, cl, clL]) (Grows.ext (by assumption)) rfl | exact pureK_sub (by simp only [go_sem, shut, shutL] <;> rfl) (by intros; simp only [go_sem, cl, clL]) (by assumption) | exact pureK_sub (by simp only [go_sem, shut, shutL] <;> rfl) (by intros; simp only [go_sem, cl, clL]) (Sub.more (by assumption) _))
end Go.V
namespace Go.V
open Go Go.Proofs Go.Shelf
set_option linter.unusedVariables false
set_option linter.unusedSimpArgs false
set_option maxRecDepth 10000
set_option maxHeartbeats 2000000
theorem refApply_pure {f : Font} (hf : Tame f) (k : Int) (run : List Item) (forms : List Int) (hl : forms.length ≤ 9223372036854775806) (hr : run.length ≤ 500000) : Pure Try.prog 20 [encFont f, .int k, rowEItem run, rowEI forms] (rowEItem (applyF f k run forms)) := by
  generalize hV : applyF f k run forms = V
  have v1 : ¬(0 ≤ k ∧ k < f.lookups.length) → V = run := fun h => by rw [← hV, applyF, if_neg (fun q => h ⟨q.1, q.2.1⟩)]
  have v2 : ¬(1 ≤ (f.lookups.getD k.toNat default).kind ∧ (f.lookups.getD k.toNat default).kind ≤ 6) → V = run := fun h => by rw [← hV, applyF, if_neg (fun q => h q.2.2)]
  have v3 : (0 ≤ k ∧ k < f.lookups.length) → (1 ≤ (f.lookups.getD k.toNat default).kind ∧ (f.lookups.getD k.toNat default).kind ≤ 6) → (f.lookups.getD k.toNat default).kind = 5 → V = rear f k forms run.length run := fun hv h h' => by rw [← hV, applyF, if_pos ⟨hv.1, hv.2, h⟩, if_pos h']
  have v4 : (0 ≤ k ∧ k < f.lookups.length) → (1 ≤ (f.lookups.getD k.toNat default).kind ∧ (f.lookups.getD k.toNat default).kind ≤ 6) → ¬(f.lookups.getD k.toNat default).kind = 5 → V = fore f k forms run.length run 0 := fun hv h h' => by rw [← hV, applyF, if_pos ⟨hv.1, hv.2, h⟩, if_neg h']
  clear hV
  refine pure_of (rs := [.tmp 8]) (m := 106) Try.func20 rfl rfl rfl fun h => ?_
  simp (maxSteps := 2000000) +contextual (disch := first | omega | assumption) only [go_sem, Nat.reduceAdd, Nat.reduceSub, Nat.reduceMul, Nat.reduceLT, Nat.reduceLeDiff, Nat.reduceEqDiff, reduceCtorEq, ↓reduceIte, Int.reduceLE, Int.reduceLT, Int.reduceToNat, Int.reduceAdd, Int.reduceSub, Int.reduceEq, Int.reduceNeg, List.append_assoc, cellsCall_def, cellsRule_def, cellsLookup_def, cellsPoint_def, cellsOutline_def, cellsPart_def, cellsAnchor_def, cellsDelta_def, cellsIns_def, cellsGlyph_def, cellsChar_def, cellsFeature_def, cellsAxis_def, cellsTent_def, cellsRegion_def, cellsFont_def, cellsItem_def, cellsText_def, cellsAsk_def]
  refine append_grow (g2 := .no) encItem [] run (fun _ => rfl) tElem_32 tSize_51 tBytes_51 aZero_51 (by rw [tElem_32]; rfl) rfl (by decide) trivial (by decide) (by simp only [List.length_nil]; omega) (grows_new _ _) fun gr gl hg => ?_
  simp (maxSteps := 2000000) +contextual (disch := first | omega | assumption) only [go_sem, Nat.reduceAdd, Nat.reduceSub, Nat.reduceMul, Nat.reduceLT, Nat.reduceLeDiff, Nat.reduceEqDiff, reduceCtorEq, ↓reduceIte, Int.reduceLE, Int.reduceLT, Int.reduceToNat, Int.reduceAdd, Int.reduceSub, Int.reduceEq, Int.reduceNeg, List.append_assoc, cellsCall_def, cellsRule_def, cellsLookup_def, cellsPoint_def, cellsOutline_def, cellsPart_def, cellsAnchor_def, cellsDelta_def, cellsIns_def, cellsGlyph_def, cellsChar_def, cellsFeature_def, cellsAxis_def, cellsTent_def, cellsRegion_def, cellsFont_def, cellsItem_def, cellsText_def, cellsAsk_def]
  refine ⟨fun a1 => ?_, fun a1 => ⟨fun a2 => ?_, fun a2 => ⟨by omega, by omega, fun a3 => ?_, fun a3 => ⟨by omega, by omega, fun a4 => ?_, fun a4 => ⟨by omega, by omega, fun a5 => ?_, fun a5 => ?_⟩⟩⟩⟩⟩
  · rw [v1 (by omega)]
    (all_goals first | assumption | omega | exact pureK_gen (by simp only [go_sem, shut, shutL] <;> rfl) (by intros; simp only [go_sem, cl, clL]) rfl rfl | exact pureK_gen0 (by simp only [go_sem, shut, shutL] <;> rfl) (by intros; simp only [go_sem, cl, clL]) | exact pureK_gl (by simp only [go_sem, shut, shutL] <;> rfl) (by intros; simp only [go_sem, cl, clL]) (Grows.ext (by assumption)) rfl | exact pureK_gl0 (by simp only [go_sem, shut, shutL] <;> rfl) (by intros; simp only [go_sem, cl, clL]) (Grows.ext (by assumption)) rfl | exact pureK_sub (by simp only [go_sem, shut, shutL] <;> rfl) (by intros; simp only [go_sem, cl, clL]) (by assumption) | exact pureK_sub (by simp only [go_sem, shut, shutL] <;> rfl) (by intros; simp only [go_sem, cl, clL]) (Sub.more (by assumption) _))
  · rw [v1 (by omega)]
    (all_goals first | assumption | omega | exact pureK_gen (by simp only [go_sem, shut, shutL] <;> rfl) (by intros; simp only [go_sem, cl, clL]) rfl rfl | exact pureK_gen0 (by simp only [go_sem, shut, shutL] <;> rfl) (by intros; simp only [go_sem, cl, clL]) | exact pureK_gl (by simp only [go_sem, shut, shutL] <;> rfl) (by intros; simp only [go_sem, cl, clL]) (Grows.ext (by assumption)) rfl | exact pureK_gl0 (by simp only [go_sem, shut, shutL] <;> rfl) (by intros; simp only [go_sem, cl, clL]) (Grows.ext (by assumption)) rfl | exact pureK_sub (by simp only [go_sem, shut, shutL] <;> rfl) (by intros; simp only [go_sem, cl, clL]) (by assumption) | exact pureK_sub (by simp only [go_sem, shut, shutL] <;> rfl) (by intros; simp only [go_sem, cl, clL]) (Sub.more (by assumption) _))
  · rw [v2 (by omega)]
    (all_goals first | assumption | omega | exact pureK_gen (by simp only [go_sem, shut, shutL] <;> rfl) (by intros; simp only [go_sem, cl, clL]) rfl rfl | exact pureK_gen0 (by simp only [go_sem, shut, shutL] <;> rfl) (by intros; simp only [go_sem, cl, clL]) | exact pureK_gl (by simp only [go_sem, shut, shutL] <;> rfl) (by intros; simp only [go_sem, cl, clL]) (Grows.ext (by assumption)) rfl | exact pureK_gl0 (by simp only [go_sem, shut, shutL] <;> rfl) (by intros; simp only [go_sem, cl, clL]) (Grows.ext (by assumption)) rfl | exact pureK_sub (by simp only [go_sem, shut, shutL] <;> rfl) (by intros; simp only [go_sem, cl, clL]) (by assumption) | exact pureK_sub (by simp only [go_sem, shut, shutL] <;> rfl) (by intros; simp only [go_sem, cl, clL]) (Sub.more (by assumption) _))
  · rw [v2 (by omega)]
    (all_goals first | assumption | omega | exact pureK_gen (by simp only [go_sem, shut, shutL] <;> rfl) (by intros; simp only [go_sem, cl, clL]) rfl rfl | exact pureK_gen0 (by simp only [go_sem, shut, shutL] <;> rfl) (by intros; simp only [go_sem, cl, clL]) | exact pureK_gl (by simp only [go_sem, shut, shutL] <;> rfl) (by intros; simp only [go_sem, cl, clL]) (Grows.ext (by assumption)) rfl | exact pureK_gl0 (by simp only [go_sem, shut, shutL] <;> rfl) (by intros; simp only [go_sem, cl, clL]) (Grows.ext (by assumption)) rfl | exact pureK_sub (by simp only [go_sem, shut, shutL] <;> rfl) (by intros; simp only [go_sem, cl, clL]) (by assumption) | exact pureK_sub (by simp only [go_sem, shut, shutL] <;> rfl) (by intros; simp only [go_sem, cl, clL]) (Sub.more (by assumption) _))
  · have v3 := v3 ⟨by omega, by omega⟩ (by omega) (asE_t a5)
    obtain ⟨kn, rfl⟩ := Int.eq_ofNat_of_zero_le (show 0 ≤ k by omega)
    have hkn : kn < f.lookups.length := by omega
    have hml : ∀ run p, 0 ≤ (matchF f kn run p forms).1 → Places run ((f.lookups.getD kn default).rules.getD (matchF f kn run p forms).1.toNat default) p (matchF f kn run p forms).2 ∧ (matchF f kn run p forms).1.toNat < (f.lookups.getD kn default).rules.length := fun run p hm => ⟨by have := (match_ok (forms := forms) hm).places; rwa [Int.toNat_natCast] at this, by have := (match_ok (forms := forms) hm).hm; rwa [Int.toNat_natCast] at this⟩
    have hsr : ∀ run p, 0 ≤ (matchF f kn run p forms).1 → stepRun f kn forms run p = doneRun (calledF f 4) f (f.lookups.getD kn default) ((f.lookups.getD kn default).rules.getD (matchF f kn run p forms).1.toNat default) run (matchF f kn run p forms).2 := fun run p hm => by rw [stepRun, if_neg (by omega), Int.toNat_natCast]
    have hsn : ∀ run p, 0 ≤ (matchF f kn run p forms).1 → stepNext f kn forms run p = doneNext (f.lookups.getD kn default) run (stepRun f kn forms run p) (matchF f kn run p forms).2 := fun run p hm => by rw [stepNext, if_neg (by omega), Int.toNat_natCast]
    have hdp := fun run (hr : run.length ≤ 500000) j p l hj hp => done_pure (calledF_len f 4) hf (deep := 0) (by omega) (called_all hf 4 (by omega)) kn j hkn hj run p l hp hr
    rw [Int.toNat_natCast] at *
    rw [v3]
    refine loop3 (ι := Int × List Item × Gr) [9, 10, 11, 12, 58, 59, 60, 61, 62, 63, 64, 65, 66, 67, 68, 69, 70, 71, 72, 73, 74, 75, 76, 77, 78, 79, 80, 81] [11, 12, 58, 59, 60, 61, 62, 63, 64, 65, 66, 67, 68, 69, 70, 71, 72, 73, 74, 75, 76, 77, 78, 79, 80, 81] (fun y => [(9, .row y.2.2 (y.2.1.map encItem)), (10, .int y.1)]) (fun y => -1 ≤ y.1 ∧ y.1 ≤ 500000 ∧ y.2.1.length ≤ 500000 ∧ rear f kn forms (y.1 + 1).toNat y.2.1 = rear f kn forms run.length run) (fun y => (y.1 + 1).toNat) (fun y => { bx := h.bx ++ [cellsFont f], gl := gl, lp := h.lp }) ((run.length : Int) - 1, run, gr) ⟨by simp only; omega, by simp only; omega, hr, by simp only; congr 1; omega⟩ (by simp only [setTr_nil, setTr_cons, forget, List.foldl_cons, List.foldl_nil, set8, List.set_cons_succ, List.set_cons_zero] <;> rfl) rfl ?_
    rintro L ⟨i, R, g⟩ ⟨q1, q2, q3, q4⟩ ih; simp only [setTr_nil, setTr_cons, forget, List.foldl_cons, List.foldl_nil, set8, List.set_cons_succ, List.set_cons_zero] at ih ⊢
    simp only at q1 q2 q3 q4
    simp (maxSteps := 2000000) +contextual (disch := first | omega | assumption) only [go_sem, Nat.reduceAdd, Nat.reduceSub, Nat.reduceMul, Nat.reduceLT, Nat.reduceLeDiff, Nat.reduceEqDiff, reduceCtorEq, ↓reduceIte, Int.reduceLE, Int.reduceLT, Int.reduceToNat, Int.reduceAdd, Int.reduceSub, Int.reduceEq, Int.reduceNeg, List.append_assoc, cellsCall_def, cellsRule_def, cellsLookup_def, cellsPoint_def, cellsOutline_def, cellsPart_def, cellsAnchor_def, cellsDelta_def, cellsIns_def, cellsGlyph_def, cellsChar_def, cellsFeature_def, cellsAxis_def, cellsTent_def, cellsRegion_def, cellsFont_def, cellsItem_def, cellsText_def, cellsAsk_def]
    refine ⟨fun g1 => ?_, fun g1 => ?_⟩
    · rw [show (i + 1).toNat = i.toNat + 1 by omega, rear, show ((i.toNat : Nat) : Int) = i by omega] at q4
      refine call_shut rfl (Match_pure f kn R i forms (hf.ok q3) hl) (by simp only [go_sem, shut, shutL] <;> rfl) ?_
      simp (maxSteps := 2000000) +contextual (disch := first | omega | assumption) only [go_sem, Nat.reduceAdd, Nat.reduceSub, Nat.reduceMul, Nat.reduceLT, Nat.reduceLeDiff, Nat.reduceEqDiff, reduceCtorEq, ↓reduceIte, Int.reduceLE, Int.reduceLT, Int.reduceToNat, Int.reduceAdd, Int.reduceSub, Int.reduceEq, Int.reduceNeg, List.append_assoc, cellsCall_def, cellsRule_def, cellsLookup_def, cellsPoint_def, cellsOutline_def, cellsPart_def, cellsAnchor_def, cellsDelta_def, cellsIns_def, cellsGlyph_def, cellsChar_def, cellsFeature_def, cellsAxis_def, cellsTent_def, cellsRegion_def, cellsFont_def, cellsItem_def, cellsText_def, cellsAsk_def]
      refine ⟨fun g2 => ?_, fun g2 => ?_⟩
      · have hmm := hml R i g2
        have hsri := hsr R i g2
        have hsni := hsn R i g2
        have hsl := stepRun_len f kn forms R i
        generalize hmt : matchF f kn R i forms = mt at *
        obtain ⟨j, hj⟩ := Int.eq_ofNat_of_zero_le (show 0 ≤ mt.1 by omega)
        rw [hj, Int.toNat_natCast] at hmm hsri
        rw [hj]
        refine call_shut rfl (hdp R q3 j i mt.2 hmm.2 hmm.1) (by simp only [go_sem, shut, shutL] <;> rfl) ?_
        rw [← hsri, ← hsni]
        simp (maxSteps := 2000000) +contextual (disch := first | omega | assumption) only [go_sem, Nat.reduceAdd, Nat.reduceSub, Nat.reduceMul, Nat.reduceLT, Nat.reduceLeDiff, Nat.reduceEqDiff, reduceCtorEq, ↓reduceIte, Int.reduceLE, Int.reduceLT, Int.reduceToNat, Int.reduceAdd, Int.reduceSub, Int.reduceEq, Int.reduceNeg, List.append_assoc, cellsCall_def, cellsRule_def, cellsLookup_def, cellsPoint_def, cellsOutline_def, cellsPart_def, cellsAnchor_def, cellsDelta_def, cellsIns_def, cellsGlyph_def, cellsChar_def, cellsFeature_def, cellsAxis_def, cellsTent_def, cellsRegion_def, cellsFont_def, cellsItem_def, cellsText_def, cellsAsk_def]
        exact ih (i - 1, stepRun f kn forms R i, .no) ⟨by simp only; omega, by simp only; omega, by simp only; omega, by simp only; rw [show (i - 1 + 1).toNat = i.toNat by omega]; exact q4⟩ (by simp only; omega)
      · have hst : stepRun f kn forms R i = R := by rw [stepRun, if_pos (by omega)]
        rw [hst] at q4
        exact ih (i - 1, R, g) ⟨by simp only; omega, by simp only; omega, q3, by simp only; rw [show (i - 1 + 1).toNat = i.toNat by omega]; exact q4⟩ (by simp only; omega)
    · rw [show (i + 1).toNat = 0 by omega, rear] at q4
      rw [← q4]
      have hsub : Sub h { bx := h.bx ++ [cellsFont f], gl := gl, lp := h.lp } := ⟨⟨_, rfl⟩, hg.ext, rfl⟩
      exact pureK_sub (by simp only [shut, shutG_any, shutL_rowEItem, rowEItem_def]) (fun _ _ _ => cl_rowEItem _ _ _ _) hsub
  · have v4 := v4 ⟨by omega, by omega⟩ (by omega) (asE_f a5)
    obtain ⟨kn, rfl⟩ := Int.eq_ofNat_of_zero_le (show 0 ≤ k by omega)
    have hkn : kn < f.lookups.length := by omega
    have hml : ∀ run p, 0 ≤ (matchF f kn run p forms).1 → Places run ((f.lookups.getD kn default).rules.getD (matchF f kn run p forms).1.toNat default) p (matchF f kn run p forms).2 ∧ (matchF f kn run p forms).1.toNat < (f.lookups.getD kn default).rules.length := fun run p hm => ⟨by have := (match_ok (forms := forms) hm).places; rwa [Int.toNat_natCast] at this, by have := (match_ok (forms := forms) hm).hm; rwa [Int.toNat_natCast] at this⟩
    have hsr : ∀ run p, 0 ≤ (matchF f kn run p forms).1 → stepRun f kn forms run p = doneRun (calledF f 4) f (f.lookups.getD kn default) ((f.lookups.getD kn default).rules.getD (matchF f kn run p forms).1.toNat default) run (matchF f kn run p forms).2 := fun run p hm => by rw [stepRun, if_neg (by omega), Int.toNat_natCast]
    have hsn : ∀ run p, 0 ≤ (matchF f kn run p forms).1 → stepNext f kn forms run p = doneNext (f.lookups.getD kn default) run (stepRun f kn forms run p) (matchF f kn run p forms).2 := fun run p hm => by rw [stepNext, if_neg (by omega), Int.toNat_natCast]
    have hdp := fun run (hr : run.length ≤ 500000) j p l hj hp => done_pure (calledF_len f 4) hf (deep := 0) (by omega) (called_all hf 4 (by omega)) kn j hkn hj run p l hp hr
    rw [Int.toNat_natCast] at *
    rw [v4]
    refine loop3 (ι := Nat × Int × List Item × Gr) [9, 13, 14, 15, 83, 84, 85, 86, 87, 88, 89, 90, 91, 92, 93, 94, 95, 96, 97, 98, 99, 100, 101, 102, 103, 104, 105, 106, 107, 108] [14, 15, 83, 84, 85, 86, 87, 88, 89, 90, 91, 92, 93, 94, 95, 96, 97, 98, 99, 100, 101, 102, 103, 104, 105, 106, 107, 108] (fun y => [(9, .row y.2.2.2 (y.2.2.1.map encItem)), (13, .int y.2.1)]) (fun y => 0 ≤ y.2.1 ∧ y.2.1 ≤ 1000000 ∧ y.2.2.1.length ≤ 500000 ∧ (y.2.2.1.length : Int) - y.2.1 ≤ y.1 ∧ fore f kn forms y.1 y.2.2.1 y.2.1 = fore f kn forms run.length run 0) (fun y => y.1) (fun y => { bx := h.bx ++ [cellsFont f], gl := gl, lp := h.lp }) (run.length, 0, run, gr) ⟨by simp only; omega, by simp only; omega, hr, by simp only; omega, rfl⟩ (by simp only [setTr_nil, setTr_cons, forget, List.foldl_cons, List.foldl_nil, set8, List.set_cons_succ, List.set_cons_zero] <;> rfl) rfl ?_
    rintro L ⟨n, i, R, g⟩ ⟨q1, q2, q3, q4, q5⟩ ih; simp only [setTr_nil, setTr_cons, forget, List.foldl_cons, List.foldl_nil, set8, List.set_cons_succ, List.set_cons_zero] at ih ⊢
    simp only at q1 q2 q3 q4 q5
    simp (maxSteps := 2000000) +contextual (disch := first | omega | assumption) only [go_sem, Nat.reduceAdd, Nat.reduceSub, Nat.reduceMul, Nat.reduceLT, Nat.reduceLeDiff, Nat.reduceEqDiff, reduceCtorEq, ↓reduceIte, Int.reduceLE, Int.reduceLT, Int.reduceToNat, Int.reduceAdd, Int.reduceSub, Int.reduceEq, Int.reduceNeg, List.append_assoc, cellsCall_def, cellsRule_def, cellsLookup_def, cellsPoint_def, cellsOutline_def, cellsPart_def, cellsAnchor_def, cellsDelta_def, cellsIns_def, cellsGlyph_def, cellsChar_def, cellsFeature_def, cellsAxis_def, cellsTent_def, cellsRegion_def, cellsFont_def, cellsItem_def, cellsText_def, cellsAsk_def]
    refine ⟨fun g1 => ?_, fun g1 => ?_⟩
    · obtain ⟨n, rfl⟩ : ∃ m, n = m + 1 := ⟨n - 1, by omega⟩
      rw [fore, if_pos g1] at q5
      have hless := stepNext_less (f := f) (k := kn) (forms := forms) q1 g1
      refine call_shut rfl (Match_pure f kn R i forms (hf.ok q3) hl) (by simp only [go_sem, shut, shutL] <;> rfl) ?_
      simp (maxSteps := 2000000) +contextual (disch := first | omega | assumption) only [go_sem, Nat.reduceAdd, Nat.reduceSub, Nat.reduceMul, Nat.reduceLT, Nat.reduceLeDiff, Nat.reduceEqDiff, reduceCtorEq, ↓reduceIte, Int.reduceLE, Int.reduceLT, Int.reduceToNat, Int.reduceAdd, Int.reduceSub, Int.reduceEq, Int.reduceNeg, List.append_assoc, cellsCall_def, cellsRule_def, cellsLookup_def, cellsPoint_def, cellsOutline_def, cellsPart_def, cellsAnchor_def, cellsDelta_def, cellsIns_def, cellsGlyph_def, cellsChar_def, cellsFeature_def, cellsAxis_def, cellsTent_def, cellsRegion_def, cellsFont_def, cellsItem_def, cellsText_def, cellsAsk_def]
      refine ⟨fun g2 => ?_, fun g2 => ?_⟩
      · have hst : stepRun f kn forms R i = R := by rw [stepRun, if_pos g2]
        have hsn : stepNext f kn forms R i = i + 1 := by rw [stepNext, if_pos g2]
        rw [hst, hsn] at q5
        exact ih (n, i + 1, R, g) ⟨by simp only; omega, by simp only; omega, q3, by simp only; omega, q5⟩ (by simp only; omega)
      · have hmm := hml R i (by omega)
        have hsri := hsr R i (by omega)
        have hsni := hsn R i (by omega)
        have hsl := stepRun_len f kn forms R i
        generalize hmt : matchF f kn R i forms = mt at *
        obtain ⟨j, hj⟩ := Int.eq_ofNat_of_zero_le (show 0 ≤ mt.1 by omega)
        rw [hj, Int.toNat_natCast] at hmm hsri
        rw [hj]
        refine call_shut rfl (hdp R q3 j i mt.2 hmm.2 hmm.1) (by simp only [go_sem, shut, shutL] <;> rfl) ?_
        rw [← hsri, ← hsni]
        simp (maxSteps := 2000000) +contextual (disch := first | omega | assumption) only [go_sem, Nat.reduceAdd, Nat.reduceSub, Nat.reduceMul, Nat.reduceLT, Nat.reduceLeDiff, Nat.reduceEqDiff, reduceCtorEq, ↓reduceIte, Int.reduceLE, Int.reduceLT, Int.reduceToNat, Int.reduceAdd, Int.reduceSub, Int.reduceEq, Int.reduceNeg, List.append_assoc, cellsCall_def, cellsRule_def, cellsLookup_def, cellsPoint_def, cellsOutline_def, cellsPart_def, cellsAnchor_def, cellsDelta_def, cellsIns_def, cellsGlyph_def, cellsChar_def, cellsFeature_def, cellsAxis_def, cellsTent_def, cellsRegion_def, cellsFont_def, cellsItem_def, cellsText_def, cellsAsk_def]
        exact ih (n, stepNext f kn forms R i, stepRun f kn forms R i, .no) ⟨hless.1, by simp only; omega, by simp only; omega, by simp only; omega, q5⟩ (by simp only; omega)
    · have e : fore f kn forms n R i = R := by
        cases n with
        | zero => rfl
        | succ n => rw [fore, if_neg g1]
      rw [← q5, e]
      have hsub : Sub h { bx := h.bx ++ [cellsFont f], gl := gl, lp := h.lp } := ⟨⟨_, rfl⟩, hg.ext, rfl⟩
      exact pureK_sub (by simp only [shut, shutG_any, shutL_rowEItem, rowEItem_def]) (fun _ _ _ => cl_rowEItem _ _ _ _) hsub
end Go.V
namespace Go.V
open Go Go.Proofs Go.Shelf
set_option linter.unusedVariables false
set_option linter.unusedSimpArgs false
set_option maxRecDepth 10000
set_option maxHeartbeats 4000000
theorem app_cons {α : Type} (a : α) (l bs : List α) : List.append (a :: l) bs = a :: List.append l bs := rfl
theorem app_nil {α : Type} (bs : List α) : List.append [] bs = bs := rfl
theorem tame_of_big {f : Font} {run : List Item} (hb : big f run = false) (hc : ∀ l ∈ f.lookups, ∀ r ∈ l.rules, ∀ c ∈ r.calls, -9223372036854775808 ≤ c.at_ ∧ c.at_ ≤ 9223372036854775807) : Tame f := by
  unfold big at hb
  simp only [Bool.or_eq_false_iff, decide_eq_false_iff_not] at hb
  obtain ⟨⟨h1, h2⟩, h3⟩ := hb
  refine ⟨by omega, fun l hl => ?_⟩
  have h4 := List.any_eq_false.1 h3 l hl
  simp only [bigLookup, Bool.not_eq_true, Bool.or_eq_false_iff, decide_eq_false_iff_not] at h4
  refine ⟨by omega, fun r hr => ?_⟩
  have h5 := List.any_eq_false.1 h4.2 r hr
  simp only [bigRule, Bool.not_eq_true, Bool.or_eq_false_iff, decide_eq_false_iff_not] at h5
  obtain ⟨⟨⟨⟨⟨⟨⟨a1, a2⟩, a3⟩, a4⟩, a5⟩, a6⟩, a7⟩, a8⟩ := h5
  exact ⟨⟨by omega, by omega, hc l hl r hr, fun s hs => by have := small_sets a6 s hs; omega⟩, by omega, by omega, by omega, fun s hs => by have := small_sets a7 s hs; omega, fun s hs => by have := small_sets a8 s hs; omega⟩
theorem fontF_tame : Tame fontF := tame_of_big (run := []) (by kernel_rfl) (fun l hl r hr c hc => by
  have h : (fontF.lookups.all fun l => l.rules.all fun r => r.calls.all fun c => decide (-9223372036854775808 ≤ c.at_ ∧ c.at_ ≤ 9223372036854775807)) = true := by kernel_rfl
  exact of_decide_eq_true (List.all_eq_true.1 (List.all_eq_true.1 (List.all_eq_true.1 h l hl) r hr) c hc))
theorem ruled_pure : Pure Try.prog 17 [] (.bool true) := by
  have e1 : ownMatch fontF 0 (runOf [0, 4, 1]) 0 [] = (0, [0, 2]) := by kernel_rfl
  have e2 : applyF fontF 6 (runOf [0, 0, 0, 1]) [] = [⟨0, 0, 0, 5, 0, 0⟩, ⟨0, 1, 0, 5, 0, 0⟩, ⟨0, 2, 0, 0, 0, 0⟩, ⟨1, 3, 0, 0, 0, 0⟩] := by kernel_rfl
  have e3 : sameGlyphs (applyF fontF 0 (runOf [0, 4, 1]) []) [2, 4] = true := by kernel_rfl
  have e4 : sameGlyphs (applyF fontF 1 (runOf [0, 1, 0]) []) [0, 0, 1, 0, 0] = true := by kernel_rfl
  have e5 : sameGlyphs (applyF fontF 2 (runOf [0, 1]) []) [2, 3, 1] = true := by kernel_rfl
  have e6 : sameGlyphs (applyF fontF 5 (runOf [0, 0, 1]) []) [1, 1, 1] = true := by kernel_rfl
  have e7 : sameGlyphs (applyF fontF 9 (runOf [0]) []) [0] = true := by kernel_rfl
  have be3 : (applyF fontF 0 (runOf [0, 4, 1]) []).length < 100 := of_decide_eq_true (show decide ((applyF fontF 0 (runOf [0, 4, 1]) []).length < 100) = true by kernel_rfl)
  have be4 : (applyF fontF 1 (runOf [0, 1, 0]) []).length < 100 := of_decide_eq_true (show decide ((applyF fontF 1 (runOf [0, 1, 0]) []).length < 100) = true by kernel_rfl)
  have be5 : (applyF fontF 2 (runOf [0, 1]) []).length < 100 := of_decide_eq_true (show decide ((applyF fontF 2 (runOf [0, 1]) []).length < 100) = true by kernel_rfl)
  have be6 : (applyF fontF 5 (runOf [0, 0, 1]) []).length < 100 := of_decide_eq_true (show decide ((applyF fontF 5 (runOf [0, 0, 1]) []).length < 100) = true by kernel_rfl)
  have be7 : (applyF fontF 9 (runOf [0]) []).length < 100 := of_decide_eq_true (show decide ((applyF fontF 9 (runOf [0]) []).length < 100) = true by kernel_rfl)
  refine pure_of (rs := [.tmp 0]) (m := 94) Try.func17 rfl rfl rfl fun h => ?_
  simp (maxSteps := 2000000) +contextual (disch := first | omega | assumption) only [go_sem, Nat.reduceAdd, Nat.reduceSub, Nat.reduceMul, Nat.reduceLT, Nat.reduceLeDiff, Nat.reduceEqDiff, reduceCtorEq, ↓reduceIte, Int.reduceLE, Int.reduceLT, Int.reduceToNat, Int.reduceAdd, Int.reduceSub, Int.reduceEq, Int.reduceNeg, List.append_assoc, cellsCall_def, cellsRule_def, cellsLookup_def, cellsPoint_def, cellsOutline_def, cellsPart_def, cellsAnchor_def, cellsDelta_def, cellsIns_def, cellsGlyph_def, cellsChar_def, cellsFeature_def, cellsAxis_def, cellsTent_def, cellsRegion_def, cellsFont_def, cellsItem_def, cellsText_def, cellsAsk_def]
  refine call_pure rfl font_pure ?_
  generalize hF : fontF = F at *
  have ht : Tame F := hF ▸ fontF_tame
  have ap : ∀ (k : Int) (l : List Int), l.length ≤ 100 → Pure Try.prog 18 [encFont F, .int k, rowEItem (runOf l), rowEI []] (rowEItem (applyF F k (runOf l) [])) := fun k l hl => ownApply_pure ht k (runOf l) [] (by simp) (by simp only [runOf, List.length_map, List.length_range]; omega)
  simp (maxSteps := 2000000) +contextual (disch := first | omega | assumption) only [go_sem, Nat.reduceAdd, Nat.reduceSub, Nat.reduceMul, Nat.reduceLT, Nat.reduceLeDiff, Nat.reduceEqDiff, reduceCtorEq, ↓reduceIte, Int.reduceLE, Int.reduceLT, Int.reduceToNat, Int.reduceAdd, Int.reduceSub, Int.reduceEq, Int.reduceNeg, List.append_assoc, cellsCall_def, cellsRule_def, cellsLookup_def, cellsPoint_def, cellsOutline_def, cellsPart_def, cellsAnchor_def, cellsDelta_def, cellsIns_def, cellsGlyph_def, cellsChar_def, cellsFeature_def, cellsAxis_def, cellsTent_def, cellsRegion_def, cellsFont_def, cellsItem_def, cellsText_def, cellsAsk_def]
  refine awp_drawT (by kernel_rfl) 9 (by kernel_rfl) ?_
  simp (maxSteps := 2000000) +contextual (disch := first | omega | assumption) only [go_sem, Nat.reduceAdd, Nat.reduceSub, Nat.reduceMul, Nat.reduceLT, Nat.reduceLeDiff, Nat.reduceEqDiff, reduceCtorEq, ↓reduceIte, Int.reduceLE, Int.reduceLT, Int.reduceToNat, Int.reduceAdd, Int.reduceSub, Int.reduceEq, Int.reduceNeg, List.append_assoc, cellsCall_def, cellsRule_def, cellsLookup_def, cellsPoint_def, cellsOutline_def, cellsPart_def, cellsAnchor_def, cellsDelta_def, cellsIns_def, cellsGlyph_def, cellsChar_def, cellsFeature_def, cellsAxis_def, cellsTent_def, cellsRegion_def, cellsFont_def, cellsItem_def, cellsText_def, cellsAsk_def]
  refine callq_shut rfl (run_pure [0, 4, 1] (by simp)) (by simp only [go_sem, shut, shutL] <;> rfl) ?_
  simp (maxSteps := 2000000) +contextual (disch := first | omega | assumption) only [go_sem, Nat.reduceAdd, Nat.reduceSub, Nat.reduceMul, Nat.reduceLT, Nat.reduceLeDiff, Nat.reduceEqDiff, reduceCtorEq, ↓reduceIte, Int.reduceLE, Int.reduceLT, Int.reduceToNat, Int.reduceAdd, Int.reduceSub, Int.reduceEq, Int.reduceNeg, List.append_assoc, cellsCall_def, cellsRule_def, cellsLookup_def, cellsPoint_def, cellsOutline_def, cellsPart_def, cellsAnchor_def, cellsDelta_def, cellsIns_def, cellsGlyph_def, cellsChar_def, cellsFeature_def, cellsAxis_def, cellsTent_def, cellsRegion_def, cellsFont_def, cellsItem_def, cellsText_def, cellsAsk_def]
  refine callq_shut rfl (ownMatch_pure F 0 (runOf [0, 4, 1]) 0 [] (ht.ok (by simp [runOf])) (by simp) (by simp [runOf])) (by simp only [go_sem, shut, shutL] <;> rfl) ?_
  rw [e1]
  simp (maxSteps := 2000000) +contextual (disch := first | omega | assumption) only [go_sem, Nat.reduceAdd, Nat.reduceSub, Nat.reduceMul, Nat.reduceLT, Nat.reduceLeDiff, Nat.reduceEqDiff, reduceCtorEq, ↓reduceIte, Int.reduceLE, Int.reduceLT, Int.reduceToNat, Int.reduceAdd, Int.reduceSub, Int.reduceEq, Int.reduceNeg, List.append_assoc, cellsCall_def, cellsRule_def, cellsLookup_def, cellsPoint_def, cellsOutline_def, cellsPart_def, cellsAnchor_def, cellsDelta_def, cellsIns_def, cellsGlyph_def, cellsChar_def, cellsFeature_def, cellsAxis_def, cellsTent_def, cellsRegion_def, cellsFont_def, cellsItem_def, cellsText_def, cellsAsk_def]
  refine awp_drawT (by kernel_rfl) 5 (by kernel_rfl) ?_
  simp (maxSteps := 2000000) +contextual (disch := first | omega | assumption) only [go_sem, Nat.reduceAdd, Nat.reduceSub, Nat.reduceMul, Nat.reduceLT, Nat.reduceLeDiff, Nat.reduceEqDiff, reduceCtorEq, ↓reduceIte, Int.reduceLE, Int.reduceLT, Int.reduceToNat, Int.reduceAdd, Int.reduceSub, Int.reduceEq, Int.reduceNeg, List.append_assoc, cellsCall_def, cellsRule_def, cellsLookup_def, cellsPoint_def, cellsOutline_def, cellsPart_def, cellsAnchor_def, cellsDelta_def, cellsIns_def, cellsGlyph_def, cellsChar_def, cellsFeature_def, cellsAxis_def, cellsTent_def, cellsRegion_def, cellsFont_def, cellsItem_def, cellsText_def, cellsAsk_def]
  refine callq_shut rfl (run_pure [0, 0, 0, 1] (by simp)) (by simp only [go_sem, shut, shutL] <;> rfl) ?_
  simp (maxSteps := 2000000) +contextual (disch := first | omega | assumption) only [go_sem, Nat.reduceAdd, Nat.reduceSub, Nat.reduceMul, Nat.reduceLT, Nat.reduceLeDiff, Nat.reduceEqDiff, reduceCtorEq, ↓reduceIte, Int.reduceLE, Int.reduceLT, Int.reduceToNat, Int.reduceAdd, Int.reduceSub, Int.reduceEq, Int.reduceNeg, List.append_assoc, cellsCall_def, cellsRule_def, cellsLookup_def, cellsPoint_def, cellsOutline_def, cellsPart_def, cellsAnchor_def, cellsDelta_def, cellsIns_def, cellsGlyph_def, cellsChar_def, cellsFeature_def, cellsAxis_def, cellsTent_def, cellsRegion_def, cellsFont_def, cellsItem_def, cellsText_def, cellsAsk_def]
  refine callq_shut rfl (ap 6 [0, 0, 0, 1] (by simp)) (by simp only [go_sem, shut, shutL] <;> rfl) ?_
  rw [e2]
  simp (maxSteps := 2000000) +contextual (disch := first | omega | assumption) only [go_sem, Nat.reduceAdd, Nat.reduceSub, Nat.reduceMul, Nat.reduceLT, Nat.reduceLeDiff, Nat.reduceEqDiff, reduceCtorEq, ↓reduceIte, Int.reduceLE, Int.reduceLT, Int.reduceToNat, Int.reduceAdd, Int.reduceSub, Int.reduceEq, Int.reduceNeg, List.append_assoc, cellsCall_def, cellsRule_def, cellsLookup_def, cellsPoint_def, cellsOutline_def, cellsPart_def, cellsAnchor_def, cellsDelta_def, cellsIns_def, cellsGlyph_def, cellsChar_def, cellsFeature_def, cellsAxis_def, cellsTent_def, cellsRegion_def, cellsFont_def, cellsItem_def, cellsText_def, cellsAsk_def]
  refine ⟨fun _ => ⟨fun _ => ?_, fun h => absurd rfl h⟩, fun h => absurd rfl h⟩
  refine awp_drawT (by kernel_rfl) 70 (by kernel_rfl) ?_
  simp only [app_cons, app_nil]
  simp (maxSteps := 2000000) +contextual (disch := first | omega | assumption) only [go_sem, Nat.reduceAdd, Nat.reduceSub, Nat.reduceMul, Nat.reduceLT, Nat.reduceLeDiff, Nat.reduceEqDiff, reduceCtorEq, ↓reduceIte, Int.reduceLE, Int.reduceLT, Int.reduceToNat, Int.reduceAdd, Int.reduceSub, Int.reduceEq, Int.reduceNeg, List.append_assoc, cellsCall_def, cellsRule_def, cellsLookup_def, cellsPoint_def, cellsOutline_def, cellsPart_def, cellsAnchor_def, cellsDelta_def, cellsIns_def, cellsGlyph_def, cellsChar_def, cellsFeature_def, cellsAxis_def, cellsTent_def, cellsRegion_def, cellsFont_def, cellsItem_def, cellsText_def, cellsAsk_def]
  refine ⟨by decide, callq_shut rfl (run_pure [0, 4, 1] (by simp)) (by simp only [go_sem, shut, shutL] <;> rfl) ?_⟩
  simp (maxSteps := 2000000) +contextual (disch := first | omega | assumption) only [go_sem, Nat.reduceAdd, Nat.reduceSub, Nat.reduceMul, Nat.reduceLT, Nat.reduceLeDiff, Nat.reduceEqDiff, reduceCtorEq, ↓reduceIte, Int.reduceLE, Int.reduceLT, Int.reduceToNat, Int.reduceAdd, Int.reduceSub, Int.reduceEq, Int.reduceNeg, List.append_assoc, cellsCall_def, cellsRule_def, cellsLookup_def, cellsPoint_def, cellsOutline_def, cellsPart_def, cellsAnchor_def, cellsDelta_def, cellsIns_def, cellsGlyph_def, cellsChar_def, cellsFeature_def, cellsAxis_def, cellsTent_def, cellsRegion_def, cellsFont_def, cellsItem_def, cellsText_def, cellsAsk_def]
  refine callq_shut rfl (ap 0 [0, 4, 1] (by simp)) (by simp only [go_sem, shut, shutL] <;> rfl) ?_
  simp (maxSteps := 2000000) +contextual (disch := first | omega | assumption) only [go_sem, Nat.reduceAdd, Nat.reduceSub, Nat.reduceMul, Nat.reduceLT, Nat.reduceLeDiff, Nat.reduceEqDiff, reduceCtorEq, ↓reduceIte, Int.reduceLE, Int.reduceLT, Int.reduceToNat, Int.reduceAdd, Int.reduceSub, Int.reduceEq, Int.reduceNeg, List.append_assoc, cellsCall_def, cellsRule_def, cellsLookup_def, cellsPoint_def, cellsOutline_def, cellsPart_def, cellsAnchor_def, cellsDelta_def, cellsIns_def, cellsGlyph_def, cellsChar_def, cellsFeature_def, cellsAxis_def, cellsTent_def, cellsRegion_def, cellsFont_def, cellsItem_def, cellsText_def, cellsAsk_def]
  refine callq_shut rfl (glyphs_pure (applyF F 0 (runOf [0, 4, 1]) []) [2, 4] (by have := be3; omega)) (by simp only [go_sem, shut, shutL] <;> rfl) ?_
  rw [e3]
  simp (maxSteps := 2000000) +contextual (disch := first | omega | assumption) only [go_sem, Nat.reduceAdd, Nat.reduceSub, Nat.reduceMul, Nat.reduceLT, Nat.reduceLeDiff, Nat.reduceEqDiff, reduceCtorEq, ↓reduceIte, Int.reduceLE, Int.reduceLT, Int.reduceToNat, Int.reduceAdd, Int.reduceSub, Int.reduceEq, Int.reduceNeg, List.append_assoc, cellsCall_def, cellsRule_def, cellsLookup_def, cellsPoint_def, cellsOutline_def, cellsPart_def, cellsAnchor_def, cellsDelta_def, cellsIns_def, cellsGlyph_def, cellsChar_def, cellsFeature_def, cellsAxis_def, cellsTent_def, cellsRegion_def, cellsFont_def, cellsItem_def, cellsText_def, cellsAsk_def]
  refine callq_shut rfl (run_pure [0, 1, 0] (by simp)) (by simp only [go_sem, shut, shutL] <;> rfl) ?_
  simp (maxSteps := 2000000) +contextual (disch := first | omega | assumption) only [go_sem, Nat.reduceAdd, Nat.reduceSub, Nat.reduceMul, Nat.reduceLT, Nat.reduceLeDiff, Nat.reduceEqDiff, reduceCtorEq, ↓reduceIte, Int.reduceLE, Int.reduceLT, Int.reduceToNat, Int.reduceAdd, Int.reduceSub, Int.reduceEq, Int.reduceNeg, List.append_assoc, cellsCall_def, cellsRule_def, cellsLookup_def, cellsPoint_def, cellsOutline_def, cellsPart_def, cellsAnchor_def, cellsDelta_def, cellsIns_def, cellsGlyph_def, cellsChar_def, cellsFeature_def, cellsAxis_def, cellsTent_def, cellsRegion_def, cellsFont_def, cellsItem_def, cellsText_def, cellsAsk_def]
  refine callq_shut rfl (ap 1 [0, 1, 0] (by simp)) (by simp only [go_sem, shut, shutL] <;> rfl) ?_
  simp (maxSteps := 2000000) +contextual (disch := first | omega | assumption) only [go_sem, Nat.reduceAdd, Nat.reduceSub, Nat.reduceMul, Nat.reduceLT, Nat.reduceLeDiff, Nat.reduceEqDiff, reduceCtorEq, ↓reduceIte, Int.reduceLE, Int.reduceLT, Int.reduceToNat, Int.reduceAdd, Int.reduceSub, Int.reduceEq, Int.reduceNeg, List.append_assoc, cellsCall_def, cellsRule_def, cellsLookup_def, cellsPoint_def, cellsOutline_def, cellsPart_def, cellsAnchor_def, cellsDelta_def, cellsIns_def, cellsGlyph_def, cellsChar_def, cellsFeature_def, cellsAxis_def, cellsTent_def, cellsRegion_def, cellsFont_def, cellsItem_def, cellsText_def, cellsAsk_def]
  refine callq_shut rfl (glyphs_pure (applyF F 1 (runOf [0, 1, 0]) []) [0, 0, 1, 0, 0] (by have := be4; omega)) (by simp only [go_sem, shut, shutL] <;> rfl) ?_
  rw [e4]
  simp (maxSteps := 2000000) +contextual (disch := first | omega | assumption) only [go_sem, Nat.reduceAdd, Nat.reduceSub, Nat.reduceMul, Nat.reduceLT, Nat.reduceLeDiff, Nat.reduceEqDiff, reduceCtorEq, ↓reduceIte, Int.reduceLE, Int.reduceLT, Int.reduceToNat, Int.reduceAdd, Int.reduceSub, Int.reduceEq, Int.reduceNeg, List.append_assoc, cellsCall_def, cellsRule_def, cellsLookup_def, cellsPoint_def, cellsOutline_def, cellsPart_def, cellsAnchor_def, cellsDelta_def, cellsIns_def, cellsGlyph_def, cellsChar_def, cellsFeature_def, cellsAxis_def, cellsTent_def, cellsRegion_def, cellsFont_def, cellsItem_def, cellsText_def, cellsAsk_def]
  refine callq_shut rfl (run_pure [0, 1] (by simp)) (by simp only [go_sem, shut, shutL] <;> rfl) ?_
  simp (maxSteps := 2000000) +contextual (disch := first | omega | assumption) only [go_sem, Nat.reduceAdd, Nat.reduceSub, Nat.reduceMul, Nat.reduceLT, Nat.reduceLeDiff, Nat.reduceEqDiff, reduceCtorEq, ↓reduceIte, Int.reduceLE, Int.reduceLT, Int.reduceToNat, Int.reduceAdd, Int.reduceSub, Int.reduceEq, Int.reduceNeg, List.append_assoc, cellsCall_def, cellsRule_def, cellsLookup_def, cellsPoint_def, cellsOutline_def, cellsPart_def, cellsAnchor_def, cellsDelta_def, cellsIns_def, cellsGlyph_def, cellsChar_def, cellsFeature_def, cellsAxis_def, cellsTent_def, cellsRegion_def, cellsFont_def, cellsItem_def, cellsText_def, cellsAsk_def]
  refine callq_shut rfl (ap 2 [0, 1] (by simp)) (by simp only [go_sem, shut, shutL] <;> rfl) ?_
  simp (maxSteps := 2000000) +contextual (disch := first | omega | assumption) only [go_sem, Nat.reduceAdd, Nat.reduceSub, Nat.reduceMul, Nat.reduceLT, Nat.reduceLeDiff, Nat.reduceEqDiff, reduceCtorEq, ↓reduceIte, Int.reduceLE, Int.reduceLT, Int.reduceToNat, Int.reduceAdd, Int.reduceSub, Int.reduceEq, Int.reduceNeg, List.append_assoc, cellsCall_def, cellsRule_def, cellsLookup_def, cellsPoint_def, cellsOutline_def, cellsPart_def, cellsAnchor_def, cellsDelta_def, cellsIns_def, cellsGlyph_def, cellsChar_def, cellsFeature_def, cellsAxis_def, cellsTent_def, cellsRegion_def, cellsFont_def, cellsItem_def, cellsText_def, cellsAsk_def]
  refine callq_shut rfl (glyphs_pure (applyF F 2 (runOf [0, 1]) []) [2, 3, 1] (by have := be5; omega)) (by simp only [go_sem, shut, shutL] <;> rfl) ?_
  rw [e5]
  simp (maxSteps := 2000000) +contextual (disch := first | omega | assumption) only [go_sem, Nat.reduceAdd, Nat.reduceSub, Nat.reduceMul, Nat.reduceLT, Nat.reduceLeDiff, Nat.reduceEqDiff, reduceCtorEq, ↓reduceIte, Int.reduceLE, Int.reduceLT, Int.reduceToNat, Int.reduceAdd, Int.reduceSub, Int.reduceEq, Int.reduceNeg, List.append_assoc, cellsCall_def, cellsRule_def, cellsLookup_def, cellsPoint_def, cellsOutline_def, cellsPart_def, cellsAnchor_def, cellsDelta_def, cellsIns_def, cellsGlyph_def, cellsChar_def, cellsFeature_def, cellsAxis_def, cellsTent_def, cellsRegion_def, cellsFont_def, cellsItem_def, cellsText_def, cellsAsk_def]
  refine callq_shut rfl (run_pure [0, 0, 1] (by simp)) (by simp only [go_sem, shut, shutL] <;> rfl) ?_
  simp (maxSteps := 2000000) +contextual (disch := first | omega | assumption) only [go_sem, Nat.reduceAdd, Nat.reduceSub, Nat.reduceMul, Nat.reduceLT, Nat.reduceLeDiff, Nat.reduceEqDiff, reduceCtorEq, ↓reduceIte, Int.reduceLE, Int.reduceLT, Int.reduceToNat, Int.reduceAdd, Int.reduceSub, Int.reduceEq, Int.reduceNeg, List.append_assoc, cellsCall_def, cellsRule_def, cellsLookup_def, cellsPoint_def, cellsOutline_def, cellsPart_def, cellsAnchor_def, cellsDelta_def, cellsIns_def, cellsGlyph_def, cellsChar_def, cellsFeature_def, cellsAxis_def, cellsTent_def, cellsRegion_def, cellsFont_def, cellsItem_def, cellsText_def, cellsAsk_def]
  refine callq_shut rfl (ap 5 [0, 0, 1] (by simp)) (by simp only [go_sem, shut, shutL] <;> rfl) ?_
  simp (maxSteps := 2000000) +contextual (disch := first | omega | assumption) only [go_sem, Nat.reduceAdd, Nat.reduceSub, Nat.reduceMul, Nat.reduceLT, Nat.reduceLeDiff, Nat.reduceEqDiff, reduceCtorEq, ↓reduceIte, Int.reduceLE, Int.reduceLT, Int.reduceToNat, Int.reduceAdd, Int.reduceSub, Int.reduceEq, Int.reduceNeg, List.append_assoc, cellsCall_def, cellsRule_def, cellsLookup_def, cellsPoint_def, cellsOutline_def, cellsPart_def, cellsAnchor_def, cellsDelta_def, cellsIns_def, cellsGlyph_def, cellsChar_def, cellsFeature_def, cellsAxis_def, cellsTent_def, cellsRegion_def, cellsFont_def, cellsItem_def, cellsText_def, cellsAsk_def]
  refine callq_shut rfl (glyphs_pure (applyF F 5 (runOf [0, 0, 1]) []) [1, 1, 1] (by have := be6; omega)) (by simp only [go_sem, shut, shutL] <;> rfl) ?_
  rw [e6]
  simp (maxSteps := 2000000) +contextual (disch := first | omega | assumption) only [go_sem, Nat.reduceAdd, Nat.reduceSub, Nat.reduceMul, Nat.reduceLT, Nat.reduceLeDiff, Nat.reduceEqDiff, reduceCtorEq, ↓reduceIte, Int.reduceLE, Int.reduceLT, Int.reduceToNat, Int.reduceAdd, Int.reduceSub, Int.reduceEq, Int.reduceNeg, List.append_assoc, cellsCall_def, cellsRule_def, cellsLookup_def, cellsPoint_def, cellsOutline_def, cellsPart_def, cellsAnchor_def, cellsDelta_def, cellsIns_def, cellsGlyph_def, cellsChar_def, cellsFeature_def, cellsAxis_def, cellsTent_def, cellsRegion_def, cellsFont_def, cellsItem_def, cellsText_def, cellsAsk_def]
  refine ⟨by decide, by decide, by decide, callq_shut rfl (run_pure [0] (by simp)) (by simp only [go_sem, shut, shutL] <;> rfl) ?_⟩
  simp (maxSteps := 2000000) +contextual (disch := first | omega | assumption) only [go_sem, Nat.reduceAdd, Nat.reduceSub, Nat.reduceMul, Nat.reduceLT, Nat.reduceLeDiff, Nat.reduceEqDiff, reduceCtorEq, ↓reduceIte, Int.reduceLE, Int.reduceLT, Int.reduceToNat, Int.reduceAdd, Int.reduceSub, Int.reduceEq, Int.reduceNeg, List.append_assoc, cellsCall_def, cellsRule_def, cellsLookup_def, cellsPoint_def, cellsOutline_def, cellsPart_def, cellsAnchor_def, cellsDelta_def, cellsIns_def, cellsGlyph_def, cellsChar_def, cellsFeature_def, cellsAxis_def, cellsTent_def, cellsRegion_def, cellsFont_def, cellsItem_def, cellsText_def, cellsAsk_def]
  refine callq_shut rfl (ap 9 [0] (by simp)) (by simp only [go_sem, shut, shutL] <;> rfl) ?_
  simp (maxSteps := 2000000) +contextual (disch := first | omega | assumption) only [go_sem, Nat.reduceAdd, Nat.reduceSub, Nat.reduceMul, Nat.reduceLT, Nat.reduceLeDiff, Nat.reduceEqDiff, reduceCtorEq, ↓reduceIte, Int.reduceLE, Int.reduceLT, Int.reduceToNat, Int.reduceAdd, Int.reduceSub, Int.reduceEq, Int.reduceNeg, List.append_assoc, cellsCall_def, cellsRule_def, cellsLookup_def, cellsPoint_def, cellsOutline_def, cellsPart_def, cellsAnchor_def, cellsDelta_def, cellsIns_def, cellsGlyph_def, cellsChar_def, cellsFeature_def, cellsAxis_def, cellsTent_def, cellsRegion_def, cellsFont_def, cellsItem_def, cellsText_def, cellsAsk_def]
  refine callq_shut rfl (glyphs_pure (applyF F 9 (runOf [0]) []) [0] (by have := be7; omega)) (by simp only [go_sem, shut, shutL] <;> rfl) ?_
  rw [e7]
  simp (maxSteps := 2000000) +contextual (disch := first | omega | assumption) only [go_sem, Nat.reduceAdd, Nat.reduceSub, Nat.reduceMul, Nat.reduceLT, Nat.reduceLeDiff, Nat.reduceEqDiff, reduceCtorEq, ↓reduceIte, Int.reduceLE, Int.reduceLT, Int.reduceToNat, Int.reduceAdd, Int.reduceSub, Int.reduceEq, Int.reduceNeg, List.append_assoc, cellsCall_def, cellsRule_def, cellsLookup_def, cellsPoint_def, cellsOutline_def, cellsPart_def, cellsAnchor_def, cellsDelta_def, cellsIns_def, cellsGlyph_def, cellsChar_def, cellsFeature_def, cellsAxis_def, cellsTent_def, cellsRegion_def, cellsFont_def, cellsItem_def, cellsText_def, cellsAsk_def]
  (all_goals first | assumption | omega | exact pureK_gen (by simp only [go_sem, shut, shutL] <;> rfl) (by intros; simp only [go_sem, cl, clL]) rfl rfl | exact pureK_gen0 (by simp only [go_sem, shut, shutL] <;> rfl) (by intros; simp only [go_sem, cl, clL]) | exact pureK_gl (by simp only [go_sem, shut, shutL] <;> rfl) (by intros; simp only [go_sem, cl, clL]) (Grows.ext (by assumption)) rfl | exact pureK_gl0 (by simp only [go_sem, shut, shutL] <;> rfl) (by intros; simp only [go_sem, cl, clL]) (Grows.ext (by assumption)) rfl | exact pureK_sub (by simp only [go_sem, shut, shutL] <;> rfl) (by intros; simp only [go_sem, cl, clL]) (by assumption) | exact pureK_sub (by simp only [go_sem, shut, shutL] <;> rfl) (by intros; simp only [go_sem, cl, clL]) (Sub.more (by assumption) _))
end Go.V
