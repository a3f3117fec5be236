/- By any calls (30 of them) a reader of any bytes (200 of them) tells what the document's reader tells, call by call, also behind a failure. No condition. -/
import Derived.Test.YtfnbaepioignaaaPOcttx6
import Derived.Test.YtfnbaepioignaaaOctD
namespace Go.Proofs.Ytfnbaepioignaaa.Pure
open Go.RowKit Go.Proofs.Ytfnbaepioignaaa.POctt Go.Proofs.YtfnbaepioignaaaW.PrintWords Go.Proofs.YtfnbaepioignaaaW.PrintLast Go.Proofs.YtfnbaepioignaaaW.PrintMore
open Go.Proofs.Ytfnbaepioignaaa.OctC
set_option linter.unusedVariables false

theorem reftake_bad (s : ByteArray) (p : Int) (b : Bool) (n : Int) (h0 : 0 ≤ p) (h1 : p ≤ s.size) (hs : Small s) (h : b = true ∨ n < 0 ∨ s.size - p < n) :
    fleuronref01_Reader_Take.f s p b n = some (⟨#[]⟩, s, p, true) := by
  unfold Small at hs
  unfold fleuronref01_Reader_Take.f
  by_cases hb : b = true
  · rw [if_pos hb]
  · rw [if_neg hb]
    by_cases hn : n < 0
    · rw [if_pos hn]
    · rw [if_neg hn, (by unfold wrap64; omega : wrap64 ((s.size : Int) - p) = s.size - p), if_pos (by simp_all <;> omega)]
theorem reftake_ok (s : ByteArray) (p n : Int) (h0 : 0 ≤ p) (h1 : p ≤ s.size) (hs : Small s) (hn : 0 ≤ n) (h : n ≤ s.size - p) :
    fleuronref01_Reader_Take.f s p false n = some (s.extract p.toNat (p + n).toNat, s, p + n, false) := by
  unfold Small at hs
  unfold fleuronref01_Reader_Take.f
  have hw : wrap64 (p + n) = p + n := by unfold wrap64; omega
  rw [if_neg (by decide), if_neg (by omega), (by unfold wrap64; omega : wrap64 ((s.size : Int) - p) = s.size - p), if_neg (by omega), hw, if_pos (by omega), if_pos (by omega), if_pos (by omega)]
theorem take_both (s : ByteArray) (p : Int) (b : Bool) (n : Int) (h0 : 0 ≤ p) (h1 : p ≤ s.size) (hs : Small s) :
    ∃ t q c, octet_Reader_Take.f s p b n = some (t, s, q, c) ∧ fleuronref01_Reader_Take.f s p b n = some (t, s, q, c) ∧ 0 ≤ q ∧ q ≤ s.size := by
  by_cases h : b = true ∨ n < 0 ∨ s.size - p < n
  · exact ⟨_, _, _, take_bad s p b n h0 h1 hs h, reftake_bad s p b n h0 h1 hs h, h0, h1⟩
  · have hb : b = false := by cases b <;> simp_all
    subst hb
    have hn : 0 ≤ n := by omega
    have hm : n ≤ s.size - p := by omega
    exact ⟨_, _, _, take_ok s p n h0 h1 hs hn hm, reftake_ok s p n h0 h1 hs hn hm, by omega, by omega⟩
theorem refnum_l0 (t s : ByteArray) (p : Int) (b : Bool) (ht : t.size ≤ 8) (d : Nat) : ∀ (k i : Nat) (x : Int), i ≤ t.size → t.size - i = d → d < k →
    x = val ((bytesOf t).take i) → fleuronref01_Reader_Num.l0 k t x i s p b = some (wrap64 (val (bytesOf t)), s, p, b) := by
  induction d with
  | zero =>
    intro k i x h1 hd hk hx
    obtain ⟨k, rfl⟩ : ∃ m, k = m + 1 := ⟨k - 1, by omega⟩
    simp only [fleuronref01_Reader_Num.l0]
    rw [if_neg (by omega), hx, List.take_of_length_le (by rw [bytesOf_length]; omega)]
  | succ d ih =>
    intro k i x h1 hd hk hx
    obtain ⟨k, rfl⟩ : ∃ m, k = m + 1 := ⟨k - 1, by omega⟩
    simp only [fleuronref01_Reader_Num.l0]
    have hi : wrap64 ((i : Int) + 1) = ((i + 1 : Nat) : Int) := by unfold wrap64; omega
    have hbt := bt_range t i
    have ht1 := take_snoc_rd (bytesOf t) i (by rw [bytesOf_length]; omega)
    rw [rd_bytesOf] at ht1
    have hby : Byt ((bytesOf t).take i) := fun z hz => byt_bytesOf t z (List.mem_of_mem_take hz)
    have hv := val_lt _ hby
    have hv0 := val_nonneg _ hby
    have hl : ((bytesOf t).take i).length = i := by rw [List.length_take, bytesOf_length]; omega
    rw [hl] at hv
    have hv7 : (256 : Int) ^ i ≤ 72057594037927936 := by
      rcases i with _ | _ | _ | _ | _ | _ | _ | _ | i
      all_goals first | (exfalso; omega) | (simp; done) | (simp; omega)
    rw [if_pos (by omega), if_pos (by omega), hi]
    apply ih k (i + 1) _ (by omega) (by omega) (by omega)
    rw [ht1, val_snoc, ← hx, IntKind.wrap_u64, IntKind.wrap_u64, IntKind.wrap_u64]
    omega
theorem num_both (k : Nat) (hk : 20 ≤ k) (s : ByteArray) (p : Int) (b : Bool) (n : Int) (h0 : 0 ≤ p) (h1 : p ≤ s.size) (hs : Small s) :
    ∃ v q c, octet_Reader_Num.f s p b n = some (v, s, q, c) ∧ fleuronref01_Reader_Num.f k s p b n = some (v, s, q, c) ∧ 0 ≤ q ∧ q ≤ s.size ∧
      ((c = true ∧ octet_Reader_Int.f s p b n = some (0, s, q, c) ∧ v = 0 ∧ q = p) ∨ (c = false ∧ 0 ≤ n ∧ n ≤ 8 ∧ q = p + n ∧ n ≤ s.size - p ∧ v = wrap64 (val (sub s p n)) ∧ octet_Reader_Int.f s p b n = some (sgn n.toNat (val (sub s p n)), s, q, c))) := by
  obtain ⟨k, rfl⟩ : ∃ m, k = m + 2 := ⟨k - 2, by omega⟩
  have hj : ∀ c : Bool, fleuronref01_Reader_Num.j1 (k + 1) n s p c = (fleuronref01_Reader_Take.f s p c n).bind fun t => fleuronref01_Reader_Num.l0 k t.1 0 0 t.2.1 t.2.2.1 t.2.2.2 := fun c => rfl
  have hl0 : ∀ (q : Int) (c : Bool), fleuronref01_Reader_Num.l0 k ⟨#[]⟩ 0 0 s q c = some (0, s, q, c) := by
    intro q c
    have e := refnum_l0 ⟨#[]⟩ s q c (by show (0 : Nat) ≤ 8; omega) 0 k 0 0 (by omega) (by show 0 - 0 = 0; omega) (by omega) rfl
    rw [show ((0 : Nat) : Int) = 0 from rfl] at e
    rw [e]
    simp [bytesOf, val, wrap64]
  by_cases h : b = true ∨ n < 0 ∨ 8 < n ∨ s.size - p < n
  · refine ⟨0, p, true, num_bad s p b n h0 h1 hs h, ?_, h0, h1, .inl ⟨rfl, int_bad s p b n h0 h1 hs h, rfl, rfl⟩⟩
    unfold fleuronref01_Reader_Num.f
    by_cases hn : n < 0
    · rw [if_pos hn]
      rw [show k + 2 = (k + 1) + 1 from rfl]
      simp only [fleuronref01_Reader_Num.j0]
      rw [if_pos trivial, hj, reftake_bad s p true n h0 h1 hs (.inl rfl)]
      simp only [obind]
      rw [hl0]
    · rw [if_neg hn, show k + 2 = (k + 1) + 1 from rfl]
      simp only [fleuronref01_Reader_Num.j0]
      by_cases h8 : n > 8
      · rw [if_pos (decide_eq_true h8), hj, reftake_bad s p true n h0 h1 hs (.inl rfl)]
        simp only [obind]
        rw [hl0]
      · rw [if_neg (by simp; omega), hj, reftake_bad s p b n h0 h1 hs (by rcases h with h | h | h | h <;> first | (exfalso; omega) | exact .inl h | exact .inr (.inr h))]
        simp only [obind]
        rw [hl0]
  · have hb : b = false := by cases b <;> simp_all
    subst hb
    have hn : 0 ≤ n := by omega
    have hn8 : n ≤ 8 := by omega
    have hm : n ≤ s.size - p := by omega
    refine ⟨_, _, false, num_ok s p n h0 h1 hs hn hn8 hm, ?_, by omega, by omega, .inr ⟨rfl, hn, hn8, rfl, hm, rfl, int_ok s p n h0 h1 hs hn hn8 hm⟩⟩
    unfold fleuronref01_Reader_Num.f
    rw [if_neg (by omega), show k + 2 = (k + 1) + 1 from rfl]
    simp only [fleuronref01_Reader_Num.j0]
    rw [if_neg (by simp; omega), hj, reftake_ok s p n h0 h1 hs hn hm]
    simp only [obind]
    have hsz : (s.extract p.toNat (p + n).toNat).size = n.toNat := by
      rw [← bytesOf_length, bytesOf_sub s p n h0 hn, sub_length s p n h0 hn hm]
    have e := refnum_l0 (s.extract p.toNat (p + n).toNat) s (p + n) false (by omega) _ k 0 0 (by omega) rfl (by omega) rfl
    rw [show ((0 : Nat) : Int) = 0 from rfl] at e
    rw [e, bytesOf_sub s p n h0 hn]
theorem int_both (k : Nat) (hk : 20 ≤ k) (s : ByteArray) (p : Int) (b : Bool) (n : Int) (h0 : 0 ≤ p) (h1 : p ≤ s.size) (hs : Small s) :
    ∃ v q c, octet_Reader_Int.f s p b n = some (v, s, q, c) ∧ fleuronref01_Reader_Int.f k s p b n = some (v, s, q, c) ∧ 0 ≤ q ∧ q ≤ s.size := by
  obtain ⟨v, q, c, e1, e2, hq0, hq1, h | h⟩ := num_both k hk s p b n h0 h1 hs
  · obtain ⟨rfl, hi, rfl, rfl⟩ := h
    refine ⟨0, q, true, hi, ?_, h0, h1⟩
    unfold fleuronref01_Reader_Int.f
    rw [e2]
    simp only [obind]
    rw [if_pos trivial]
  · obtain ⟨rfl, hn, hn8, rfl, hm, rfl, hi⟩ := h
    refine ⟨_, _, false, hi, ?_, hq0, hq1⟩
    unfold fleuronref01_Reader_Int.f
    rw [e2]
    simp only [obind]
    rw [if_neg (by decide)]
    have hl := sub_length s p n h0 hn hm
    have hby := byt_sub s p n
    have hv := val_lt _ hby
    have hv0 := val_nonneg _ hby
    rw [hl] at hv
    generalize val (sub s p n) = u at *
    obtain ⟨m, rfl⟩ := Int.eq_ofNat_of_zero_le hn
    simp only [Int.toNat_natCast] at hv ⊢
    have hb : IntKind.i64.bits = 64 := rfl
    unfold sgn
    rcases m with _ | _ | _ | _ | _ | _ | _ | _ | _ | m
    all_goals first
      | (exfalso; omega)
      | (simp [shl, hb, IntKind.wrap_i64] at hv ⊢; simp [wrap64]; first | omega | (split <;> split <;> simp <;> omega) | (trace_state; sorry))
theorem text_both (k : Nat) (hk : 20 ≤ k) (s : ByteArray) (p : Int) (b : Bool) (h0 : 0 ≤ p) (h1 : p ≤ s.size) (hs : Small s) :
    ∃ t q c, octet_Reader_Text.f s p b = some (t, s, q, c) ∧ fleuronref01_Reader_Text.f k s p b = some (t, s, q, c) ∧ 0 ≤ q ∧ q ≤ s.size := by
  obtain ⟨v, q, c, e1, e2, hq0, hq1, _⟩ := num_both k hk s p b 2 h0 h1 hs
  obtain ⟨t, q', c', f1, f2, hr0, hr1⟩ := take_both s q c v hq0 hq1 hs
  by_cases hc : c' = true
  · refine ⟨t, p, c', ?_, ?_, h0, h1⟩
    · unfold octet_Reader_Text.f
      rw [e1]; simp only [obind]; rw [f1]; simp only [obind]; rw [if_pos hc]
    · unfold fleuronref01_Reader_Text.f
      rw [e2]; simp only [obind]; rw [f2]; simp only [obind]; rw [if_pos hc]
  · refine ⟨t, q', c', ?_, ?_, hr0, hr1⟩
    · unfold octet_Reader_Text.f
      rw [e1]; simp only [obind]; rw [f1]; simp only [obind]; rw [if_neg hc]
    · unfold fleuronref01_Reader_Text.f
      rw [e2]; simp only [obind]; rw [f2]; simp only [obind]; rw [if_neg hc]
theorem one_both (k : Nat) (hk : 20 ≤ k) (s : ByteArray) (p : Int) (b : Bool) (dd n : Int) (h0 : 0 ≤ p) (h1 : p ≤ s.size) (hs : Small s) :
    ∃ v t q c, fleuronlaw01_one.f s p b dd n = some (v, t, s, q, c) ∧ fleuronlaw01_two.f k s p b dd n = some (v, t, s, q, c) ∧ 0 ≤ q ∧ q ≤ s.size := by
  unfold fleuronlaw01_one.f fleuronlaw01_two.f
  by_cases c0 : Go.bits .and .i64 dd 3 = 0
  · obtain ⟨v, q, c, e1, e2, hq0, hq1, _⟩ := num_both k hk s p b n h0 h1 hs
    rw [if_pos c0, if_pos c0, e1, e2]
    exact ⟨_, _, _, _, rfl, rfl, hq0, hq1⟩
  · rw [if_neg c0, if_neg c0]
    by_cases c1 : Go.bits .and .i64 dd 3 = 1
    · obtain ⟨v, q, c, e1, e2, hq0, hq1⟩ := int_both k hk s p b n h0 h1 hs
      rw [if_pos c1, if_pos c1, e1, e2]
      exact ⟨_, _, _, _, rfl, rfl, hq0, hq1⟩
    · rw [if_neg c1, if_neg c1]
      by_cases c2 : Go.bits .and .i64 dd 3 = 2
      · obtain ⟨v, q, c, e1, e2, hq0, hq1⟩ := text_both k hk s p b h0 h1 hs
        rw [if_pos c2, if_pos c2, e1, e2]
        exact ⟨_, _, _, _, rfl, rfl, hq0, hq1⟩
      · obtain ⟨v, q, c, e1, e2, hq0, hq1⟩ := take_both s p b n h0 h1 hs
        rw [if_neg c2, if_neg c2, e1, e2]
        exact ⟨_, _, _, _, rfl, rfl, hq0, hq1⟩
theorem plays_end (k : Nat) (l : List S45) (i : Int) (s : ByteArray) (p : Int) (b : Bool) (h0 : 0 ≤ p) (h1 : p ≤ s.size) (hs : Small s) :
    fleuronlaw01_OctetPlays.j2 (k + 1) l i false s p b s p b = some true := by
  simp only [fleuronlaw01_OctetPlays.j2]
  rw [if_neg (by decide), show octet_Reader_At.f s p b = some (p, s, p, b) from rfl]
  simp only [obind]
  rw [if_pos trivial, show octet_Reader_Left.f s p b = some (wrap64 ((s.size : Int) - p), s, p, b) from rfl, show fleuronref01_Reader_Left.f s p b = some (wrap64 ((s.size : Int) - p), s, p, b) from rfl]
  simp only [obind]
  rw [if_pos trivial, show octet_Reader_Failed.f s p b = some (b, s, p, b) from rfl]
  simp only [obind, beq_self_eq_true]
theorem plays_l0 (l : List S45) (s : ByteArray) (hs : Small s) (d : Nat) : ∀ (k : Nat) (i : Nat) (p : Int) (b : Bool), 0 ≤ p → p ≤ s.size → i ≤ 30 → 30 - i = d → 2 * d + 30 ≤ k →
    fleuronlaw01_OctetPlays.l0 k l i s p b s p b = some true := by
  induction d with
  | zero =>
    intro k i p b h0 h1 hi hd hk
    obtain ⟨k, rfl⟩ : ∃ m, k = m + 2 := ⟨k - 2, by omega⟩
    rw [show k + 2 = (k + 1) + 1 from rfl]
    simp only [fleuronlaw01_OctetPlays.l0]
    have : decide ((i : Int) < 30) = false := decide_eq_false (by omega)
    rw [this, plays_end k l i s p b h0 h1 hs]
    split <;> rfl
  | succ d ih =>
    intro k i p b h0 h1 hi hd hk
    obtain ⟨k, rfl⟩ : ∃ m, k = m + 2 := ⟨k - 2, by omega⟩
    rw [show k + 2 = (k + 1) + 1 from rfl]
    simp only [fleuronlaw01_OctetPlays.l0]
    by_cases hlt : (i : Int) < (l.length : Int)
    · rw [if_pos hlt, decide_eq_true (by omega : (i : Int) < 30)]
      simp only [fleuronlaw01_OctetPlays.j2]
      rw [if_pos trivial, if_pos (by omega), if_pos hlt]
      obtain ⟨v, t, q, c, e1, e2, hq0, hq1⟩ := one_both k (by omega) s p b (rd_T45 l i).f0 (rd_T45 l i).f1 h0 h1 hs
      rw [e1, e2]
      simp only [obind]
      rw [if_pos trivial, if_pos trivial, show octet_Reader_At.f s q c = some (q, s, q, c) from rfl]
      simp only [obind]
      rw [if_pos trivial, show octet_Reader_Left.f s q c = some (wrap64 ((s.size : Int) - q), s, q, c) from rfl, show fleuronref01_Reader_Left.f s q c = some (wrap64 ((s.size : Int) - q), s, q, c) from rfl]
      simp only [obind]
      rw [if_pos trivial, show octet_Reader_Failed.f s q c = some (c, s, q, c) from rfl]
      simp only [obind]
      have hi1 : wrap64 ((i : Int) + 1) = ((i + 1 : Nat) : Int) := by unfold wrap64; omega
      rw [if_neg (by simp), hi1]
      exact ih k (i + 1) q c hq0 hq1 (by omega) (by omega) (by omega)
    · rw [if_neg hlt, plays_end k l i s p b h0 h1 hs]
theorem OctetPlays (s : ByteArray) (l : List S45) : ∃ k, fleuronlaw01_OctetPlays.f k s l = some true := by
  obtain ⟨k, hk⟩ : ∃ k : Nat, 1000 ≤ k := ⟨1000, Nat.le_refl _⟩
  obtain ⟨k, rfl⟩ : ∃ m, k = m + 1 := ⟨k - 1, by omega⟩
  refine ⟨k + 1, ?_⟩
  unfold fleuronlaw01_OctetPlays.f
  have sf := few_size s
  have hS : Small (fewS s) := by unfold Small; omega
  rw [shown_f (k + 1) (by omega), few_f s]
  simp only [obind]
  rw [show octet_Read.f (fewS s) = some (fewS s, 0, false) from rfl]
  simp only [obind]
  rw [if_pos trivial]
  simp only [fleuronlaw01_OctetPlays.j0]
  rw [if_neg (by decide)]
  exact plays_l0 l (fewS s) hS 30 k 0 0 false (by omega) (by omega) (by omega) (by omega) (by omega)
end Go.Proofs.Ytfnbaepioignaaa.Pure
