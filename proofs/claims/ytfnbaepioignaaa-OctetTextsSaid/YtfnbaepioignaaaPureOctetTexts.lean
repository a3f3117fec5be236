/- Texts (10 of them, of 200 bytes), put one behind the other, are read one by one; and with a byte less the last one fails, and nothing is taken. No condition. -/
import Derived.Test.YtfnbaepioignaaaPOcttx8
import Derived.Test.YtfnbaepioignaaaOctD
namespace Go.Proofs.Ytfnbaepioignaaa.Pure
open Go.RowKit Go.Proofs.Ytfnbaepioignaaa.POctt Go.Proofs.YtfnbaepioignaaaW.PrintWords Go.Proofs.YtfnbaepioignaaaW.PrintLast Go.Proofs.YtfnbaepioignaaaW.PrintMore
open Go.Proofs.Ytfnbaepioignaaa.OctC
set_option linter.unusedVariables false

theorem wi1 (i : Nat) (h : i ≤ 1000) : wrap64 ((i : Int) + 1) = ((i + 1 : Nat) : Int) := by unfold wrap64; omega
theorem wm1 (n : Nat) (h1 : 1 ≤ n) (h : n ≤ 1000000) : wrap64 ((n : Int) - 1) = ((n - 1 : Nat) : Int) := by unfold wrap64; omega
theorem wm2 (s t o : Nat) (h : s = o + 2 + t) (hs : s ≤ 1000000) : wrap64 (wrap64 ((s : Int) - t) - 2) = o := by unfold wrap64; omega
def encL (t : ByteArray) : List Int := be t.size 2 ++ bytesOf t
theorem encL_length (t : ByteArray) : (encL t).length = 2 + t.size := by unfold encL; rw [List.length_append, be_length, bytesOf_length]
theorem text_enc (t : ByteArray) (h : t.size ≤ 200) (k : Nat) (hk : 12 ≤ k) : ∃ u, octet_Text.f k t = some u ∧ bytesOf u = encL t ∧ u.size = 2 + t.size := by
  have hp : put t.size 2 = strOfNums (be t.size 2) := rfl
  have hs : (put t.size 2).size = 2 := by rw [hp, strOfNums_size, be_length]
  have hb : bytesOf (put t.size 2 ++ t) = encL t := by rw [bytesOf_append, hp, bytesOf_strOfNums _ (byt_be _ _)]; rfl
  refine ⟨put t.size 2 ++ t, ?_, hb, by rw [← bytesOf_length, hb, encL_length]⟩
  unfold octet_Text.f
  rw [if_neg (by omega), put_f _ 2 k hk]
  simp only [obind]
  rw [if_pos (by omega)]
theorem val_two (n : Nat) (h : n ≤ 65535) : val (be (n : Int) 2) = n := by
  rw [val_be]; simp; omega
theorem read_enc (s : ByteArray) (p : Nat) (t : ByteArray) (rest : List Int) (hs : Small s) (ht : t.size ≤ 200) (hd : (bytesOf s).drop p = encL t ++ rest) :
    octet_Reader_Text.f s p false = some (t, s, ((p + 2 + t.size : Nat) : Int), false) := by
  have hlen : s.size - p = 2 + t.size + rest.length := by
    have := congrArg List.length hd
    rw [List.length_drop, bytesOf_length, List.length_append, encL_length] at this
    omega
  have hsub : sub s p 2 = be t.size 2 := by
    unfold sub
    rw [Int.toNat_natCast, hd]
    unfold encL
    rw [List.append_assoc, List.take_append_of_le_length (by rw [be_length]; exact Nat.le_refl _), List.take_of_length_le (by rw [be_length]; exact Nat.le_refl _)]
  have e := text_ok s p (by omega) (by omega) hs (by omega) (by rw [hsub, val_two _ (by omega)]; omega)
  rw [e, hsub, val_two _ (by omega)]
  have hx : s.extract ((p : Int) + 2).toNat ((p : Int) + 2 + (t.size : Int)).toNat = t := by
    apply bytesOf_inj
    rw [bytesOf_extract, (by omega : ((p : Int) + 2).toNat = p + 2), (by omega : ((p : Int) + 2 + (t.size : Int)).toNat - (p + 2) = t.size), ← List.drop_drop, hd]
    unfold encL
    rw [List.append_assoc, List.drop_append_of_le_length (by rw [be_length]; exact Nat.le_refl _), List.drop_of_length_le (by rw [be_length]; exact Nat.le_refl _), List.nil_append,
      List.take_append_of_le_length (by rw [bytesOf_length]; exact Nat.le_refl _), List.take_of_length_le (by rw [bytesOf_length]; exact Nat.le_refl _)]
  rw [hx]
  congr 3
def T (l : List ByteArray) : List ByteArray := l.map fewS
def off (l : List ByteArray) (i : Nat) : Nat := (((T l).take i).flatMap encL).length
theorem T_size (l : List ByteArray) (i : Nat) (h : i < (T l).length) : ((T l)[i]).size ≤ 200 := by
  have e : (T l)[i] = fewS (l[i]'(by simpa [T] using h)) := by simp [T]
  rw [e]; exact few_size _
theorem T_len (l : List ByteArray) : (T l).length = l.length := by unfold T; rw [List.length_map]
theorem T_rd (l : List ByteArray) (i : Nat) (h : i < (T l).length) : fewS (rdOf ByteArray.empty l (i : Int)) = (T l)[i] := by
  have e : (T l)[i] = fewS (l[i]'(by simpa [T] using h)) := by simp [T]
  rw [e]
  unfold rdOf
  rw [Int.toNat_natCast]
  congr 1
  rw [T_len] at h
  simp [List.getD_eq_getElem?_getD, List.getElem?_eq_getElem h]
theorem off_succ (l : List ByteArray) (i : Nat) (h : i < (T l).length) : ((T l).take (i + 1)).flatMap encL = ((T l).take i).flatMap encL ++ encL ((T l)[i]) := by
  rw [List.take_succ_eq_append_getElem h, List.flatMap_append]
  simp
theorem off_succ' (l : List ByteArray) (i : Nat) (h : i < (T l).length) : off l (i + 1) = off l i + 2 + ((T l)[i]).size := by
  unfold off; rw [off_succ l i h, List.length_append, encL_length]; omega
theorem off_le (l : List ByteArray) (i : Nat) : off l i ≤ 202 * i := by
  induction i with
  | zero => unfold off; simp
  | succ i ih =>
    by_cases h : i < (T l).length
    · have := off_succ' l i h; have := T_size l i h; omega
    · have : off l (i + 1) = off l i := by unfold off; rw [List.take_of_length_le (by omega), List.take_of_length_le (by omega)]
      omega
theorem drop_off (l : List ByteArray) (n i : Nat) (hi : i < n) (hn : n ≤ (T l).length) :
    ∃ rest, (((T l).take n).flatMap encL).drop (off l i) = encL ((T l)[i]'(by omega)) ++ rest := by
  refine ⟨(((T l).take n).drop (i + 1)).flatMap encL, ?_⟩
  have e : (T l).take n = (T l).take i ++ ((T l)[i]'(by omega) :: ((T l).take n).drop (i + 1)) := by
    have h1 : ((T l).take n).take i = (T l).take i := by rw [List.take_take]; congr 1; omega
    have h2 : ((T l).take n).drop i = (T l)[i]'(by omega) :: ((T l).take n).drop (i + 1) := by
      rw [List.drop_eq_getElem_cons (by rw [List.length_take]; omega)]
      congr 1
      rw [List.getElem_take]
    rw [← h1, ← h2, List.take_append_drop]
  conv => lhs; rw [e]
  rw [List.flatMap_append, List.flatMap_cons]
  unfold off
  rw [List.drop_append_of_le_length (Nat.le_refl _), List.drop_of_length_le (Nat.le_refl _), List.nil_append]

theorem off_zero (l : List ByteArray) : off l 0 = 0 := by unfold off; simp
theorem off_mono (l : List ByteArray) (i j : Nat) (h : i ≤ j) : off l i ≤ off l j := by
  have h2 : (T l).take j = (T l).take i ++ ((T l).take j).drop i := by
    have h3 : ((T l).take j).take i = (T l).take i := by rw [List.take_take]; congr 1; omega
    rw [← h3, List.take_append_drop]
  unfold off
  rw [h2, List.flatMap_append, List.length_append]
  omega
theorem off_eq (l : List ByteArray) (i : Nat) : (((T l).take i).flatMap encL).length = off l i := rfl
attribute [local irreducible] off T
theorem texts_l2 (l : List ByteArray) (n : Nat) (hn1 : 1 ≤ n) (hn : n ≤ 10) (hnl : n ≤ (T l).length) (s c : ByteArray) (hs : bytesOf s = ((T l).take n).flatMap encL) (hc : bytesOf c = (bytesOf s).take (s.size - 1)) (d : Nat) :
    ∀ (k i : Nat), i ≤ n - 1 → n - 1 - i = d → d + 20 ≤ k → fleuronlaw01_OctetTexts.l2 k l s n i c (off l i) false = some true := by
  have hsz : s.size = off l n := by rw [← bytesOf_length, hs, off_eq]
  have hoff := off_le l n
  have hlast := off_succ' l (n - 1) (by omega)
  rw [(by omega : n - 1 + 1 = n)] at hlast
  have htl := T_size l (n - 1) (by omega)
  have hcs : c.size = s.size - 1 := by rw [← bytesOf_length, hc, List.length_take, bytesOf_length]; omega
  have hS : Small c := by unfold Small; omega
  have hwn := wm1 n hn1 (by omega)
  induction d with
  | zero =>
    intro k i h1 hd hk
    obtain ⟨k, rfl⟩ : ∃ m, k = m + 1 := ⟨k - 1, by omega⟩
    have hi : i = n - 1 := by omega
    subst hi
    simp only [fleuronlaw01_OctetTexts.l2]
    rw [hwn, if_neg (by omega), show octet_Reader_At.f c (off l (n - 1) : Int) false = some ((off l (n - 1) : Int), c, (off l (n - 1) : Int), false) from rfl]
    simp only [obind]
    obtain ⟨rest, hrest⟩ := drop_off l n (n - 1) (by omega) hnl
    have hrl : rest.length = 0 := by
      have := congrArg List.length hrest
      rw [List.length_drop, List.length_append, encL_length] at this
      have h2 := off_eq l n
      omega
    have hrn : rest = [] := List.length_eq_zero_iff.1 hrl
    subst hrn
    rw [List.append_nil, ← hs] at hrest
    have hdc : (bytesOf c).drop (off l (n - 1)) = (encL (T l)[n - 1]).take (1 + ((T l)[n - 1]).size) := by
      rw [hc, List.drop_take, hrest]
      congr 1
      omega
    have hbad : octet_Reader_Text.f c (off l (n - 1) : Int) false = some (⟨#[]⟩, c, (off l (n - 1) : Int), true) := by
      apply text_bad c _ false (by omega) (by omega) hS
      by_cases h0 : ((T l)[n - 1]).size = 0
      · right; left; omega
      · right; right
        have hsub : sub c (off l (n - 1) : Int) 2 = be ((T l)[n - 1]).size 2 := by
          unfold sub
          rw [Int.toNat_natCast, hdc]
          unfold encL
          rw [List.take_take, show (2 : Int).toNat = 2 from rfl, Nat.min_eq_left (by omega), List.take_append_of_le_length (by rw [be_length]; exact Nat.le_refl _), List.take_of_length_le (by rw [be_length]; exact Nat.le_refl _)]
        rw [hsub, val_two _ (by omega)]
        omega
    rw [hbad]
    simp only [obind]
    have hem : (⟨#[]⟩ : ByteArray).toList = ([] : List UInt8) := by rw [Lib.toList_data]
    rw [if_pos hem, show octet_Reader_Failed.f c (off l (n - 1) : Int) true = some (true, c, (off l (n - 1) : Int), true) from rfl]
    simp only [obind]
    rw [if_pos trivial, show octet_Reader_At.f c (off l (n - 1) : Int) true = some ((off l (n - 1) : Int), c, (off l (n - 1) : Int), true) from rfl]
    simp only [obind]
    rw [if_pos trivial, if_pos (by omega), if_pos (by rw [← T_len l]; omega), few_f]
    simp only [obind]
    rw [T_rd l (n - 1) (by omega)]
    have hw := wm2 s.size ((T l)[n - 1]).size (off l (n - 1)) (by omega) (by omega)
    rw [hw, beq_self_eq_true]
  | succ d ih =>
    intro k i h1 hd hk
    obtain ⟨k, rfl⟩ : ∃ m, k = m + 1 := ⟨k - 1, by omega⟩
    have a1 : i + 1 ≤ n - 1 := by omega
    have a2 : n - 1 - (i + 1) = d := by omega
    have a3 : d + 20 ≤ k := by omega
    have a4 : i < n := by omega
    have a5 : i < (T l).length := by omega
    have a6 : (i : Int) < ((n - 1 : Nat) : Int) := by omega
    have a7 : i ≤ 1000 := by omega
    simp only [fleuronlaw01_OctetTexts.l2]
    rw [hwn, if_pos a6]
    obtain ⟨rest, hrest⟩ := drop_off l n i a4 hnl
    rw [← hs] at hrest
    have hti := T_size l i a5
    have hoi := off_succ' l i a5
    have hmono := off_mono l (i + 1) (n - 1) a1
    have hdc : ∃ rest', (bytesOf c).drop (off l i) = encL ((T l)[i]'(by omega)) ++ rest' := by
      refine ⟨rest.take (s.size - 1 - off l i - (2 + ((T l)[i]'(by omega)).size)), ?_⟩
      rw [hc, List.drop_take, hrest, List.take_append, encL_length, List.take_of_length_le (by rw [encL_length]; omega)]
    obtain ⟨rest', hr'⟩ := hdc
    rw [read_enc c (off l i) _ rest' hS hti hr']
    simp only [obind]
    have hi := wi1 i a7
    have e := ih k (i + 1) a1 a2 a3
    rw [hoi] at e
    rw [hi]
    exact e

theorem texts_l1 (l : List ByteArray) (n : Nat) (hn : n ≤ 10) (hnl : n ≤ (T l).length) (s : ByteArray) (hs : bytesOf s = ((T l).take n).flatMap encL) (d : Nat) :
    ∀ (k i : Nat), i ≤ n → n - i = d → d + 50 ≤ k → fleuronlaw01_OctetTexts.l1 k l s n i s (off l i) false = some true := by
  have hsz : s.size = off l n := by rw [← bytesOf_length, hs, off_eq]
  have hoff := off_le l n
  have hS : Small s := by unfold Small; omega
  induction d with
  | zero =>
    intro k i h1 hd hk
    obtain ⟨k, rfl⟩ : ∃ m, k = m + 2 := ⟨k - 2, by omega⟩
    have hi : i = n := by omega
    subst hi
    rw [show k + 2 = (k + 1) + 1 from rfl]
    simp only [fleuronlaw01_OctetTexts.l1]
    rw [if_neg (by omega), left_ff s (off l i) false (by omega) (by omega) hS]
    simp only [obind]
    rw [if_pos (by omega), show octet_Reader_At.f s (off l i : Int) false = some ((off l i : Int), s, (off l i : Int), false) from rfl]
    simp only [obind]
    rw [if_pos (by omega)]
    simp only [fleuronlaw01_OctetTexts.j3]
    by_cases h0 : i = 0
    · subst h0
      rw [if_pos (by decide), left_ff s (off l 0) false (by omega) (by omega) hS]
      simp only [obind]
      rw [if_pos (by omega), show octet_Reader_At.f s (off l 0 : Int) false = some ((off l 0 : Int), s, (off l 0 : Int), false) from rfl]
      simp only [obind]
      rw [hsz, beq_self_eq_true]
    · have hb : (((i : Int) == 0) = true) ↔ False := by simp; omega
      rw [if_neg (by rw [hb]; exact fun h => h)]
      have hlast := off_succ' l (i - 1) (by omega)
      rw [(by omega : i - 1 + 1 = i)] at hlast
      have hw := wm1 s.size (by omega) (by omega)
      rw [hw, if_pos (by omega), if_pos (by omega), Int.toNat_natCast, show octet_Read.f (s.extract 0 (s.size - 1)) = some (s.extract 0 (s.size - 1), 0, false) from rfl]
      simp only [obind]
      have hz := off_zero l
      have e := texts_l2 l i (by omega) hn hnl s (s.extract 0 (s.size - 1)) hs (by rw [bytesOf_extract, List.drop_zero, Nat.sub_zero]) (i - 1) k 0 (by omega) (by omega) (by omega)
      rw [hz] at e
      exact e
  | succ d ih =>
    intro k i h1 hd hk
    obtain ⟨k, rfl⟩ : ∃ m, k = m + 1 := ⟨k - 1, by omega⟩
    have a1 : i + 1 ≤ n := by omega
    have a2 : n - (i + 1) = d := by omega
    have a3 : d + 50 ≤ k := by omega
    have a5 : i < (T l).length := by omega
    have a6 : (i : Int) < (n : Int) := by omega
    have a7 : i ≤ 1000 := by omega
    have a8 : (i : Int) < (l.length : Int) := by rw [← T_len l]; omega
    have a9 : (0 : Int) ≤ (i : Int) := by omega
    simp only [fleuronlaw01_OctetTexts.l1]
    obtain ⟨rest, hrest⟩ := drop_off l n i a1 hnl
    rw [← hs] at hrest
    have hti := T_size l i a5
    have hoi := off_succ' l i a5
    rw [if_pos a6, read_enc s (off l i) _ rest hS hti hrest]
    simp only [obind]
    rw [if_pos a9, if_pos a8, few_f]
    simp only [obind]
    rw [T_rd l i a5, if_pos rfl, failed_ff]
    simp only [obind]
    have hi := wi1 i a7
    rw [if_neg (by decide), hi, ← hoi]
    exact ih k (i + 1) a1 a2 a3

theorem texts_l0 (l : List ByteArray) (n : Nat) (hn : n ≤ 10) (hnl : n ≤ (T l).length) (d : Nat) :
    ∀ (k i : Nat) (s : ByteArray), i ≤ n → n - i = d → d + 70 ≤ k → bytesOf s = ((T l).take i).flatMap encL → fleuronlaw01_OctetTexts.l0 k l true s n i = some true := by
  induction d with
  | zero =>
    intro k i s h1 hd hk hs
    obtain ⟨k, rfl⟩ : ∃ m, k = m + 2 := ⟨k - 2, by omega⟩
    have hi : i = n := by omega
    subst hi
    rw [show k + 2 = (k + 1) + 1 from rfl]
    simp only [fleuronlaw01_OctetTexts.l0]
    rw [if_neg (by omega), show octet_Read.f s = some (s, 0, false) from rfl]
    simp only [obind]
    rw [if_pos trivial]
    simp only [fleuronlaw01_OctetTexts.j1]
    rw [if_neg (by decide)]
    have hz := off_zero l
    have e := texts_l1 l i hn hnl s hs i k 0 (by omega) (by omega) (by omega)
    rw [hz] at e
    exact e
  | succ d ih =>
    intro k i s h1 hd hk hs
    obtain ⟨k, rfl⟩ : ∃ m, k = m + 1 := ⟨k - 1, by omega⟩
    have a1 : i + 1 ≤ n := by omega
    have a2 : n - (i + 1) = d := by omega
    have a3 : d + 70 ≤ k := by omega
    have a4 : 12 ≤ k := by omega
    have a5 : i < (T l).length := by omega
    have a6 : (i : Int) < (n : Int) := by omega
    have a7 : i ≤ 1000 := by omega
    have a8 : (i : Int) < (l.length : Int) := by rw [← T_len l]; omega
    have a9 : (0 : Int) ≤ (i : Int) := by omega
    have hss : s.size = off l i := by rw [← bytesOf_length, hs, off_eq]
    have hoff := off_le l i
    have b1 : s.size ≤ 10000 := by omega
    simp only [fleuronlaw01_OctetTexts.l0]
    have hti := T_size l i a5
    rw [if_pos a6, if_pos a9, if_pos a8, few_f]
    simp only [obind]
    rw [T_rd l i a5]
    obtain ⟨u, hu, hub, hus⟩ := text_enc ((T l)[i]'a5) hti k a4
    rw [hu]
    simp only [obind]
    have hi := wi1 i a7
    have b2 : s.size + u.size ≤ 9223372036854775807 := by rw [hus]; exact Nat.le_trans (Nat.add_le_add b1 (Nat.add_le_add (Nat.le_refl 2) hti)) (by omega)
    rw [if_pos b2, hi]
    exact ih k (i + 1) (s ++ u) a1 a2 a3 (by rw [bytesOf_append, hs, hub, off_succ l i a5])

theorem OctetTexts (l : List ByteArray) : ∃ k, fleuronlaw01_OctetTexts.f k l = some true := by
  obtain ⟨k, hk⟩ : ∃ k : Nat, 1000 ≤ k := ⟨1000, Nat.le_refl _⟩
  refine ⟨k, ?_⟩
  unfold fleuronlaw01_OctetTexts.f
  rw [shown_f k (by omega)]
  simp only [obind]
  have hm : mn (l.length : Int) 10 = ((min l.length 10 : Nat) : Int) := by unfold mn; omega
  rw [hm]
  exact texts_l0 l (min l.length 10) (by omega) (by rw [T_len]; omega) (min l.length 10) k 0 ⟨#[]⟩ (by omega) (by omega) (by omega) (by simp [bytesOf])
end Go.Proofs.Ytfnbaepioignaaa.Pure
