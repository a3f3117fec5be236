/- Plain laws on bytes and numbers for the statements of layer 1 (octet): what Put, Num, Take and Sum come to. No condition. -/
import Derived.Test.YtfnbaepioignaaaPOctnx1
import Derived.Test.YtfnbaepioignaaaPOctnx2
import Derived.Lib.Strings
namespace Go.Proofs.Ytfnbaepioignaaa.OctN
open Go.RowKit Go.Proofs.Ytfnbaepioignaaa.POctn Go.Proofs.YtfnbaepioignaaaW.PrintWords Go.Proofs.YtfnbaepioignaaaW.PrintLast Go.Proofs.YtfnbaepioignaaaW.PrintMore
set_option linter.unusedVariables false
set_option linter.unusedSimpArgs false

/-- 'Option.bind_some', told so that the kernel is not asked to compare the two sides by unfolding. -/
theorem obind {α β : Type} (a : α) (f : α → Option β) : Option.bind (some a) f = f a := Eq.trans (Option.bind_some a f) rfl
theorem snoc_ind {α : Type} {motive : List α → Prop} (nil : motive []) (append_singleton : ∀ l c, motive l → motive (l ++ [c])) (l : List α) : motive l := by
  have h : ∀ r : List α, motive r.reverse := by
    intro r
    induction r with
    | nil => exact nil
    | cons a r ih => rw [List.reverse_cons]; exact append_singleton _ _ ih
  have := h l.reverse
  rwa [List.reverse_reverse] at this
/-! bytes -/
def Byt (l : List Int) : Prop := ∀ x ∈ l, 0 ≤ x ∧ x < 256
theorem byt_bytesOf (s : ByteArray) : Byt (bytesOf s) := by
  intro x hx
  unfold bytesOf at hx
  obtain ⟨b, _, rfl⟩ := List.mem_map.mp hx
  have := b.toNat_lt
  omega
theorem bytesOf_strOfNums (l : List Int) (h : Byt l) : bytesOf (strOfNums l) = l := by
  unfold bytesOf strOfNums
  simp only [List.map_map]
  conv => rhs; rw [← List.map_id l]
  apply List.map_congr_left
  intro x hx
  have := h x hx
  simp only [Function.comp, id]
  rw [UInt8.toNat_ofNat_of_lt' (by show x.toNat < 256; omega)]
  omega
theorem ba_ext {s t : ByteArray} (h : s.data = t.data) : s = t := by cases s; cases t; simp at h; rw [h]
theorem strOfNums_bytesOf (s : ByteArray) : strOfNums (bytesOf s) = s := by
  apply ba_ext
  unfold strOfNums bytesOf
  apply Array.toList_inj.mp
  simp only [List.map_map, List.toList_toArray]
  conv => rhs; rw [← List.map_id s.data.toList]
  apply List.map_congr_left
  intro b _
  simp
theorem bytesOf_inj {s t : ByteArray} (h : bytesOf s = bytesOf t) : s = t := by
  rw [← strOfNums_bytesOf s, ← strOfNums_bytesOf t, h]
theorem bytesOf_append (s t : ByteArray) : bytesOf (s ++ t) = bytesOf s ++ bytesOf t := by
  unfold bytesOf
  rw [← List.map_append]
  simp [ByteArray.data_append]
theorem bytesOf_extract (s : ByteArray) (a b : Nat) : bytesOf (s.extract a b) = ((bytesOf s).drop a).take (b - a) := by
  unfold bytesOf
  rw [← List.map_drop, ← List.map_take, Lib.extract_data]
theorem toList_inj {s t : ByteArray} : s.toList = t.toList ↔ s = t := by
  constructor
  · intro h
    rw [Lib.toList_data, Lib.toList_data] at h
    exact ba_ext (Array.toList_inj.mp h)
  · rintro rfl; rfl

/-! Put -/
def be (n : Int) : Nat → List Int
  | 0 => []
  | m + 1 => be (n / 256) m ++ [n % 256]
theorem be_length (n : Int) (m : Nat) : (be n m).length = m := by
  induction m generalizing n with
  | zero => rfl
  | succ m ih => simp [be, ih]
theorem byt_be (n : Int) (m : Nat) : Byt (be n m) := by
  induction m generalizing n with
  | zero => intro x hx; cases hx
  | succ m ih =>
    intro x hx
    rcases List.mem_append.mp hx with h | h
    · exact ih _ x h
    · simp at h; omega
def put (n : Int) (size : Int) : ByteArray := if size < 0 ∨ 8 < size then ⟨#[]⟩ else strOfNums (be n size.toNat)
theorem put_of {n : Int} {m : Nat} {l : List Int} (h : l = be n m) : some (strOfNums l) = some (strOfNums (be n m)) := by rw [h]
theorem put_lit (n : Int) (k m : Nat) (h : m ≤ 8) : octet_Put.f (k + 12) n m = some (strOfNums (be n m)) := by
  have hb : IntKind.i64.bits = 64 := rfl
  rcases m with _ | _ | _ | _ | _ | _ | _ | _ | _ | m
  all_goals first
    | (exfalso; omega)
    | (simp [octet_Put.f, octet_Put.j0, octet_Put.l0, wrap64, shr, hb, be]; done)
    | (simp [octet_Put.f, octet_Put.j0, octet_Put.l0, wrap64, shr, hb, be]; apply congrArg; simp only [List.cons.injEq, and_true]; omega)
theorem put_f (n size : Int) (k : Nat) (hk : 12 ≤ k) : octet_Put.f k n size = some (put n size) := by
  obtain ⟨k, rfl⟩ : ∃ m, k = m + 12 := ⟨k - 12, by omega⟩
  unfold put
  by_cases h : size < 0 ∨ 8 < size
  · rw [if_pos h]
    unfold octet_Put.f
    rcases h with h | h
    · rw [if_pos h]; simp [octet_Put.j0]
    · rw [if_neg (by omega), decide_eq_true (by omega : size > 8)]; simp [octet_Put.j0]
  · rw [if_neg h]
    obtain ⟨m, rfl⟩ := Int.eq_ofNat_of_zero_le (by omega : 0 ≤ size)
    rw [put_lit n k m (by omega)]
    rfl

/-! a number of bytes -/
def val (l : List Int) : Int := l.foldl (fun a c => a * 256 + c) 0
theorem val_snoc (l : List Int) (c : Int) : val (l ++ [c]) = val l * 256 + c := by unfold val; rw [List.foldl_append]; rfl
theorem or_byte (x c : Int) (h0 : 0 ≤ c) (h1 : c < 256) : bits .or .i64 (wrap64 (x * 256)) c = wrap64 (x * 256 + c) := by
  show IntKind.i64.wrap ((BitVec.ofInt 64 (wrap64 (x * 256)) ||| BitVec.ofInt 64 c).toNat : Int) = _
  rw [BitVec.toNat_or, BitVec.toNat_ofInt, BitVec.toNat_ofInt]
  obtain ⟨q, hq⟩ : ∃ q : Nat, (wrap64 (x * 256) % ((2 ^ 64 : Nat) : Int)).toNat = 2 ^ 8 * q := by
    refine ⟨(wrap64 (x * 256) % ((2 ^ 64 : Nat) : Int)).toNat / 2 ^ 8, ?_⟩
    unfold wrap64
    omega
  have hc : (c % ((2 ^ 64 : Nat) : Int)).toNat = c.toNat := by omega
  rw [hc, hq, ← Nat.two_pow_add_eq_or_of_lt (by omega)]
  have hq' : ((2 ^ 8 * q : Nat) : Int) = wrap64 (x * 256) % ((2 ^ 64 : Nat) : Int) := by rw [← hq]; unfold wrap64; omega
  have hk : ((2 ^ 8 * q + c.toNat : Nat) : Int) = ((2 ^ 8 * q : Nat) : Int) + c := by omega
  rw [hk, hq', IntKind.wrap_i64]
  unfold wrap64
  omega
theorem beNum_val (l : List Int) (hl : Byt l) : beNum l = wrap64 (val l) := by
  induction l using snoc_ind with
  | nil => simp [beNum, val, wrap64]
  | append_singleton l c ih =>
    have hc := hl c (by simp)
    rw [beNum_snoc, val_snoc, ih (fun x hx => hl x (by simp [hx]))]
    unfold beStep
    have h2 : wrap64 (wrap64 (val l) * 256) = wrap64 (val l * 256) := by unfold wrap64; omega
    rw [h2, or_byte _ _ hc.1 hc.2]
theorem val_nonneg (l : List Int) (hl : Byt l) : 0 ≤ val l := by
  induction l using snoc_ind with
  | nil => decide
  | append_singleton l c ih =>
    have hc := hl c (by simp)
    rw [val_snoc]
    have := ih (fun x hx => hl x (by simp [hx]))
    omega
theorem val_be (n : Int) (m : Nat) : val (be n m) = n % 256 ^ m := by
  induction m generalizing n with
  | zero => simp [be, val]
  | succ m ih =>
    simp only [be]
    rw [val_snoc, ih]
    have hp : (0 : Int) < 256 ^ m := Int.pow_pos (by decide)
    have h1 := Int.mul_ediv_add_emod (n / 256) (256 ^ m)
    have h2 := Int.mul_ediv_add_emod n 256
    have h3 := Int.emod_nonneg (n / 256) (Int.ne_of_gt hp)
    have h4 := Int.emod_lt_of_pos (n / 256) hp
    rw [Int.pow_succ]
    symm
    have e : n = (256 ^ m * 256) * (n / 256 / 256 ^ m) + ((n / 256) % 256 ^ m * 256 + n % 256) := by
      have : (256 ^ m * 256 : Int) * (n / 256 / 256 ^ m) = (256 ^ m * (n / 256 / 256 ^ m)) * 256 := by
        rw [Int.mul_assoc, Int.mul_assoc, Int.mul_comm 256]
      rw [this]; omega
    conv => lhs; rw [e]
    rw [Int.mul_add_emod_self_left]
    apply Int.emod_eq_of_lt
    · have := Int.emod_nonneg n (by decide : (256 : Int) ≠ 0); omega
    · have := Int.emod_lt_of_pos n (by decide : (0 : Int) < 256); omega
theorem val_append (l m : List Int) : val (l ++ m) = val l * 256 ^ m.length + val m := by
  induction m using snoc_ind with
  | nil => simp [val]
  | append_singleton m c ih =>
    rw [← List.append_assoc, val_snoc, ih, val_snoc, List.length_append, List.length_singleton, Int.pow_succ, Int.add_mul, Int.mul_assoc, Int.add_assoc]
theorem val_lt (l : List Int) (hl : Byt l) : val l < 256 ^ l.length := by
  induction l using snoc_ind with
  | nil => decide
  | append_singleton l c ih =>
    have hc := hl c (by simp)
    have := ih (fun x hx => hl x (by simp [hx]))
    rw [val_snoc, List.length_append, List.length_singleton, Int.pow_succ]
    omega
theorem be_val (l : List Int) (hl : Byt l) : be (val l) l.length = l := by
  induction l using snoc_ind with
  | nil => rfl
  | append_singleton l c ih =>
    have hc := hl c (by simp)
    rw [val_snoc, List.length_append, List.length_singleton]
    show be ((val l * 256 + c) / 256) l.length ++ [(val l * 256 + c) % 256] = _
    rw [(by omega : (val l * 256 + c) / 256 = val l), ih (fun x hx => hl x (by simp [hx])), (by omega : (val l * 256 + c) % 256 = c)]
/-! the reader: of a place p in bytes s -/
def Small (s : ByteArray) : Prop := s.size ≤ 4611686018427387904
def sub (s : ByteArray) (p n : Int) : List Int := ((bytesOf s).drop p.toNat).take n.toNat
theorem byt_sub (s : ByteArray) (p n : Int) : Byt (sub s p n) := fun x hx => byt_bytesOf s x (List.mem_of_mem_drop (List.mem_of_mem_take hx))
theorem sub_length (s : ByteArray) (p n : Int) (h0 : 0 ≤ p) (hn : 0 ≤ n) (h : n ≤ s.size - p) : (sub s p n).length = n.toNat := by
  unfold sub
  rw [List.length_take, List.length_drop, bytesOf_length]
  omega
theorem bytesOf_sub (s : ByteArray) (p n : Int) (h0 : 0 ≤ p) (hn : 0 ≤ n) : bytesOf (s.extract p.toNat (p + n).toNat) = sub s p n := by
  rw [bytesOf_extract]
  unfold sub
  congr 1
  omega
theorem sub_str (s : ByteArray) (p n : Int) (h0 : 0 ≤ p) (hn : 0 ≤ n) : s.extract p.toNat (p + n).toNat = strOfNums (sub s p n) := by
  rw [← bytesOf_sub s p n h0 hn, strOfNums_bytesOf]
theorem fail_ff (s : ByteArray) (p : Int) (b : Bool) : octet_Reader_fail.f s p b = some (s, p, true) := rfl
theorem failed_ff (s : ByteArray) (p : Int) (b : Bool) : octet_Reader_Failed.f s p b = some (b, s, p, b) := rfl
theorem left_ff (s : ByteArray) (p : Int) (b : Bool) (h0 : 0 ≤ p) (h1 : p ≤ s.size) (hs : Small s) : octet_Reader_Left.f s p b = some (s.size - p, s, p, b) := by
  unfold Small at hs
  show some (wrap64 (s.size - p), s, p, b) = _
  rw [(by unfold wrap64; omega : wrap64 ((s.size : Int) - p) = s.size - p)]
theorem take_bad (s : ByteArray) (p : Int) (b : Bool) (n : Int) (h0 : 0 ≤ p) (h1 : p ≤ s.size) (hs : Small s) (h : b = true ∨ n < 0 ∨ s.size - p < n) :
    octet_Reader_Take.f s p b n = some (⟨#[]⟩, s, p, true) := by
  unfold octet_Reader_Take.f
  rw [failed_ff]
  simp only [Option.bind_some, fail_ff]
  by_cases hb : b = true
  · rw [if_pos hb]
  · rw [if_neg hb]
    by_cases hn : n < 0
    · rw [if_pos hn]
    · rw [if_neg hn, left_ff s p b h0 h1 hs]
      simp only [Option.bind_some, fail_ff]
      rw [if_pos (by simp_all <;> omega)]
theorem take_ok (s : ByteArray) (p n : Int) (h0 : 0 ≤ p) (h1 : p ≤ s.size) (hs : Small s) (hn : 0 ≤ n) (h : n ≤ s.size - p) :
    octet_Reader_Take.f s p false n = some (s.extract p.toNat (p + n).toNat, s, p + n, false) := by
  have hs' := hs
  unfold Small at hs'
  unfold octet_Reader_Take.f
  rw [failed_ff]
  simp only [Option.bind_some, fail_ff]
  rw [if_neg (by decide), if_neg (by omega), left_ff s p false h0 h1 hs]
  simp only [Option.bind_some, fail_ff]
  have hw : wrap64 (p + n) = p + n := by unfold wrap64; omega
  rw [if_neg (by omega), hw, if_pos (by omega), if_pos (by omega), if_pos (by omega)]
theorem num_bad (s : ByteArray) (p : Int) (b : Bool) (n : Int) (h0 : 0 ≤ p) (h1 : p ≤ s.size) (hs : Small s) (h : b = true ∨ n < 0 ∨ 8 < n ∨ s.size - p < n) :
    octet_Reader_Num.f s p b n = some (0, s, p, true) := by
  unfold octet_Reader_Num.f
  by_cases h2 : n < 0
  · rw [if_pos h2]
  · rw [if_neg h2]
    by_cases h3 : 8 < n
    · rw [if_pos h3]
    · rw [if_neg h3, take_bad s p b n h0 h1 hs (by rcases h with h | h | h | h <;> simp_all)]
      rfl
theorem num_ok (s : ByteArray) (p n : Int) (h0 : 0 ≤ p) (h1 : p ≤ s.size) (hs : Small s) (hn : 0 ≤ n) (h8 : n ≤ 8) (h : n ≤ s.size - p) :
    octet_Reader_Num.f s p false n = some (wrap64 (val (sub s p n)), s, p + n, false) := by
  unfold octet_Reader_Num.f
  rw [if_neg (by omega), if_neg (by omega), take_ok s p n h0 h1 hs hn h]
  simp only [Option.bind_some]
  rw [if_pos, bytesOf_sub s p n h0 hn, beNum_val _ (byt_sub s p n)]
  rw [← bytesOf_length, bytesOf_sub s p n h0 hn, sub_length s p n h0 hn h]
  omega

/-! Sum -/
def wsum : List Int → Int
  | [] => 0
  | [a] => a * 16777216
  | [a, b] => (a * 256 + b) * 65536
  | [a, b, c] => ((a * 256 + b) * 256 + c) * 256
  | a :: b :: c :: d :: r => (((a * 256 + b) * 256 + c) * 256 + d) + wsum r
theorem wsum_short (l : List Int) (h : l.length < 4) : wsum l = val l * 2 ^ (32 - 8 * l.length) := by
  match l, h with
  | [], _ => rfl
  | [a], _ => simp [wsum, val]
  | [a, b], _ => simp [wsum, val]
  | [a, b, c], _ => simp [wsum, val]
theorem wsum_four (l m : List Int) (h : l.length = 4) : wsum (l ++ m) = val l + wsum m := by
  match l, h with
  | [a, b, c, d], _ => simp [wsum, val]
theorem drop_sub (s : ByteArray) (p n : Int) (h0 : 0 ≤ p) (hn : 0 ≤ n) : (bytesOf s).drop p.toNat = sub s p n ++ (bytesOf s).drop (p + n).toNat := by
  unfold sub
  rw [(by omega : (p + n).toNat = p.toNat + n.toNat), ← List.drop_drop, List.take_append_drop]
theorem sum_l0 (s : ByteArray) (hs : Small s) (d : Nat) : ∀ (k : Nat) (x p : Int), 0 ≤ p → p ≤ s.size → ((s.size - p) / 4).toNat = d → d < k → 0 ≤ x → x < 4294967296 →
    octet_Sum.l0 k x s p false = some ((x + wsum ((bytesOf s).drop p.toNat)) % 4294967296) := by
  induction d with
  | zero =>
    intro k x p h0 h1 hd hk hx hx1
    obtain ⟨k, rfl⟩ : ∃ m, k = m + 1 := ⟨k - 1, by omega⟩
    simp only [octet_Sum.l0]
    rw [left_ff s p false h0 h1 hs]
    simp only [Option.bind_some]
    rw [if_neg (by omega), left_ff s p false h0 h1 hs]
    simp only [Option.bind_some]
    rw [num_ok s p (s.size - p) h0 h1 hs (by omega) (by omega) (by omega)]
    simp only [Option.bind_some]
    have hl := sub_length s p (s.size - p) h0 (by omega) (by omega)
    have hb := byt_sub s p (s.size - p)
    have e1 := drop_sub s p (s.size - p) h0 (by omega)
    rw [List.drop_of_length_le (by rw [bytesOf_length]; omega : (bytesOf s).length ≤ (p + (s.size - p)).toNat), List.append_nil] at e1
    rw [e1]
    generalize hm : (s.size : Int) - p = m at *
    generalize sub s p m = l at *
    obtain ⟨m, rfl⟩ := Int.eq_ofNat_of_zero_le (by omega : 0 ≤ m)
    simp only [Int.toNat_natCast] at hl
    have hw : wrap64 (32 - wrap64 (8 * (m : Int))) = 32 - 8 * m := by unfold wrap64; omega
    rw [hw, if_pos (by omega)]
    rw [wsum_short l (by omega)]
    have hv := val_lt l hb
    have hv0 := val_nonneg l hb
    have hm3 : m ≤ 3 := by omega
    generalize val l = v at *
    have hsh : ∀ y : Int, shl .u32 (wrap64 v % 4294967296) y = (wrap64 v % 4294967296 * 2 ^ min y.toNat 32) % 4294967296 := by
      intro y
      unfold shl
      rw [IntKind.wrap_u32]
      rfl
    rw [hsh, hl]
    rw [hl] at hv
    rcases m with _ | _ | _ | _ | m
    · simp at hv ⊢
      try (have : v = 0 := by omega
           subst this
           simp [wrap64])
    · simp at hv ⊢
      have : wrap64 v = v := by unfold wrap64; omega
      rw [this]; try omega
    · simp at hv ⊢
      have : wrap64 v = v := by unfold wrap64; omega
      rw [this]; try omega
    · simp at hv ⊢
      have : wrap64 v = v := by unfold wrap64; omega
      rw [this]; try omega
    · omega
  | succ d ih =>
    intro k x p h0 h1 hd hk hx hx1
    obtain ⟨k, rfl⟩ : ∃ m, k = m + 1 := ⟨k - 1, by omega⟩
    simp only [octet_Sum.l0]
    rw [left_ff s p false h0 h1 hs]
    simp only [Option.bind_some]
    rw [if_pos (by omega), num_ok s p 4 h0 h1 hs (by omega) (by omega) (by omega)]
    simp only [Option.bind_some]
    have hl := sub_length s p 4 h0 (by omega) (by omega)
    have hb := byt_sub s p 4
    rw [drop_sub s p 4 h0 (by omega), wsum_four _ _ hl]
    rw [ih k _ (p + 4) (by omega) (by omega) (by omega) (by omega) (by omega) (by omega)]
    have hv := val_lt _ hb
    have hv0 := val_nonneg _ hb
    rw [hl] at hv
    have hv' : val (sub s p 4) < 4294967296 := hv
    generalize val (sub s p 4) = v at *
    have : wrap64 v = v := by unfold wrap64; omega
    rw [this]
    congr 1
    omega
theorem sum_f (s : ByteArray) (hs : Small s) (k : Nat) (hk : s.size / 4 + 1 ≤ k) : octet_Sum.f k s = some (wsum (bytesOf s) % 4294967296) := by
  unfold octet_Sum.f
  show (octet_Sum.l0 k 0 s 0 false) = _
  rw [sum_l0 s hs _ k 0 0 (by omega) (by omega) rfl (by omega) (by omega) (by omega)]
  simp
theorem shown_f (k : Nat) (hk : 12 ≤ k) : fleuronlaw01_shown.f k = some true := by
  unfold fleuronlaw01_shown.f
  have hS : Small (⟨#[0, 0, 0, 1, 255]⟩ : ByteArray) := by unfold Small; show (5 : Nat) ≤ 4611686018427387904; omega
  rw [put_f 258 3 k hk, put_f (-1) 1 k hk, sum_f _ hS k (by show 2 ≤ k; omega)]
  simp only [Option.bind_some]
  rw [if_pos, if_pos]
  · simp [bytesOf, wsum]
  · rw [Lib.toList_data]; decide
  · rw [Lib.toList_data]; decide
end Go.Proofs.Ytfnbaepioignaaa.OctN
