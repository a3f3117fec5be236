/- The program logic of this claim, proved sound over the model. No conditions. -/
import Derived.RangeFuncIn
import Derived.RangeFuncLeaves
import Derived.RangeFuncOwn
import Derived.RangeFuncCalls
import Derived.OrdersIn
import Derived.Laws.Append
import Derived.OwnWalkIn
import Derived.TacticsInMore
import Derived.Deep.AppendSrc
import Derived.Laws.CopyRow
import Derived.Deep.Upon
import Derived.Laws.AppendOwn
import Derived.Laws.StructEq
import Derived.Laws.Cover3
import Derived.Laws.MakeOwn
import Derived.RangeFuncNested
namespace Go.V
open Go
set_option linter.unusedVariables false
set_option linter.unusedSimpArgs false

/-- What an append to a row may count on: nothing; its capacity is its length; it ends at mark e of the growing row g, s cells an element. -/
inductive Gr where
  | no
  | full
  | at (g e s : Nat)
/-- A value, as the walk sees it. -/
inductive AV where
  | any
  | lit (v : Value)
  | agg (cs : List AV)
  | tup (vs : List AV)
  | row (gr : Gr) (xs : List AV)
  | ptr (k off : Nat)
  | eptr (x : AV) (off : Nat)
  | sl (k off n s : Nat)
  | clo (fn : Fn) (first caps : List AV)
  | yld (j : Nat)
  | ifc (t : TypeId) (v : AV)
instance : Inhabited AV := ⟨.any⟩
abbrev AV.int (n : Int) : AV := .lit (.int .i64 n)
abbrev AV.bool (b : Bool) : AV := .lit (.bool b)
abbrev AV.str (s : ByteArray) : AV := .lit (.string s)

/-- A value of one cell that is no slice of cells of its own. -/
def one (v : Value) : Bool := match v with
  | .agg _ | .tuple _ => false
  | _ => true

structure Ctx where
  M : Nat → Nat → Option Value
  mu : Nat → Option Nat
  gl : List Nat
  ga : Nat → Option (Nat × Nat × Nat)
  lp : Nat → Option Nat

def GrOk (C : Ctx) (gr : Gr) (A : Option Addr) (n c s : Nat) : Prop :=
  match gr with
  | .no => True
  | .full => c = n
  | .at g e s' => s' = s ∧ g < C.gl.length ∧ e ≤ C.gl.getD g 0 ∧ (C.gl.getD g 0 = e → c = n ∨ ∃ a size, A = some a ∧ a.spot = none ∧ C.ga g = some (a.block, a.off + n * s, size) ∧ a.off + c * s ≤ size)

inductive Rep (C : Ctx) : AV → Value → Prop where
  | any (v : Value) : Rep C .any v
  | lit (v : Value) (h : one v = true) : Rep C (.lit v) v
  | agg (cs : List AV) (vs : Array Value) (hl : cs.length = vs.size) (h : ∀ i x, cs[i]? = some x → Rep C x (vs.getD i undef)) : Rep C (.agg cs) (.agg vs)
  | tup (cs : List AV) (vs : Array Value) (hl : cs.length = vs.size) (h : ∀ i x, cs[i]? = some x → Rep C x (vs.getD i undef)) : Rep C (.tup cs) (.tuple vs)
  | row (gr : Gr) (xs : List AV) (A : Option Addr) (n c s : Nat) (val : Nat → Value) (hn : n = xs.length) (hc : n ≤ c) (hb : c < 9223372036854775808)
      (h : ∀ i x, xs[i]? = some x → Rep C x (val i)) (hs : ∀ i, i < n → (val i).cells.size = s)
      (hm : ∀ i j u, i < n → (val i).cells[j]? = some u → ∃ a, A = some a ∧ a.spot = none ∧ C.M a.block (a.off + i * s + j) = some u)
      (hg : GrOk C gr A n c s) : Rep C (.row gr xs) (.slice A n c)
  | ptr (k off B : Nat) (h : C.mu k = some B) : Rep C (.ptr k off) (.pointer (some ⟨B, off, none⟩))
  | eptr (x : AV) (off : Nat) (v : Value) (B o : Nat) (h : Rep C x v) (hm : ∀ j u, v.cells[j]? = some u → C.M B (o + j) = some u) : Rep C (.eptr x off) (.pointer (some ⟨B, o + off, none⟩))
  | sl (k off n s B c : Nat) (h : C.mu k = some B) (hc : n ≤ c) (hb : c < 9223372036854775808) : Rep C (.sl k off n s) (.slice (some ⟨B, off, none⟩) n c)
  | clo (fn : Fn) (first caps : List AV) (v1 v2 : Array Value) (hl1 : first.length = v1.size) (hl2 : caps.length = v2.size) (h1 : ∀ i x, first[i]? = some x → Rep C x (v1.getD i undef)) (h2 : ∀ i x, caps[i]? = some x → Rep C x (v2.getD i undef)) : Rep C (.clo fn first caps) (.func fn v1 v2)
  | yld (j l : Nat) (h : C.lp j = some l) : Rep C (.yld j) (.func (.yield l) #[] #[])
  | ifc (t : TypeId) (x : AV) (v : Value) (h : Rep C x v) : Rep C (.ifc t x) (.iface t v)

/-- Values, one by one. -/
def Reps (C : Ctx) (xs : List AV) (vs : Array Value) : Prop := xs.length = vs.size ∧ ∀ i x, xs[i]? = some x → Rep C x (vs.getD i undef)

/-! ### What a context may become -/
structure CLe (C C' : Ctx) : Prop where
  hM : ∀ b o v, C.M b o = some v → C'.M b o = some v
  hmu : ∀ k B, C.mu k = some B → C'.mu k = some B
  hgl : C.gl.length ≤ C'.gl.length
  hge : ∀ g, g < C.gl.length → C.gl.getD g 0 ≤ C'.gl.getD g 0
  hga : ∀ g, g < C.gl.length → C'.gl.getD g 0 = C.gl.getD g 0 → C'.ga g = C.ga g
  hlp : ∀ j l, C.lp j = some l → C'.lp j = some l
theorem CLe.refl (C : Ctx) : CLe C C := ⟨fun _ _ _ h => h, fun _ _ h => h, Nat.le_refl _, fun _ _ => Nat.le_refl _, fun _ _ _ => rfl, fun _ _ h => h⟩
theorem CLe.trans {A B C : Ctx} (h : CLe A B) (k : CLe B C) : CLe A C := by
  refine ⟨fun b o v e => k.hM _ _ _ (h.hM _ _ _ e), fun x y e => k.hmu _ _ (h.hmu _ _ e), Nat.le_trans h.hgl k.hgl, fun g hg => Nat.le_trans (h.hge g hg) (k.hge g (Nat.lt_of_lt_of_le hg h.hgl)), fun g hg e => ?_, fun x y e => k.hlp _ _ (h.hlp _ _ e)⟩
  have h1 := h.hge g hg
  have h2 := k.hge g (Nat.lt_of_lt_of_le hg h.hgl)
  rw [k.hga g (Nat.lt_of_lt_of_le hg h.hgl) (by omega), h.hga g hg (by omega)]
theorem GrOk.mono {C C' : Ctx} (h : CLe C C') {gr : Gr} {A : Option Addr} {n c s : Nat} (k : GrOk C gr A n c s) : GrOk C' gr A n c s := by
  cases gr with
  | no => trivial
  | full => exact k
  | «at» g e s' =>
    obtain ⟨h1, h2, h3, h4⟩ := k
    refine ⟨h1, Nat.lt_of_lt_of_le h2 h.hgl, Nat.le_trans h3 (h.hge g h2), fun e' => ?_⟩
    have h5 := h.hge g h2
    have h6 : C'.gl.getD g 0 = C.gl.getD g 0 := by omega
    rw [h.hga g h2 h6]
    exact h4 (by omega)
theorem Rep.mono {C C' : Ctx} (h : CLe C C') {x : AV} {v : Value} (k : Rep C x v) : Rep C' x v := by
  induction k with
  | any v => exact .any v
  | lit v h1 => exact .lit v h1
  | agg cs vs hl _ ih => exact .agg cs vs hl ih
  | tup cs vs hl _ ih => exact .tup cs vs hl ih
  | row gr xs A n c s val hn hc hb _ hs hm hg ih => exact .row gr xs A n c s val hn hc hb ih hs (fun i j u hi hu => let ⟨a, h1, h2, h3⟩ := hm i j u hi hu; ⟨a, h1, h2, h.hM _ _ _ h3⟩) (hg.mono h)
  | ptr k off B h1 => exact .ptr k off B (h.hmu _ _ h1)
  | eptr x off v B o _ hm ih => exact .eptr x off v B o ih (fun j u hu => h.hM _ _ _ (hm j u hu))
  | sl k off n s B c h1 hc hb => exact .sl k off n s B c (h.hmu _ _ h1) hc hb
  | clo fn first caps v1 v2 hl1 hl2 _ _ ih1 ih2 => exact .clo fn first caps v1 v2 hl1 hl2 ih1 ih2
  | yld j l h1 => exact .yld j l (h.hlp _ _ h1)
  | ifc t x v _ ih => exact .ifc t x v ih
theorem Reps.mono {C C' : Ctx} (h : CLe C C') {xs : List AV} {vs : Array Value} (k : Reps C xs vs) : Reps C' xs vs := ⟨k.1, fun i x hx => (k.2 i x hx).mono h⟩

/-! ### The heap as the walk sees it -/
inductive LoopSt where
  | ready
  | busy
  | done (c : Code)
structure LInfo where
  tm : List AV
  params : Array Tmp
  assign : Code
  body : Code
  st : LoopSt
structure Hp where
  bx : List (List AV)
  gl : List Nat
  lp : List LInfo

def Trk (C : Ctx) (b : Nat) : Prop := (∃ k, C.mu k = some b) ∨ (∃ g x, g < C.gl.length ∧ C.ga g = some x ∧ x.1 = b) ∨ (∃ j, C.lp j = some b)

structure LRel (C : Ctx) (L : LInfo) (r : Loop) : Prop where
  htm : Reps C L.tm r.tmps
  hpa : r.params = L.params
  has : r.assign = L.assign
  hbo : r.body = L.body
  hst : match L.st with
    | .ready => r.state = .ready ∧ r.pending = none
    | .busy => r.state = .busy
    | .done c => r.state = .done ∧ r.pending = some c

structure Sim (C : Ctx) (h : Hp) (w : World) : Prop where
  hM : ∀ b o v, C.M b o = some v → w.cell? ⟨b, o, none⟩ = some v
  hgl : C.gl = h.gl
  hmu : ∀ k, (C.mu k).isSome = true ↔ k < h.bx.length
  hbx : ∀ k cs B, h.bx[k]? = some cs → C.mu k = some B → ∃ arr t, w.heap[B]? = some (.cells arr t (0, 0)) ∧ Reps C cs arr ∧ ∀ o, C.M B o = none
  hinj : ∀ k k' B, C.mu k = some B → C.mu k' = some B → k = k'
  hgr : ∀ g x, g < C.gl.length → C.ga g = some x → ∃ arr t, w.heap[x.1]? = some (.cells arr t (0, 0)) ∧ arr.size = x.2.2 ∧ ∀ o, x.2.1 ≤ o → C.M x.1 o = none
  hgi : ∀ g g' x x', g < C.gl.length → g' < C.gl.length → C.ga g = some x → C.ga g' = some x' → x.1 = x'.1 → g = g'
  hgb : ∀ g k x, g < C.gl.length → C.ga g = some x → C.mu k ≠ some x.1
  hlp : ∀ j, (C.lp j).isSome = true ↔ j < h.lp.length
  hlr : ∀ j L l, h.lp[j]? = some L → C.lp j = some l → ∃ r, w.heap[l]? = some (.loop r) ∧ LRel C L r
  hli : ∀ j j' l, C.lp j = some l → C.lp j' = some l → j = j'

structure Ext (C : Ctx) (w : World) (C' : Ctx) (w' : World) : Prop where
  le : CLe C C'
  hsz : w.heap.size ≤ w'.heap.size
  hos : w'.os = w.os
  htape : w'.tape = w.tape
  hout : w'.output = w.output
  hun : ∀ b, b < w.heap.size → ¬ Trk C b → w'.heap[b]? = w.heap[b]?
  htr : ∀ b, Trk C' b → Trk C b ∨ w.heap.size ≤ b
  hMn : ∀ b o v, C'.M b o = some v → C.M b o = some v ∨ Trk C b ∨ w.heap.size ≤ b
theorem Ext.refl (C : Ctx) (w : World) : Ext C w C w := ⟨.refl C, Nat.le_refl _, rfl, rfl, rfl, fun _ _ _ => rfl, fun _ h => .inl h, fun _ _ _ h => .inl h⟩
theorem Ext.trans {C0 C1 C2 : Ctx} {w0 w1 w2 : World} (h : Ext C0 w0 C1 w1) (k : Ext C1 w1 C2 w2) : Ext C0 w0 C2 w2 := by
  refine ⟨h.le.trans k.le, Nat.le_trans h.hsz k.hsz, k.hos.trans h.hos, k.htape.trans h.htape, k.hout.trans h.hout, fun b hb hn => ?_, fun b hb => ?_, fun b o v e => ?_⟩
  · have h1 : ¬ Trk C1 b := fun ht => (h.htr b ht).elim hn (fun h2 => by omega)
    rw [k.hun b (Nat.lt_of_lt_of_le hb h.hsz) h1, h.hun b hb hn]
  · rcases k.htr b hb with h1 | h1
    · exact h.htr b h1
    · exact .inr (Nat.le_trans h.hsz h1)
  · rcases k.hMn b o v e with h1 | h1 | h1
    · exact h.hMn b o v h1
    · exact .inr (h.htr b h1)
    · exact .inr (.inr (Nat.le_trans h.hsz h1))
/-- A world that differs by draws alone. -/
theorem Ext.drew (C : Ctx) (w : World) (d : Nat) : Ext C w C { w with drawn := d } := ⟨.refl C, Nat.le_refl _, rfl, rfl, rfl, fun _ _ _ => rfl, fun _ h => .inl h, fun _ _ _ h => .inl h⟩
theorem Sim.drew {C : Ctx} {h : Hp} {w : World} (s : Sim C h w) (d : Nat) : Sim C h { w with drawn := d } := ⟨s.hM, s.hgl, s.hmu, s.hbx, s.hinj, s.hgr, s.hgi, s.hgb, s.hlp, s.hlr, s.hli⟩

theorem Sim.trk_lt {C : Ctx} {h : Hp} {w : World} (s : Sim C h w) {b : Nat} (t : Trk C b) : b < w.heap.size := by
  rcases t with ⟨k, hk⟩ | ⟨g, x, hg, hx, rfl⟩ | ⟨j, hj⟩
  · have h1 := (s.hmu k).1 (by rw [hk]; rfl)
    obtain ⟨arr, t, h2, _⟩ := s.hbx k _ b (List.getElem?_eq_getElem h1) hk
    exact (Array.getElem?_eq_some_iff.1 h2).1
  · obtain ⟨arr, t, h2, _⟩ := s.hgr g x hg hx
    exact (Array.getElem?_eq_some_iff.1 h2).1
  · have h1 := (s.hlp j).1 (by rw [hj]; rfl)
    obtain ⟨r, h2, _⟩ := s.hlr j _ b (List.getElem?_eq_getElem h1) hj
    exact (Array.getElem?_eq_some_iff.1 h2).1
theorem Sim.M_lt {C : Ctx} {h : Hp} {w : World} (s : Sim C h w) {b o : Nat} {v : Value} (t : C.M b o = some v) : b < w.heap.size := World.block_lt_of_cell? w _ (s.hM b o v t)
/-- The kinds of blocks are apart. -/
theorem Sim.box_ne_loop {C : Ctx} {h : Hp} {w : World} (s : Sim C h w) {k j b : Nat} (h1 : C.mu k = some b) (h2 : C.lp j = some b) : False := by
  obtain ⟨arr, t, h3, _⟩ := s.hbx k _ b (List.getElem?_eq_getElem ((s.hmu k).1 (by rw [h1]; rfl))) h1
  obtain ⟨r, h4, _⟩ := s.hlr j _ b (List.getElem?_eq_getElem ((s.hlp j).1 (by rw [h2]; rfl))) h2
  rw [h3] at h4; cases h4
theorem Sim.gr_ne_loop {C : Ctx} {h : Hp} {w : World} (s : Sim C h w) {g j : Nat} {x : Nat × Nat × Nat} (h1 : g < C.gl.length) (hx : C.ga g = some x) (h2 : C.lp j = some x.1) : False := by
  obtain ⟨arr, t, h3, _⟩ := s.hgr g x h1 hx
  obtain ⟨r, h4, _⟩ := s.hlr j _ _ (List.getElem?_eq_getElem ((s.hlp j).1 (by rw [h2]; rfl))) h2
  rw [h3] at h4; cases h4
theorem Sim.M_ne_loop {C : Ctx} {h : Hp} {w : World} (s : Sim C h w) {j b o : Nat} {v : Value} (h1 : C.M b o = some v) (h2 : C.lp j = some b) : False := by
  obtain ⟨r, h4, _⟩ := s.hlr j _ b (List.getElem?_eq_getElem ((s.hlp j).1 (by rw [h2]; rfl))) h2
  have h5 := s.hM _ _ _ h1
  simp [World.cell?, h4] at h5
end Go.V
namespace Go.V
open Go
set_option linter.unusedVariables false
set_option linter.unusedSimpArgs false

theorem alloc_new (w : World) (o : Obj) : (w.alloc o).heap[w.heap.size]? = some o := World.alloc_heap_new w o
theorem alloc_old (w : World) (o : Obj) {b : Nat} (h : b < w.heap.size) : (w.alloc o).heap[b]? = w.heap[b]? := by
  show (w.heap.push o)[b]? = _; rw [Array.getElem?_push, if_neg (by omega)]
theorem alloc_size (w : World) (o : Obj) : (w.alloc o).heap.size = w.heap.size + 1 := World.size_alloc w o
theorem cell_of_heap {w w' : World} {b : Nat} (h : w'.heap[b]? = w.heap[b]?) (o : Nat) : w'.cell? ⟨b, o, none⟩ = w.cell? ⟨b, o, none⟩ := by
  simp only [World.cell?, h]

theorem Sim.same {C : Ctx} {h : Hp} {w w' : World} (s : Sim C h w) (hh : ∀ b, (Trk C b ∨ ∃ o v, C.M b o = some v) → w'.heap[b]? = w.heap[b]?) : Sim C h w' := by
  refine ⟨fun b o v e => ?_, s.hgl, s.hmu, fun k cs B e1 e2 => ?_, s.hinj, fun g x hg hx => ?_, s.hgi, s.hgb, s.hlp, fun j L l e1 e2 => ?_, s.hli⟩
  · rw [cell_of_heap (hh b (.inr ⟨o, v, e⟩))]; exact s.hM b o v e
  · rw [hh B (.inl (.inl ⟨k, e2⟩))]; exact s.hbx k cs B e1 e2
  · rw [hh _ (.inl (.inr (.inl ⟨g, x, hg, hx, rfl⟩)))]; exact s.hgr g x hg hx
  · rw [hh _ (.inl (.inr (.inr ⟨j, e2⟩)))]; exact s.hlr j L l e1 e2
theorem Sim.lt {C : Ctx} {h : Hp} {w : World} (s : Sim C h w) {b : Nat} (t : Trk C b ∨ ∃ o v, C.M b o = some v) : b < w.heap.size :=
  t.elim s.trk_lt (fun ⟨_, _, e⟩ => s.M_lt e)
/-- A new block that nobody tracks. -/
theorem Sim.alloc {C : Ctx} {h : Hp} {w : World} (s : Sim C h w) (o : Obj) : Sim C h (w.alloc o) := s.same fun b t => alloc_old w o (s.lt t)
theorem Ext.alloc (C : Ctx) (w : World) (o : Obj) : Ext C w C (w.alloc o) := ⟨.refl C, by rw [alloc_size]; omega, rfl, rfl, rfl, fun b hb _ => alloc_old w o hb, fun _ h => .inl h, fun _ _ _ h => .inl h⟩

/-! ### A box -/
def Ctx.box (C : Ctx) (k B : Nat) : Ctx := { C with mu := fun k' => if k' = k then some B else C.mu k' }
theorem CLe.box {C : Ctx} {k B : Nat} (h : C.mu k = none) : CLe C (C.box k B) := by
  refine ⟨fun _ _ _ e => e, fun k' B' e => ?_, Nat.le_refl _, fun _ _ => Nat.le_refl _, fun _ _ _ => rfl, fun _ _ e => e⟩
  show (if k' = k then some B else C.mu k') = some B'
  rw [if_neg (fun e' => by rw [e', h] at e; cases e)]; exact e
theorem Sim.mu_none {C : Ctx} {h : Hp} {w : World} (s : Sim C h w) : C.mu h.bx.length = none := by
  cases e : C.mu h.bx.length with
  | none => rfl
  | some B => have := (s.hmu h.bx.length).1 (by rw [e]; rfl); omega
/-- A block that nobody tracks and nobody reads becomes a box. -/
theorem Sim.claimBox {C : Ctx} {h : Hp} {w : World} (s : Sim C h w) {b : Nat} {arr : Array Value} {t : TypeId} {cs : List AV} (hb : w.heap[b]? = some (.cells arr t (0, 0))) (hn : ¬ Trk C b) (hM : ∀ o, C.M b o = none) (hr : Reps C cs arr) :
    Sim (C.box h.bx.length b) { h with bx := h.bx ++ [cs] } w := by
  have hle := CLe.box (B := b) s.mu_none
  have hbox : ∀ k B, (C.box h.bx.length b).mu k = some B → (k = h.bx.length ∧ B = b) ∨ (k ≠ h.bx.length ∧ C.mu k = some B) := by
    intro k B e
    by_cases hk : k = h.bx.length
    · left; subst hk
      have : (if h.bx.length = h.bx.length then some b else C.mu h.bx.length) = some B := e
      rw [if_pos rfl] at this; cases this; exact ⟨rfl, rfl⟩
    · right
      have : (if k = h.bx.length then some b else C.mu k) = some B := e
      rw [if_neg hk] at this; exact ⟨hk, this⟩
  refine ⟨s.hM, s.hgl, fun k => ?_, fun k cs' B e1 e2 => ?_, fun k k' B e1 e2 => ?_, s.hgr, s.hgi, fun g k x hg hx e => ?_, s.hlp, fun j L l e1 e2 => ?_, s.hli⟩
  · show (if k = h.bx.length then some b else C.mu k).isSome = true ↔ k < (h.bx ++ [cs]).length
    rw [List.length_append]
    by_cases hk : k = h.bx.length
    · simp [hk]
    · rw [if_neg hk, s.hmu k]; simp; omega
  · rcases hbox k B e2 with ⟨rfl, rfl⟩ | ⟨hk, e3⟩
    · have : cs' = cs := by
        have e4 : (h.bx ++ [cs])[h.bx.length]? = some cs' := e1
        simp at e4; exact e4.symm
      subst this
      exact ⟨arr, t, hb, hr.mono hle, hM⟩
    · have hlt := (s.hmu k).1 (by rw [e3]; rfl)
      have e4 : (h.bx ++ [cs])[k]? = some cs' := e1
      rw [List.getElem?_append_left hlt] at e4
      obtain ⟨arr', t', h1, h2, h3⟩ := s.hbx k cs' B e4 e3
      exact ⟨arr', t', h1, h2.mono hle, h3⟩
  · rcases hbox k B e1 with ⟨rfl, rfl⟩ | ⟨hk, e3⟩ <;> rcases hbox k' B e2 with ⟨rfl, _⟩ | ⟨hk', e4⟩
    · rfl
    · exact absurd (.inl ⟨_, e4⟩) hn
    · subst_vars; exact absurd (.inl ⟨_, e3⟩) hn
    · exact s.hinj _ _ _ e3 e4
  · rcases hbox k _ e with ⟨rfl, e3⟩ | ⟨hk, e3⟩
    · exact hn (.inr (.inl ⟨g, x, hg, hx, e3⟩))
    · exact s.hgb g k x hg hx e3
  · obtain ⟨r, h1, h2⟩ := s.hlr j L l e1 e2
    exact ⟨r, h1, ⟨h2.htm.mono hle, h2.hpa, h2.has, h2.hbo, h2.hst⟩⟩
theorem Ext.box {C : Ctx} {w w' : World} {k B : Nat} (e : Ext C w C w') (h : C.mu k = none) (hB : w.heap.size ≤ B) : Ext C w (C.box k B) w' := by
  refine ⟨CLe.box h, e.hsz, e.hos, e.htape, e.hout, e.hun, fun b hb => ?_, fun _ _ _ h => .inl h⟩
  rcases hb with ⟨k', hk⟩ | ⟨g, x, hg, hx, hgb⟩ | ⟨j, hj⟩
  · have : (if k' = k then some B else C.mu k') = some b := hk
    split at this
    · cases this; exact .inr hB
    · exact .inl (.inl ⟨k', this⟩)
  · exact .inl (.inr (.inl ⟨g, x, hg, hx, hgb⟩))
  · exact .inl (.inr (.inr ⟨j, hj⟩))
theorem Sim.free {C : Ctx} {h : Hp} {w : World} (s : Sim C h w) : ¬ Trk C w.heap.size ∧ ∀ o, C.M w.heap.size o = none :=
  ⟨fun t => Nat.lt_irrefl _ (s.trk_lt t), fun o => by
    cases e : C.M w.heap.size o with
    | none => rfl
    | some v => exact absurd (s.M_lt e) (Nat.lt_irrefl _)⟩
theorem Sim.newBox {C : Ctx} {h : Hp} {w : World} (s : Sim C h w) {arr : Array Value} {cs : List AV} (t : TypeId) (hr : Reps C cs arr) :
    Sim (C.box h.bx.length w.heap.size) { h with bx := h.bx ++ [cs] } (w.alloc (.cells arr t)) ∧ Ext C w (C.box h.bx.length w.heap.size) (w.alloc (.cells arr t)) ∧ (C.box h.bx.length w.heap.size).mu h.bx.length = some w.heap.size :=
  ⟨(s.alloc _).claimBox (alloc_new w _) s.free.1 s.free.2 hr, (Ext.alloc C w _).box s.mu_none (Nat.le_refl _), by simp [Ctx.box]⟩

/-! ### Cells that are claimed: nobody writes them any more -/
def Ctx.claim (C : Ctx) (b : Nat) (f : Nat → Option Value) : Ctx := { C with M := fun b' o => if b' = b then (match C.M b' o with | some v => some v | none => f o) else C.M b' o }
theorem CLe.claim (C : Ctx) (b : Nat) (f : Nat → Option Value) : CLe C (C.claim b f) := by
  refine ⟨fun b' o v e => ?_, fun _ _ e => e, Nat.le_refl _, fun _ _ => Nat.le_refl _, fun _ _ _ => rfl, fun _ _ e => e⟩
  show (if b' = b then (match C.M b' o with | some v => some v | none => f o) else C.M b' o) = some v
  split <;> simp [e]
theorem claim_M {C : Ctx} {b : Nat} {f : Nat → Option Value} {b' o : Nat} {v : Value} (h : (C.claim b f).M b' o = some v) : C.M b' o = some v ∨ (b' = b ∧ C.M b' o = none ∧ f o = some v) := by
  have h : (if b' = b then (match C.M b' o with | some v => some v | none => f o) else C.M b' o) = some v := h
  split at h
  · rename_i hb
    cases e : C.M b' o with
    | none => rw [e] at h; exact .inr ⟨hb, rfl, h⟩
    | some u => rw [e] at h; exact .inl h
  · exact .inl h
theorem claim_here {C : Ctx} {b : Nat} {f : Nat → Option Value} {o : Nat} {v : Value} (h0 : C.M b o = none) (h : f o = some v) : (C.claim b f).M b o = some v := by
  show (if b = b then (match C.M b o with | some v => some v | none => f o) else C.M b o) = some v
  rw [if_pos rfl, h0]; exact h
/-- Cells of a block that is no box, and, of a growing row, none behind its mark. -/
theorem Sim.claim {C : Ctx} {h : Hp} {w : World} (s : Sim C h w) {b : Nat} {f : Nat → Option Value} (hf : ∀ o v, f o = some v → w.cell? ⟨b, o, none⟩ = some v) (hb : ∀ k, C.mu k ≠ some b) (hg : ∀ g x, g < C.gl.length → C.ga g = some x → x.1 = b → ∀ o, x.2.1 ≤ o → f o = none) :
    Sim (C.claim b f) h w := by
  have hle := CLe.claim C b f
  refine ⟨fun b' o v e => ?_, s.hgl, s.hmu, fun k cs B e1 e2 => ?_, s.hinj, fun g x hg' hx => ?_, s.hgi, s.hgb, s.hlp, fun j L l e1 e2 => ?_, s.hli⟩
  · rcases claim_M e with e | ⟨rfl, _, e⟩
    · exact s.hM _ _ _ e
    · exact hf _ _ e
  · obtain ⟨arr, t, h1, h2, h3⟩ := s.hbx k cs B e1 e2
    refine ⟨arr, t, h1, h2.mono hle, fun o => ?_⟩
    cases e : (C.claim b f).M B o with
    | none => rfl
    | some v =>
      rcases claim_M e with e | ⟨rfl, _, _⟩
      · rw [h3 o] at e; cases e
      · exact absurd e2 (hb k)
  · obtain ⟨arr, t, h1, h2, h3⟩ := s.hgr g x hg' hx
    refine ⟨arr, t, h1, h2, fun o ho => ?_⟩
    cases e : (C.claim b f).M x.1 o with
    | none => rfl
    | some v =>
      rcases claim_M e with e | ⟨e1, _, e2⟩
      · rw [h3 o ho] at e; cases e
      · rw [hg g x hg' hx e1 o ho] at e2; cases e2
  · obtain ⟨r, h1, h2⟩ := s.hlr j L l e1 e2
    exact ⟨r, h1, ⟨h2.htm.mono hle, h2.hpa, h2.has, h2.hbo, h2.hst⟩⟩
theorem Ext.claim {C : Ctx} {w w' : World} (e : Ext C w C w') (b : Nat) (f : Nat → Option Value) (hb : Trk C b ∨ w.heap.size ≤ b) : Ext C w (C.claim b f) w' :=
  ⟨CLe.claim C b f, e.hsz, e.hos, e.htape, e.hout, e.hun, fun _ h => .inl h, fun b' o v h => (claim_M h).elim .inl fun ⟨h1, _⟩ => .inr (h1 ▸ hb)⟩
/-- A new row whose first L cells nobody writes any more. -/
theorem Sim.newRow {C : Ctx} {h : Hp} {w : World} (s : Sim C h w) (arr : Array Value) (t : TypeId) (fr : Nat × Nat) (L : Nat) :
    Sim (C.claim w.heap.size fun o => if o < L then arr[o]? else none) h (w.alloc (.cells arr t fr)) ∧ Ext C w (C.claim w.heap.size fun o => if o < L then arr[o]? else none) (w.alloc (.cells arr t fr)) ∧
      ∀ o v, o < L → arr[o]? = some v → (C.claim w.heap.size fun o => if o < L then arr[o]? else none).M w.heap.size o = some v := by
  refine ⟨(s.alloc _).claim (fun o v e => ?_) (fun k e => s.free.1 (.inl ⟨k, e⟩)) (fun g x hg hx e => absurd (.inr (.inl ⟨g, x, hg, hx, e⟩)) s.free.1), (Ext.alloc C w _).claim _ _ (.inr (Nat.le_refl _)), fun o v ho e => claim_here (s.free.2 o) (by rw [if_pos ho]; exact e)⟩
  split at e
  · simp only [World.cell?, alloc_new]; exact e
  · cases e

/-! ### A store to a box -/
theorem Sim.setBox {C : Ctx} {h : Hp} {w w' : World} (s : Sim C h w) {k B : Nat} {arr : Array Value} {t : TypeId} {cs : List AV} (hk : C.mu k = some B) (hB : w'.heap[B]? = some (.cells arr t (0, 0))) (hr : Reps C cs arr)
    (ho : ∀ b, b ≠ B → w'.heap[b]? = w.heap[b]?) : Sim C { h with bx := h.bx.set k cs } w' := by
  have hlt := (s.hmu k).1 (by rw [hk]; rfl)
  obtain ⟨_, _, _, _, hMB⟩ := s.hbx k _ B (List.getElem?_eq_getElem hlt) hk
  refine ⟨fun b o v e => ?_, s.hgl, fun k' => ?_, fun k' cs' B' e1 e2 => ?_, s.hinj, fun g x hg hx => ?_, s.hgi, s.hgb, s.hlp, fun j L l e1 e2 => ?_, s.hli⟩
  · rw [cell_of_heap (ho b (fun e' => by rw [e', hMB] at e; cases e))]; exact s.hM b o v e
  · rw [s.hmu k']; simp
  · have e1 : (h.bx.set k cs)[k']? = some cs' := e1
    by_cases hkk : k' = k
    · subst hkk
      rw [hk] at e2; cases e2
      rw [List.getElem?_set_self hlt] at e1; cases e1
      exact ⟨arr, t, hB, hr, hMB⟩
    · rw [List.getElem?_set_ne (Ne.symm hkk)] at e1
      rw [ho B' (fun e => hkk (s.hinj _ _ _ e2 (e ▸ hk)))]
      exact s.hbx k' cs' B' e1 e2
  · rw [ho _ (fun e => s.hgb g k x hg hx (by rw [hk, e]))]; exact s.hgr g x hg hx
  · rw [ho l (fun e => s.box_ne_loop hk (by rw [e2, e]))]; exact s.hlr j L l e1 e2
theorem Ext.setBox {C : Ctx} {w w' : World} {B : Nat} (ht : Trk C B) (hs : w'.heap.size = w.heap.size) (h1 : w'.os = w.os) (h2 : w'.tape = w.tape) (h3 : w'.output = w.output) (ho : ∀ b, b ≠ B → w'.heap[b]? = w.heap[b]?) : Ext C w C w' :=
  ⟨.refl C, by omega, h1, h2, h3, fun b hb hn => ho b (fun e => hn (e ▸ ht)), fun _ h => .inl h, fun _ _ _ h => .inl h⟩

/-! ### A growing row -/
def Ctx.grow (C : Ctx) (gl : List Nat) (g : Nat) (x : Option (Nat × Nat × Nat)) : Ctx := { C with gl := gl, ga := fun g' => if g' = g then x else C.ga g' }
/-- What is asked of the block of a growing row. -/
def GrBlk (C : Ctx) (w : World) (x : Nat × Nat × Nat) : Prop := ∃ arr t, w.heap[x.1]? = some (.cells arr t (0, 0)) ∧ arr.size = x.2.2 ∧ ∀ o, x.2.1 ≤ o → C.M x.1 o = none
/-- A new growing row (without a block, where nothing was made). -/
theorem Sim.newGrow {C : Ctx} {h : Hp} {w : World} (s : Sim C h w) (e : Nat) (x : Option (Nat × Nat × Nat)) (hx : ∀ y, x = some y → GrBlk C w y ∧ ¬ Trk C y.1) :
    Sim (C.grow (C.gl ++ [e]) C.gl.length x) { h with gl := h.gl ++ [e] } w ∧ CLe C (C.grow (C.gl ++ [e]) C.gl.length x) := by
  have hga : ∀ g, g < C.gl.length → (C.grow (C.gl ++ [e]) C.gl.length x).ga g = C.ga g := fun g hg => if_neg (by omega)
  have hgN : (C.grow (C.gl ++ [e]) C.gl.length x).ga C.gl.length = x := if_pos rfl
  have hlen : ∀ g, g < (C.grow (C.gl ++ [e]) C.gl.length x).gl.length → g = C.gl.length ∨ g < C.gl.length := fun g hg => by
    have k : g < (C.gl ++ [e]).length := hg
    rw [List.length_append] at k; simp at k; omega
  have hle : CLe C (C.grow (C.gl ++ [e]) C.gl.length x) := by
    refine ⟨fun _ _ _ e => e, fun _ _ e => e, by simp [Ctx.grow], fun g hg => ?_, fun g hg _ => hga g hg, fun _ _ e => e⟩
    show C.gl.getD g 0 ≤ (C.gl ++ [e]).getD g 0
    simp [List.getD, List.getElem?_append_left hg]
  refine ⟨⟨s.hM, ?_, s.hmu, fun k cs B e1 e2 => ?_, s.hinj, fun g y hg hy => ?_, fun g g' y y' hg hg' hy hy' e1 => ?_, fun g k y hg hy => ?_, s.hlp, fun j L l e1 e2 => ?_, s.hli⟩, hle⟩
  · show C.gl ++ [e] = h.gl ++ [e]; rw [s.hgl]
  · obtain ⟨arr', t', h1, h2, h3⟩ := s.hbx k cs B e1 e2
    exact ⟨arr', t', h1, h2.mono hle, h3⟩
  · rcases hlen g hg with rfl | hg
    · rw [hgN] at hy; exact (hx y hy).1
    · rw [hga g hg] at hy; exact s.hgr g y hg hy
  · rcases hlen g hg with rfl | hg <;> rcases hlen g' hg' with rfl | hg'
    · rfl
    · rw [hgN] at hy; rw [hga g' hg'] at hy'; exact absurd (.inr (.inl ⟨g', y', hg', hy', e1.symm⟩)) (hx y hy).2
    · rw [hgN] at hy'; rw [hga g hg] at hy; exact absurd (.inr (.inl ⟨g, y, hg, hy, e1⟩)) (hx y' hy').2
    · rw [hga g hg] at hy; rw [hga g' hg'] at hy'; exact s.hgi g g' y y' hg hg' hy hy' e1
  · rcases hlen g hg with rfl | hg
    · rw [hgN] at hy; exact fun e2 => (hx y hy).2 (.inl ⟨k, e2⟩)
    · rw [hga g hg] at hy; exact s.hgb g k y hg hy
  · obtain ⟨r, h1, h2⟩ := s.hlr j L l e1 e2
    exact ⟨r, h1, ⟨h2.htm.mono hle, h2.hpa, h2.has, h2.hbo, h2.hst⟩⟩
/-- A growing row goes on: in its block, or in another one. -/
theorem Sim.moreGrow {C : Ctx} {h : Hp} {w : World} (s : Sim C h w) {g e : Nat} (x : Option (Nat × Nat × Nat)) (hg : g < C.gl.length) (he : C.gl.getD g 0 < e) (hx : ∀ y, x = some y → GrBlk C w y ∧ (¬ Trk C y.1 ∨ ∃ z, C.ga g = some z ∧ z.1 = y.1)) :
    Sim (C.grow (C.gl.set g e) g x) { h with gl := h.gl.set g e } w ∧ CLe C (C.grow (C.gl.set g e) g x) := by
  have hga : ∀ g', g' ≠ g → (C.grow (C.gl.set g e) g x).ga g' = C.ga g' := fun g' h => if_neg h
  have hgN : (C.grow (C.gl.set g e) g x).ga g = x := if_pos rfl
  have hlen : ∀ g', g' < (C.grow (C.gl.set g e) g x).gl.length → g' < C.gl.length := fun g' hg' => by
    have k : g' < (C.gl.set g e).length := hg'
    rwa [List.length_set] at k
  have hD : ∀ g', (C.gl.set g e).getD g' 0 = if g' = g then e else C.gl.getD g' 0 := by
    intro g'
    simp only [List.getD]
    by_cases h1 : g' = g
    · subst h1; rw [List.getElem?_set_self hg, if_pos rfl]; rfl
    · rw [List.getElem?_set_ne (Ne.symm h1), if_neg h1]
  have hle : CLe C (C.grow (C.gl.set g e) g x) := by
    refine ⟨fun _ _ _ e => e, fun _ _ e => e, by simp [Ctx.grow], fun g' hg' => ?_, fun g' hg' e1 => ?_, fun _ _ e => e⟩
    · show C.gl.getD g' 0 ≤ (C.gl.set g e).getD g' 0
      rw [hD]; split
      · rename_i h1; subst h1; omega
      · exact Nat.le_refl _
    · have e1 : (C.gl.set g e).getD g' 0 = C.gl.getD g' 0 := e1
      refine hga g' fun h1 => ?_
      rw [hD, if_pos h1, h1] at e1; omega
  have hnot : ∀ y, x = some y → ∀ g' y', g' < C.gl.length → g' ≠ g → C.ga g' = some y' → y'.1 ≠ y.1 := fun y hy g' y' h1 h2 h3 h5 => by
    rcases (hx y hy).2 with h4 | ⟨z, hz, h4⟩
    · exact h4 (.inr (.inl ⟨g', y', h1, h3, h5⟩))
    · exact h2 (s.hgi g' g y' z h1 hg h3 hz (h5.trans h4.symm))
  refine ⟨⟨s.hM, ?_, s.hmu, fun k cs B e1 e2 => ?_, s.hinj, fun g' y hg' hy => ?_, fun g1 g2 y y' hg1 hg2 hy hy' e1 => ?_, fun g' k y hg' hy => ?_, s.hlp, fun j L l e1 e2 => ?_, s.hli⟩, hle⟩
  · show C.gl.set g e = h.gl.set g e; rw [s.hgl]
  · obtain ⟨arr', t', h1, h2, h3⟩ := s.hbx k cs B e1 e2
    exact ⟨arr', t', h1, h2.mono hle, h3⟩
  · by_cases h1 : g' = g
    · subst h1; rw [hgN] at hy; exact (hx y hy).1
    · rw [hga g' h1] at hy; exact s.hgr g' y (hlen _ hg') hy
  · have k1 := hlen _ hg1
    have k2 := hlen _ hg2
    by_cases h1 : g1 = g <;> by_cases h2 : g2 = g
    · omega
    · subst h1; rw [hgN] at hy; rw [hga g2 h2] at hy'; exact absurd e1.symm (hnot y hy g2 y' k2 h2 hy')
    · subst h2; rw [hgN] at hy'; rw [hga g1 h1] at hy; exact absurd e1 (hnot y' hy' g1 y k1 h1 hy)
    · rw [hga g1 h1] at hy; rw [hga g2 h2] at hy'; exact s.hgi g1 g2 y y' k1 k2 hy hy' e1
  · have k1 := hlen _ hg'
    by_cases h1 : g' = g
    · subst h1; rw [hgN] at hy
      intro e2
      rcases (hx y hy).2 with h4 | ⟨z, hz, h4⟩
      · exact h4 (.inl ⟨k, e2⟩)
      · exact s.hgb g' k z k1 hz (by rw [h4]; exact e2)
    · rw [hga g' h1] at hy; exact s.hgb g' k y k1 hy
  · obtain ⟨r, h1, h2⟩ := s.hlr j L l e1 e2
    exact ⟨r, h1, ⟨h2.htm.mono hle, h2.hpa, h2.has, h2.hbo, h2.hst⟩⟩
theorem Ext.grow {C : Ctx} {w w' : World} (e : Ext C w C w') {gl : List Nat} {g : Nat} {x : Option (Nat × Nat × Nat)} (hle : CLe C (C.grow gl g x)) (hgl : ∀ g', g' < gl.length → g' = g ∨ g' < C.gl.length) (hb : ∀ y, x = some y → w.heap.size ≤ y.1 ∨ Trk C y.1) : Ext C w (C.grow gl g x) w' := by
  refine ⟨hle, e.hsz, e.hos, e.htape, e.hout, e.hun, fun b' hb' => ?_, fun _ _ _ h => .inl h⟩
  rcases hb' with ⟨k', hk⟩ | ⟨g', y, hg', hy, hgb⟩ | ⟨j, hj⟩
  · exact .inl (.inl ⟨k', hk⟩)
  · have hy : (if g' = g then x else C.ga g') = some y := hy
    split at hy
    · subst hgb; exact (hb y hy).elim .inr .inl
    · rename_i h1
      exact .inl (.inr (.inl ⟨g', y, (hgl g' hg').resolve_left h1, hy, hgb⟩))
  · exact .inl (.inr (.inr ⟨j, hj⟩))
end Go.V
namespace Go.V
open Go
set_option linter.unusedVariables false
set_option linter.unusedSimpArgs false

def isCell : AV → Bool
  | .any => false
  | .agg _ => false
  | .tup _ => false
  | _ => true
def AV.cells : AV → List AV
  | .agg cs => cs
  | x => [x]
def AV.w : AV → Option Nat
  | .agg cs => if cs.all isCell then some cs.length else none
  | .any => none
  | .tup _ => none
  | _ => some 1
def AV.isAgg : AV → Bool
  | .agg _ => true
  | _ => false

theorem Reps.get {C : Ctx} {xs : List AV} {vs : Array Value} (h : Reps C xs vs) {i : Nat} {x : AV} (hx : xs[i]? = some x) : ∃ v, vs[i]? = some v ∧ Rep C x v := by
  have hi : i < vs.size := by rw [← h.1]; exact (List.getElem?_eq_some_iff.1 hx).1
  have := h.2 i x hx
  simp only [Array.getD, hi, dif_pos] at this
  exact ⟨vs[i], Array.getElem?_eq_getElem hi, this⟩
theorem Reps.of {C : Ctx} {xs : List AV} {vs : Array Value} (hl : xs.length = vs.size) (h : ∀ (i : Nat) (x : AV) (v : Value), xs[i]? = some x → vs[i]? = some v → Rep C x v) : Reps C xs vs := by
  refine ⟨hl, fun i x hx => ?_⟩
  have hi : i < vs.size := by rw [← hl]; exact (List.getElem?_eq_some_iff.1 hx).1
  simp only [Array.getD, hi, dif_pos]
  exact h i x _ hx (Array.getElem?_eq_getElem hi)
theorem Reps.nil (C : Ctx) : Reps C [] #[] := Reps.of rfl (fun i x v h => by simp at h)
theorem Reps.cons {C : Ctx} {x : AV} {v : Value} {xs : List AV} {vs : List Value} (h : Rep C x v) (k : Reps C xs vs.toArray) : Reps C (x :: xs) (v :: vs).toArray := by
  refine Reps.of (by have := k.1; simp at this; simp [this]) (fun i y u hy hu => ?_)
  cases i with
  | zero => simp at hy hu; subst hy; subst hu; exact h
  | succ i =>
    simp at hy hu
    obtain ⟨u', h1, h2⟩ := k.get hy
    simp at h1
    rw [hu] at h1; cases h1; exact h2
theorem Reps.uncons {C : Ctx} {x : AV} {xs : List AV} {vs : Array Value} (h : Reps C (x :: xs) vs) : ∃ v us, vs = (v :: us).toArray ∧ Rep C x v ∧ Reps C xs us.toArray := by
  cases hv : vs.toList with
  | nil => have := h.1; rw [← Array.length_toList, hv] at this; simp at this
  | cons v us =>
    have e : vs = (v :: us).toArray := by rw [← hv]
    subst e
    refine ⟨v, us, rfl, ?_, Reps.of (by have := h.1; simp at this; simpa using this) fun i y u hy hu => ?_⟩
    · obtain ⟨u, h1, h2⟩ := h.get (i := 0) (x := x) rfl
      simp at h1; subst h1; exact h2
    · obtain ⟨u', h1, h2⟩ := h.get (i := i + 1) (x := y) (by simpa using hy)
      simp at h1 hu; rw [hu] at h1; cases h1; exact h2
theorem reps_list {C : Ctx} {xs : List AV} {vs : Array Value} (h : Reps C xs vs) {i : Nat} {x : AV} (hx : xs[i]? = some x) : ∃ v, vs.toList[i]? = some v ∧ Rep C x v := by
  obtain ⟨v, h1, h2⟩ := h.get hx
  exact ⟨v, by simpa using h1, h2⟩
theorem Reps.take_drop {C : Ctx} {xs : List AV} {vs : Array Value} (h : Reps C xs vs) (o n : Nat) : Reps C ((xs.drop o).take n) (((vs.toList.drop o).take n).toArray) := by
  refine Reps.of (by have := h.1; rw [← Array.length_toList] at this; simp [this]) fun i x v hx hv => ?_
  simp at hv
  rw [List.getElem?_take] at hx hv
  split at hx
  · rename_i hi
    rw [if_pos hi] at hv
    rw [List.getElem?_drop] at hx hv
    obtain ⟨u, h1, h2⟩ := h.get hx
    simp at hv; rw [h1] at hv; cases hv; exact h2
  · cases hx
theorem Reps.append {C : Ctx} {xs ys : List AV} {vs us : List Value} (h : Reps C xs vs.toArray) (k : Reps C ys us.toArray) : Reps C (xs ++ ys) (vs ++ us).toArray := by
  have h1 := h.1
  have k1 := k.1
  simp at h1 k1
  refine Reps.of (by simp [h1, k1]) fun i x v hx hv => ?_
  simp at hv
  by_cases hi : i < xs.length
  · rw [List.getElem?_append_left hi] at hx
    rw [List.getElem?_append_left (by omega)] at hv
    obtain ⟨u, h2, h3⟩ := h.get hx
    simp at h2; rw [hv] at h2; cases h2; exact h3
  · rw [List.getElem?_append_right (by omega)] at hx
    rw [List.getElem?_append_right (by omega), ← h1] at hv
    obtain ⟨u, h2, h3⟩ := k.get hx
    simp at h2; rw [hv] at h2; cases h2; exact h3
theorem Reps.toArr {C : Ctx} {xs : List AV} {vs : Array Value} (h : Reps C xs vs) : Reps C xs vs.toList.toArray := by simpa using h

theorem Rep.one {C : Ctx} {x : AV} {v : Value} (h : Rep C x v) (hx : isCell x = true) : v.oneCell' = true := by
  cases h <;> first | rfl | simp [isCell] at hx | skip
  rename_i h; revert h; cases v <;> simp [Go.V.one, Value.oneCell']
structure Cells (C : Ctx) (x : AV) (v : Value) (n : Nat) : Prop where
  hv : v.cells.size = n
  hx : x.cells.length = n
  hr : Reps C x.cells v.cells
  h1 : ∀ u ∈ v.cells, u.oneCell' = true
  hc : ∀ y ∈ x.cells, isCell y = true
theorem Rep.cells {C : Ctx} {x : AV} {v : Value} (h : Rep C x v) {n : Nat} (hw : x.w = some n) : Cells C x v n := by
  have scal : isCell x = true → x.cells = [x] → x.w = some 1 → Cells C x v n := fun hc hx hw' => by
    rw [hw'] at hw; cases hw
    have h1 := h.one hc
    have e : v.cells = #[v] := by cases v <;> first | rfl | simp [Value.oneCell'] at h1
    refine ⟨by rw [e]; rfl, by rw [hx]; rfl, ?_, ?_, ?_⟩
    · rw [e, hx]; exact Reps.cons h (Reps.nil C)
    · rw [e]; intro u hu; simp at hu; subst hu; exact h1
    · rw [hx]; intro y hy; simp at hy; subst hy; exact hc
  cases h with
  | any v => simp [AV.w] at hw
  | tup cs vs hl h => simp [AV.w] at hw
  | agg cs vs hl h =>
    simp only [AV.w] at hw
    split at hw
    · rename_i hall
      cases hw
      have hr : Reps C cs vs := ⟨hl, h⟩
      refine ⟨hl.symm, rfl, hr, fun u hu => ?_, fun y hy => List.all_eq_true.1 hall y hy⟩
      obtain ⟨i, hi, rfl⟩ := Array.mem_iff_getElem.1 hu
      have hi : i < vs.size := hi
      have hxi : cs[i]? = some (cs[i]'(by omega)) := List.getElem?_eq_getElem (by omega)
      obtain ⟨u, h2, h3⟩ := hr.get hxi
      have h4 : vs[i]? = some vs[i] := Array.getElem?_eq_getElem hi
      rw [h4] at h2; cases h2
      exact h3.one (List.all_eq_true.1 hall _ (List.getElem_mem _))
    · cases hw
  | _ => exact scal rfl rfl rfl
theorem Rep.agg_inv {C : Ctx} {x : AV} {v : Value} (h : Rep C x v) (ha : x.isAgg = true) : ∃ vs, v = .agg vs := by
  cases h <;> simp [AV.isAgg] at ha
  exact ⟨_, rfl⟩

/-! ### Operands -/
def ofVal0 (v : Value) : AV :=
  match v with
  | .slice none 0 0 => .row .full []
  | v => if v.oneCell' then .lit v else .any
def ofVal (v : Value) : AV :=
  match v with
  | .agg cs => .agg (cs.toList.map ofVal0)
  | .tuple cs => .tup (cs.toList.map ofVal0)
  | v => ofVal0 v
theorem rep_nil (C : Ctx) : Rep C (.row .full []) (.slice none 0 0) :=
  .row .full [] none 0 0 0 (fun _ => default) rfl (Nat.le_refl _) (by omega) (fun i x h => by simp at h) (fun i h => by omega) (fun i j u h => by omega) rfl
theorem rep_ofVal0 (C : Ctx) (v : Value) : Rep C (ofVal0 v) v := by
  unfold ofVal0
  split
  · exact rep_nil C
  · split
    · rename_i h; refine .lit _ ?_; revert h; cases v <;> simp [Go.V.one, Value.oneCell']
    · exact .any _
theorem rep_ofVals (C : Ctx) (cs : Array Value) : Reps C (cs.toList.map ofVal0) cs := by
  refine Reps.of (by simp) fun i x v hx hv => ?_
  simp at hx
  rw [hv] at hx; simp at hx; subst hx; exact rep_ofVal0 C v
theorem rep_ofVal (C : Ctx) (v : Value) : Rep C (ofVal v) v := by
  unfold ofVal
  split
  · exact .agg _ _ (rep_ofVals C _).1 (rep_ofVals C _).2
  · exact .tup _ _ (rep_ofVals C _).1 (rep_ofVals C _).2
  · exact rep_ofVal0 C _
def ev (tm : List AV) : Operand → AV
  | .tmp t => tm.getD t .any
  | .const v => ofVal v
  | .global g => .lit (.pointer (some ⟨g, 0, none⟩))
  | .func f => .lit (.func (.func f) #[] #[])
theorem rep_ev {C : Ctx} {tm : List AV} {a : Act} (h : Reps C tm a.tmps) (x : Operand) : Rep C (ev tm x) (a.eval x) := by
  cases x with
  | tmp t =>
    by_cases ht : t < tm.length
    · have hx : tm[t]? = some tm[t] := List.getElem?_eq_getElem ht
      obtain ⟨v, h1, h2⟩ := h.get hx
      simp only [ev, Act.eval, List.getD, hx, Option.getD_some, Array.getD_eq_getD_getElem?, h1]
      exact h2
    · simp only [ev, List.getD, List.getElem?_eq_none (Nat.le_of_not_lt ht), Option.getD_none]
      exact .any _
  | const v => exact rep_ofVal C v
  | global g => exact .lit _ rfl
  | func f => exact .lit _ rfl

/-! ### What an operation leads to -/
def Upon (P : Program) (K : Value → World → Prop) : Result Next → Prop
  | .ok (.value v) w => K v w
  | .ok .skip w => K undef w
  | .ok (.enter f args) w => Calls P f args w fun e w' => ∃ v, e = .returned v ∧ K v w'
  | .ok (.round l f tmps assign body) w => ∀ n, RoundIn Fence.wide n P l f tmps assign body w fun e w' => ∃ v, e = .returned v ∧ K v w'
  | _ => False
def Post (C : Ctx) (w : World) (K : AV → Hp → Prop) (v : Value) (w' : World) : Prop := ∃ r h' C', K r h' ∧ Ext C w C' w' ∧ Sim C' h' w' ∧ Rep C' r v
theorem Post.same {C : Ctx} {h : Hp} {w : World} {K : AV → Hp → Prop} {r : AV} {v : Value} (s : Sim C h w) (k : K r h) (hr : Rep C r v) : Post C w K v w := ⟨r, h, C, k, .refl C w, s, hr⟩
theorem Upon.mono {P : Program} {K K' : Value → World → Prop} {r : Result Next} (h : ∀ v w, K v w → K' v w) (k : Upon P K r) : Upon P K' r := by
  cases r with
  | ok x w =>
    cases x <;> simp only [Upon] at k ⊢ <;> first | exact h _ _ k | exact Calls.mono k (fun e w' ⟨v, h1, h2⟩ => ⟨v, h1, h _ _ h2⟩) | exact fun n => (k n).mono (fun e w' ⟨v, h1, h2⟩ => ⟨v, h1, h _ _ h2⟩)
  | halt x w => exact k.elim
def AOp (P : Program) (o : Oper) (E : Operand → AV) (h : Hp) (K : AV → Hp → Prop) : Prop :=
  ∀ C w ρ, Sim C h w → (∀ v, ρ (.const v) = v) → (∀ x ∈ o.op.operands, Rep C (E x) (ρ x)) → Upon P (Post C w K) ((execOp ρ o).run P w)
/-- A call of a function value. -/
def callSem (v : Value) (vs : Array Value) : Sem Next := do let d ← Deferred.ofValue v vs; invoke d.target d.args
def ACallV (P : Program) (x : AV) (args : List AV) (h : Hp) (K : AV → Hp → Prop) : Prop :=
  ∀ C w v vs, Sim C h w → Rep C x v → Reps C args vs → Upon P (Post C w K) ((callSem v vs).run P w)
theorem ACallV.mono {P : Program} {x : AV} {args : List AV} {h : Hp} {K K' : AV → Hp → Prop} (k : ACallV P x args h K) (hk : ∀ r h', K r h' → K' r h') : ACallV P x args h K' :=
  fun C w v vs s r rs => (k C w v vs s r rs).mono fun u w' ⟨r', h', C', h1, h2, h3, h4⟩ => ⟨r', h', C', hk _ _ h1, h2, h3, h4⟩

/-! ### Types -/
def tAgg (P : Program) (t : TypeId) : Option Bool :=
  match P.underlying t with
  | some (.struct _) => some true
  | some (.array _ _) => some true
  | some _ => some false
  | none => none
def tSize (P : Program) (t : TypeId) : Option Nat := (P.info? t).map (·.size)
def tBytes (P : Program) (t : TypeId) : Option Nat := (P.info? t).map (·.bytes)
def tZero (P : Program) (t : TypeId) : Option Value := (P.info? t).bind (·.zero)
def tElem (P : Program) (t : TypeId) : Option TypeId :=
  match P.underlying t with
  | some (.slice e) => some e
  | _ => none
def tField (P : Program) (t : TypeId) (i : Nat) : Option (Nat × TypeId) :=
  match P.underlying t with
  | some (.struct fs) => (fs[i]?).map fun f => (f.offset, f.type)
  | _ => none
theorem tAgg_run {P : Program} {t : TypeId} {b : Bool} (h : tAgg P t = some b) (w : World) : (isAgg t).run P w = .ok b w := by
  unfold tAgg at h
  cases hu : P.underlying t with
  | none => rw [hu] at h; cases h
  | some d => rw [hu] at h; unfold isAgg; cases d <;> simp_all [run_underlying hu]
theorem tSize_run {P : Program} {t : TypeId} {n : Nat} (h : tSize P t = some n) (w : World) : (sizeOf t).run P w = .ok n w := by
  unfold tSize at h
  cases hi : P.info? t with
  | none => rw [hi] at h; cases h
  | some i => rw [hi] at h; simp at h; simp [sizeOf, typeInfo, hi, h, program, Sem.run]
theorem tZero_run {P : Program} {t : TypeId} {z : Value} (h : tZero P t = some z) (w : World) : (zeroValue t).run P w = .ok z w := by
  unfold tZero at h
  cases hi : P.info? t with
  | none => rw [hi] at h; cases h
  | some i => rw [hi] at h; simp at h; simp [zeroValue, typeInfo, hi, h, program, Sem.run]

/-! ### Loads and stores -/
theorem add_lit (b o n : Nat) : Addr.add ⟨b, o, none⟩ n = ⟨b, o + n, none⟩ := Addr.add_lit b o n
/-- A variable that lies in cells that are known. -/
theorem load_run {P : Program} {w : World} {t : TypeId} {b o : Nat} {cs : List Value} {n : Nat} (hn : tSize P t = some n) (hc : ∀ j v, cs[j]? = some v → w.cell? ⟨b, o + j, none⟩ = some v) :
    (tAgg P t = some true → cs.length = n → (Instr.loadAt t (.pointer (some ⟨b, o, none⟩))).run P w = .ok (.agg cs.toArray) w) ∧
    (tAgg P t = some false → ∀ v, cs[0]? = some v → (Instr.loadAt t (.pointer (some ⟨b, o, none⟩))).run P w = .ok v w) := by
  constructor
  · intro ha hl
    have h1 := run_loadCells_list (P := P) w ⟨b, o, none⟩ cs (fun j v hj => by rw [add_lit]; exact hc j v hj)
    rw [hl] at h1
    simp [Instr.loadAt, Instr.sureAddr, loadVar, tAgg_run ha, tSize_run hn, h1]
  · intro ha v hv
    have h1 := hc 0 v hv
    rw [Nat.add_zero] at h1
    simp [Instr.loadAt, Instr.sureAddr, loadVar, tAgg_run ha, h1]
def aloadC (P : Program) (t : TypeId) (cs : List AV) (o : Nat) (K : AV → Prop) : Prop :=
  match tAgg P t, tSize P t with
  | some true, some n => if o = 0 ∧ cs.length = n then K (.agg cs) else o + n ≤ cs.length ∧ K (.agg ((cs.drop o).take n))
  | some false, some _ => match cs[o]? with
    | some x => K x
    | none => False
  | _, _ => False
def aload (P : Program) (t : TypeId) (a : AV) (h : Hp) (K : AV → Prop) : Prop :=
  match a with
  | .ptr k o => match h.bx[k]? with
    | some cs => aloadC P t cs o K
    | none => False
  | .eptr x o => match x.w with
    | some m => if o = 0 ∧ tAgg P t = some true ∧ tSize P t = some m ∧ x.isAgg = true then K x else aloadC P t x.cells o K
    | none => False
  | _ => False
theorem aloadC_run {P : Program} {C : Ctx} {w : World} {t : TypeId} {cs : List AV} {arr : Array Value} {b o off : Nat} {K : AV → Prop} (hr : Reps C cs arr) (hc : ∀ j v, arr[j]? = some v → w.cell? ⟨b, o + j, none⟩ = some v) (h : aloadC P t cs off K) :
    ∃ v r, (Instr.loadAt t (.pointer (some ⟨b, o + off, none⟩))).run P w = .ok v w ∧ Rep C r v ∧ K r := by
  unfold aloadC at h
  split at h
  · rename_i n ha hn
    have key : off + n ≤ cs.length → (Instr.loadAt t (.pointer (some ⟨b, o + off, none⟩))).run P w = .ok (.agg ((arr.toList.drop off).take n).toArray) w := fun hle => by
      refine (load_run hn (fun j v hj => ?_)).1 ha ?_
      · rw [List.getElem?_take] at hj
        split at hj
        · rw [List.getElem?_drop] at hj
          rw [Nat.add_assoc]; exact hc _ _ (by simpa using hj)
        · cases hj
      · have := hr.1; simp; omega
    have hrep : Rep C (.agg ((cs.drop off).take n)) (.agg ((arr.toList.drop off).take n).toArray) := .agg _ _ (hr.take_drop off n).1 (hr.take_drop off n).2
    split at h
    · rename_i hw
      obtain ⟨rfl, hl⟩ := hw
      refine ⟨_, _, key (by omega), hrep, ?_⟩
      rw [List.drop_zero, ← hl, List.take_length]; exact h
    · exact ⟨_, _, key h.1, hrep, h.2⟩
  · rename_i m ha hn
    split at h
    · rename_i x hx
      obtain ⟨v, h1, h2⟩ := hr.get hx
      refine ⟨v, x, (load_run (cs := [v]) hn (fun j u hj => ?_)).2 ha v rfl, h2, h⟩
      cases j with
      | zero => simp at hj; subst hj; exact hc _ _ h1
      | succ j => simp at hj
    · exact h.elim
  · exact h.elim
theorem Sim.box {C : Ctx} {h : Hp} {w : World} (s : Sim C h w) {k : Nat} {cs : List AV} (hk : h.bx[k]? = some cs) : ∃ B arr t, C.mu k = some B ∧ w.heap[B]? = some (.cells arr t (0, 0)) ∧ Reps C cs arr ∧ ∀ j v, arr[j]? = some v → w.cell? ⟨B, 0 + j, none⟩ = some v := by
  have h1 := (s.hmu k).2 (List.getElem?_eq_some_iff.1 hk).1
  cases e : C.mu k with
  | none => rw [e] at h1; cases h1
  | some B =>
    obtain ⟨arr, t, h2, h3, _⟩ := s.hbx k cs B hk e
    exact ⟨B, arr, t, rfl, h2, h3, fun j v hj => by simp [World.cell?, h2, hj]⟩
theorem aload_run {P : Program} {C : Ctx} {h : Hp} {w : World} {t : TypeId} {a : AV} {u : Value} {K : AV → Prop} (s : Sim C h w) (ha : Rep C a u) (hl : aload P t a h K) :
    ∃ v r, (Instr.loadAt t u).run P w = .ok v w ∧ Rep C r v ∧ K r := by
  unfold aload at hl
  split at hl
  · rename_i k o
    cases ha with
    | ptr _ _ B hB =>
      split at hl
      · rename_i cs hcs
        obtain ⟨B', arr, t', h1, h2, h3, h4⟩ := s.box hcs
        rw [hB] at h1; cases h1
        have := aloadC_run h3 h4 hl
        simpa using this
      · exact hl.elim
  · rename_i x o
    cases ha with
    | eptr _ _ v B o' hx hm =>
      split at hl
      · rename_i m hw
        have hc := hx.cells hw
        have hcell : ∀ j u, v.cells[j]? = some u → w.cell? ⟨B, o' + j, none⟩ = some u := fun j u hj => s.hM _ _ _ (hm j u hj)
        split at hl
        · rename_i hif
          obtain ⟨rfl, hA, hS, hG⟩ := hif
          obtain ⟨vs, rfl⟩ := hx.agg_inv hG
          refine ⟨.agg vs, x, ?_, hx, hl⟩
          have := (load_run (P := P) (w := w) (t := t) (b := B) (o := o' + 0) (cs := vs.toList) hS (fun j u hj => by rw [Nat.add_zero]; exact hcell j u (by simpa [Value.cells] using hj))).1 hA (by rw [Array.length_toList]; exact hc.hv)
          simpa using this
        · exact aloadC_run hc.hr hcell hl
      · exact hl.elim
  · exact hl.elim
def splice (cs : List AV) (o : Nat) (xs : List AV) : List AV := cs.take o ++ xs ++ cs.drop (o + xs.length)
def astore (P : Program) (t : TypeId) (a v : AV) (h : Hp) (K : AV → Hp → Prop) : Prop :=
  match a with
  | .ptr k o => match h.bx[k]?, tSize P t, v.w with
    | some cs, some n, some m => m = n ∧ o + n ≤ cs.length ∧ K .any { h with bx := h.bx.set k (splice cs o v.cells) }
    | _, _, _ => False
  | _ => False
theorem Reps.splice {C : Ctx} {cs xs : List AV} {arr vs : Array Value} (h : Reps C cs arr) (k : Reps C xs vs) (o : Nat) (hle : o + xs.length ≤ cs.length) :
    Reps C (Go.V.splice cs o xs) (arr.toList.take o ++ vs.toList ++ arr.toList.drop (o + vs.size)).toArray := by
  unfold Go.V.splice
  have h1 := h.take_drop 0 o
  have h2 := h.take_drop (o + xs.length) cs.length
  simp only [List.drop_zero] at h1
  rw [List.take_of_length_le (l := cs.drop (o + xs.length)) (by simp), List.take_of_length_le (l := arr.toList.drop (o + xs.length)) (by have := h.1; simp [this])] at h2
  rw [k.1] at h2 ⊢
  have h3 := (h1.append k.toArr).append h2
  exact h3
theorem setRow_others (w : World) (g : Nat) (cs : Array Value) : (w.setRow g cs).os = w.os ∧ (w.setRow g cs).tape = w.tape ∧ (w.setRow g cs).output = w.output := ⟨rfl, rfl, rfl⟩
theorem astore_run {P : Program} {C : Ctx} {h : Hp} {w : World} {t : TypeId} {a v : AV} {u u' : Value} {K : AV → Hp → Prop} (s : Sim C h w) (ha : Rep C a u) (hv : Rep C v u') (hl : astore P t a v h K) :
    ∃ w', (Instr.storeAt t u u').run P w = .ok () w' ∧ Post C w K undef w' := by
  unfold astore at hl
  split at hl
  · rename_i k o
    cases ha with
    | ptr _ _ B hB =>
      split at hl
      · rename_i cs n m hcs hn hw
        obtain ⟨rfl, hle, hK⟩ := hl
        obtain ⟨B', arr, t', h1, h2, h3, h4⟩ := s.box hcs
        rw [hB] at h1; cases h1
        have hc := hv.cells hw
        have hlen : cs.length = arr.size := h3.1
        have hst := run_storeCells_at P B o t' u'.cells.toList 0 arr w h2 (by rw [Array.length_toList, hc.hv]; omega) (fun v hv => hc.h1 v (by simpa using hv))
        simp only [Nat.add_zero] at hst
        refine ⟨_, by simp [Instr.storeAt, Instr.sureAddr, storeVar, tSize_run hn, hc.hv]; exact hst, .any, _, C, hK, ?_, ?_, .any _⟩
        · exact Ext.setBox (.inl ⟨k, hB⟩) (by simp) rfl rfl rfl (fun b hb => setRow_other w B b _ hb)
        · refine s.setBox hB (setRow_heap w B arr _ t' (0, 0) h2) ?_ (fun b hb => setRow_other w B b _ hb)
          have := h3.splice hc.hr o (by rw [hc.hx]; exact hle)
          rwa [← Array.length_toList (xs := u'.cells)] at this
      · exact hl.elim
  · exact hl.elim
end Go.V
namespace Go.V
open Go
set_option linter.unusedVariables false
set_option linter.unusedSimpArgs false

/-! ### Cells of elements, one behind the other -/
def flat (f : Nat → List Value) : Nat → List Value
  | 0 => []
  | n + 1 => flat f n ++ f n
theorem flat_length (f : Nat → List Value) (s : Nat) : ∀ n, (∀ i, i < n → (f i).length = s) → (flat f n).length = n * s
  | 0, _ => by simp [flat]
  | n + 1, h => by rw [flat, List.length_append, flat_length f s n (fun i hi => h i (by omega)), h n (by omega), Nat.succ_mul]
theorem flat_get (f : Nat → List Value) (s : Nat) : ∀ n, (∀ i, i < n → (f i).length = s) → ∀ i j, i < n → j < s → (flat f n)[i * s + j]? = (f i)[j]?
  | 0, _, _, _, hi, _ => by omega
  | n + 1, h, i, j, hi, hj => by
    have hl := flat_length f s n (fun i hi => h i (by omega))
    have hs : i * s + j < (i + 1) * s := by rw [Nat.succ_mul]; omega
    rw [flat]
    by_cases e : i < n
    · have : (i + 1) * s ≤ n * s := Nat.mul_le_mul_right _ e
      rw [List.getElem?_append_left (by omega)]
      exact flat_get f s n (fun i hi => h i (by omega)) i j e hj
    · obtain rfl : i = n := by omega
      rw [List.getElem?_append_right (by omega), hl, Nat.add_sub_cancel_left]
/-- Where a cell of so many elements lies. -/
theorem flat_at (f : Nat → List Value) (s : Nat) (n : Nat) (h : ∀ i, i < n → (f i).length = s) (k : Nat) (v : Value) (hk : (flat f n)[k]? = some v) : ∃ i j, i < n ∧ j < s ∧ k = i * s + j ∧ (f i)[j]? = some v := by
  have hlt : k < n * s := by rw [← flat_length f s n h]; exact (List.getElem?_eq_some_iff.1 hk).1
  have hs : 0 < s := Nat.pos_of_ne_zero (fun e => by subst e; simp at hlt)
  refine ⟨k / s, k % s, (Nat.div_lt_iff_lt_mul hs).2 hlt, Nat.mod_lt _ hs, (Nat.div_add_mod' k s).symm, ?_⟩
  rw [← flat_get f s n h (k / s) (k % s) ((Nat.div_lt_iff_lt_mul hs).2 hlt) (Nat.mod_lt _ hs), Nat.div_add_mod' k s]; exact hk
theorem mod_at {s i j : Nat} (hj : j < s) : (i * s + j) % s = j := by rw [Nat.mul_comm, Nat.mul_add_mod, Nat.mod_eq_of_lt hj]
theorem div_at {s i j : Nat} (hj : j < s) : (i * s + j) / s = i := by
  rw [Nat.mul_comm, Nat.mul_add_div (by omega), Nat.div_eq_of_lt hj, Nat.add_zero]

/-- All elements are of so many cells. -/
def rowW (s : Nat) (xs : List AV) : Prop := ∀ x ∈ xs, x.w = some s
theorem rowW_nil (s : Nat) : rowW s [] := fun x h => by cases h
theorem rowW_cons {s : Nat} {x : AV} {xs : List AV} (h : x.w = some s) (k : rowW s xs) : rowW s (x :: xs) := fun y hy => by
  rcases List.mem_cons.1 hy with rfl | hy
  · exact h
  · exact k y hy
theorem rowW_append {s : Nat} {xs ys : List AV} (h : rowW s xs) (k : rowW s ys) : rowW s (xs ++ ys) := fun y hy => (List.mem_append.1 hy).elim (h y) (k y)
theorem rowW_map {α : Type} {s : Nat} {f : α → AV} (h : ∀ a, (f a).w = some s) (l : List α) : rowW s (l.map f) := fun y hy => by
  obtain ⟨a, _, rfl⟩ := List.mem_map.1 hy; exact h a
theorem rowW_take {s : Nat} {xs : List AV} (h : rowW s xs) (n : Nat) : rowW s (xs.take n) := fun y hy => h y (List.mem_of_mem_take hy)
theorem rowW_drop {s : Nat} {xs : List AV} (h : rowW s xs) (n : Nat) : rowW s (xs.drop n) := fun y hy => h y (List.mem_of_mem_drop hy)

/-- A row, opened: its values, each of s cells, s being what the elements are wide. -/
structure Row (C : Ctx) (gr : Gr) (xs : List AV) (A : Option Addr) (n c s : Nat) (val : Nat → Value) : Prop where
  hn : n = xs.length
  hc : n ≤ c
  hb : c < 9223372036854775808
  h : ∀ i x, xs[i]? = some x → Rep C x (val i)
  hs : ∀ i, i < n → (val i).cells.size = s
  hm : ∀ i j u, i < n → (val i).cells[j]? = some u → ∃ a, A = some a ∧ a.spot = none ∧ C.M a.block (a.off + i * s + j) = some u
  hg : GrOk C gr A n c s
  h1 : ∀ i u, i < n → u ∈ (val i).cells → u.oneCell' = true
theorem Rep.row_inv {C : Ctx} {gr : Gr} {xs : List AV} {v : Value} {s : Nat} (hr : Rep C (.row gr xs) v) (hw : rowW s xs) (hat : ∀ g e s', gr = .at g e s' → s' = s) :
    ∃ A n c val, v = .slice A n c ∧ Row C gr xs A n c s val := by
  cases hr with
  | row _ _ A n c s0 val hn hc hb h hs hm hg =>
    have hcells : ∀ i, i < n → Cells C (xs.getD i .any) (val i) s := fun i hi => by
      have hx : xs[i]? = some (xs[i]'(by omega)) := List.getElem?_eq_getElem (by omega)
      have := (h i _ hx).cells (hw _ (List.getElem_mem _))
      simpa [List.getD, hx] using this
    refine ⟨A, n, c, val, rfl, ?_⟩
    by_cases h0 : n = 0
    · have hg' : GrOk C gr A n c s := by
        cases gr with
        | no => trivial
        | full => exact hg
        | «at» g e s' =>
          obtain ⟨a1, a2⟩ := hg
          have := hat g e s' rfl
          subst this; subst a1; exact ⟨rfl, a2⟩
      exact ⟨hn, hc, hb, h, fun i hi => by omega, fun i j u hi => by omega, hg', fun i u hi => by omega⟩
    · have e : s0 = s := by rw [← hs 0 (by omega)]; exact (hcells 0 (by omega)).hv
      subst e
      exact ⟨hn, hc, hb, h, hs, hm, hg, fun i u hi hu => (hcells i hi).h1 u hu⟩
theorem Row.rep {C : Ctx} {gr : Gr} {xs : List AV} {A : Option Addr} {n c s : Nat} {val : Nat → Value} (h : Row C gr xs A n c s val) : Rep C (.row gr xs) (.slice A n c) := .row gr xs A n c s val h.hn h.hc h.hb h.h h.hs h.hm h.hg
theorem Row.cells {C : Ctx} {h : Hp} {w : World} {gr : Gr} {xs : List AV} {A : Option Addr} {n c s : Nat} {val : Nat → Value} (sim : Sim C h w) (r : Row C gr xs A n c s val) :
    (flat (fun i => (val i).cells.toList) n).length = n * s ∧ (∀ a, A = some a → ∀ j u, (flat (fun i => (val i).cells.toList) n)[j]? = some u → w.cell? (a.add j) = some u) ∧ (A = none → n * s = 0) ∧ ∀ u ∈ flat (fun i => (val i).cells.toList) n, u.oneCell' = true := by
  have hl : ∀ i, i < n → ((fun i => (val i).cells.toList) i).length = s := fun i hi => by simp [r.hs i hi]
  refine ⟨flat_length _ s n hl, fun a ha j u hj => ?_, fun hA => ?_, fun u hu => ?_⟩
  · obtain ⟨i, k, hi, hk, rfl, hv⟩ := flat_at _ s n hl j u hj
    obtain ⟨a', h1, h2, h3⟩ := r.hm i k u hi (by simpa using hv)
    rw [ha] at h1; cases h1
    have := sim.hM _ _ _ h3
    obtain ⟨b, o, sp⟩ := a
    simp at h2; subst h2
    rw [add_lit, ← Nat.add_assoc]; exact this
  · refine Nat.eq_zero_of_not_pos fun hp => ?_
    have hn : 0 < n := Nat.pos_of_mul_pos_right hp
    have hs0 : 0 < s := Nat.pos_of_mul_pos_left hp
    obtain ⟨a, h1, _⟩ := r.hm 0 0 _ hn (Array.getElem?_eq_getElem (by rw [r.hs 0 hn]; exact hs0))
    rw [hA] at h1; cases h1
  · obtain ⟨j, hj, rfl⟩ := List.mem_iff_getElem.1 hu
    obtain ⟨i, k, hi, hk, _, hv⟩ := flat_at _ s n hl j _ (List.getElem?_eq_getElem hj)
    exact r.h1 i _ hi (Array.mem_of_getElem? (by simpa using hv))
theorem Row.src {P : Program} {C : Ctx} {h : Hp} {w : World} {gr : Gr} {xs : List AV} {A : Option Addr} {n c s : Nat} {val : Nat → Value} (sim : Sim C h w) (r : Row C gr xs A n c s val) (hs : 0 < s) {tx e : TypeId} (ht : P.underlying tx = some (.slice e)) :
    Src P s tx (.slice A n c) n (flat (fun i => (val i).cells.toList) n) w := by
  obtain ⟨h1, h2, h3, h4⟩ := r.cells sim
  cases A with
  | none =>
    have hn : n = 0 := by
      have := h3 rfl
      rcases Nat.eq_zero_or_pos n with h | h
      · exact h
      · have := Nat.mul_pos h hs; omega
    subst hn; exact Src.ofNil w ht c
  | some a => exact Src.ofSlice w ht a n c _ h1 (h2 a rfl) h4
theorem Row.first {P : Program} {C : Ctx} {h : Hp} {w : World} {gr : Gr} {xs : List AV} {A : Option Addr} {n c s : Nat} {val : Nat → Value} (sim : Sim C h w) (r : Row C gr xs A n c s val) :
    (Builtin.firstCells s n (.slice A n c)).run P w = .ok (flat (fun i => (val i).cells.toList) n).toArray w := by
  obtain ⟨h1, h2, h3, h4⟩ := r.cells sim
  cases A with
  | none =>
    have : flat (fun i => (val i).cells.toList) n = [] := List.length_eq_zero_iff.1 (by rw [h1]; exact h3 rfl)
    rw [run_firstCells_none, this]
  | some a => exact run_firstCells_some w s n a n c _ h1 (h2 a rfl)
/-- Elements of two rows. -/
def valApp (n : Nat) (f g : Nat → Value) (i : Nat) : Value := if i < n then f i else g (i - n)
theorem flat_app (s n m : Nat) (f g : Nat → Value) : flat (fun i => (valApp n f g i).cells.toList) (n + m) = flat (fun i => (f i).cells.toList) n ++ flat (fun i => (g i).cells.toList) m := by
  have h0 : flat (fun i => (valApp n f g i).cells.toList) n = flat (fun i => (f i).cells.toList) n := by
    have : ∀ k, k ≤ n → flat (fun i => (valApp n f g i).cells.toList) k = flat (fun i => (f i).cells.toList) k := by
      intro k
      induction k with
      | zero => intro _; rfl
      | succ k ih => intro hk; rw [flat, flat, ih (by omega)]; simp [valApp, show k < n by omega]
    exact this n (Nat.le_refl _)
  induction m with
  | zero => simp [flat, h0]
  | succ m ih => rw [← Nat.add_assoc, flat, ih, flat, List.append_assoc]; simp only [valApp]; rw [if_neg (by omega), Nat.add_sub_cancel_left]
/-- A row in one block of known cells that are claimed. -/
theorem Row.made {C : Ctx} {xs : List AV} {b o n c s : Nat} {val : Nat → Value} (hn : n = xs.length) (hc : n ≤ c) (hb : c < 9223372036854775808) (h : ∀ i x, xs[i]? = some x → Rep C x (val i)) (hs : ∀ i, i < n → (val i).cells.size = s)
    (h1 : ∀ i u, i < n → u ∈ (val i).cells → u.oneCell' = true) (hM : ∀ j u, (flat (fun i => (val i).cells.toList) n)[j]? = some u → C.M b (o + j) = some u) (gr : Gr) (hg : GrOk C gr (some ⟨b, o, none⟩) n c s) : Row C gr xs (some ⟨b, o, none⟩) n c s val := by
  refine ⟨hn, hc, hb, h, hs, fun i j u hi hj => ⟨_, rfl, rfl, ?_⟩, hg, h1⟩
  have hjs : j < s := by have := (Array.getElem?_eq_some_iff.1 hj).1; rw [hs i hi] at this; exact this
  rw [Nat.add_assoc]
  refine hM _ _ ?_
  rw [flat_get _ s n (fun i hi => by simp [hs i hi]) i j hi hjs]
  simpa using hj

/-! ### append -/
theorem setCells_row {w : World} {b o : Nat} {cur : Array Value} {t : TypeId} {vs : List Value} (hb : w.heap[b]? = some (.cells cur t (0, 0))) (hl : o + vs.length ≤ cur.size) (h1 : ∀ v ∈ vs, v.oneCell' = true) :
    w.setCells b o vs = w.setRow b (cur.toList.take o ++ vs ++ cur.toList.drop (o + vs.length)).toArray := by
  have e1 := run_storeCells_cells (P := default) b o vs 0 w (fun j hj => by simp [World.cell?, hb]; omega) (fun j hj => by simp [World.frozen?, hb]) h1
  have e2 := run_storeCells_at default b o t vs 0 cur w hb (by omega) h1
  rw [e1] at e2
  simp only [Nat.add_zero] at e2
  injection e2
/-- A growing row's block is written behind its mark. -/
theorem Sim.writeGr {C : Ctx} {h : Hp} {w w' : World} (s : Sim C h w) {g : Nat} {x : Nat × Nat × Nat} {arr arr' : Array Value} {t : TypeId} (hg : g < C.gl.length) (hx : C.ga g = some x) (hb : w.heap[x.1]? = some (.cells arr t (0, 0))) (hb' : w'.heap[x.1]? = some (.cells arr' t (0, 0)))
    (hsz : arr'.size = arr.size) (hlow : ∀ o, o < x.2.1 → arr'[o]? = arr[o]?) (ho : ∀ b, b ≠ x.1 → w'.heap[b]? = w.heap[b]?) : Sim C h w' := by
  obtain ⟨arr0, t0, hb0, hsz0, hM0⟩ := s.hgr g x hg hx
  rw [hb] at hb0; cases hb0
  refine ⟨fun b o v e => ?_, s.hgl, s.hmu, fun k cs B e1 e2 => ?_, s.hinj, fun g' x' hg' hx' => ?_, s.hgi, s.hgb, s.hlp, fun j L l e1 e2 => ?_, s.hli⟩
  · by_cases hbx : b = x.1
    · subst hbx
      have hlt : o < x.2.1 := Nat.lt_of_not_le fun hle => by rw [hM0 o hle] at e; cases e
      have := s.hM _ _ _ e
      simp only [World.cell?, hb, hb'] at this ⊢
      rw [hlow o hlt]; exact this
    · rw [cell_of_heap (ho b hbx)]; exact s.hM b o v e
  · rw [ho B (fun e => s.hgb g k x hg hx (by rw [e2, e]))]; exact s.hbx k cs B e1 e2
  · by_cases hgg : x'.1 = x.1
    · obtain rfl := s.hgi g' g x' x hg' hg hx' hx hgg
      rw [hx] at hx'; cases hx'
      exact ⟨arr', t, hb', by rw [hsz]; exact hsz0, hM0⟩
    · rw [ho _ hgg]; exact s.hgr g' x' hg' hx'
  · rw [ho l (fun e => s.gr_ne_loop hg hx (by rw [e2, e]))]; exact s.hlr j L l e1 e2
/-- The mark of what is appended to: a new one, or the next one. -/
def grNext (gr : Gr) (h : Hp) (sz : Nat) : Option (Gr × List Nat) :=
  match gr with
  | .no => none
  | .full => some (.at h.gl.length 0 sz, h.gl ++ [0])
  | .at g e s' => if s' = sz ∧ h.gl[g]? = some e then some (.at g (e + 1) sz, h.gl.set g (e + 1)) else none
/-- What takes the next mark: a block where the row goes on, or none at all. -/
theorem Sim.nextGr {C : Ctx} {h : Hp} {w : World} (s : Sim C h w) {gr gr' : Gr} {gl' : List Nat} {sz : Nat} (hgr : grNext gr h sz = some (gr', gl')) (x : Option (Nat × Nat × Nat))
    (hx : ∀ y, x = some y → GrBlk C w y ∧ (¬ Trk C y.1 ∨ ∃ g e s', gr = .at g e s' ∧ ∃ z, C.ga g = some z ∧ z.1 = y.1)) :
    ∃ C', Sim C' { h with gl := gl' } w ∧ CLe C C' ∧ C'.M = C.M ∧ C'.mu = C.mu ∧ (∀ C0 w0 w1, Ext C0 w0 C w1 → (∀ y, x = some y → w0.heap.size ≤ y.1 ∨ Trk C0 y.1) → Ext C0 w0 C' w1) ∧
      (∀ A n c, (c = n ∨ ∃ a size, A = some a ∧ a.spot = none ∧ x = some (a.block, a.off + n * sz, size) ∧ a.off + c * sz ≤ size) → GrOk C' gr' A n c sz) ∧
      ∀ g'' y, g'' < C'.gl.length → C'.ga g'' = some y → x = some y ∨ (g'' < C.gl.length ∧ C.ga g'' = some y ∧ ∀ g e s', gr = .at g e s' → g'' ≠ g) := by
  have ext : ∀ (gl : List Nat) (g : Nat), CLe C (C.grow gl g x) → (∀ g', g' < gl.length → g' = g ∨ g' < C.gl.length) → ∀ C0 w0 w1, Ext C0 w0 C w1 → (∀ y, x = some y → w0.heap.size ≤ y.1 ∨ Trk C0 y.1) → Ext C0 w0 (C.grow gl g x) w1 := by
    intro gl g hle hgl C0 w0 w1 he hy
    refine ⟨he.le.trans hle, he.hsz, he.hos, he.htape, he.hout, he.hun, fun b hb => ?_, fun b o v h => he.hMn b o v h⟩
    rcases hb with ⟨k', hk⟩ | ⟨g', y, hg', hy', hgb⟩ | ⟨j, hj⟩
    · exact he.htr b (.inl ⟨k', hk⟩)
    · have hy' : (if g' = g then x else C.ga g') = some y := hy'
      split at hy'
      · subst hgb; exact (hy y hy').elim .inr .inl
      · rename_i h1
        exact he.htr b (.inr (.inl ⟨g', y, (hgl g' hg').resolve_left h1, hy', hgb⟩))
    · exact he.htr b (.inr (.inr ⟨j, hj⟩))
  cases gr with
  | no => simp [grNext] at hgr
  | full =>
    simp only [grNext, Option.some.injEq, Prod.mk.injEq] at hgr
    obtain ⟨rfl, rfl⟩ := hgr
    have hx' : ∀ y, x = some y → GrBlk C w y ∧ ¬ Trk C y.1 := fun y hy => ⟨(hx y hy).1, (hx y hy).2.resolve_right (fun ⟨g, e, s', h, _⟩ => by cases h)⟩
    obtain ⟨h1, h2⟩ := s.newGrow 0 x hx'
    refine ⟨_, h1, h2, rfl, rfl, ext _ _ h2 (fun g' hg' => by simp at hg'; omega), fun A n c hc => ?_, fun g'' y hg'' hy => ?_⟩
    · rw [← s.hgl]
      refine ⟨rfl, by simp [Ctx.grow], Nat.zero_le _, fun _ => ?_⟩
      rcases hc with hc | ⟨a, size, h3, h4, h5, h6⟩
      · exact .inl hc
      · exact .inr ⟨a, size, h3, h4, by rw [← h5]; exact if_pos rfl, h6⟩
    · have k : g'' < (C.gl ++ [0]).length := hg''
      simp at k
      have hy : (if g'' = C.gl.length then x else C.ga g'') = some y := hy
      split at hy
      · exact .inl hy
      · exact .inr ⟨by omega, hy, fun g e s' h => by cases h⟩
  | «at» g e s' =>
    simp only [grNext] at hgr
    split at hgr
    · rename_i hif
      obtain ⟨rfl, hge⟩ := hif
      simp only [Option.some.injEq, Prod.mk.injEq] at hgr
      obtain ⟨rfl, rfl⟩ := hgr
      rw [← s.hgl] at hge
      have hg : g < C.gl.length := (List.getElem?_eq_some_iff.1 hge).1
      have hgD : C.gl.getD g 0 = e := by simp [List.getD, hge]
      obtain ⟨h1, h2⟩ := s.moreGrow (g := g) (e := e + 1) x hg (by omega) (fun y hy => ⟨(hx y hy).1, (hx y hy).2.imp id (fun ⟨g1, e1, s1, h, z⟩ => by cases h; exact z)⟩)
      rw [← s.hgl]
      rw [← s.hgl] at h1
      refine ⟨_, h1, h2, rfl, rfl, ext _ _ h2 (fun g' hg' => by simp at hg'; exact .inr hg'), fun A n c hc => ?_, fun g'' y hg'' hy => ?_⟩
      · refine ⟨rfl, by simpa [Ctx.grow] using hg, by simp [Ctx.grow, List.getD, List.getElem?_set_self hg], fun _ => ?_⟩
        rcases hc with hc | ⟨a, size, h3, h4, h5, h6⟩
        · exact .inl hc
        · exact .inr ⟨a, size, h3, h4, by rw [← h5]; exact if_pos rfl, h6⟩
      · have k : g'' < (C.gl.set g (e + 1)).length := hg''
        rw [List.length_set] at k
        have hy : (if g'' = g then x else C.ga g'') = some y := hy
        split at hy
        · exact .inl hy
        · rename_i hne; exact .inr ⟨k, hy, fun g1 e1 s1 h => by cases h; exact hne⟩
    · cases hgr
theorem append_run {P : Program} {C : Ctx} {h : Hp} {w : World} {t tx ty e : TypeId} {i : TypeInfo} {z : Value} {gr gr' gr2 : Gr} {gl' : List Nat} {xs ys : List AV} {A A2 : Option Addr} {n c m c2 s : Nat} {val val2 : Nat → Value} (sim : Sim C h w) (ht : P.underlying t = some (.slice e)) {e2 : TypeId} (htx : P.underlying tx = some (.slice e2)) (hi : P.info? e = some i) (hz : i.zero = some z) (hsz : i.size = s) (hs : 0 < s) (hzs : z.cells.size = s)
    (hx : Row C gr xs A n c s val) (hy : Row C gr2 ys A2 m c2 s val2) (hgr : grNext gr h s = some (gr', gl')) (hfit : (n + m) * i.bytes ≤ 140737488355328) (hlen : n + m ≤ 140737488355328) (K : AV → Hp → Prop) (hK : K (.row gr' (xs ++ ys)) { h with gl := gl' }) :
    ∃ v w', (Builtin.append_ #[t, tx] ty #[.slice A n c, .slice A2 m c2]).run P w = .ok v w' ∧ Post C w K v w' := by
  subst hsz
  have hsrc := hy.src sim hs htx
  obtain ⟨l1, l2, l3, l4⟩ := hy.cells sim
  obtain ⟨k1, k2, k3, k4⟩ := hx.cells sim
  have hN : n + m = (xs ++ ys).length := by rw [List.length_append, hx.hn, hy.hn]
  have hval : ∀ C', CLe C C' → ∀ i x, (xs ++ ys)[i]? = some x → Rep C' x (valApp n val val2 i) := fun C' hle i x hix => by
    by_cases hin : i < n
    · rw [List.getElem?_append_left (by have := hx.hn; omega)] at hix
      simp only [valApp, hin, if_true]; exact (hx.h i x hix).mono hle
    · rw [List.getElem?_append_right (by have := hx.hn; omega)] at hix
      simp only [valApp, hin, if_false]; rw [hx.hn]; exact (hy.h _ x hix).mono hle
  have hvs : ∀ j, j < n + m → (valApp n val val2 j).cells.size = i.size := fun j hj => by
    by_cases hin : j < n
    · simp only [valApp, hin, if_true]; exact hx.hs j hin
    · simp only [valApp, hin, if_false]; exact hy.hs _ (by omega)
  have hv1 : ∀ j u, j < n + m → u ∈ (valApp n val val2 j).cells → u.oneCell' = true := fun j u hj hu => by
    by_cases hin : j < n
    · simp only [valApp, hin, if_true] at hu; exact hx.h1 j u hin hu
    · simp only [valApp, hin, if_false] at hu; exact hy.h1 _ u (by omega) hu
  by_cases hm0 : m = 0
  · -- nothing is appended
    subst hm0
    have hrun := run_append_nothing (P := P) w t tx ty e i ht hi A n c hx.hc _ (by simpa [flat] using hsrc)
    refine ⟨_, w, hrun, ?_⟩
    have hys : ys = [] := List.length_eq_zero_iff.1 hy.hn.symm
    subst hys
    rw [List.append_nil] at hK
    -- the block, if it has one
    have hblk : ∃ x : Option (Nat × Nat × Nat), (∀ y : Nat × Nat × Nat, x = some y → GrBlk C w y ∧ (¬ Trk C y.1 ∨ ∃ g e s', gr = .at g e s' ∧ ∃ z, C.ga g = some z ∧ z.1 = y.1)) ∧ (∀ y, x = some y → Trk C y.1) ∧
        (c = n ∨ ∃ a size, A = some a ∧ a.spot = none ∧ x = some (a.block, a.off + n * i.size, size) ∧ a.off + c * i.size ≤ size) := by
      cases gr with
      | no => simp [grNext] at hgr
      | full => exact ⟨none, ⟨fun y hy => (by cases hy), ⟨fun y hy => (by cases hy), Or.inl hx.hg⟩⟩⟩
      | «at» g e' s' =>
        simp only [grNext] at hgr
        split at hgr
        · rename_i hif
          obtain ⟨rfl, hge⟩ := hif
          obtain ⟨_, hg1, _, hg3⟩ := hx.hg
          have hgD : C.gl.getD g 0 = e' := by rw [sim.hgl]; simp [List.getD, hge]
          refine ⟨C.ga g, fun y hy => ⟨sim.hgr g y hg1 hy, .inr ⟨g, e', _, rfl, y, hy, rfl⟩⟩, fun y hy => .inr (.inl ⟨g, y, hg1, hy, rfl⟩), ?_⟩
          exact hg3 hgD
        · cases hgr
    obtain ⟨x, hx1, hx2, hx3⟩ := hblk
    obtain ⟨C', c1, c2', c3, c4, c5, c6, _⟩ := sim.nextGr hgr x hx1
    refine ⟨_, _, C', hK, c5 C w w (.refl C w) (fun y hy => .inr (hx2 y hy)), c1, ?_⟩
    exact (Row.rep (C := C') (s := i.size) (val := val) ⟨hx.hn, hx.hc, hx.hb, fun i x hix => (hx.h i x hix).mono c2', hx.hs, fun a b u ha hb => let ⟨q, q1, q2, q3⟩ := hx.hm a b u ha hb; ⟨q, q1, q2, by rw [c3]; exact q3⟩, c6 _ _ _ hx3, hx.h1⟩)
  · by_cases hroom : n + m ≤ c
    · -- there is room: the row is a growing one, at its mark
      have hat : ∃ g e' s', gr = .at g e' s' := by
        cases gr with
        | no => simp [grNext] at hgr
        | full => have : c = n := hx.hg; omega
        | «at» g e' s' => exact ⟨g, e', s', rfl⟩
      obtain ⟨g, e', s', rfl⟩ := hat
      have hgr0 := hgr
      simp only [grNext] at hgr
      split at hgr
      case isFalse => cases hgr
      case isTrue hif =>
      obtain ⟨rfl, hge⟩ := hif
      obtain ⟨_, hg1, _, hg3⟩ := hx.hg
      have hgD : C.gl.getD g 0 = e' := by rw [sim.hgl]; simp [List.getD, hge]
      rcases hg3 hgD with hcn | ⟨a, size, rfl, hsp, hga, hcap⟩
      · omega
      · obtain ⟨b, o, sp⟩ := a
        simp only at hsp hga hcap
        subst hsp
        obtain ⟨arr, tb, hb, hbs, hbM⟩ := sim.hgr g _ hg1 hga
        simp only at hb hbs hbM
        have hmul : (n + m) * i.size ≤ c * i.size := Nat.mul_le_mul_right _ hroom
        rw [Nat.add_mul] at hmul
        have hfitc : o + n * i.size + (flat (fun i => (val2 i).cells.toList) m).length ≤ arr.size := by rw [l1, hbs]; omega
        have hrun := run_append_room_src (P := P) w t tx ty e i ht hi b o n c _ m _ hsrc hroom (fun j hj => by simp [World.cell?, hb]; omega) (fun j hj => by simp [World.frozen?, hb])
        rw [setCells_row hb hfitc l4] at hrun
        refine ⟨_, _, hrun, ?_⟩
        generalize harr : (arr.toList.take (o + n * i.size) ++ flat (fun i => (val2 i).cells.toList) m ++ arr.toList.drop (o + n * i.size + (flat (fun i => (val2 i).cells.toList) m).length)).toArray = arr'
        have hsz' : arr'.size = arr.size := by rw [← harr]; simp; omega
        have hlow : ∀ q, q < o + n * i.size → arr'[q]? = arr[q]? := fun q hq => by
          rw [← harr]
          simp only [List.getElem?_toArray]
          rw [List.append_assoc, List.getElem?_append_left (by simp; omega), List.getElem?_take, if_pos hq]; simp
        have hnew : ∀ q u, (flat (fun i => (val2 i).cells.toList) m)[q]? = some u → arr'[o + n * i.size + q]? = some u := fun q u hq => by
          have hql := (List.getElem?_eq_some_iff.1 hq).1
          rw [← harr]
          simp only [List.getElem?_toArray]
          rw [List.append_assoc, List.getElem?_append_right (by simp; omega), List.getElem?_append_left (by simp; omega)]
          simp
          rw [show o + n * i.size + q - min (o + n * i.size) arr.size = q by omega]; exact hq
        have hw' : (w.setRow b arr').heap[b]? = some (.cells arr' tb (0, 0)) := setRow_heap w b arr arr' tb (0, 0) hb
        have sim1 : Sim C h (w.setRow b arr') := sim.writeGr hg1 hga hb hw' hsz' hlow (fun b' hb' => setRow_other w b b' arr' hb')
        obtain ⟨C', c1, c2', c3, c4, c5, c6, c9⟩ := sim1.nextGr hgr0 (some (b, o + (n + m) * i.size, size)) (fun y hy => by
          cases hy
          refine ⟨⟨arr', tb, hw', by rw [hsz', hbs], fun q hq => hbM q ?_⟩, .inr ⟨g, e', _, rfl, _, hga, rfl⟩⟩
          simp only at hq
          rw [Nat.add_mul] at hq; omega)
        -- the new cells are claimed
        have sim2 := c1.claim (b := b) (f := fun q => if q < o + (n + m) * i.size then (if o + n * i.size ≤ q then arr'[q]? else none) else none) (fun q u hq => by
            split at hq
            · split at hq
              · simp [World.cell?, hw', hq]
              · cases hq
            · cases hq)
          (fun k hk => sim.hgb g k _ hg1 hga (by rw [c4] at hk; exact hk))
          (fun g'' y hg'' hy hyb q hq => by
            rcases c9 g'' y hg'' hy with h9 | ⟨d1, d2, d3⟩
            · cases h9
              simp only at hq
              rw [if_neg (by omega)]
            · exact absurd (sim.hgi g'' g y _ d1 hg1 d2 hga hyb) (d3 g e' _ rfl))
        have hext : Ext C w C' (w.setRow b arr') := c5 C w _ (Ext.setBox (.inr (.inl ⟨g, _, hg1, hga, rfl⟩)) (by simp) rfl rfl rfl (fun b' hb' => setRow_other w b b' arr' hb')) (fun y hy => by cases hy; exact .inr (.inr (.inl ⟨g, _, hg1, hga, rfl⟩)))
        have hextM : Ext C w (C'.claim b fun q => if q < o + (n + m) * i.size then (if o + n * i.size ≤ q then arr'[q]? else none) else none) (w.setRow b arr') :=
          ⟨hext.le.trans (CLe.claim C' b _), hext.hsz, hext.hos, hext.htape, hext.hout, hext.hun, hext.htr, fun b' o' v' hv' => (claim_M hv').elim (hext.hMn b' o' v') fun ⟨h1, _⟩ => .inr (.inl (h1 ▸ .inr (.inl ⟨g, _, hg1, hga, rfl⟩)))⟩
        refine ⟨_, _, _, hK, hextM, sim2, ?_⟩
        have hle2 := c2'.trans (CLe.claim C' b (fun q => if q < o + (n + m) * i.size then (if o + n * i.size ≤ q then arr'[q]? else none) else none))
        refine Row.rep (s := i.size) (val := valApp n val val2) (Row.made hN hroom hx.hb (hval _ hle2) hvs hv1 (fun j u hj => ?_) gr' ((c6 _ _ _ (.inr ⟨⟨b, o, none⟩, size, rfl, rfl, rfl, hcap⟩)).mono (CLe.claim C' b _)))
        rw [flat_app i.size n m] at hj
        by_cases hjn : j < n * i.size
        · rw [List.getElem?_append_left (by omega)] at hj
          obtain ⟨p, q, hp, hq, rfl, hv⟩ := flat_at _ i.size n (fun p hp => by simp [hx.hs p hp]) j u hj
          obtain ⟨a', q1, q2, q3⟩ := hx.hm p q u hp (by simpa using hv)
          cases q1
          exact (CLe.claim C' b _).hM _ _ _ (c2'.hM _ _ _ (by rw [← Nat.add_assoc]; exact q3))
        · rw [List.getElem?_append_right (by omega), k1] at hj
          have hjl := (List.getElem?_eq_some_iff.1 hj).1
          rw [l1] at hjl
          refine claim_here ?_ ?_
          · rw [c3]; exact hbM _ (by omega)
          · rw [if_pos (by rw [Nat.add_mul]; omega), if_pos (by omega)]
            have := hnew _ u hj
            rwa [show o + n * i.size + (j - n * i.size) = o + j by omega] at this
    · -- there is none: a new block
      have hdrew : Sim C h w.drew := sim.drew _
      have hrun := run_append_grow_src (P := P) w t tx ty e i z ht hi hz A n c _ (hx.first hdrew) _ m _ hsrc (by omega) (by omega) (growslice_fits (by omega) hfit)
      refine ⟨_, _, hrun, ?_⟩
      have hcap1 : n + m ≤ grownCap w (n + m) c e := grownCap_ge w _ _ _
      have hcap2 : grownCap w (n + m) c e < 9223372036854775808 := by
        have := grownCap_le_maxLen w (n + m) c e (by unfold maxLen; omega)
        unfold maxLen at this; omega
      generalize hcap : grownCap w (n + m) c e = cap at *
      generalize harr : (flat (fun i => (val i).cells.toList) n ++ flat (fun i => (val2 i).cells.toList) m).toArray ++ Builtin.zeroCells z.cells (cap - (n + m)) = arr
      have hsize : arr.size = cap * i.size := by
        rw [← harr, Array.size_append, size_zeroCells, hzs]
        simp only [List.size_toArray, List.length_append, k1, l1]
        rw [← Nat.add_mul, ← Nat.add_mul, Nat.add_sub_cancel' hcap1]
      have hget : ∀ j u, (flat (fun i => (valApp n val val2 i).cells.toList) (n + m))[j]? = some u → arr[j]? = some u := fun j u hj => by
        rw [flat_app i.size n m] at hj
        have hjl := (List.getElem?_eq_some_iff.1 hj).1
        rw [← harr, Array.getElem?_append_left (by simpa using hjl)]
        simpa using hj
      obtain ⟨s1, s2, s3⟩ := hdrew.newRow arr e (0, 0) ((n + m) * i.size)
      have hfl : (flat (fun i => (valApp n val val2 i).cells.toList) (n + m)).length = (n + m) * i.size := flat_length _ _ _ (fun j hj => by simp [hvs j hj])
      generalize hCc : (C.claim w.drew.heap.size fun o => if o < (n + m) * i.size then arr[o]? else none) = Cc at *
      have hle1 : CLe C Cc := by rw [← hCc]; exact CLe.claim C _ _
      have hntrk : ¬ Trk Cc w.heap.size := fun ht => by
        rw [← hCc] at ht
        exact sim.free.1 ht
      obtain ⟨C', c1, c2', c3, c4, c5, c6, _⟩ := s1.nextGr hgr (some (w.heap.size, (n + m) * i.size, arr.size)) (fun y hy => by
        cases hy
        refine ⟨⟨arr, e, alloc_new w.drew _, rfl, fun q hq => ?_⟩, .inl hntrk⟩
        simp only at hq ⊢
        cases hM : Cc.M w.heap.size q with
        | none => rfl
        | some u =>
          rw [← hCc] at hM
          rcases claim_M hM with h1 | ⟨_, _, h1⟩
          · rw [sim.free.2 q] at h1; cases h1
          · rw [if_neg (by omega)] at h1; cases h1)
      refine ⟨_, _, C', hK, ?_, c1, ?_⟩
      · have e1 : Ext C w Cc (w.drew.alloc (.cells arr e (0, 0))) := (Ext.drew C w _).trans s2
        exact c5 C w _ e1 (fun y hy => by cases hy; exact .inl (Nat.le_refl _))
      · refine Row.rep (s := i.size) (val := valApp n val val2) (Row.made hN hcap1 hcap2 (hval _ (hle1.trans c2')) hvs hv1 (fun j u hj => ?_) gr' (c6 _ _ _ (.inr ⟨⟨w.heap.size, 0, none⟩, arr.size, rfl, rfl, by simp, by rw [hsize]; simp⟩)))
        rw [c3, Nat.zero_add]
        exact s3 j u (by rw [← hfl]; exact (List.getElem?_eq_some_iff.1 hj).1) (hget j u hj)
end Go.V
namespace Go.V
open Go
set_option linter.unusedVariables false
set_option linter.unusedSimpArgs false

/-! ### Numbers, texts -/
def abinI (op : BinOp) (k : IntKind) (x : Int) (k' : IntKind) (y : Int) (K : AV → Prop) : Prop :=
  match op with
  | .shl => 0 ≤ y ∧ K (.lit (.int k (k.wrap (x * 2 ^ (min y.toNat k.bits)))))
  | .shr => 0 ≤ y ∧ K (.lit (.int k (x.fdiv (2 ^ (min y.toNat k.bits)))))
  | .add => k = k' ∧ K (.lit (.int k (k.wrap (x + y))))
  | .sub => k = k' ∧ K (.lit (.int k (k.wrap (x - y))))
  | .mul => k = k' ∧ K (.lit (.int k (k.wrap (x * y))))
  | .quo => k = k' ∧ y ≠ 0 ∧ K (.lit (.int k (k.wrap (x.tdiv y))))
  | .rem => k = k' ∧ y ≠ 0 ∧ K (.lit (.int k (x.tmod y)))
  | .and => k = k' ∧ K (.lit (.int k (k.wrap (BitVec.ofInt k.bits x &&& BitVec.ofInt k.bits y).toNat)))
  | .or => k = k' ∧ K (.lit (.int k (k.wrap (BitVec.ofInt k.bits x ||| BitVec.ofInt k.bits y).toNat)))
  | .xor => k = k' ∧ K (.lit (.int k (k.wrap (BitVec.ofInt k.bits x ^^^ BitVec.ofInt k.bits y).toNat)))
  | .andNot => k = k' ∧ K (.lit (.int k (k.wrap (BitVec.ofInt k.bits x &&& ~~~ BitVec.ofInt k.bits y).toNat)))
  | .eql => k = k' ∧ K (.lit (.bool (decide (x = y))))
  | .neq => k = k' ∧ K (.lit (.bool (!decide (x = y))))
  | .lss => k = k' ∧ K (.lit (.bool (decide (x < y))))
  | .leq => k = k' ∧ K (.lit (.bool (decide (x ≤ y))))
  | .gtr => k = k' ∧ K (.lit (.bool (decide (y < x))))
  | .geq => k = k' ∧ K (.lit (.bool (decide (y ≤ x))))
def abinS (op : BinOp) (x y : ByteArray) (K : AV → Prop) : Prop :=
  match op with
  | .add => x.size + y.size ≤ 9223372036854775807 ∧ K (.lit (.string (x ++ y)))
  | .eql => K (.lit (.bool (x.toList == y.toList)))
  | .neq => K (.lit (.bool (!(x.toList == y.toList))))
  | _ => False
def flatF (P : Program) : List Field → Nat → Bool
  | [], _ => true
  | f :: fs, i => (match P.underlying f.type with
    | some (.int _) => true
    | _ => false) && f.name != "_" && f.offset == i && tAgg P f.type == some false && flatF P fs (i + 1)
theorem eqFields_ints {P : Program} {w : World} {d : Nat} : ∀ (fs : List Field) (i : Nat) (xs ys : Array Value) (as bs : List Int), flatF P fs i = true → as.length = fs.length → bs.length = fs.length →
    (∀ j (a : Int), as[j]? = some a → xs[i + j]? = some (.int .i64 a)) → (∀ j (b : Int), bs[j]? = some b → ys[i + j]? = some (.int .i64 b)) → (Op.eqFields (d + 1) xs ys fs).run P w = .ok (as == bs) w
  | [], i, xs, ys, as, bs, _, ha, hb, _, _ => by
    obtain rfl := List.length_eq_zero_iff.1 ha
    obtain rfl := List.length_eq_zero_iff.1 hb
    rfl
  | f :: fs, i, xs, ys, as, bs, hf, ha, hb, hx, hy => by
    cases as with
    | nil => simp at ha
    | cons a as =>
      cases bs with
      | nil => simp at hb
      | cons b bs =>
        simp only [flatF, Bool.and_eq_true, beq_iff_eq, bne_iff_ne] at hf
        obtain ⟨⟨⟨⟨h1, h2⟩, h3⟩, h4⟩, h5⟩ := hf
        have ih := eqFields_ints (w := w) (d := d) fs (i + 1) xs ys as bs h5 (by simpa using ha) (by simpa using hb) (fun j v hj => by have := hx (j + 1) v (by simpa using hj); rw [show i + 1 + j = i + (j + 1) by omega]; exact this) (fun j v hj => by have := hy (j + 1) v (by simpa using hj); rw [show i + 1 + j = i + (j + 1) by omega]; exact this)
        have x0 := hx 0 a rfl
        have y0 := hy 0 b rfl
        simp only [Nat.add_zero] at x0 y0
        split at h1
        · rename_i k hk
          rw [Op.eqFields, if_pos h2]
          simp only [Sem.run_bind, part, tAgg_run h4, h3, x0, y0, Result.andThen_ok, Bool.false_eq_true, if_false]
          show (((Op.equalIn (d + 1) f.type (.int .i64 a) (.int .i64 b)).run P w).andThen _) = _
          rw [run_equalIn_int w d f.type .i64 k a b hk]
          simp only [Result.andThen_ok]
          cases hab : a == b with
          | true => simp only [Bool.not_true, Bool.false_eq_true, if_false]; rw [ih]; simp [List.cons_beq_cons, hab]
          | false => simp [List.cons_beq_cons, hab]
        · cases h1
def i64s : List AV → Option (List Int)
  | [] => some []
  | .lit (.int .i64 a) :: l => match i64s l with
    | some as => some (a :: as)
    | none => none
  | _ => none
theorem i64s_get : ∀ (l : List AV) (as : List Int), i64s l = some as → as.length = l.length ∧ ∀ (j : Nat) (a : Int), as[j]? = some a → l[j]? = some (AV.lit (.int .i64 a))
  | [], as, h => by simp [i64s] at h; subst h; simp
  | x :: l, as, h => by
    unfold i64s at h
    split at h
    · rename_i e; cases e
    · rename_i a l' e
      cases e
      split at h
      · rename_i as' h1
        cases h
        obtain ⟨k1, k2⟩ := i64s_get _ _ h1
        refine ⟨by simp [k1], fun j b hj => ?_⟩
        cases j with
        | zero => simp at hj ⊢; exact hj
        | succ j => simpa using k2 j b (by simpa using hj)
      · cases h
    · cases h
def abinA (P : Program) (op : BinOp) (t : TypeId) (cs ds : List AV) (K : AV → Prop) : Prop :=
  match i64s cs, i64s ds with
  | some as, some bs => P.underlying t = some (.struct (P.fieldsOf t)) ∧ P.stoodInHeld t = false ∧ P.eqGuardType P.depth t = false ∧ flatF P (P.fieldsOf t).toList 0 = true ∧ as.length = (P.fieldsOf t).size ∧ bs.length = (P.fieldsOf t).size ∧ (match op with
    | .eql => K (.lit (.bool (as == bs)))
    | .neq => K (.lit (.bool (!(as == bs))))
    | _ => False)
  | _, _ => False
def abin (P : Program) (op : BinOp) (t : TypeId) (a b : AV) (K : AV → Prop) : Prop :=
  match a, b with
  | .lit (.int k x), .lit (.int k' y) => abinI op k x k' y K
  | .lit (.string x), .lit (.string y) => abinS op x y K
  | .lit (.bool x), .lit (.bool y) => P.underlying t = some .bool ∧ (match op with
    | .eql => K (.lit (.bool (x == y)))
    | .neq => K (.lit (.bool (!(x == y))))
    | _ => False)
  | .agg cs, .agg ds => abinA P op t cs ds K
  | _, _ => False
def binSem (op : BinOp) (t : TypeId) (x y : Operand) (a b : Value) : Sem Value := do eqGuard op t x y a b; binOp op t a b
theorem abinI_run {P : Program} {w : World} {op : BinOp} {t : TypeId} {ox oy : Operand} {k k' : IntKind} {x y : Int} {K : AV → Prop} (h : abinI op k x k' y K) :
    ∃ v, (binSem op t ox oy (.int k x) (.int k' y)).run P w = .ok v w ∧ v.oneCell' = true ∧ K (.lit v) := by
  have guard : (eqGuard op t ox oy (.int k x) (.int k' y)).run P w = .ok () w := by
    cases op <;> simp [eqGuard]
  cases op <;> simp only [abinI] at h
  case shl => exact ⟨_, by simp [binSem, guard, binOp, Op.shift, show ¬ y < 0 by omega], rfl, h.2⟩
  case shr => exact ⟨_, by simp [binSem, guard, binOp, Op.shift, show ¬ y < 0 by omega], rfl, h.2⟩
  all_goals obtain ⟨rfl, h⟩ := h
  case quo => exact ⟨_, by simp [binSem, guard, binOp, Op.intDiv, h.1], rfl, h.2⟩
  case rem => exact ⟨_, by simp [binSem, guard, binOp, Op.intDiv, h.1], rfl, h.2⟩
  case eql => exact ⟨_, by simp [binSem, guard, binOp, Op.intArith, Op.intBits, Op.intCmp]; rfl, rfl, h⟩
  case neq => exact ⟨_, by simp [binSem, guard, binOp, Op.intArith, Op.intBits, Op.intCmp]; rfl, rfl, h⟩
  all_goals exact ⟨_, by simp [binSem, guard, binOp, Op.intArith, Op.intBits, Op.intCmp], rfl, h⟩
theorem equal_bool {P : Program} {t : TypeId} (hu : P.underlying t = some .bool) {a b : Bool} {w : World} : (Op.equal t (.bool a) (.bool b)).run P w = .ok (a == b) w := by
  show (Op.equalIn (9999 + 1) t (.bool a) (.bool b)).run P w = _
  rw [Op.equalIn, Sem.run_bind, run_underlying hu, Result.andThen_ok]
  rfl
theorem abin_run {P : Program} {C : Ctx} {w : World} {op : BinOp} {t : TypeId} {ox oy : Operand} {a b : AV} {u v : Value} {K : AV → Prop} (ha : Rep C a u) (hb : Rep C b v) (h : abin P op t a b K) :
    ∃ x r, (binSem op t ox oy u v).run P w = .ok x w ∧ Rep C r x ∧ K r := by
  unfold abin at h
  split at h
  · cases ha; cases hb
    obtain ⟨x, h1, h2, h3⟩ := abinI_run (P := P) (w := w) (t := t) (ox := ox) (oy := oy) h
    exact ⟨x, _, h1, .lit x (by revert h2; cases x <;> simp [Go.V.one, Value.oneCell']), h3⟩
  · cases ha; cases hb
    rename_i x y _ _
    have guard : (eqGuard op t ox oy (.string x) (.string y)).run P w = .ok () w := by cases op <;> simp [eqGuard]
    cases op <;> simp only [abinS] at h
    case add => 
      have hmax : ¬ (((x.size + y.size : Nat) : Int) > IntKind.i64.max) := by
        have : IntKind.i64.max = 9223372036854775807 := by decide
        rw [this]; omega
      exact ⟨_, _, by simp only [binSem, Sem.run_bind, guard, Result.andThen_ok, binOp, Op.stringOp]; rw [if_neg hmax]; rfl, .lit _ rfl, h.2⟩
    case eql => exact ⟨_, _, by simp [binSem, guard, binOp, Op.stringOp], .lit _ rfl, h⟩
    case neq => exact ⟨_, _, by simp [binSem, guard, binOp, Op.stringOp], .lit _ rfl, h⟩
  · cases ha; cases hb
    rename_i x y _ _
    obtain ⟨hu, h⟩ := h
    have guard : (eqGuard op t ox oy (.bool x) (.bool y)).run P w = .ok () w := by cases op <;> simp [eqGuard]
    cases op <;> simp only at h
    case eql =>
      refine ⟨_, _, ?_, .lit _ rfl, h⟩
      rw [binSem, Sem.run_bind, guard, Result.andThen_ok]
      show ((do pure (.bool (← Op.equal t (.bool x) (.bool y)))) : Sem Value).run P w = _
      rw [Sem.run_bind, equal_bool hu]; rfl
    case neq =>
      refine ⟨_, _, ?_, .lit _ rfl, h⟩
      rw [binSem, Sem.run_bind, guard, Result.andThen_ok]
      show ((do pure (.bool (!(← Op.equal t (.bool x) (.bool y))))) : Sem Value).run P w = _
      rw [Sem.run_bind, equal_bool hu]; rfl
  · rename_i cs ds
    unfold abinA at h
    split at h
    · rename_i as bs hcs hds
      obtain ⟨h1, h2, h3, h4, h5, h6, h⟩ := h
      obtain ⟨a1, a2⟩ := i64s_get _ _ hcs
      obtain ⟨b1, b2⟩ := i64s_get _ _ hds
      cases ha with
      | agg _ xs hl hx =>
      cases hb with
      | agg _ ys hl' hy =>
      have cell : ∀ {l : List AV} {vs : Array Value} {zs : List Int}, l.length = vs.size → (∀ (i : Nat) (x : AV), l[i]? = some x → Rep C x (vs.getD i undef)) → (∀ (j : Nat) (a : Int), zs[j]? = some a → l[j]? = some (AV.lit (.int .i64 a))) → ∀ (j : Nat) (a : Int), zs[j]? = some a → vs[0 + j]? = some (.int .i64 a) := fun {l vs zs} e1 e2 e3 j a hj => by
        have q := e3 j a hj
        have hlt : j < vs.size := by have := (List.getElem?_eq_some_iff.1 q).1; omega
        have r := e2 j _ q
        rw [Array.getD_eq_getD_getElem?, Array.getElem?_eq_getElem hlt, Option.getD_some] at r
        rw [Nat.zero_add, Array.getElem?_eq_getElem hlt]
        generalize vs[j] = v at r
        cases r; rfl
      have run : (Op.equalIn 10000 t (.agg xs) (.agg ys)).run P w = .ok (as == bs) w := by
        rw [run_equalIn_struct w 9999 t xs ys h1 h2]
        exact eqFields_ints (d := 9998) _ 0 xs ys as bs h4 (by simpa using h5) (by simpa using h6) (cell hl hx a2) (cell hl' hy b2)
      cases op <;> simp only at h
      case eql =>
        refine ⟨_, _, ?_, .lit _ rfl, h⟩
        rw [binSem, Sem.run_bind, run_eqGuard_agg w .eql t ox oy xs ys h3, Result.andThen_ok, run_eql_struct w t xs ys, run]; rfl
      case neq =>
        refine ⟨_, _, ?_, .lit _ rfl, h⟩
        rw [binSem, Sem.run_bind, run_eqGuard_agg w .neq t ox oy xs ys h3, Result.andThen_ok, run_neq_struct w t xs ys, run]; rfl
    · exact h.elim
  · exact h.elim
def aun (op : UnOp) (a : AV) (K : AV → Prop) : Prop :=
  match op, a with
  | .not, .lit (.bool b) => K (.lit (.bool (!b)))
  | .neg, .lit (.int k n) => K (.lit (.int k (k.wrap (0 - n))))
  | .xor, .lit (.int k n) => K (.lit (.int k (k.wrap (BitVec.ofInt k.bits (if k.signed then -1 else k.max) ^^^ BitVec.ofInt k.bits n).toNat)))
  | _, _ => False
theorem aun_run {P : Program} {C : Ctx} {w : World} {op : UnOp} {a : AV} {u : Value} {K : AV → Prop} (ha : Rep C a u) (h : aun op a K) : ∃ x r, (Op.unary op u).run P w = .ok x w ∧ Rep C r x ∧ K r := by
  unfold aun at h
  split at h
  · cases ha; exact ⟨_, _, by simp [Op.unary], .lit _ rfl, h⟩
  · cases ha; exact ⟨_, _, by simp [Op.unary, Op.intArith], .lit _ rfl, h⟩
  · cases ha; exact ⟨_, _, by simp [Op.unary, Op.intBits], .lit _ rfl, h⟩
  · exact h.elim
def tInt (P : Program) (t : TypeId) : Option IntKind :=
  match P.underlying t with
  | some (.int k) => some k
  | _ => none
def aconv (P : Program) (src dst : TypeId) (a : AV) (K : AV → Prop) : Prop :=
  match tInt P src, tInt P dst, a with
  | some _, some k, .lit (.int _ n) => K (.lit (.int k (k.wrap n)))
  | _, _, _ => False
theorem tInt_und {P : Program} {t : TypeId} {k : IntKind} (h : tInt P t = some k) : P.underlying t = some (.int k) := by
  unfold tInt at h
  split at h
  · rename_i k' hu; cases h; exact hu
  · cases h
theorem aconv_run {P : Program} {C : Ctx} {w : World} {src dst : TypeId} {a : AV} {u : Value} {K : AV → Prop} (ha : Rep C a u) (h : aconv P src dst a K) : ∃ x r, (convert src dst u).run P w = .ok x w ∧ Rep C r x ∧ K r := by
  unfold aconv at h
  split at h
  · rename_i k1 k n h1 h2
    cases ha
    exact ⟨_, _, by simp [convert, run_underlying (tInt_und h1), run_underlying (tInt_und h2), Conv.intToInt], .lit _ rfl, h⟩
  · exact h.elim

/-! ### What is built -/
def aZero (P : Program) (t : TypeId) : Option (List AV) :=
  match tZero P t with
  | some z => match (ofVal z).w with
    | some _ => some (ofVal z).cells
    | none => none
  | none => none
theorem aZero_inv {P : Program} {C : Ctx} {t : TypeId} {cs : List AV} (h : aZero P t = some cs) : ∃ z, tZero P t = some z ∧ Reps C cs z.cells ∧ (∀ y ∈ cs, isCell y = true) := by
  unfold aZero at h
  split at h
  · rename_i z hz
    split at h
    · rename_i n hn
      cases h
      exact ⟨z, hz, ((rep_ofVal C z).cells hn).hr, ((rep_ofVal C z).cells hn).hc⟩
    · cases h
  · cases h
def tPlaces (P : Program) (t : TypeId) : Option (List (Nat × Nat)) :=
  match P.underlying t with
  | some (.struct fs) => fs.toList.mapM fun f => (tSize P f.type).map fun n => (f.offset, n)
  | _ => none
theorem mapM_run {P : Program} {w : World} : ∀ (fs : List Field) (l : List (Nat × Nat)), (fs.mapM fun f => (tSize P f.type).map fun n => (f.offset, n)) = some l → (fs.mapM (m := Sem) fun f => do pure (f.offset, ← sizeOf f.type)).run P w = .ok l w
  | [], l, h => by simp at h; subst h; simp
  | f :: fs, l, h => by
    cases hn : tSize P f.type with
    | none => rw [List.mapM_cons, hn] at h; simp at h
    | some n =>
      rw [List.mapM_cons, hn] at h
      cases hr : (fs.mapM fun f => (tSize P f.type).map fun n => (f.offset, n)) with
      | none => rw [hr] at h; simp at h
      | some l' =>
        rw [hr] at h; simp at h; subst h
        rw [List.mapM_cons]
        simp only [Sem.run_bind, tSize_run hn, Result.andThen_ok, Sem.run_pure, mapM_run fs l' hr]
theorem tPlaces_run {P : Program} {w : World} {t : TypeId} {l : List (Nat × Nat)} (h : tPlaces P t = some l) : ∃ fs : Array Field, P.underlying t = some (.struct fs) ∧ (fs.mapM (m := Sem) fun f => do pure (f.offset, ← sizeOf f.type)).run P w = .ok l.toArray w := by
  unfold tPlaces at h
  split at h
  · rename_i fs hu
    refine ⟨fs, hu, ?_⟩
    rw [Array.mapM_eq_mapM_toList]
    simp only [Sem.run_map, mapM_run fs.toList l h, Result.andThen_ok]
  · cases h
def fillA (pl : Nat → Option (Nat × Nat)) : List AV → List (Nat × AV) → Option (List AV)
  | cs, [] => some cs
  | cs, (i, x) :: rest => match pl i with
    | some (off, n) => match x.w with
      | some m => if m = n ∧ off + n ≤ cs.length then fillA pl (splice cs off x.cells) rest else none
      | none => none
    | none => none
theorem foldl_set (off : Nat) : ∀ (l : List Value) (j : Nat) (arr : Array Value), off + j + l.length ≤ arr.size → ((l.zipIdx j).foldl (fun cs (x : Value × Nat) => cs.setIfInBounds (off + x.2) x.1) arr).toList = arr.toList.take (off + j) ++ l ++ arr.toList.drop (off + j + l.length)
  | [], j, arr, _ => by simp
  | v :: l, j, arr, h => by
    simp only [List.zipIdx_cons, List.foldl_cons]
    rw [foldl_set off l (j + 1) _ (by simp at h ⊢; omega)]
    have e := list_seg_step arr.toList (off + j) v l (by simp at h ⊢; omega)
    simpa [Array.toList_setIfInBounds, Nat.add_assoc] using e
theorem fill_step (arr vs : Array Value) (off : Nat) (h : off + vs.size ≤ arr.size) : vs.zipIdx.foldl (fun cs (c, j) => cs.setIfInBounds (off + j) c) arr = (arr.toList.take off ++ vs.toList ++ arr.toList.drop (off + vs.size)).toArray := by
  apply Array.ext'
  rw [← Array.foldl_toList, Array.toList_zipIdx]
  have := foldl_set off vs.toList 0 arr (by simpa using h)
  simpa using this
theorem fillA_run {C : Ctx} {pl : Nat → Option (Nat × Nat)} : ∀ (parts : List (Nat × AV)) (vparts : List (Nat × Value)) (cs cs' : List AV) (arr : Array Value), parts.length = vparts.length → (∀ (i : Nat) (p : Nat × AV) (q : Nat × Value), parts[i]? = some p → vparts[i]? = some q → p.1 = q.1 ∧ Rep C p.2 q.2) → Reps C cs arr → fillA pl cs parts = some cs' →
    ∃ arr', Instr.fill pl arr vparts = some arr' ∧ Reps C cs' arr'
  | [], vparts, cs, cs', arr, hl, _, hr, h => by
    simp at hl
    obtain rfl : vparts = [] := List.length_eq_zero_iff.1 hl.symm
    simp [fillA] at h; subst h
    exact ⟨arr, rfl, hr⟩
  | (i, x) :: rest, vparts, cs, cs', arr, hl, hp, hr, h => by
    cases vparts with
    | nil => simp at hl
    | cons q vparts =>
      obtain ⟨h1, h2⟩ := hp 0 (i, x) q rfl rfl
      obtain ⟨i', v⟩ := q
      simp only at h1 h2
      subst h1
      simp only [fillA] at h
      split at h
      · rename_i off n hpl
        split at h
        · rename_i m hw
          split at h
          · rename_i hif
            obtain ⟨rfl, hle⟩ := hif
            have hc := h2.cells hw
            have hlen := hr.1
            have hrs := hr.splice hc.hr off (by rw [hc.hx]; exact hle)
            obtain ⟨arr', h3, h4⟩ := fillA_run rest vparts _ cs' _ (by simpa using hl) (fun j p q hj hq => hp (j + 1) p q (by simpa using hj) (by simpa using hq)) hrs h
            refine ⟨arr', ?_, h4⟩
            simp only [Instr.fill, hpl]
            rw [if_neg (by simp [hc.hv]; omega), fill_step arr v.cells off (by rw [hc.hv]; omega)]
            exact h3
          · cases h
        · cases h
      · cases h
def abuild (P : Program) (t : TypeId) (parts : List (Nat × AV)) (K : AV → Prop) : Prop :=
  match aZero P t, tPlaces P t with
  | some cs, some l => match fillA (l[·]?) cs parts with
    | some cs' => K (.agg cs')
    | none => False
  | _, _ => False
theorem abuild_run {P : Program} {C : Ctx} {w : World} {t : TypeId} {parts : List (Nat × AV)} {vparts : Array (Nat × Value)} {K : AV → Prop} (hl : parts.length = vparts.size) (hp : ∀ (i : Nat) (p : Nat × AV) (q : Nat × Value), parts[i]? = some p → vparts[i]? = some q → p.1 = q.1 ∧ Rep C p.2 q.2) (h : abuild P t parts K) :
    ∃ x r, (Instr.build t vparts).run P w = .ok x w ∧ Rep C r x ∧ K r := by
  unfold abuild at h
  split at h
  · rename_i cs l hz hpl
    split at h
    · rename_i cs' hf
      obtain ⟨z, hz1, hz2, _⟩ := aZero_inv (C := C) hz
      obtain ⟨fs, hu, hm⟩ := tPlaces_run (P := P) (w := w) hpl
      obtain ⟨arr', h1, h2⟩ := fillA_run parts vparts.toList cs cs' z.cells (by simpa using hl) (fun i p q hi hq => hp i p q hi (by simpa using hq)) hz2 hf
      refine ⟨.agg arr', .agg cs', ?_, .agg _ _ h2.1 h2.2, h⟩
      have : (fun x : Nat => l[x]?) = (fun x : Nat => l.toArray[x]?) := by funext x; simp
      rw [this] at h1
      simp only [Instr.build, Sem.run_bind, tZero_run hz1, run_underlying hu, hm, Result.andThen_ok, h1]
      rfl
    · exact h.elim
  · exact h.elim
def setA (sz : Nat) : List AV → List (Nat × AV) → Option (List AV)
  | es, [] => some es
  | es, (i, x) :: rest => if x.w = some sz ∧ i < es.length then setA sz (es.set i x) rest else none
theorem setA_run {C : Ctx} {sz len : Nat} (hsz : 0 < sz) : ∀ (parts : List (Nat × AV)) (vparts : List (Nat × Value)) (es es' : List AV) (arr : Array Value) (val : Nat → Value), parts.length = vparts.length → (∀ (i : Nat) (p : Nat × AV) (q : Nat × Value), parts[i]? = some p → vparts[i]? = some q → p.1 = q.1 ∧ Rep C p.2 q.2) →
    es.length = len → arr.size = len * sz → (∀ i x, es[i]? = some x → Rep C x (val i)) → (∀ i, i < len → (val i).cells.size = sz) → (∀ i j u, i < len → (val i).cells[j]? = some u → arr[i * sz + j]? = some u) → (∀ i u, i < len → u ∈ (val i).cells → u.oneCell' = true) → setA sz es parts = some es' →
    ∃ (arr' : Array Value) (val' : Nat → Value), Instr.fill (fun i => some (i * sz, sz)) arr vparts = some arr' ∧ es'.length = len ∧ arr'.size = len * sz ∧ (∀ i x, es'[i]? = some x → Rep C x (val' i)) ∧ (∀ i, i < len → (val' i).cells.size = sz) ∧ (∀ i j u, i < len → (val' i).cells[j]? = some u → arr'[i * sz + j]? = some u) ∧ (∀ i u, i < len → u ∈ (val' i).cells → u.oneCell' = true)
  | [], vparts, es, es', arr, val, hl, _, h1, h2, h3, h4, h5, h6, h => by
    simp at hl
    obtain rfl : vparts = [] := List.length_eq_zero_iff.1 hl.symm
    simp [setA] at h; subst h
    exact ⟨arr, val, rfl, h1, h2, h3, h4, h5, h6⟩
  | (i, x) :: rest, vparts, es, es', arr, val, hl, hp, h1, h2, h3, h4, h5, h6, h => by
    cases vparts with
    | nil => simp at hl
    | cons q vparts =>
      obtain ⟨e1, e2⟩ := hp 0 (i, x) q rfl rfl
      obtain ⟨i', v⟩ := q
      simp only at e1 e2
      subst e1
      simp only [setA] at h
      split at h
      · rename_i hif
        obtain ⟨hw, hi⟩ := hif
        have hc := e2.cells hw
        rw [h1] at hi
        have hmul : (i + 1) * sz ≤ len * sz := Nat.mul_le_mul_right _ hi
        rw [Nat.succ_mul] at hmul
        have hmi : min i len = i := Nat.min_eq_left (Nat.le_of_lt hi)
        generalize harr : (arr.toList.take (i * sz) ++ v.cells.toList ++ arr.toList.drop (i * sz + v.cells.size)).toArray = arr1
        have hsz1 : arr1.size = len * sz := by rw [← harr]; simp [hc.hv, h2, hmi]; omega
        have hget : ∀ p q u, p < len → ((if p = i then v else val p).cells[q]? = some u) → arr1[p * sz + q]? = some u := by
          intro p q u hp hu
          have hq : q < sz := by
            have := (Array.getElem?_eq_some_iff.1 hu).1
            split at this
            · rw [hc.hv] at this; exact this
            · rw [h4 p hp] at this; exact this
          rw [← harr]
          simp only [List.getElem?_toArray]
          by_cases hpi : p = i
          · subst hpi
            rw [if_pos rfl] at hu
            have hml : min (p * sz) arr.size = p * sz := Nat.min_eq_left (by omega)
            rw [List.append_assoc, List.getElem?_append_right (by simp; omega), List.getElem?_append_left (by simp [hc.hv, hml]; omega)]
            simp
            rw [hml, show p * sz + q - p * sz = q by omega]; exact hu
          · rw [if_neg hpi] at hu
            have h7 := h5 p q u hp hu
            by_cases hlt : p < i
            · have : (p + 1) * sz ≤ i * sz := Nat.mul_le_mul_right _ hlt
              rw [Nat.succ_mul] at this
              rw [List.append_assoc, List.getElem?_append_left (by simp; omega), List.getElem?_take, if_pos (by omega)]; simpa using h7
            · have : (i + 1) * sz ≤ p * sz := Nat.mul_le_mul_right _ (by omega)
              rw [Nat.succ_mul] at this
              have hml : min (i * sz) arr.size = i * sz := Nat.min_eq_left (by omega)
              rw [List.getElem?_append_right (by simp [hc.hv, hml]; omega), List.getElem?_drop]
              simp [hc.hv]
              rw [hml, show i * sz + sz + (p * sz + q - (i * sz + sz)) = p * sz + q by omega]; exact h7
        obtain ⟨arr', val', g1, g2, g3, g4, g5, g6, g7⟩ := setA_run hsz rest vparts (es.set i x) es' arr1 (fun p => if p = i then v else val p) (by simpa using hl) (fun j p q hj hq => hp (j + 1) p q (by simpa using hj) (by simpa using hq)) (by simpa using h1) hsz1
          (fun p y hy => by
            by_cases hpi : p = i
            · subst hpi; rw [if_pos rfl]
              rw [List.getElem?_set_self (by omega)] at hy; cases hy; exact e2
            · rw [if_neg hpi]; rw [List.getElem?_set_ne (Ne.symm hpi)] at hy; exact h3 p y hy)
          (fun p hp => by split; exact hc.hv; exact h4 p hp) hget
          (fun p u hp hu => by split at hu; exact hc.h1 u hu; exact h6 p u hp hu) h
        refine ⟨arr', val', ?_, g2, g3, g4, g5, g6, g7⟩
        simp only [Instr.fill]
        rw [if_neg (by simp [hc.hv, h2, hmi]; omega), fill_step arr v.cells (i * sz) (by rw [hc.hv, h2]; omega), harr]
        exact g1
      · cases h
def abuildSlice (P : Program) (t : TypeId) (len : Nat) (parts : List (Nat × AV)) (K : AV → Prop) : Prop :=
  match tElem P t with
  | some e => match tSize P e, tZero P e with
    | some sz, some z => 0 < sz ∧ len * sz ≤ 16777216 ∧ (ofVal z).w = some sz ∧ (match setA sz (List.replicate len (ofVal z)) parts with
      | some es => K (.row .full es)
      | none => False)
    | _, _ => False
  | none => False
theorem tElem_und {P : Program} {t e : TypeId} (h : tElem P t = some e) : P.underlying t = some (.slice e) := by
  unfold tElem at h
  split at h
  · rename_i e' hu; cases h; exact hu
  · cases h
theorem buildSlice_raw {P : Program} {C : Ctx} {w : World} {t e : TypeId} {len sz : Nat} {z : Value} {es : List AV} {parts : List (Nat × AV)} {vparts : Array (Nat × Value)} (hl : parts.length = vparts.size) (hp : ∀ (i : Nat) (p : Nat × AV) (q : Nat × Value), parts[i]? = some p → vparts[i]? = some q → p.1 = q.1 ∧ Rep C p.2 q.2)
    (he : tElem P t = some e) (hsz : tSize P e = some sz) (hz : tZero P e = some z) (h0 : 0 < sz) (hsmall : len * sz ≤ 16777216) (hw : (ofVal z).w = some sz) (hes : setA sz (List.replicate len (ofVal z)) parts = some es) :
    ∃ (arr : Array Value) (val : Nat → Value), (Instr.buildSlice t len vparts).run P w = .ok (.slice (some ⟨w.heap.size, 0, none⟩) len len) (w.alloc (.cells arr e)) ∧ es.length = len ∧ arr.size = len * sz ∧ (∀ i x, es[i]? = some x → Rep C x (val i)) ∧ (∀ i, i < len → (val i).cells.size = sz) ∧ (∀ i k u, i < len → (val i).cells[k]? = some u → arr[i * sz + k]? = some u) ∧ (∀ i u, i < len → u ∈ (val i).cells → u.oneCell' = true) := by
  have hcz := (rep_ofVal C z).cells hw
  have hz0 : z.cells.size = sz := hcz.hv
  generalize harr0 : ((Array.range (len * sz)).map fun k => z.cells[k % z.cells.size]!) = arr0
  have hs0 : arr0.size = len * sz := by rw [← harr0]; simp
  obtain ⟨arr, val, g1, g2, g3, g4, g5, g6, g7⟩ := setA_run (C := C) (len := len) h0 parts vparts.toList (List.replicate len (ofVal z)) es arr0 (fun _ => z) (by simpa using hl) (fun i p q hi hq => hp i p q hi (by simpa using hq)) (by simp) hs0
    (fun i x hx => by
      rw [List.getElem?_replicate] at hx
      split at hx
      · cases hx; exact rep_ofVal C z
      · cases hx)
    (fun _ _ => hz0)
    (fun i j u hi hj => by
      have hjs : j < sz := by have := (Array.getElem?_eq_some_iff.1 hj).1; rw [hz0] at this; exact this
      have hb : i * sz + j < len * sz := by have : (i + 1) * sz ≤ len * sz := Nat.mul_le_mul_right _ hi; rw [Nat.succ_mul] at this; omega
      rw [← harr0]
      simp [hb, hz0, mod_at hjs]
      rw [getElem!_def, hj])
    (fun i u _ hu => hcz.h1 u hu) hes
  have hrun : (Instr.buildSlice t len vparts).run P w = .ok (.slice (some ⟨w.heap.size, 0, none⟩) len len) (w.alloc (.cells arr e)) := by
    unfold Instr.buildSlice
    have hu := tElem_und he
    by_cases hlen : len * sz = 0
    · have h00 : arr0 = ((Array.range (len * sz)).map fun k => (#[] : Array Value)[k % 0]!) := by rw [← harr0, hlen]; simp
      simp [run_underlying hu, tSize_run hsz, show ¬ (16777216 < len * sz) by omega, hlen, newRow]
      rw [h00, hlen] at g1
      simp at g1
      simp [g1]
    · simp [run_underlying hu, tSize_run hsz, tZero_run hz, show ¬ (16777216 < len * sz) by omega, hlen, harr0, g1, newRow]
  exact ⟨arr, val, hrun, g2, g3, g4, g5, g6, g7⟩
theorem abuildSlice_run {P : Program} {C : Ctx} {h : Hp} {w : World} {t : TypeId} {len : Nat} {parts : List (Nat × AV)} {vparts : Array (Nat × Value)} {K : AV → Prop} (sim : Sim C h w) (hl : parts.length = vparts.size) (hp : ∀ (i : Nat) (p : Nat × AV) (q : Nat × Value), parts[i]? = some p → vparts[i]? = some q → p.1 = q.1 ∧ Rep C p.2 q.2) (hK : abuildSlice P t len parts K) :
    ∃ v w', (Instr.buildSlice t len vparts).run P w = .ok v w' ∧ Post C w (fun r h' => h' = h ∧ K r) v w' := by
  unfold abuildSlice at hK
  split at hK
  · rename_i e he
    split at hK
    · rename_i sz z hsz hz
      obtain ⟨h0, hsmall, hw, hK⟩ := hK
      split at hK
      · rename_i es hes
        obtain ⟨arr, val, hrun, g2, g3, g4, g5, g6, g7⟩ := buildSlice_raw (w := w) hl hp he hsz hz h0 hsmall hw hes
        refine ⟨_, _, hrun, ?_⟩
        obtain ⟨s1, s2, s3⟩ := sim.newRow arr e (0, 0) (len * sz)
        refine ⟨_, h, _, ⟨rfl, hK⟩, s2, s1, ?_⟩
        have hle := s2.le
        refine Row.rep (s := sz) (val := val) (Row.made g2.symm (Nat.le_refl _) (by
          have : len * 1 ≤ len * sz := Nat.mul_le_mul_left _ h0
          omega) (fun i x hx => (g4 i x hx).mono hle) g5 g7 (fun j u hj => ?_) .full rfl)
        have hfl := flat_length (fun i => (val i).cells.toList) sz len (fun i hi => by simp [g5 i hi])
        have hjl : j < len * sz := by rw [← hfl]; exact (List.getElem?_eq_some_iff.1 hj).1
        obtain ⟨i, k, hi, hk, rfl, hv⟩ := flat_at _ sz len (fun i hi => by simp [g5 i hi]) j u hj
        rw [Nat.zero_add]
        exact s3 _ _ hjl (g6 i k u hi (by simpa using hv))
      · exact hK.elim
    · exact hK.elim
  · exact hK.elim
end Go.V
namespace Go.V
open Go
set_option linter.unusedVariables false
set_option linter.unusedSimpArgs false

/-! ### Places -/
def afield (P : Program) (t : TypeId) (x : AV) (f : Nat) (K : AV → Prop) : Prop :=
  match tField P t f with
  | some (off, ft) => match tSize P ft with
    | some (n + 1) => match x with
      | .ptr k o => K (.ptr k (o + off))
      | .eptr y o => K (.eptr y (o + off))
      | _ => False
    | _ => False
  | none => False
theorem tField_und {P : Program} {t : TypeId} {i off : Nat} {ft : TypeId} (h : tField P t i = some (off, ft)) : ∃ fs f, P.underlying t = some (.struct fs) ∧ fs[i]? = some f ∧ f.offset = off ∧ f.type = ft := by
  unfold tField at h
  split at h
  · rename_i fs hu
    cases hf : fs[i]? with
    | none => rw [hf] at h; simp at h
    | some f => rw [hf] at h; simp at h; exact ⟨fs, f, hu, hf, h.1, h.2⟩
  · cases h
theorem fieldAt_run {P : Program} {w : World} {t : TypeId} {i off n : Nat} {ft : TypeId} (h : tField P t i = some (off, ft)) (hn : tSize P ft = some (n + 1)) (b o : Nat) :
    (Instr.fieldAt t (.pointer (some ⟨b, o, none⟩)) i).run P w = .ok (.pointer (some ⟨b, o + off, none⟩)) w := by
  obtain ⟨fs, f, h1, h2, h3, h4⟩ := tField_und h
  subst h3; subst h4
  simp [Instr.fieldAt, run_underlying h1, h2, Instr.sureAddr, fieldPlace, tSize_run hn, add_lit]
theorem afield_run {P : Program} {C : Ctx} {w : World} {t : TypeId} {x : AV} {u : Value} {f : Nat} {K : AV → Prop} (hx : Rep C x u) (h : afield P t x f K) : ∃ v r, (Instr.fieldAt t u f).run P w = .ok v w ∧ Rep C r v ∧ K r := by
  unfold afield at h
  split at h
  · rename_i off ft hf
    split at h
    · rename_i n hn
      split at h
      · cases hx with
        | ptr k o B hB => exact ⟨_, _, fieldAt_run hf hn _ _, .ptr _ _ _ hB, h⟩
      · cases hx with
        | eptr y o v B o' hy hm =>
          refine ⟨_, _, fieldAt_run hf hn _ _, ?_, h⟩
          rw [Nat.add_assoc]
          exact .eptr _ _ _ _ _ hy hm
      · exact h.elim
    · exact h.elim
  · exact h.elim
def tArr (P : Program) (t : TypeId) : Option (Nat × TypeId) :=
  match P.underlying t with
  | some (.array n e) => some (n, e)
  | _ => none
theorem tArr_und {P : Program} {t e : TypeId} {n : Nat} (h : tArr P t = some (n, e)) : P.underlying t = some (.array n e) := by
  unfold tArr at h
  split at h
  · rename_i n' e' hu; cases h; exact hu
  · cases h
/-- The address of an element: of a row that is read, of a row in a box, of an array in a box. -/
def aindexA (P : Program) (t : TypeId) (x i : AV) (K : AV → Prop) : Prop :=
  match x, i with
  | .row gr xs, .lit (.int _ n) => match tElem P t with
    | some e => match tSize P e with
      | some sz => 0 < sz ∧ 0 ≤ n ∧ n < xs.length ∧ (xs.getD n.toNat .any).w = some sz ∧ K (.eptr (xs.getD n.toNat .any) 0)
      | none => False
    | none => False
  | .sl k off len s, .lit (.int _ n) => match tElem P t with
    | some e => tSize P e = some s ∧ 0 ≤ n ∧ n < len ∧ K (.ptr k (off + n.toNat * s))
    | none => False
  | .ptr k off, .lit (.int _ n) => match tArr P t with
    | some (len, e) => match tSize P e with
      | some s => 0 ≤ n ∧ n < len ∧ K (.ptr k (off + n.toNat * s))
      | none => False
    | none => False
  | _, _ => False
theorem aindexA_run {P : Program} {C : Ctx} {w : World} {t : TypeId} {x i : AV} {u v : Value} {K : AV → Prop} (hx : Rep C x u) (hi : Rep C i v) (h : aindexA P t x i K) : ∃ z r, (Instr.indexAt t u v).run P w = .ok z w ∧ Rep C r z ∧ K r := by
  unfold aindexA at h
  split at h
  · rename_i gr xs k n
    cases hi
    split at h
    · rename_i e he
      split at h
      · rename_i sz hsz
        obtain ⟨hpos, h0, h1, hw, hK⟩ := h
        cases hx with
        | row _ _ A m c s val hn hc hb hr hs hm hg =>
          have hlt : n.toNat < xs.length := by omega
          have hxi : xs[n.toNat]? = some (xs.getD n.toNat .any) := by simp [List.getD, List.getElem?_eq_getElem hlt]
          have hrx := hr _ _ hxi
          have hcx := hrx.cells hw
          have hss : s = sz := by rw [← hs n.toNat (by omega)]; exact hcx.hv
          subst hss
          obtain ⟨a, hA, hsp, hM⟩ := hm n.toNat 0 _ (by omega) (Array.getElem?_eq_getElem (by rw [hs n.toNat (by omega)]; omega))
          subst hA
          obtain ⟨b, o, sp⟩ := a
          simp only at hsp; subst hsp
          refine ⟨.pointer (some ⟨b, o + n.toNat * s, none⟩), _, ?_, .eptr _ 0 (val n.toNat) b (o + n.toNat * s) hrx (fun j u hj => ?_), hK⟩
          · have hif : 0 ≤ n ∧ n < (m : Int) := ⟨h0, by omega⟩
            simp [Instr.indexAt, asIntOf, run_underlying (tElem_und he), hif, tSize_run hsz, add_lit]
          · obtain ⟨a', q1, q2, q3⟩ := hm n.toNat j u (by omega) hj
            cases q1; exact q3
      · exact h.elim
    · exact h.elim
  · rename_i k off len s _ n
    cases hi
    split at h
    · rename_i e he
      obtain ⟨hsz, h0, h1, hK⟩ := h
      cases hx with
      | sl _ _ _ _ B c hB hc hb =>
        refine ⟨_, _, ?_, .ptr _ _ _ hB, hK⟩
        have hif : 0 ≤ n ∧ n < (len : Int) := ⟨h0, by omega⟩
        simp [Instr.indexAt, asIntOf, run_underlying (tElem_und he), hif, tSize_run hsz, add_lit]
    · exact h.elim
  · rename_i k off _ n
    cases hi
    split at h
    · rename_i len e he
      split at h
      · rename_i s hsz
        obtain ⟨h0, h1, hK⟩ := h
        cases hx with
        | ptr _ _ B hB =>
          refine ⟨_, _, ?_, .ptr _ _ _ hB, hK⟩
          have hif : 0 ≤ n ∧ n < (len : Int) := ⟨h0, by omega⟩
          simp [Instr.indexAt, Instr.sureAddr, asIntOf, run_underlying (tArr_und he), hif, tSize_run hsz, add_lit]
      · exact h.elim
    · exact h.elim
  · exact h.elim
/-- A byte of a text. -/
def bt (s : ByteArray) (n : Nat) : Nat := (s.data.getD n 0).toNat
def aindex (P : Program) (t : TypeId) (x i : AV) (K : AV → Prop) : Prop :=
  match x, i with
  | .lit (.string s), .lit (.int _ n) => P.underlying t = some .string ∧ 0 ≤ n ∧ n < s.size ∧ K (.lit (.int .u8 (bt s n.toNat)))
  | _, _ => False
theorem aindex_run {P : Program} {C : Ctx} {w : World} {t : TypeId} {x i : AV} {u v : Value} {K : AV → Prop} (hx : Rep C x u) (hi : Rep C i v) (h : aindex P t x i K) : ∃ z r, (Instr.index t u v).run P w = .ok z w ∧ Rep C r z ∧ K r := by
  unfold aindex at h
  split at h
  · rename_i s k n
    cases hx; cases hi
    obtain ⟨hu, h0, h1, hK⟩ := h
    have hlt : n.toNat < s.size := by omega
    refine ⟨_, _, ?_, .lit _ rfl, hK⟩
    have e1 : s[n.toNat]? = some s[n.toNat] := by simp [hlt]
    have e2 : bt s n.toNat = s[n.toNat].toNat := by
      have : s.data[n.toNat]? = some s[n.toNat] := Array.getElem?_eq_getElem hlt
      simp [bt, Array.getD_eq_getD_getElem?, this]
    rw [e2]
    simp [Instr.index, asIntOf, run_underlying hu, h0, e1]
  · exact h.elim
def aextract (x : AV) (i : Nat) (K : AV → Prop) : Prop :=
  match x with
  | .tup vs => match vs[i]? with
    | some v => K v
    | none => False
  | _ => False
theorem aextract_run {P : Program} {C : Ctx} {w : World} {x : AV} {u : Value} {i : Nat} {K : AV → Prop} (hx : Rep C x u) (h : aextract x i K) : ∃ z r, (Instr.extract u i).run P w = .ok z w ∧ Rep C r z ∧ K r := by
  unfold aextract at h
  split at h
  · split at h
    · rename_i vs _ v hv
      cases hx with
      | tup _ us hl hr =>
        obtain ⟨z, h1, h2⟩ := Reps.get (C := C) ⟨hl, hr⟩ hv
        exact ⟨z, v, by simp [Instr.extract, h1], h2, h⟩
    · exact h.elim
  · exact h.elim
/-- A part of a struct or an array that lies in a slot. -/
def afieldV (P : Program) (t : TypeId) (x : AV) (f : Nat) (K : AV → Prop) : Prop :=
  match x with
  | .agg cs => match tField P t f with
    | some (off, ft) => match tAgg P ft, tSize P ft with
      | some true, some n => K (.agg ((cs.drop off).take n))
      | some false, some _ => match cs[off]? with
        | some y => K y
        | none => False
      | _, _ => False
    | none => False
  | _ => False
theorem extract_list (a : Array Value) (i n : Nat) : a.extract i (i + n) = ((a.toList.drop i).take n).toArray := by
  apply Array.ext'
  simp
theorem afieldV_run {P : Program} {C : Ctx} {w : World} {t : TypeId} {x : AV} {u : Value} {f : Nat} {K : AV → Prop} (hx : Rep C x u) (h : afieldV P t x f K) : ∃ v r, (Instr.field t u f).run P w = .ok v w ∧ Rep C r v ∧ K r := by
  unfold afieldV at h
  split at h
  · rename_i cs
    split at h
    · rename_i off ft hf
      obtain ⟨fs, fd, h1, h2, h3, h4⟩ := tField_und hf
      subst h3; subst h4
      cases hx with
      | agg _ vs hl hr =>
        have hrs : Reps C cs vs := ⟨hl, hr⟩
        split at h
        · rename_i n ha hn
          have := hrs.take_drop fd.offset n
          exact ⟨_, _, by simp [Instr.field, run_underlying h1, h2, asAgg, part, tAgg_run ha, tSize_run hn, extract_list], .agg _ _ this.1 this.2, h⟩
        · rename_i n ha hn
          split at h
          · rename_i y hy
            obtain ⟨z, q1, q2⟩ := hrs.get hy
            exact ⟨z, y, by simp [Instr.field, run_underlying h1, h2, asAgg, part, tAgg_run ha, q1], q2, h⟩
          · exact h.elim
        · exact h.elim
    · exact h.elim
  · exact h.elim

/-! ### Slices of slices, of texts -/
/-- A bound, if it is given. -/
def abound (x : Option AV) (d : Int) : Option Int :=
  match x with
  | none => some d
  | some (.lit (.int _ n)) => some n
  | some _ => none
def grW (gr : Gr) (s : Nat) : Prop :=
  match gr with
  | .at _ _ s' => s' = s
  | _ => True
def aslice (P : Program) (t : TypeId) (x : AV) (lo hi mx : Option AV) (K : AV → Prop) : Prop :=
  match x with
  | .lit (.string s) => match abound lo 0, abound hi s.size, mx with
    | some l, some h, none => P.underlying t = some .string ∧ 0 ≤ l ∧ l ≤ h ∧ h ≤ s.size ∧ K (.lit (.string (s.extract l.toNat h.toNat)))
    | _, _, _ => False
  | .row gr xs => match tElem P t with
    | some e => match tSize P e with
      | some sz => rowW sz xs ∧ grW gr sz ∧ (match abound lo 0, hi, mx with
        | some l, none, none => 0 ≤ l ∧ l ≤ xs.length ∧ K (.row gr (xs.drop l.toNat))
        | some l, some (.lit (.int _ h)), none => 0 ≤ l ∧ l ≤ h ∧ h ≤ xs.length ∧ K (.row .no ((xs.take h.toNat).drop l.toNat))
        | some l, some (.lit (.int _ h)), some (.lit (.int _ m)) => 0 ≤ l ∧ l ≤ h ∧ h ≤ m ∧ m ≤ xs.length ∧ K (.row (if h = m then .full else .no) ((xs.take h.toNat).drop l.toNat))
        | _, _, _ => False)
      | none => False
    | none => False
  | .sl k off n s => match tElem P t with
    | some e => tSize P e = some s ∧ (match abound lo 0, abound hi n, mx with
      | some l, some h, none => 0 ≤ l ∧ l ≤ h ∧ h ≤ n ∧ ((l < n → K (.sl k (off + l.toNat * s) (h.toNat - l.toNat) s)) ∧ (l = n → K (.row .no [])))
      | _, _, _ => False)
    | none => False
  | _ => False
theorem Row.sub {C : Ctx} {gr : Gr} {xs : List AV} {A : Option Addr} {n c s : Nat} {val : Nat → Value} (r : Row C gr xs A n c s val) (l h m : Nat) (hlh : l ≤ h) (hhn : h ≤ n) (hhm : h ≤ m) (hmc : m ≤ c) (gr' : Gr) (hg : GrOk C gr' (if m = l then A else A.map (·.add (l * s))) (h - l) (m - l) s) :
    Rep C (.row gr' ((xs.take h).drop l)) (.slice (if m = l then A else A.map (·.add (l * s))) (h - l) (m - l)) := by
  have hn := r.hn
  have hb := r.hb
  refine Row.rep (s := s) (val := fun i => val (l + i)) ⟨by simp; omega, by omega, by omega, fun i x hx => ?_, fun i hi => r.hs _ (by omega), fun i j u hi hj => ?_, hg, fun i u hi hu => r.h1 _ u (by omega) hu⟩
  · rw [List.getElem?_drop, List.getElem?_take] at hx
    split at hx
    · exact r.h _ _ hx
    · cases hx
  · obtain ⟨a, h1, h2, h3⟩ := r.hm (l + i) j u (by omega) hj
    rw [if_neg (by omega), h1]
    obtain ⟨b, o, sp⟩ := a
    simp only at h2; subst h2
    refine ⟨⟨b, o + l * s, none⟩, by simp [add_lit], rfl, ?_⟩
    rw [Nat.add_mul] at h3
    rw [show o + l * s + i * s + j = o + (l * s + i * s) + j by omega]; exact h3
theorem bound_run {P : Program} {w : World} {k : IntKind} {n : Int} {y : Nat} {code : BoundsCode} (h0 : 0 ≤ n) (h1 : n ≤ y) : (Instr.sliceBound (.int k n) y code).run P w = .ok n.toNat w := by
  simp [Instr.sliceBound, asIntOf, h0, h1]
/-- The bounds of a slice that is in order. -/
theorem bounds_run {P : Program} {w : World} {isS : Bool} {len cap : Nat} {lo hi : Option Value} {l h : Int} (hlo : lo = none ∧ l = 0 ∨ ∃ k, lo = some (.int k l)) (hhi : hi = none ∧ h = len ∨ ∃ k, hi = some (.int k h)) (h0 : 0 ≤ l) (h1 : l ≤ h) (h2 : h ≤ cap) :
    (Instr.sliceBounds isS len cap lo hi none).run P w = .ok (l.toNat, h.toNat, cap) w := by
  have h3 : l ≤ (h.toNat : Int) := by omega
  rcases hlo with ⟨rfl, rfl⟩ | ⟨k, rfl⟩ <;> rcases hhi with ⟨rfl, rfl⟩ | ⟨k', rfl⟩
  · simp [Instr.sliceBounds]
  · simp [Instr.sliceBounds, bound_run (by omega : (0:Int) ≤ h) h2]
  · simp at h3; simp [Instr.sliceBounds, bound_run h0 h3]
  · simp [Instr.sliceBounds, bound_run (by omega : (0:Int) ≤ h) h2, bound_run h0 h3]
theorem abound_inv {C : Ctx} {x : Option AV} {v : Option Value} {d n : Int} (hr : ∀ y, x = some y → ∃ u, v = some u ∧ Rep C y u) (hn : x = none → v = none) (h : abound x d = some n) : v = none ∧ n = d ∨ ∃ k, v = some (.int k n) := by
  unfold abound at h
  split at h
  · cases h; exact .inl ⟨hn rfl, rfl⟩
  · cases h
    obtain ⟨u, h1, h2⟩ := hr _ rfl
    cases h2; exact .inr ⟨_, h1⟩
  · cases h
theorem aslice_run {P : Program} {C : Ctx} {w : World} {t : TypeId} {x : AV} {u : Value} {lo hi mx : Option AV} {lo' hi' mx' : Option Value} {K : AV → Prop} (hx : Rep C x u)
    (hlo : ∀ y, lo = some y → ∃ u, lo' = some u ∧ Rep C y u) (hlon : lo = none → lo' = none) (hhi : ∀ y, hi = some y → ∃ u, hi' = some u ∧ Rep C y u) (hhin : hi = none → hi' = none) (hmx : ∀ y, mx = some y → ∃ u, mx' = some u ∧ Rep C y u) (hmxn : mx = none → mx' = none)
    (h : aslice P t x lo hi mx K) : ∃ z r, (Instr.sliceAt t u lo' hi' mx').run P w = .ok z w ∧ Rep C r z ∧ K r := by
  unfold aslice at h
  split at h
  · rename_i s
    cases hx
    split at h
    · rename_i l hh e1 e2
      obtain ⟨hu, h0, h1, h2, hK⟩ := h
      obtain rfl := hmxn rfl
      refine ⟨_, _, ?_, .lit _ rfl, hK⟩
      have hb := bounds_run (P := P) (w := w) (isS := false) (len := s.size) (cap := s.size) (abound_inv hlo hlon e1) (abound_inv hhi hhin e2) h0 h1 h2
      simp [Instr.sliceAt, Instr.slice, run_underlying hu, hb]
    · exact h.elim
  · rename_i gr xs
    split at h
    · rename_i e he
      split at h
      · rename_i sz hsz
        obtain ⟨hw, hgw, h⟩ := h
        have hu := tElem_und he
        obtain ⟨A, n, c, val, rfl, r⟩ := hx.row_inv hw (fun g e s' hg => by subst hg; exact hgw)
        have hn := r.hn
        have hc := r.hc
        split at h
        · -- no upper bound
          rename_i l e1
          obtain ⟨h0, h1, hK⟩ := h
          obtain rfl := hmxn rfl
          obtain rfl := hhin rfl
          have hb := bounds_run (P := P) (w := w) (isS := true) (len := n) (cap := c) (hi := none) (abound_inv hlo hlon e1) (.inl ⟨rfl, rfl⟩) h0 (by omega) (by omega)
          have hsub := r.sub l.toNat n c (by omega) (Nat.le_refl _) hc (Nat.le_refl _) gr (by
            have hg := r.hg
            cases gr with
            | no => trivial
            | full => have : c = n := hg; show c - l.toNat = n - l.toNat; omega
            | «at» g e' s' =>
              obtain ⟨g1, g2, g3, g4⟩ := hg
              refine ⟨g1, g2, g3, fun g5 => ?_⟩
              rcases g4 g5 with g6 | ⟨a, size, rfl, g7, g8, g9⟩
              · left; omega
              · by_cases hcl : c = l.toNat
                · left; omega
                · right
                  obtain ⟨b, o, sp⟩ := a
                  simp only at g7 g8 g9
                  subst g7
                  have k1 : l.toNat * sz + (n - l.toNat) * sz = n * sz := by rw [← Nat.add_mul]; congr 1; omega
                  have k2 : l.toNat * sz + (c - l.toNat) * sz = c * sz := by rw [← Nat.add_mul]; congr 1; omega
                  refine ⟨⟨b, o + l.toNat * sz, none⟩, size, by rw [if_neg hcl]; simp [add_lit], rfl, ?_, ?_⟩
                  · rw [g8]; simp only; congr 3; omega
                  · simp only; omega)
          refine ⟨_, _, ?_, hsub, ?_⟩
          · simp [Instr.sliceAt, Instr.slice, run_underlying hu, hb, tSize_run hsz]
          · rw [hn, List.take_length]; exact hK
        · rename_i l k hh e1
          obtain ⟨h0, h1, h2, hK⟩ := h
          obtain rfl := hmxn rfl
          have hb := bounds_run (P := P) (w := w) (isS := true) (len := n) (cap := c) (h := hh) (abound_inv hlo hlon e1) (.inr (by obtain ⟨u, q1, q2⟩ := hhi _ rfl; cases q2; exact ⟨_, q1⟩)) h0 h1 (by omega)
          refine ⟨_, _, ?_, r.sub l.toNat hh.toNat c (by omega) (by omega) (by omega) (Nat.le_refl _) .no trivial, hK⟩
          simp [Instr.sliceAt, Instr.slice, run_underlying hu, hb, tSize_run hsz]
        · rename_i l k hh k2 m e1
          obtain ⟨h0, h1, h2, h3, hK⟩ := h
          obtain ⟨u1, q1, q2⟩ := hhi _ rfl
          obtain ⟨u2, q3, q4⟩ := hmx _ rfl
          cases q2; cases q4
          subst q1; subst q3
          have hb : (Instr.sliceBounds true n c lo' (some (.int k hh)) (some (.int k2 m))).run P w = .ok (l.toNat, hh.toNat, m.toNat) w := by
            have b1 := bound_run (P := P) (w := w) (k := k2) (n := m) (y := c) (code := .slice3Acap) (by omega) (by omega)
            have b2 := bound_run (P := P) (w := w) (k := k) (n := hh) (y := m.toNat) (code := .slice3B) (by omega) (by omega)
            rcases abound_inv hlo hlon e1 with ⟨rfl, rfl⟩ | ⟨k3, rfl⟩
            · simp [Instr.sliceBounds, b1, b2]
            · have b3 := bound_run (P := P) (w := w) (k := k3) (n := l) (y := hh.toNat) (code := .slice3C) h0 (by omega)
              simp [Instr.sliceBounds, b1, b2, b3]
          refine ⟨_, _, ?_, r.sub l.toNat hh.toNat m.toNat (by omega) (by omega) (by omega) (by omega) (if hh = m then .full else .no) (by
            split
            · show m.toNat - l.toNat = hh.toNat - l.toNat; omega
            · trivial), hK⟩
          simp [Instr.sliceAt, Instr.slice, run_underlying hu, hb, tSize_run hsz]
        · exact h.elim
      · exact h.elim
    · exact h.elim
  · rename_i k off n s
    split at h
    · rename_i e he
      obtain ⟨hsz, h⟩ := h
      have hu := tElem_und he
      cases hx with
      | sl _ _ _ _ B c hB hc hb =>
      split at h
      · rename_i l hh e1 e2
        obtain ⟨h0, h1, h2, h3, h4⟩ := h
        obtain rfl := hmxn rfl
        have hb' := bounds_run (P := P) (w := w) (isS := true) (len := n) (cap := c) (abound_inv hlo hlon e1) (abound_inv hhi hhin e2) h0 h1 (by omega)
        by_cases hln : l < n
        · refine ⟨.slice (some ⟨B, off + l.toNat * s, none⟩) (hh.toNat - l.toNat) (c - l.toNat), _, ?_, .sl k (off + l.toNat * s) (hh.toNat - l.toNat) s B (c - l.toNat) hB (by omega) (by omega), h3 hln⟩
          simp [Instr.sliceAt, Instr.slice, run_underlying hu, hb', tSize_run hsz]
          rw [if_neg (by omega), add_lit]
        · have hle : l = n := by omega
          have e0 : hh.toNat - l.toNat = 0 := by omega
          have key : ∀ A : Option Addr, Rep C (.row .no []) (.slice A 0 (c - l.toNat)) := fun A => .row .no [] A 0 (c - l.toNat) 0 (fun _ => default) rfl (by omega) (by omega) (fun i x h => by simp at h) (fun i h => by omega) (fun i j u h => by omega) trivial
          refine ⟨_, _, ?_, key (if c = l.toNat then some ⟨B, off, none⟩ else some (Addr.add ⟨B, off, none⟩ (l.toNat * s))), h4 hle⟩
          simp [Instr.sliceAt, Instr.slice, run_underlying hu, hb', tSize_run hsz, e0]
      · exact h.elim
    · exact h.elim
  · exact h.elim
end Go.V
namespace Go.V
open Go
set_option linter.unusedVariables false
set_option linter.unusedSimpArgs false

def alen (P : Program) (t : TypeId) (x : AV) (K : AV → Prop) : Prop :=
  match x with
  | .row _ xs => (tElem P t).isSome = true ∧ K (.lit (.int .i64 xs.length))
  | .sl _ _ n _ => (tElem P t).isSome = true ∧ K (.lit (.int .i64 n))
  | .lit (.string s) => P.underlying t = some .string ∧ K (.lit (.int .i64 s.size))
  | _ => False
def aappend (P : Program) (t tx : TypeId) (s x : AV) (h : Hp) (K : AV → Hp → Prop) : Prop :=
  match tElem P t, s, x with
  | some e, .row gr xs, .row gr2 ys => match tSize P e, tBytes P e, aZero P e with
    | some sz, some by_, some zc => (tElem P tx).isSome = true ∧ zc.length = sz ∧ 0 < sz ∧ rowW sz xs ∧ rowW sz ys ∧ grW gr2 sz ∧ (xs.length + ys.length) * by_ ≤ 140737488355328 ∧ xs.length + ys.length ≤ 140737488355328 ∧ (match gr with
      | .no => False
      | .full => K (.row (.at h.gl.length 0 sz) (xs ++ ys)) { h with gl := h.gl ++ [0] } ∨ (ys ≠ [] ∧ ∀ pad, K (.sl h.bx.length 0 (xs.length + ys.length) sz) { h with bx := h.bx ++ [(xs ++ ys).flatMap AV.cells ++ pad] })
      | .at g e' s' => s' = sz ∧ h.gl[g]? = some e' ∧ K (.row (.at g (e' + 1) sz) (xs ++ ys)) { h with gl := h.gl.set g (e' + 1) })
    | _, _, _ => False
  | _, _, _ => False
/-- A continuation, at a heap. -/
def atH (K : AV → Hp → Prop) (h : Hp) (r : AV) : Prop := K r h
def abuiltin (P : Program) (b : Builtin) (ts : List TypeId) (xs : List AV) (h : Hp) (K : AV → Hp → Prop) : Prop :=
  match b, ts, xs with
  | .len, t :: _, [x] => alen P t x (atH K h)
  | .cap, t :: _, [.row .full ys] => (tElem P t).isSome = true ∧ K (.lit (.int .i64 ys.length)) h
  | .append, [t, tx], [s, x] => aappend P t tx s x h K
  | .min, _, [.lit (.int k x), .lit (.int _ y)] => K (.lit (.int k (if y < x then y else x))) h
  | .max, _, [.lit (.int k x), .lit (.int _ y)] => K (.lit (.int k (if y > x then y else x))) h
  | _, _, _ => False
def anil (x : AV) (K : Prop) : Prop :=
  match x with
  | .ptr _ _ => K
  | .eptr _ _ => K
  | .clo (.func _) _ _ => K
  | .lit (.func (.func _) _ _) => K
  | .lit (.pointer (some _)) => K
  | _ => False
def aop0 (P : Program) (o : Oper) (E : Operand → AV) (h : Hp) (K : AV → Hp → Prop) : Prop :=
  match o.op with
  | .move x => K (E x) h
  | .assign x => K (E x) h
  | .pick c a b => match E c with
    | .lit (.bool t) => (t = true → K (E a) h) ∧ (t = false → K (E b) h)
    | _ => False
  | .alloc t => match aZero P t with
    | some cs => K (.ptr h.bx.length 0) { h with bx := h.bx ++ [cs] }
    | none => False
  | .box _ x => match (E x).w with
    | some _ => K (.ptr h.bx.length 0) { h with bx := h.bx ++ [(E x).cells] }
    | none => False
  | .build t parts => abuild P t (parts.toList.map fun p => (p.1, E p.2)) (atH K h)
  | .buildSlice t len parts => abuildSlice P t len (parts.toList.map fun p => (p.1, E p.2)) (atH K h)
  | .load t a => aload P t (E a) h (atH K h)
  | .store t a v => astore P t (E a) (E v) h K
  | .nilCheck x => anil (E x) (K (E x) h)
  | .binOp op t x y _ => abin P op t (E x) (E y) (atH K h)
  | .unOp op _ x => aun op (E x) (atH K h)
  | .convert src dst x => aconv P src dst (E x) (atH K h)
  | .makeInterface t x => (tAgg P t).isSome = true ∧ (∀ ms, P.underlying t ≠ some (.interface ms)) ∧ K (.ifc t (E x)) h
  | .makeFunc fn first caps => K (.clo fn (first.toList.map E) (caps.toList.map E)) h
  | .slice t x lo hi mx => (tArr P t).isNone = true ∧ aslice P t (E x) (lo.map E) (hi.map E) (mx.map E) (atH K h)
  | .fieldAddr t x f => afield P t (E x) f (atH K h)
  | .field t x f => afieldV P t (E x) f (atH K h)
  | .indexAddr t x i => aindexA P t (E x) (E i) (atH K h)
  | .index t x i => aindex P t (E x) (E i) (atH K h)
  | .extract x i => aextract (E x) i (atH K h)
  | .call c => match c.callee with
    | .value f => ACallV P (E f) (c.args.toList.map E) h K
    | .builtin b => abuiltin P b c.argTypes.toList (c.args.toList.map E) h K
    | .invoke _ _ => False
  | _ => False

theorem upon_v {P : Program} {s : Sem Value} {K : Value → World → Prop} {w w' : World} {v : Value} (h : s.run P w = .ok v w') (k : K v w') : Upon P K ((do pure (.value (← s)) : Sem Next).run P w) := by
  rw [Sem.run_bind, h]; exact k
theorem upon_u {P : Program} {s : Sem Unit} {K : Value → World → Prop} {w w' : World} (h : s.run P w = .ok () w') (k : K undef w') : Upon P K ((do s; pure .skip : Sem Next).run P w) := by
  rw [Sem.run_bind, h]; exact k
theorem upon_same {P : Program} {C : Ctx} {h : Hp} {s : Sem Value} {K : AV → Hp → Prop} {w : World} (sim : Sim C h w) (hh : ∃ v r, s.run P w = .ok v w ∧ Rep C r v ∧ K r h) : Upon P (Post C w K) ((do pure (.value (← s)) : Sem Next).run P w) := by
  obtain ⟨v, r, h1, h2, h3⟩ := hh
  exact upon_v h1 (.same sim h3 h2)
theorem reps_map {C : Ctx} {E : Operand → AV} {ρ : Operand → Value} {xs : Array Operand} (h : ∀ x ∈ xs, Rep C (E x) (ρ x)) : Reps C (xs.toList.map E) (xs.map ρ) := by
  refine Reps.of (by simp) fun i x v hx hv => ?_
  simp only [List.getElem?_map] at hx
  simp only [Array.getElem?_map] at hv
  cases hi : xs[i]? with
  | none => rw [hi] at hv; cases hv
  | some y =>
    rw [Array.getElem?_toList, hi] at hx
    rw [hi] at hv
    cases hx; cases hv
    exact h y (Array.mem_of_getElem? hi)
theorem parts_map {C : Ctx} {E : Operand → AV} {ρ : Operand → Value} {parts : Array (Nat × Operand)} (h : ∀ x ∈ (parts.toList.map (·.2)).toArray, Rep C (E x) (ρ x)) :
    (parts.toList.map fun p => (p.1, E p.2)).length = (parts.map fun (i, x) => (i, ρ x)).size ∧ ∀ (i : Nat) (p : Nat × AV) (q : Nat × Value), (parts.toList.map fun p => (p.1, E p.2))[i]? = some p → (parts.map fun (i, x) => (i, ρ x))[i]? = some q → p.1 = q.1 ∧ Rep C p.2 q.2 := by
  refine ⟨by simp, fun i p q hp hq => ?_⟩
  simp only [List.getElem?_map, Array.getElem?_toList] at hp
  simp only [Array.getElem?_map] at hq
  cases hi : parts[i]? with
  | none => rw [hi] at hq; cases hq
  | some y =>
    rw [hi] at hp hq
    cases hp; cases hq
    refine ⟨rfl, h y.2 ?_⟩
    simp only [List.mem_toArray, List.mem_map]
    exact ⟨y, by simpa using Array.mem_of_getElem? hi, rfl⟩
theorem alen_run {P : Program} {C : Ctx} {w : World} {ts : Array TypeId} {ty t : TypeId} {ts' : List TypeId} (hts : ts.toList = t :: ts') {x : AV} {u : Value} {K : AV → Prop} (hx : Rep C x u) (h : alen P t x K) : ∃ v r, (Builtin.len_ ts ty #[u]).run P w = .ok v w ∧ Rep C r v ∧ K r := by
  have ht0 : ts[0]? = some t := by rw [← Array.getElem?_toList, hts]; rfl
  unfold alen at h
  split at h
  · obtain ⟨h1, h2⟩ := h
    obtain ⟨e, he⟩ := Option.isSome_iff_exists.1 h1
    cases hx with
    | row _ _ A n c s val hn hc hb hr hs hm hg =>
      subst hn
      exact ⟨_, _, by simp [Builtin.len_, ht0, run_underlying (tElem_und he), goInt], .lit _ rfl, h2⟩
  · obtain ⟨h1, h2⟩ := h
    obtain ⟨e, he⟩ := Option.isSome_iff_exists.1 h1
    cases hx with
    | sl => exact ⟨_, _, by simp [Builtin.len_, ht0, run_underlying (tElem_und he), goInt], .lit _ rfl, h2⟩
  · obtain ⟨h1, h2⟩ := h
    cases hx
    exact ⟨_, _, by simp [Builtin.len_, ht0, run_underlying h1, goInt], .lit _ rfl, h2⟩
  · exact h.elim
/-! ### Rows of a box -/
theorem flat_reps {C : Ctx} {xs : List AV} {n s : Nat} {val : Nat → Value} (hn : n = xs.length) (h : ∀ i x, xs[i]? = some x → Rep C x (val i)) (hw : rowW s xs) : ∀ k, k ≤ n → Reps C ((xs.take k).flatMap AV.cells) (flat (fun i => (val i).cells.toList) k).toArray
  | 0, _ => by simpa [flat] using Reps.nil C
  | k + 1, hk => by
    have hx : xs[k]? = some (xs[k]'(by omega)) := List.getElem?_eq_getElem (by omega)
    have hc := (h k _ hx).cells (hw _ (List.getElem_mem _))
    have ih := flat_reps hn h hw k (by omega)
    rw [List.take_add_one, hx]
    simp only [Option.toList_some, List.flatMap_append, List.flatMap_cons, List.flatMap_nil, List.append_nil, flat]
    refine Reps.append ih ?_
    simpa using hc.hr
theorem Row.flatReps {C : Ctx} {gr : Gr} {xs : List AV} {A : Option Addr} {n c s : Nat} {val : Nat → Value} (r : Row C gr xs A n c s val) (hw : rowW s xs) : ∀ k, k ≤ n → Reps C ((xs.take k).flatMap AV.cells) (flat (fun i => (val i).cells.toList) k).toArray := flat_reps r.hn r.h hw
theorem reps_any {C : Ctx} (vs : Array Value) : Reps C (List.replicate vs.size .any) vs := Reps.of (by simp) fun i x v hx _ => by
  rw [List.getElem?_replicate] at hx
  split at hx
  · cases hx; exact .any _
  · cases hx
theorem append_box_run {P : Program} {C : Ctx} {h : Hp} {w : World} {t tx ty e : TypeId} {i : TypeInfo} {z : Value} {gr2 : Gr} {xs ys : List AV} {A A2 : Option Addr} {n c m c2 s : Nat} {val val2 : Nat → Value} (sim : Sim C h w) (ht : P.underlying t = some (.slice e)) {e2 : TypeId} (htx : P.underlying tx = some (.slice e2)) (hi : P.info? e = some i) (hz : i.zero = some z) (hsz : i.size = s) (hs : 0 < s)
    (hx : Row C .full xs A n c s val) (hy : Row C gr2 ys A2 m c2 s val2) (hwx : rowW s xs) (hwy : rowW s ys) (hne : ys ≠ []) (hfit : (n + m) * i.bytes ≤ 140737488355328) (hlen : n + m ≤ 140737488355328) (K : AV → Hp → Prop) (hK : ∀ pad, K (.sl h.bx.length 0 (n + m) s) { h with bx := h.bx ++ [(xs ++ ys).flatMap AV.cells ++ pad] }) :
    ∃ v w', (Builtin.append_ #[t, tx] ty #[.slice A n c, .slice A2 m c2]).run P w = .ok v w' ∧ Post C w K v w' := by
  subst hsz
  have hsrc := hy.src sim hs htx
  have hm0 : m ≠ 0 := fun e => hne (List.length_eq_zero_iff.1 (by rw [← hy.hn, e]))
  have hcn : c = n := hx.hg
  have hdrew : Sim C h w.drew := sim.drew _
  have hrun := run_append_grow_src (P := P) w t tx ty e i z ht hi hz A n c _ (hx.first hdrew) _ m _ hsrc (by omega) (by omega) (growslice_fits (by omega) hfit)
  refine ⟨_, _, hrun, ?_⟩
  have hcap1 : n + m ≤ grownCap w (n + m) c e := grownCap_ge w _ _ _
  have hcap2 : grownCap w (n + m) c e < 9223372036854775808 := by
    have := grownCap_le_maxLen w (n + m) c e (by unfold maxLen; omega)
    unfold maxLen at this; omega
  generalize hcap : grownCap w (n + m) c e = cap at *
  have k1 := hx.flatReps hwx n (Nat.le_refl _)
  have k2 := hy.flatReps hwy m (Nat.le_refl _)
  rw [List.take_of_length_le (by rw [hx.hn]; exact Nat.le_refl _)] at k1
  rw [List.take_of_length_le (by rw [hy.hn]; exact Nat.le_refl _)] at k2
  generalize hzc : Builtin.zeroCells z.cells (cap - (n + m)) = zc at *
  have k3 : Reps C ((xs ++ ys).flatMap AV.cells ++ List.replicate zc.size .any) ((flat (fun i => (val i).cells.toList) n ++ flat (fun i => (val2 i).cells.toList) m).toArray ++ zc) := by
    rw [List.flatMap_append]
    have := (k1.append k2).append (vs := _) (us := zc.toList) (by simpa using reps_any (C := C) zc)
    have e9 : (flat (fun i => (val i).cells.toList) n ++ flat (fun i => (val2 i).cells.toList) m).toArray ++ zc = (flat (fun i => (val i).cells.toList) n ++ flat (fun i => (val2 i).cells.toList) m ++ zc.toList).toArray := by apply Array.ext'; simp
    rw [e9]; exact this
  obtain ⟨s1, s2, s3⟩ := hdrew.newBox e k3
  refine ⟨_, _, _, hK _, (Ext.drew C w _).trans s2, s1, .sl _ _ _ _ _ _ s3 hcap1 hcap2⟩
theorem aappend_run {P : Program} {C : Ctx} {h : Hp} {w : World} {t tx ty : TypeId} {s x : AV} {u v : Value} {K : AV → Hp → Prop} (sim : Sim C h w) (hs : Rep C s u) (hx : Rep C x v) (hh : aappend P t tx s x h K) :
    ∃ z w', (Builtin.append_ #[t, tx] ty #[u, v]).run P w = .ok z w' ∧ Post C w K z w' := by
  unfold aappend at hh
  split at hh
  · rename_i e gr xs gr2 ys he
    split at hh
    · rename_i sz by_ zc hsz hby hzc
      obtain ⟨htx, hzl, h0, hwx, hwy, hgy, hfit, hlen, hg⟩ := hh
      obtain ⟨e2, he2⟩ := Option.isSome_iff_exists.1 htx
      obtain ⟨z, hz, hzr, _⟩ := aZero_inv (C := C) hzc
      cases hi : P.info? e with
      | none => simp [tSize, hi] at hsz
      | some i =>
        have e1 : i.size = sz := by simpa [tSize, hi] using hsz
        have e2' : i.bytes = by_ := by simpa [tBytes, hi] using hby
        have e3 : i.zero = some z := by simpa [tZero, hi] using hz
        obtain ⟨A, n, c, val, rfl, rx⟩ := hs.row_inv hwx (fun g e' s' hg' => by subst hg'; exact hg.1)
        obtain ⟨A2, m, c2, val2, rfl, ry⟩ := hx.row_inv hwy (fun g e' s' hg' => by subst hg'; exact hgy)
        have hn := rx.hn
        have hm := ry.hn
        have hgr : (∃ gr' gl', grNext gr h sz = some (gr', gl') ∧ K (.row gr' (xs ++ ys)) { h with gl := gl' }) ∨ (gr = .full ∧ ys ≠ [] ∧ ∀ pad, K (.sl h.bx.length 0 (xs.length + ys.length) sz) { h with bx := h.bx ++ [(xs ++ ys).flatMap AV.cells ++ pad] }) := by
          cases gr with
          | no => exact hg.elim
          | full => exact hg.imp (fun hg => ⟨_, _, rfl, hg⟩) (fun hg => ⟨rfl, hg.1, hg.2⟩)
          | «at» g e' s' => exact .inl ⟨_, _, by simp only [grNext]; rw [if_pos ⟨hg.1, hg.2.1⟩], hg.2.2⟩
        rcases hgr with ⟨gr', gl', hgr1, hK⟩ | ⟨rfl, hne, hK⟩
        case inr => exact append_box_run sim (tElem_und he) (tElem_und he2) hi e3 e1 h0 rx ry hwx hwy hne (by rw [hn, hm, e2']; exact hfit) (by rw [hn, hm]; exact hlen) K (by rw [hn, hm]; exact hK)
        exact append_run sim (tElem_und he) (tElem_und he2) hi e3 e1 h0 (by rw [← hzr.1, hzl]) rx ry hgr1 (by rw [hn, hm, e2']; exact hfit) (by rw [hn, hm]; exact hlen) K hK
    · exact hh.elim
  · exact hh.elim
theorem abuiltin_run {P : Program} {C : Ctx} {h : Hp} {w : World} {b : Builtin} {ts : Array TypeId} {ty : TypeId} {consts : Array Bool} {xs : List AV} {vs : Array Value} {K : AV → Hp → Prop} (sim : Sim C h w) (hr : Reps C xs vs) (hh : abuiltin P b ts.toList xs h K) :
    Upon P (Post C w K) ((builtin b ts ty consts vs).run P w) := by
  unfold abuiltin at hh
  split at hh
  · rename_i t ts' x hts
    obtain ⟨v, us, rfl, h1, h2⟩ := hr.uncons
    have : us = [] := by have := h2.1; simp at this; exact List.length_eq_zero_iff.1 this.symm
    subst this
    obtain ⟨z, r, h3, h4, h5⟩ := alen_run (P := P) (w := w) (ty := ty) hts h1 hh
    exact upon_v h3 (.same sim h5 h4)
  · rename_i t ts' ys hts
    obtain ⟨v, us, rfl, h1, h2⟩ := hr.uncons
    have : us = [] := by have := h2.1; simp at this; exact List.length_eq_zero_iff.1 this.symm
    subst this
    obtain ⟨he, hK⟩ := hh
    obtain ⟨e, he⟩ := Option.isSome_iff_exists.1 he
    have ht0 : ts[0]? = some t := by rw [← Array.getElem?_toList, hts]; rfl
    cases h1 with
    | row _ _ A n c s val hn hc hb hr hs hm hg =>
      have hcn : c = n := hg
      subst hcn; subst hn
      exact upon_v (s := Builtin.cap_ ts ty _) (v := .int .i64 ys.length) (w' := w) (by simp [Builtin.cap_, ht0, run_underlying (tElem_und he), goInt]) (.same sim hK (.lit _ rfl))
  · rename_i t tx s x hts
    obtain ⟨u, us, rfl, h1, h2⟩ := hr.uncons
    obtain ⟨v, us', e1, h3, h4⟩ := h2.uncons
    have : us' = [] := by have := h4.1; simp at this; exact List.length_eq_zero_iff.1 this.symm
    subst this
    have e1 : us = [v] := by simpa using e1
    subst e1
    have hts' : ts = #[t, tx] := by apply Array.ext'; rw [hts]
    subst hts'
    obtain ⟨z, w', h5, h6⟩ := aappend_run (P := P) (ty := ty) sim h1 h3 hh
    exact upon_v h5 h6
  · obtain ⟨u, us, rfl, h1, h2⟩ := hr.uncons
    obtain ⟨v, us', e1, h3, h4⟩ := h2.uncons
    have : us' = [] := by have := h4.1; simp at this; exact List.length_eq_zero_iff.1 this.symm
    subst this
    have e1 : us = [v] := by simpa using e1
    subst e1
    cases h1; cases h3
    exact upon_v (s := Builtin.min_ ts ty _) (by simp [Builtin.min_, Builtin.min2]) (.same sim hh (.lit _ rfl))
  · obtain ⟨u, us, rfl, h1, h2⟩ := hr.uncons
    obtain ⟨v, us', e1, h3, h4⟩ := h2.uncons
    have : us' = [] := by have := h4.1; simp at this; exact List.length_eq_zero_iff.1 this.symm
    subst this
    have e1 : us = [v] := by simpa using e1
    subst e1
    cases h1; cases h3
    exact upon_v (s := Builtin.max_ ts ty _) (by simp [Builtin.max_, Builtin.max2]) (.same sim hh (.lit _ rfl))
  · exact hh.elim
theorem opt_rep {C : Ctx} {E : Operand → AV} {ρ : Operand → Value} {x : Option Operand} (h : ∀ y, x = some y → Rep C (E y) (ρ y)) : (∀ y, x.map E = some y → ∃ u, x.map ρ = some u ∧ Rep C y u) ∧ (x.map E = none → x.map ρ = none) := by
  cases x with
  | none => exact ⟨fun y h => (by cases h), fun _ => rfl⟩
  | some o => exact ⟨fun y hy => (by cases hy; exact ⟨_, rfl, h o rfl⟩), fun h => (by cases h)⟩
theorem aop0_sound {P : Program} {o : Oper} {E : Operand → AV} {h : Hp} {K : AV → Hp → Prop} (hh : aop0 P o E h K) : AOp P o E h K := by
  intro C w ρ sim hcst hE
  unfold aop0 at hh
  unfold execOp
  split at hh <;> rename_i ho <;> first | exact hh.elim | (rw [ho] at hE; rw [ho]; dsimp only)
  case h_1 x => exact (Post.same sim hh (hE x (by simp [Op.operands])) : Upon P (Post C w K) (.ok (.value (ρ x)) w))
  case h_2 x => exact (Post.same sim hh (hE x (by simp [Op.operands])) : Upon P (Post C w K) (.ok (.value (ρ x)) w))
  case h_3 c a b =>
    split at hh
    · rename_i t hc
      have h1 := hE c (by simp [Op.operands])
      rw [hc] at h1
      generalize ρ c = u at h1
      cases h1
      cases t with
      | true => exact (Post.same sim (hh.1 rfl) (hE a (by simp [Op.operands])) : Upon P (Post C w K) (.ok (.value (ρ a)) w))
      | false => exact (Post.same sim (hh.2 rfl) (hE b (by simp [Op.operands])) : Upon P (Post C w K) (.ok (.value (ρ b)) w))
    · exact hh.elim
  case h_4 t =>
    split at hh
    · rename_i cs hz
      obtain ⟨z, h1, h2, _⟩ := aZero_inv (C := C) hz
      obtain ⟨s1, s2, s3⟩ := sim.newBox t h2
      refine upon_v (v := .pointer (some ⟨w.heap.size, 0, none⟩)) (w' := w.alloc (.cells z.cells t)) ?_ ⟨_, _, _, hh, s2, s1, .ptr _ _ _ s3⟩
      simp [Instr.alloc, tZero_run h1, newVar, newRow]
    · exact hh.elim
  case h_5 t x =>
    split at hh
    · rename_i n hw
      have hc := (hE x (by simp [Op.operands])).cells hw
      obtain ⟨s1, s2, s3⟩ := sim.newBox t hc.hr
      refine upon_v (v := .pointer (some ⟨w.heap.size, 0, none⟩)) (w' := w.alloc (.cells (ρ x).cells t)) ?_ ⟨_, _, _, hh, s2, s1, .ptr _ _ _ s3⟩
      simp [Instr.box, newVar, newRow]
    · exact hh.elim
  case h_6 t parts =>
    obtain ⟨hl, hp⟩ := parts_map (C := C) (E := E) (ρ := ρ) (parts := parts) (by simpa [Op.operands] using hE)
    exact upon_same sim (abuild_run hl hp hh)
  case h_7 t len parts =>
    obtain ⟨hl, hp⟩ := parts_map (C := C) (E := E) (ρ := ρ) (parts := parts) (by simpa [Op.operands] using hE)
    obtain ⟨v, w', h1, r, h', C', ⟨h2, h3⟩, h4, h5, h6⟩ := abuildSlice_run sim hl hp hh
    exact upon_v h1 ⟨r, h', C', by rw [h2]; exact h3, h4, h5, h6⟩
  case h_8 t a => exact upon_same sim (aload_run sim (hE a (by simp [Op.operands])) hh)
  case h_9 t a v =>
    obtain ⟨w', h1, h2⟩ := astore_run sim (hE a (by simp [Op.operands])) (hE v (by simp [Op.operands])) hh
    exact upon_u h1 h2
  case h_10 x =>
    have h1 := hE x (by simp [Op.operands])
    unfold anil at hh
    split at hh <;> rename_i hx
    · rw [hx] at h1 hh
      generalize ρ x = u at h1
      cases h1 with
      | ptr _ _ B hB => exact (Post.same sim hh (.ptr _ _ _ hB) : Upon P (Post C w K) (.ok (.value _) w))
    · rw [hx] at h1 hh
      generalize ρ x = u at h1
      cases h1 with
      | eptr _ _ v B o' hy hm => exact (Post.same sim hh (.eptr _ _ _ _ _ hy hm) : Upon P (Post C w K) (.ok (.value _) w))
    · rw [hx] at h1 hh
      generalize ρ x = u at h1
      cases h1 with
      | clo _ _ _ v1 v2 a1 a2 a3 a4 => exact (Post.same sim hh (.clo _ _ _ v1 v2 a1 a2 a3 a4) : Upon P (Post C w K) (.ok (.value _) w))
    · rw [hx] at h1 hh
      generalize ρ x = u at h1
      cases h1
      exact (Post.same sim hh (.lit _ rfl) : Upon P (Post C w K) (.ok (.value _) w))
    · rw [hx] at h1 hh
      generalize ρ x = u at h1
      cases h1
      exact (Post.same sim hh (.lit _ rfl) : Upon P (Post C w K) (.ok (.value _) w))
    · exact hh.elim
  case h_11 op t x y _ => exact upon_same (s := binSem op t x y (ρ x) (ρ y)) sim (abin_run (hE x (by simp [Op.operands])) (hE y (by simp [Op.operands])) hh)
  case h_12 op _ x => exact upon_same sim (aun_run (hE x (by simp [Op.operands])) hh)
  case h_13 src dst x => exact upon_same sim (aconv_run (hE x (by simp [Op.operands])) hh)
  case h_14 t x =>
    obtain ⟨h1, h2, h3⟩ := hh
    refine upon_same sim ⟨.iface t (ρ x), _, ?_, .ifc _ _ _ (hE x (by simp [Op.operands])), h3⟩
    unfold tAgg at h1
    cases hu : P.underlying t with
    | none => rw [hu] at h1; cases h1
    | some d =>
      cases d with
      | interface ms => exact absurd hu (h2 ms)
      | _ => simp [Instr.makeInterface, run_underlying hu]
  case h_15 fn first caps =>
    have a1 := reps_map (C := C) (E := E) (ρ := ρ) (xs := first) (fun x hx => hE x (by simp only [Op.operands]; exact Array.mem_append.2 (.inl hx)))
    have a2 := reps_map (C := C) (E := E) (ρ := ρ) (xs := caps) (fun x hx => hE x (by simp only [Op.operands]; exact Array.mem_append.2 (.inr hx)))
    exact upon_same sim ⟨.func fn (first.map ρ) (caps.map ρ), _, rfl, .clo _ _ _ _ _ a1.1 a2.1 a1.2 a2.2, hh⟩
  case h_16 t x lo hi mx =>
    obtain ⟨harr, hh⟩ := hh
    have hlo := opt_rep (C := C) (E := E) (ρ := ρ) (x := lo) (fun y hy => hE y (by subst hy; simp [Op.operands]))
    have hhi := opt_rep (C := C) (E := E) (ρ := ρ) (x := hi) (fun y hy => hE y (by subst hy; simp [Op.operands]))
    have hmx := opt_rep (C := C) (E := E) (ρ := ρ) (x := mx) (fun y hy => hE y (by subst hy; simp [Op.operands]))
    exact upon_same sim (aslice_run (hE x (by simp [Op.operands])) hlo.1 hlo.2 hhi.1 hhi.2 hmx.1 hmx.2 hh)
  case h_17 t x f => exact upon_same sim (afield_run (hE x (by simp [Op.operands])) hh)
  case h_18 t x f => exact upon_same sim (afieldV_run (hE x (by simp [Op.operands])) hh)
  case h_19 t x i => exact upon_same sim (aindexA_run (hE x (by simp [Op.operands])) (hE i (by simp [Op.operands])) hh)
  case h_20 t x i => exact upon_same sim (aindex_run (hE x (by simp [Op.operands])) (hE i (by simp [Op.operands])) hh)
  case h_21 x i => exact upon_same sim (aextract_run (hE x (by simp [Op.operands])) hh)
  case h_22 c =>
    split at hh <;> rename_i hc
    · rename_i f
      have h1 := hE f (by simp [Op.operands, Call.operands, hc])
      have h2 := reps_map (C := C) (E := E) (ρ := ρ) (xs := c.args) (fun x hx => hE x (by simp only [Op.operands, Call.operands]; exact Array.mem_append.2 (.inr hx)))
      have := hh C w (ρ f) (c.args.map ρ) sim h1 h2
      simp only [resolve, hc]
      exact this
    · rename_i b
      have h2 := reps_map (C := C) (E := E) (ρ := ρ) (xs := c.args) (fun x hx => hE x (by simp only [Op.operands, Call.operands]; exact Array.mem_append.2 (.inr hx)))
      simp only [resolve, hc]
      exact abuiltin_run sim h2 hh
    · exact hh.elim
/-! ### What has more than one reading -/
def isNilS : Operand → Bool
  | .const (.slice none 0 0) => true
  | _ => false
theorem isNilS_eq {x : Operand} (h : isNilS x = true) : x = .const (.slice none 0 0) := by
  unfold isNilS at h
  split at h
  · rfl
  · cases h
/-- A slice, held against nil. -/
def anilS (P : Program) (op : BinOp) (t : TypeId) (x : AV) (K : AV → Prop) : Prop :=
  match tElem P t with
  | some e => match tSize P e, x with
    | some sz, .row gr xs => 0 < sz ∧ rowW sz xs ∧ grW gr sz ∧ (match op with
      | .eql => (xs = [] → K (.lit (.bool true))) ∧ K (.lit (.bool false))
      | .neq => (xs = [] → K (.lit (.bool false))) ∧ K (.lit (.bool true))
      | _ => False)
    | some _, .sl _ _ _ _ => match op with
      | .eql => K (.lit (.bool false))
      | .neq => K (.lit (.bool true))
      | _ => False
    | _, _ => False
  | none => False
theorem anilS_run {P : Program} {C : Ctx} {w : World} {op : BinOp} {t : TypeId} {ox oy : Operand} {a : AV} {u : Value} {K : AV → Prop} (ha : Rep C a u) (h : anilS P op t a K) :
    ∃ x r, (binSem op t ox oy u (.slice none 0 0)).run P w = .ok x w ∧ Rep C r x ∧ K r := by
  have run : ∀ (e : TypeId) (A : Option Addr) (l c : Nat), P.underlying t = some (.slice e) → (∀ b, (op = .eql ∧ b = A.isNone) ∨ (op = .neq ∧ b = !A.isNone) → (binSem op t ox oy (.slice A l c) (.slice none 0 0)).run P w = .ok (.bool b) w) := fun e A l c hu b hb => by
    have guard : (eqGuard op t ox oy (.slice A l c) (.slice none 0 0)).run P w = .ok () w := by rcases hb with ⟨rfl, _⟩ | ⟨rfl, _⟩ <;> simp [eqGuard]
    rw [binSem, Sem.run_bind, guard, Result.andThen_ok]
    have hq := run_equal_slice_nil (P := P) w t e A l c hu
    rcases hb with ⟨rfl, rfl⟩ | ⟨rfl, rfl⟩
    · simp only [binOp]; simp [hq]
    · simp only [binOp]; simp [hq]
  unfold anilS at h
  split at h
  · rename_i e he
    split at h
    · rename_i sz gr xs hsz
      obtain ⟨h0, hw, hg, h⟩ := h
      obtain ⟨A, n, c, val, rfl, r⟩ := ha.row_inv hw (fun g e' s' hg' => by subst hg'; exact hg)
      have hA : A.isNone = true → xs = [] := fun hA => by
        by_cases hn : n = 0
        · exact List.length_eq_zero_iff.1 (by rw [← r.hn, hn])
        · have hs := r.hs 0 (by omega)
          obtain ⟨a, e1, _⟩ := r.hm 0 0 _ (by omega) (Array.getElem?_eq_getElem (by omega))
          subst e1; cases hA
      split at h
      · cases hb : A.isNone with
        | true => exact ⟨_, _, run e A n c (tElem_und he) true (.inl ⟨rfl, hb.symm⟩), .lit _ rfl, h.1 (hA hb)⟩
        | false => exact ⟨_, _, run e A n c (tElem_und he) false (.inl ⟨rfl, hb.symm⟩), .lit _ rfl, h.2⟩
      · cases hb : A.isNone with
        | true => exact ⟨_, _, run e A n c (tElem_und he) false (.inr ⟨rfl, by rw [hb]; rfl⟩), .lit _ rfl, h.1 (hA hb)⟩
        | false => exact ⟨_, _, run e A n c (tElem_und he) true (.inr ⟨rfl, by rw [hb]; rfl⟩), .lit _ rfl, h.2⟩
      · exact h.elim
    · cases ha with
      | sl _ _ _ _ B c hB hc hb =>
      split at h
      · exact ⟨_, _, run e _ _ c (tElem_und he) false (.inl ⟨rfl, rfl⟩), .lit _ rfl, h⟩
      · exact ⟨_, _, run e _ _ c (tElem_und he) true (.inr ⟨rfl, rfl⟩), .lit _ rfl, h⟩
      · exact h.elim
    · exact h.elim
  · exact h.elim
/-- A row that is made: a box. -/
def amakeSl (P : Program) (t : TypeId) (l c : AV) (h : Hp) (K : AV → Hp → Prop) : Prop :=
  match tElem P t, l, c with
  | some e, .lit (.int _ n), .lit (.int _ m) => match tSize P e, tBytes P e, aZero P e with
    | some sz, some by_, some zc => zc.length = sz ∧ 0 ≤ n ∧ n ≤ m ∧ m.toNat * sz ≤ 16777216 ∧ (by_ : Int) * m ≤ 140737488355328 ∧ m ≤ 140737488355328 ∧ K (.sl h.bx.length 0 n.toNat sz) { h with bx := h.bx ++ [(List.replicate m.toNat zc).flatten] }
    | _, _, _ => False
  | _, _, _ => False
theorem flatten_get {α : Type} {l : List α} {s : Nat} (hl : l.length = s) : ∀ (m k : Nat), (List.replicate m l).flatten[k]? = if k < m * s then l[k % s]? else none
  | 0, k => by simp
  | m + 1, k => by
    rw [List.replicate_succ, List.flatten_cons]
    by_cases hk : k < s
    · rw [List.getElem?_append_left (by omega), if_pos (by rw [Nat.succ_mul]; omega), Nat.mod_eq_of_lt hk]
    · rw [List.getElem?_append_right (by omega), hl, flatten_get hl m (k - s), Nat.succ_mul]
      have e1 : (k - s) % s = k % s := by conv => rhs; rw [show k = (k - s) + s by omega, Nat.add_mod_right]
      rw [e1]
      by_cases hc : k - s < m * s
      · rw [if_pos hc, if_pos (by omega)]
      · rw [if_neg hc, if_neg (by omega)]
theorem amakeSl_run {P : Program} {C : Ctx} {h : Hp} {w : World} {t : TypeId} {l c : AV} {u v : Value} {K : AV → Hp → Prop} (sim : Sim C h w) (hl : Rep C l u) (hc : Rep C c v) (hh : amakeSl P t l c h K) : ∃ z w', (Instr.makeSlice t u v).run P w = .ok z w' ∧ Post C w K z w' := by
  unfold amakeSl at hh
  split at hh
  · rename_i e kn n km m he
    split at hh
    · rename_i sz by_ zc hsz hby hzc
      obtain ⟨hzl, h0, h1, h2, h3, h4, hK⟩ := hh
      cases hl; cases hc
      obtain ⟨z, hz, hzr, _⟩ := aZero_inv (C := C) hzc
      cases hi : P.info? e with
      | none => simp [tSize, hi] at hsz
      | some i =>
        have e1 : i.size = sz := by simpa [tSize, hi] using hsz
        have e2 : i.bytes = by_ := by simpa [tBytes, hi] using hby
        have e3 : i.zero = some z := by simpa [tZero, hi] using hz
        have hrun := run_makeSlice (P := P) w t e i z (tElem_und he) hi e3 kn km n m h0 h1 (by rw [e1]; exact h2) (by rw [e2]; omega) (by omega)
        refine ⟨_, _, hrun, ?_⟩
        have hzs : z.cells.size = sz := by rw [← hzr.1, hzl]
        have hr : Reps C (List.replicate m.toNat zc).flatten (madeCells z.cells (m.toNat * i.size)) := by
          have hlen : (List.replicate m.toNat zc).flatten.length = m.toNat * sz := by simp [hzl]
          refine Reps.of (by rw [hlen, e1]; simp [madeCells]) fun k x v hx hv => ?_
          rw [flatten_get hzl] at hx
          split at hx
          · rename_i hk
            have hs0 : 0 < sz := by
              rcases Nat.eq_zero_or_pos sz with h0 | h0
              · subst h0; simp at hk
              · exact h0
            obtain ⟨v', q1, q2⟩ := hzr.get hx
            have : v = v' := by
              simp only [madeCells, e1] at hv
              simp [hk, hzs, getElem!_def, q1] at hv
              exact hv.symm
            subst this; exact q2
          · cases hx
        obtain ⟨s1, s2, s3⟩ := sim.newBox e hr
        exact ⟨_, _, _, hK, s2, s1, .sl _ _ _ _ _ _ s3 (by omega) (by omega)⟩
    · exact hh.elim
  · exact hh.elim
/-- A row that is built: a box. -/
def abuildSl (P : Program) (t : TypeId) (len : Nat) (parts : List (Nat × AV)) (h : Hp) (K : AV → Hp → Prop) : Prop :=
  match tElem P t with
  | some e => match tSize P e, tZero P e with
    | some sz, some z => 0 < sz ∧ len * sz ≤ 16777216 ∧ (ofVal z).w = some sz ∧ (match setA sz (List.replicate len (ofVal z)) parts with
      | some es => rowW sz es ∧ K (.sl h.bx.length 0 len sz) { h with bx := h.bx ++ [es.flatMap AV.cells] }
      | none => False)
    | _, _ => False
  | none => False
theorem abuildSl_run {P : Program} {C : Ctx} {h : Hp} {w : World} {t : TypeId} {len : Nat} {parts : List (Nat × AV)} {vparts : Array (Nat × Value)} {K : AV → Hp → Prop} (sim : Sim C h w) (hl : parts.length = vparts.size) (hp : ∀ (i : Nat) (p : Nat × AV) (q : Nat × Value), parts[i]? = some p → vparts[i]? = some q → p.1 = q.1 ∧ Rep C p.2 q.2) (hK : abuildSl P t len parts h K) :
    ∃ v w', (Instr.buildSlice t len vparts).run P w = .ok v w' ∧ Post C w K v w' := by
  unfold abuildSl at hK
  split at hK
  · rename_i e he
    split at hK
    · rename_i sz z hsz hz
      obtain ⟨h0, hsmall, hw, hK⟩ := hK
      split at hK
      · rename_i es hes
        obtain ⟨hwe, hK⟩ := hK
        obtain ⟨arr, val, hrun, g2, g3, g4, g5, g6, g7⟩ := buildSlice_raw (w := w) hl hp he hsz hz h0 hsmall hw hes
        refine ⟨_, _, hrun, ?_⟩
        have hr := flat_reps g2.symm g4 hwe len (Nat.le_refl _)
        rw [List.take_of_length_le (by rw [g2]; exact Nat.le_refl _)] at hr
        have hfl := flat_length (fun i => (val i).cells.toList) sz len (fun i hi => by simp [g5 i hi])
        have harr : (flat (fun i => (val i).cells.toList) len).toArray = arr := by
          apply Array.ext (by simp [hfl, g3])
          intro j hj1 hj2
          have hj : (flat (fun i => (val i).cells.toList) len)[j]? = some ((flat (fun i => (val i).cells.toList) len)[j]'(by simpa using hj1)) := List.getElem?_eq_getElem (by simpa using hj1)
          obtain ⟨i, k, hi, hk, rfl, hv⟩ := flat_at _ sz len (fun i hi => by simp [g5 i hi]) j _ hj
          have := g6 i k _ hi (by simpa using hv)
          rw [Array.getElem?_eq_getElem hj2] at this
          simpa using (Option.some.inj this).symm
        rw [harr] at hr
        obtain ⟨s1, s2, s3⟩ := sim.newBox e hr
        have hq : len * 1 ≤ len * sz := Nat.mul_le_mul_left _ h0
        exact ⟨_, _, _, hK, s2, s1, .sl _ _ _ _ _ _ s3 (Nat.le_refl _) (by omega)⟩
      · exact hK.elim
    · exact hK.elim
  · exact hK.elim
def aop (P : Program) (o : Oper) (E : Operand → AV) (h : Hp) (K : AV → Hp → Prop) : Prop :=
  match o.op with
  | .makeSlice t l c => amakeSl P t (E l) (E c) h K
  | .binOp op t x y _ => if isNilS y then anilS P op t (E x) (atH K h) else abin P op t (E x) (E y) (atH K h)
  | _ => aop0 P o E h K
theorem aop_sound {P : Program} {o : Oper} {E : Operand → AV} {h : Hp} {K : AV → Hp → Prop} (hh : aop P o E h K) : AOp P o E h K := by
  unfold aop at hh
  split at hh
  · rename_i t l c ho
    intro C w ρ sim hcst hE
    unfold execOp
    rw [ho] at hE; rw [ho]; dsimp only
    obtain ⟨z, w', h1, h2⟩ := amakeSl_run sim (hE l (by simp [Op.operands])) (hE c (by simp [Op.operands])) hh
    exact upon_v h1 h2
  · rename_i op t x y t2 ho
    split at hh
    · rename_i hn
      obtain rfl := isNilS_eq hn
      intro C w ρ sim hcst hE
      unfold execOp
      rw [ho] at hE; rw [ho]; dsimp only
      exact upon_same (s := binSem op t x (.const (.slice none 0 0)) (ρ x) (ρ (.const (.slice none 0 0)))) sim (by
        rw [hcst]; exact anilS_run (hE x (by simp [Op.operands])) hh)
    · exact aop0_sound (by unfold aop0; rw [ho]; exact hh)
  · exact aop0_sound hh
end Go.V
namespace Go.V
open Go
set_option linter.unusedVariables false
set_option linter.unusedSimpArgs false

def fz : Option Nat → Fence
  | none => Fence.wide
  | some l => Fence.wide.inRound l
theorem fz_round (ro : Option Nat) : (fz ro).round = ro := by cases ro <;> rfl
theorem fz_fn (ro : Option Nat) (f : FuncId) : (fz ro).fn f := by cases ro <;> trivial
theorem fz_depth (ro : Option Nat) : (fz ro).depth = none := by cases ro <;> rfl
theorem fz_calls {ro : Option Nat} {n : Nat} {P : Program} {f : FuncId} {args : Array Value} {w : World} {R : Ending → World → Prop} (h : Calls P f args w R) : CallsIn (fz ro) n P f args w R := by
  have h1 : CallsIn Fence.wide n P f args w R := callsIn_wide.2 h
  cases ro with
  | none => exact h1
  | some l => exact CallsIn.inRound l h1
theorem fz_round_in {ro : Option Nat} {n : Nat} {P : Program} {l : Nat} {f : FuncId} {tmps : Array Value} {x y : Code} {w : World} {R : Ending → World → Prop} (h : RoundIn Fence.wide n P l f tmps x y w R) : RoundIn (fz ro) n P l f tmps x y w R := by
  cases ro with
  | none => exact h
  | some l => exact h
theorem upon_in {P : Program} {ro : Option Nat} {n : Nat} {o : Oper} {a : Act} {next : Act → World → Prop} {Q : Exit → Act → World → Prop} {K : Value → World → Prop} {r : Result Next} (h : Upon P K r) (k : ∀ v w', K v w' → next (a.put o.dst v) w') : o.uponIn (fz ro) n P a next Q r := by
  cases r with
  | halt x w => exact h.elim
  | ok x w =>
    cases x <;> simp only [Upon] at h <;> simp only [Oper.uponIn]
    case value v => exact k _ _ h
    case skip => exact k _ _ h
    case enter f args =>
      refine ⟨fun e => (by rw [fz_depth] at e; cases e), fz_calls (Calls.mono h fun e w' ⟨v, h1, h2⟩ => ?_)⟩
      subst h1; exact k _ _ h2
    case round l f tmps x y =>
      refine ⟨fun e => (by rw [fz_depth] at e; cases e), fz_round_in ((h (n - 1)).mono fun e w' ⟨v, h1, h2⟩ => ?_)⟩
      subst h1; exact k _ _ h2
def putA (tm : List AV) (dst : Option Tmp) (v : AV) : List AV :=
  match dst with
  | some d => tm.set d v
  | none => tm
theorem reps_put {C : Ctx} {tm : List AV} {a : Act} (h : Reps C tm a.tmps) (dst : Option Tmp) {r : AV} {v : Value} (hr : Rep C r v) : Reps C (putA tm dst r) (a.put dst v).tmps := by
  cases dst with
  | none => exact h
  | some d =>
    refine Reps.of (by simp [putA, Act.put, h.1]) fun i x u hx hu => ?_
    simp only [putA] at hx
    simp only [Act.put] at hu
    by_cases hi : i = d
    · subst hi
      have hlt : i < tm.length := by have := (List.getElem?_eq_some_iff.1 hx).1; simpa using this
      rw [List.getElem?_set_self hlt] at hx
      rw [Array.getElem?_setIfInBounds_self_of_lt (by rw [← h.1]; exact hlt)] at hu
      cases hx; cases hu; exact hr
    · rw [List.getElem?_set_ne (Ne.symm hi)] at hx
      rw [Array.getElem?_setIfInBounds_ne (Ne.symm hi)] at hu
      obtain ⟨u', h1, h2⟩ := h.get hx
      rw [hu] at h1; cases h1; exact h2

/-! ### The deferred marks that ranges over functions leave -/
def Mk (w0 : World) (C' : Ctx) (w' : World) (ds ds' : List Deferred) : Prop :=
  ∃ ms : List Nat, ds' = ms.map (fun r => { target := .collected r, args := #[] }) ++ ds ∧ ms.Nodup ∧ ∀ r ∈ ms, w0.heap.size ≤ r ∧ w'.heap[r]? = some (.deferred (some [])) ∧ ¬ Trk C' r
theorem Mk.refl (w0 : World) (C' : Ctx) (w' : World) (ds : List Deferred) : Mk w0 C' w' ds ds := ⟨[], rfl, List.nodup_nil, fun r h => by cases h⟩
theorem Mk.ext {w0 : World} {C1 C2 : Ctx} {w1 w2 : World} {ds ds' : List Deferred} (h : Mk w0 C1 w1 ds ds') (e : Ext C1 w1 C2 w2) : Mk w0 C2 w2 ds ds' := by
  obtain ⟨ms, h1, h2, h3⟩ := h
  refine ⟨ms, h1, h2, fun r hr => ?_⟩
  obtain ⟨a, b, c⟩ := h3 r hr
  have hlt : r < w1.heap.size := (Array.getElem?_eq_some_iff.1 b).1
  refine ⟨a, by rw [e.hun r hlt c]; exact b, fun t => ?_⟩
  rcases e.htr r t with t | t
  · exact c t
  · omega
theorem Mk.trans {w0 w1 : World} {C1 C2 : Ctx} {w2 : World} {ds ds1 ds2 : List Deferred} (h : Mk w0 C1 w1 ds ds1) (e : Ext C1 w1 C2 w2) (h0 : w0.heap.size ≤ w1.heap.size) (k : Mk w1 C2 w2 ds1 ds2) : Mk w0 C2 w2 ds ds2 := by
  have h' := h.ext e
  obtain ⟨ms, h1, h2, h3⟩ := h'
  obtain ⟨ms0, g1, _, g3⟩ := h
  obtain ⟨ns, k1, k2, k3⟩ := k
  have hsame : ms = ms0 := by
    have e1 : ms.map (fun r => ({ target := .collected r, args := #[] } : Deferred)) = ms0.map (fun r => { target := .collected r, args := #[] }) := List.append_cancel_right (h1.symm.trans g1)
    refine (List.map_inj_right (fun x y h => ?_)).1 e1
    injection h with h _; injection h
  refine ⟨ns ++ ms, by rw [k1, h1, List.map_append, List.append_assoc], List.nodup_append.2 ⟨k2, h2, fun a ha b hb hab => ?_⟩, fun r hr => ?_⟩
  · subst hab
    have := (Array.getElem?_eq_some_iff.1 (g3 a (hsame ▸ hb)).2.1).1
    have := (k3 a ha).1
    omega
  · rcases List.mem_append.1 hr with hr | hr
    · exact ⟨Nat.le_trans h0 (k3 r hr).1, (k3 r hr).2⟩
    · exact h3 r hr

/-! ### Code -/
def RdOk (C : Ctx) (ro : Option Nat) : Prop := ∀ l, ro = some l → ∃ j, C.lp j = some l
theorem RdOk.mono {C C' : Ctx} {ro : Option Nat} (h : RdOk C ro) (e : CLe C C') : RdOk C' ro := fun l hl => let ⟨j, hj⟩ := h l hl; ⟨j, e.hlp _ _ hj⟩
def Post2 (C : Ctx) (w : World) (a : Act) (Q : Exit → List AV → Hp → Prop) (e : Exit) (a' : Act) (w' : World) : Prop :=
  ∃ tm' h' C', Q e tm' h' ∧ Ext C w C' w' ∧ Sim C' h' w' ∧ Reps C' tm' a'.tmps ∧ Mk w C' w' a.defers a'.defers
def AWp (P : Program) (c : Code) (Q : Exit → List AV → Hp → Prop) (tm : List AV) (h : Hp) : Prop :=
  ∀ C w a ro n, Sim C h w → Reps C tm a.tmps → RdOk C ro → c.wpIn (fz ro) n P (Post2 C w a Q) a w
def thenQ (next : List AV → Hp → Prop) (Q : Exit → List AV → Hp → Prop) : Exit → List AV → Hp → Prop
  | .normal, tm, h => next tm h
  | e, tm, h => Q e tm h
def blockQ (id : Nat) (Q : Exit → List AV → Hp → Prop) : Exit → List AV → Hp → Prop
  | .exit id', tm, h => if id' = id then Q .normal tm h else Q (.exit id') tm h
  | e, tm, h => Q e tm h
theorem Post2.mono {C : Ctx} {w : World} {a : Act} {Q Q' : Exit → List AV → Hp → Prop} {e : Exit} {a' : Act} {w' : World} (h : Post2 C w a Q e a' w') (k : ∀ tm h, Q e tm h → Q' e tm h) : Post2 C w a Q' e a' w' :=
  let ⟨tm, h', C', h1, h2⟩ := h; ⟨tm, h', C', k _ _ h1, h2⟩
theorem Post2.trans {C C1 : Ctx} {w w1 : World} {a a1 : Act} {Q : Exit → List AV → Hp → Prop} {e : Exit} {a' : Act} {w' : World} (e1 : Ext C w C1 w1) (m1 : Mk w C1 w1 a.defers a1.defers) (h : Post2 C1 w1 a1 Q e a' w') : Post2 C w a Q e a' w' :=
  let ⟨tm, h', C', h1, h2, h3, h4, h5⟩ := h; ⟨tm, h', C', h1, e1.trans h2, h3, h4, m1.trans h2 e1.hsz h5⟩
theorem AWp.mono {P : Program} {c : Code} {Q Q' : Exit → List AV → Hp → Prop} {tm : List AV} {h : Hp} (k : AWp P c Q tm h) (hq : ∀ e tm h, Q e tm h → Q' e tm h) : AWp P c Q' tm h :=
  fun C w a ro n s r d => wpIn_mono (k C w a ro n s r d) fun e a' w' hp => hp.mono (hq e)
theorem Post2.here {C : Ctx} {h : Hp} {w : World} {a : Act} {Q : Exit → List AV → Hp → Prop} {e : Exit} {tm : List AV} (s : Sim C h w) (r : Reps C tm a.tmps) (q : Q e tm h) : Post2 C w a Q e a w := ⟨tm, h, C, q, .refl C w, s, r, .refl w C w _⟩
theorem awp_skip {P : Program} {Q : Exit → List AV → Hp → Prop} {tm : List AV} {h : Hp} (q : Q .normal tm h) : AWp P .skip Q tm h := fun C w a ro n s r d => wpIn_skip (.here s r q)
theorem awp_label {P : Program} {l : Nat} {Q : Exit → List AV → Hp → Prop} {tm : List AV} {h : Hp} (q : Q .normal tm h) : AWp P (.label l) Q tm h := fun C w a ro n s r d => wpIn_label (.here s r q)
theorem awp_exit {P : Program} {id : Nat} {Q : Exit → List AV → Hp → Prop} {tm : List AV} {h : Hp} (q : Q (.exit id) tm h) : AWp P (.exit id) Q tm h := fun C w a ro n s r d => wpIn_exit (.here s r q)
theorem awp_ret {P : Program} {Q : Exit → List AV → Hp → Prop} {tm : List AV} {h : Hp} (q : Q .ret tm h) : AWp P .ret Q tm h := fun C w a ro n s r d => wpIn_ret (.here s r q)
theorem awp_seq {P : Program} {x y : Code} {Q : Exit → List AV → Hp → Prop} {tm : List AV} {h : Hp} (k : AWp P x (thenQ (AWp P y Q) Q) tm h) : AWp P (.seq x y) Q tm h := by
  intro C w a ro n s r d
  refine wpIn_seq (wpIn_mono (k C w a ro n s r d) fun e a' w' hp => ?_)
  obtain ⟨tm', h', C', h1, h2, h3, h4, h5⟩ := hp
  cases e with
  | normal => exact wpIn_mono (h1 C' w' a' ro n h3 h4 (d.mono h2.le)) fun e a'' w'' hp => hp.trans h2 h5
  | _ => exact ⟨tm', h', C', h1, h2, h3, h4, h5⟩
theorem awp_cond {P : Program} {c : Operand} {x y : Code} {Q : Exit → List AV → Hp → Prop} {tm : List AV} {h : Hp} {t : Bool} (hc : ev tm c = .lit (.bool t)) (h1 : t = true → AWp P x Q tm h) (h2 : t = false → AWp P y Q tm h) : AWp P (.cond c x y) Q tm h := by
  intro C w a ro n s r d
  have hv := rep_ev r c
  rw [hc] at hv
  have he : a.eval c = .bool t := by generalize a.eval c = u at hv; cases hv; rfl
  exact wpIn_cond_split he (fun e => h1 e C w a ro n s r d) (fun e => h2 e C w a ro n s r d)
theorem awp_block {P : Program} {id : Nat} {c : Code} {Q : Exit → List AV → Hp → Prop} {tm : List AV} {h : Hp} (k : AWp P c (blockQ id Q) tm h) : AWp P (.block id c) Q tm h := by
  intro C w a ro n s r d
  refine wpIn_block (wpIn_mono (k C w a ro n s r d) fun e a' w' hp => ?_)
  cases e with
  | exit id' =>
    obtain ⟨tm', h', C', h1, h2⟩ := hp
    simp only [blockQ] at h1
    simp only [Exit.inBlock]
    split at h1
    · rename_i he; rw [if_pos he]; exact ⟨tm', h', C', h1, h2⟩
    · rename_i he; rw [if_neg he]; exact ⟨tm', h', C', h1, h2⟩
  | _ => exact hp
/-- A loop, unrolled once. What the slots of S hold is forgotten behind a round. -/
def forget (S : List Nat) (tm : List AV) : List AV := S.foldl (fun tm t => tm.set t .any) tm
theorem reps_forget {C : Ctx} : ∀ (S : List Nat) {tm : List AV} {vs : Array Value}, Reps C tm vs → Reps C (forget S tm) vs
  | [], _, _, h => h
  | t :: S, tm, vs, h => by
    refine reps_forget S (Reps.of (by simp [h.1]) fun i x u hx hu => ?_)
    by_cases hi : i = t
    · subst hi
      have hlt : i < tm.length := by have := (List.getElem?_eq_some_iff.1 hx).1; simpa using this
      rw [List.getElem?_set_self hlt] at hx
      cases hx; exact .any _
    · rw [List.getElem?_set_ne (Ne.symm hi)] at hx
      obtain ⟨u', h1, h2⟩ := h.get hx
      rw [hu] at h1; cases h1; exact h2
theorem awp_forget {P : Program} {c : Code} {Q : Exit → List AV → Hp → Prop} (S : List Nat) {tm : List AV} {h : Hp} (k : AWp P c Q (forget S tm) h) : AWp P c Q tm h := fun C w a ro n s r d => k C w a ro n s (reps_forget S r) d
def Going (F : Fence) (n : Nat) (P : Program) (c : Code) (Q : Exit → Act → World → Prop) (a : Act) (w : World) : Prop :=
  ∀ (b : Frame) (k : List Item) (cs : List Frame), b.roundOf = F.round → F.fn b.fn → F.room (cs.length + 1 + n) →
    ∃ e a' w', Q e a' w' ∧ ArrivesIn (Machine.fenced P F) P (lone (b.atR a (.inLoop c :: k)) cs w) b k cs e a' w'
theorem going_of {F : Fence} {n : Nat} {P : Program} {c : Code} {Q : Exit → Act → World → Prop} {a : Act} {w : World} (h : c.wpIn F n P (Exit.then (Going F n P c Q) Q) a w) : Going F n P c Q a w ∧ (Code.loop c).wpIn F n P Q a w := by
  have key : ∀ (b : Frame) (k : List Item) (cs : List Frame), b.roundOf = F.round → F.fn b.fn → F.room (cs.length + 1 + n) → ∃ e a' w', Q e a' w' ∧ ArrivesIn (Machine.fenced P F) P (lone (b.atR a (.code c :: .inLoop c :: k)) cs w) b k cs e a' w' := by
    intro b k cs hro hb hr
    obtain ⟨e, a₁, w₁, hq, harr⟩ := h b (.inLoop c :: k) cs hro hb hr
    cases e with
    | normal =>
      obtain ⟨e₂, a₂, w₂, hq₂, harr₂⟩ := hq b k cs hro hb hr
      exact ⟨e₂, a₂, w₂, hq₂, .of_steps harr harr₂⟩
    | exit id => exact ⟨_, a₁, w₁, hq, .pass (x := .inLoop c) rfl (fun _ _ => .inl (by simp)) harr⟩
    | goto l => exact ⟨_, a₁, w₁, hq, .pass (x := .inLoop c) rfl (fun _ _ => .inl (by simp)) harr⟩
    | ret => exact ⟨_, a₁, w₁, hq, .pass (x := .inLoop c) rfl (fun _ _ => .inl (by simp)) harr⟩
    | panic ch => exact ⟨_, a₁, w₁, hq, .pass (x := .inLoop c) rfl (fun _ _ => .inl (by simp)) harr⟩
    | outgrown => exact ⟨_, a₁, w₁, hq, .pass (x := .inLoop c) rfl (fun _ _ => .inl (by simp)) harr⟩
  refine ⟨fun b k cs hro hb hr => ?_, fun b k cs hro hb hr => ?_⟩
  · obtain ⟨e, a', w', hq, harr⟩ := key b k cs hro hb hr
    exact ⟨e, a', w', hq, .of_steps (.one (fenced_calm hb hr rfl) stepR_inLoop) harr⟩
  · obtain ⟨e, a', w', hq, harr⟩ := key b k cs hro hb hr
    exact ⟨e, a', w', hq, .of_steps (.one (fenced_calm hb hr rfl) stepR_loop) harr⟩
/-- A loop that goes round: what holds at its head. -/
def ALoop (P : Program) (c : Code) (Q : Exit → List AV → Hp → Prop) (tm : List AV) (h : Hp) : Prop :=
  ∀ C w a ro n, Sim C h w → Reps C tm a.tmps → RdOk C ro → Going (fz ro) n P c (Post2 C w a Q) a w ∧ (Code.loop c).wpIn (fz ro) n P (Post2 C w a Q) a w
theorem Going.mono {F : Fence} {n : Nat} {P : Program} {c : Code} {Q Q' : Exit → Act → World → Prop} {a : Act} {w : World} (h : Going F n P c Q a w) (k : ∀ e a w, Q e a w → Q' e a w) : Going F n P c Q' a w :=
  fun b kk cs hro hb hr => let ⟨e, a', w', q, r⟩ := h b kk cs hro hb hr; ⟨e, a', w', k _ _ _ q, r⟩
theorem aloop_round {P : Program} {c : Code} {Q : Exit → List AV → Hp → Prop} (S : List Nat) {tm : List AV} {h : Hp} (k : AWp P c (thenQ (fun tm' h' => ALoop P c Q (forget S tm') h') Q) tm h) : ALoop P c Q tm h := by
  intro C w a ro n s r d
  refine going_of (wpIn_mono (k C w a ro n s r d) fun e a' w' hp => ?_)
  obtain ⟨tm', h', C', h1, h2, h3, h4, h5⟩ := hp
  cases e with
  | normal => exact (h1 C' w' a' ro n h3 (reps_forget S h4) (d.mono h2.le)).1.mono fun e a'' w'' hp => hp.trans h2 h5
  | _ => exact ⟨tm', h', C', h1, h2, h3, h4, h5⟩
theorem aloop_forget {P : Program} {c : Code} {Q : Exit → List AV → Hp → Prop} (S : List Nat) {tm : List AV} {h : Hp} (k : ALoop P c Q (forget S tm) h) : ALoop P c Q tm h := fun C w a ro n s r d => k C w a ro n s (reps_forget S r) d
theorem awp_loop {P : Program} {c : Code} {Q : Exit → List AV → Hp → Prop} {tm : List AV} {h : Hp} (S : List Nat) (k : ALoop P c Q (forget S tm) h) : AWp P (.loop c) Q tm h := fun C w a ro n s r d => (k C w a ro n s (reps_forget S r) d).2

/-! ### Regions -/
def gval (all : Array Oper) (tm : List AV) (j : Nat) : Option (Option Bool) :=
  match (all[j]?).bind (·.dst) with
  | some d => match tm.getD d .any with
    | .lit (.bool b) => some (some b)
    | .tup [] => some none
    | _ => none
  | none => none
/-- What comes behind an operation. -/
def kNext (F : List AV → Hp → Prop) (dst : Option Tmp) (tm : List AV) (r : AV) (h : Hp) : Prop := F (putA tm dst r) h
def aops (P : Program) (all : Array Oper) : List Oper → (List AV → Hp → Prop) → List AV → Hp → Prop
  | [], K, tm, h => K tm h
  | o :: rest, K, tm, h => match o.guard with
    | none => aop P o (ev tm) h (kNext (aops P all rest K) o.dst tm)
    | some (j, want) => match gval all tm j with
      | some y => (y = some want → aop P o (ev tm) h (kNext (aops P all rest K) o.dst tm)) ∧ (y ≠ some want → aops P all rest K (putA tm o.dst (.tup [])) h)
      | none => False
theorem rep_skip (C : Ctx) : Rep C (.tup []) undef := .tup [] #[] rfl (fun i x h => by simp at h)
theorem gval_yielded {C : Ctx} {all : Array Oper} {tm : List AV} {a : Act} {j : Nat} {y : Option Bool} (r : Reps C tm a.tmps) (h : gval all tm j = some y) : yielded all a.tmps j = y := by
  unfold gval at h
  unfold yielded
  split at h
  · rename_i d hd
    have key : ∀ x, tm.getD d .any = x → x ≠ .any → ∃ v, a.tmps[d]? = some v ∧ Rep C x v := fun x hb hx => by
      have hlt : d < tm.length := Nat.lt_of_not_le fun hle => by
        simp only [List.getD, List.getElem?_eq_none hle] at hb; exact hx hb.symm
      have hx : tm[d]? = some x := by
        simp only [List.getD, List.getElem?_eq_getElem hlt, Option.getD_some] at hb
        rw [List.getElem?_eq_getElem hlt, hb]
      exact r.get hx
    split at h
    · rename_i b' hb
      cases h
      obtain ⟨v, h1, h2⟩ := key _ hb (by simp)
      cases h2
      rw [hd]; simp [h1]
    · rename_i hb
      cases h
      obtain ⟨v, h1, h2⟩ := key _ hb (by simp)
      cases h2 with
      | tup _ vs hl _ =>
        rw [hd]; simp [h1]
    · cases h
  · cases h
theorem aop0_not_defer {P : Program} {o : Oper} {E : Operand → AV} {h : Hp} {K : AV → Hp → Prop} (hh : aop0 P o E h K) (c : Call) : o.op ≠ .defer c := by
  intro e
  unfold aop0 at hh
  rw [e] at hh
  exact hh
theorem aop_not_defer {P : Program} {o : Oper} {E : Operand → AV} {h : Hp} {K : AV → Hp → Prop} (hh : aop P o E h K) (c : Call) : o.op ≠ .defer c := by
  intro e
  unfold aop at hh
  rw [e] at hh
  exact aop0_not_defer hh c e
theorem aop_in {P : Program} {C : Ctx} {h : Hp} {w : World} {a : Act} {tm : List AV} {ro : Option Nat} {n : Nat} {o : Oper} {K : AV → Hp → Prop} {next : Act → World → Prop} {Q : Exit → Act → World → Prop} (s : Sim C h w) (r : Reps C tm a.tmps) (hh : aop P o (ev tm) h K) (k : ∀ v w', Post C w K v w' → next (a.put o.dst v) w') :
    o.wpIn (fz ro) n P a w next Q := by
  refine ⟨fun f _ => fz_fn ro f, ?_⟩
  rw [fz_round, Oper.semAt_eq ro a.eval o (aop_not_defer hh)]
  exact upon_in (aop_sound hh C w a.eval s (fun _ => rfl) (fun x _ => rep_ev r x)) k
theorem aops_in {P : Program} {all : Array Oper} {ro : Option Nat} {n : Nat} {K : List AV → Hp → Prop} {Q' : Exit → Act → World → Prop} : ∀ (rest : List Oper) (k : Nat), rest = all.toList.drop k → ∀ (C : Ctx) (h : Hp) (w : World) (a : Act) (tm : List AV), Sim C h w → Reps C tm a.tmps → aops P all rest K tm h →
    (∀ tm' h' C' a' w', K tm' h' → Ext C w C' w' → Sim C' h' w' → Reps C' tm' a'.tmps → a'.defers = a.defers → Q' .normal a' w') → wpOpsIn (fz ro) n P all Q' (List.range' k rest.length) a w
  | [], k, _, C, h, w, a, tm, s, r, hh, hQ => hQ tm h C a w hh (.refl C w) s r rfl
  | o :: rest, k, hk, C, h, w, a, tm, s, r, hh, hQ => by
    have hko : all[k]? = some o := by
      have := congrArg (fun l => l[0]?) hk
      simp at this
      exact this.symm
    have hkr : rest = all.toList.drop (k + 1) := by
      have := congrArg List.tail hk
      simpa [List.tail_drop] using this
    simp only [List.length_cons, List.range'_succ]
    rw [wpOpsIn]
    simp only [hko]
    have go : ∀ (K1 : AV → Hp → Prop), (∀ x h', K1 x h' → aops P all rest K (putA tm o.dst x) h') → ∀ v w', Post C w K1 v w' → wpOpsIn (fz ro) n P all Q' (List.range' (k + 1) rest.length) (a.put o.dst v) w' := by
      intro K1 hK1 v w' ⟨x, h', C', h1, h2, h3, h4⟩
      refine aops_in rest (k + 1) hkr C' h' w' (a.put o.dst v) (putA tm o.dst x) h3 (reps_put (r.mono h2.le) o.dst h4) (hK1 x h' h1) fun tm' h'' C'' a' w'' hk e1 e2 e3 e4 => hQ tm' h'' C'' a' w'' hk (h2.trans e1) e2 e3 (e4.trans ?_)
      cases o.dst <;> rfl
    simp only [aops] at hh
    split at hh
    · rename_i hg
      rw [if_pos (by simp [Region.wanted, hg])]
      exact aop_in s r hh (go _ fun _ _ h => h)
    · rename_i j want hg
      split at hh
      · rename_i b hb
        have hy := gval_yielded r hb
        by_cases hbw : b = some want
        · rw [if_pos (by simp [Region.wanted, hg, hy, hbw])]
          exact aop_in s r (hh.1 hbw) (go _ fun _ _ h => h)
        · rw [if_neg (by simp [Region.wanted, hg, hy, hbw])]
          refine ⟨fun f _ => fz_fn ro f, ?_⟩
          exact go (fun x h' => x = .tup [] ∧ h' = h) (fun x h' ⟨e1, e2⟩ => by subst e1; subst e2; exact hh.2 hbw) undef w ⟨.tup [], h, C, ⟨rfl, rfl⟩, .refl C w, s, rep_skip C⟩
      · exact hh.elim
theorem awp_region {P : Program} {id : Nat} {all : Array Oper} {Q : Exit → List AV → Hp → Prop} {tm : List AV} {h : Hp} (k : aops P all all.toList (Q .normal) tm h) : AWp P (.region id all false) Q tm h := by
  intro C w a ro n s r d
  refine wpIn_region ?_
  rw [List.range_eq_range', ← Array.length_toList]
  exact aops_in all.toList 0 rfl C h w a tm s r k fun tm' h' C' a' w' hk e1 e2 e3 e4 => ⟨tm', h', C', hk, e1, e2, e3, by rw [e4]; exact .refl _ _ _ _⟩

/-! ### Functions -/
def ACall (P : Program) (f : FuncId) (args : List AV) (h : Hp) (K : AV → Hp → Prop) : Prop :=
  ∀ C w vs, Sim C h w → Reps C args vs → Calls P f vs w fun e w' => ∃ v, e = .returned v ∧ Post C w K v w'
theorem ACall.mono {P : Program} {f : FuncId} {args : List AV} {h : Hp} {K K' : AV → Hp → Prop} (k : ACall P f args h K) (hk : ∀ r h', K r h' → K' r h') : ACall P f args h K' :=
  fun C w vs s r => Calls.mono (k C w vs s r) fun e w' ⟨v, h1, r', h', C', h2, h3⟩ => ⟨v, h1, r', h', C', hk _ _ h2, h3⟩
/-- A function of the program's that has a body. -/
def fnOk (P : Program) (f : FuncId) : Bool :=
  match P.funcs[f]? with
  | some fn => fn.body.isSome && fn.name != "runtime.NumGoroutine"
  | none => false
theorem callFunc_run {P : Program} {f : FuncId} (h : fnOk P f = true) (args : Array Value) (w : World) : (callFunc f args).run P w = .ok (.enter f args) w := by
  unfold fnOk at h
  cases hf : P.funcs[f]? with
  | none => rw [hf] at h; cases h
  | some fn =>
    rw [hf] at h
    simp at h
    obtain ⟨h1, h2⟩ := h
    unfold callFunc
    have h3 : (fn.name == "runtime.NumGoroutine") = false := by simpa using h2
    have h4 : fn.body ≠ none := by cases hb : fn.body <;> simp_all
    simp [program, Sem.run, hf, h2, h4]
theorem acallv_clo {P : Program} {f : FuncId} {first args caps : List AV} {h : Hp} {K : AV → Hp → Prop} (hf : fnOk P f = true) (k : ACall P f (first ++ args ++ caps) h K) : ACallV P (.clo (.func f) first caps) args h K := by
  intro C w v vs s r rs
  cases r with
  | clo _ _ _ v1 v2 hl1 hl2 h1 h2 =>
    have e : (callSem (.func (.func f) v1 v2) vs).run P w = .ok (.enter f (v1 ++ vs ++ v2)) w := by
      simp only [callSem, Deferred.ofValue]
      show (invoke (.fn (.func f) v2) (v1 ++ vs)).run P w = _
      exact callFunc_run hf _ w
    rw [e]
    refine k C w _ s ?_
    have a1 : Reps C first v1.toList.toArray := by rw [Array.toArray_toList]; exact ⟨hl1, h1⟩
    have a2 : Reps C args vs.toList.toArray := by rw [Array.toArray_toList]; exact rs
    have a3 : Reps C caps v2.toList.toArray := by rw [Array.toArray_toList]; exact ⟨hl2, h2⟩
    have := (a1.append a2).append a3
    have e : (v1.toList ++ vs.toList ++ v2.toList).toArray = v1 ++ vs ++ v2 := by apply Array.ext'; simp
    rwa [e] at this
theorem acallv_fn {P : Program} {f : FuncId} {args : List AV} {h : Hp} {K : AV → Hp → Prop} (hf : fnOk P f = true) (k : ACall P f args h K) : ACallV P (.lit (.func (.func f) #[] #[])) args h K := by
  intro C w v vs s r rs
  cases r
  have e : (callSem (.func (.func f) #[] #[]) vs).run P w = .ok (.enter f vs) w := by
    simp only [callSem, Deferred.ofValue]
    show (invoke (.fn (.func f) #[]) (#[] ++ vs)).run P w = _
    have := callFunc_run hf vs w
    simpa [invoke] using this
  rw [e]
  exact k C w vs s rs
def aresOne (P : Program) (r : ResultVar) (tm : List AV) (h : Hp) (K : AV → Prop) : Prop :=
  match r with
  | .tmp t => K (tm.getD t .any)
  | .cell a t => match tm.getD a .any with
    | .ptr k o => aload P t (.ptr k o) h K
    | _ => False
def ares (P : Program) : List ResultVar → List AV → Hp → (List AV → Prop) → Prop
  | [], _, _, K => K []
  | r :: rs, tm, h, K => aresOne P r tm h fun x => ares P rs tm h fun xs => K (x :: xs)
def tupOf : List AV → AV
  | [x] => x
  | l => .tup l
def bodyQ (P : Program) (fn : Func) (K : AV → Hp → Prop) (e : Exit) (tm : List AV) (h : Hp) : Prop :=
  match e with
  | .normal => ares P fn.results.toList tm h fun xs => K (tupOf xs) h
  | .ret => ares P fn.results.toList tm h fun xs => K (tupOf xs) h
  | _ => False
theorem rep_tm {C : Ctx} {tm : List AV} {vs : Array Value} (r : Reps C tm vs) (t : Nat) : Rep C (tm.getD t .any) (vs.getD t undef) := rep_ev (a := { tmps := vs, defers := [] }) r (.tmp t)
def resSem (vs : Array Value) : ResultVar → Sem Value
  | .tmp t => pure (vs.getD t undef)
  | .cell a t => do loadVar t (← asAddr (vs.getD a undef))
theorem ares_run {P : Program} {C : Ctx} {h : Hp} {w : World} {tm : List AV} {vs : Array Value} (s : Sim C h w) (r : Reps C tm vs) : ∀ (rs : List ResultVar) (K : List AV → Prop), ares P rs tm h K → ∃ us xs, (rs.mapM (resSem vs)).run P w = .ok us w ∧ Reps C xs us.toArray ∧ K xs
  | [], K, hK => ⟨[], [], by simp, Reps.nil C, hK⟩
  | x :: rs, K, hK => by
    simp only [ares] at hK
    have : ∃ u y, (resSem vs x).run P w = .ok u w ∧ Rep C y u ∧ ares P rs tm h fun xs => K (y :: xs) := by
      cases x with
      | tmp t => exact ⟨_, _, rfl, rep_tm r t, hK⟩
      | cell a t =>
        simp only [aresOne] at hK
        split at hK
        · rename_i k o hp
          have hr := rep_tm r a
          rw [hp] at hr
          obtain ⟨v, y, h1, h2, h3⟩ := aload_run s hr hK
          refine ⟨v, y, ?_, h2, h3⟩
          simp only [resSem]
          generalize vs.getD a undef = u at hr h1 ⊢
          cases hr with
          | ptr _ _ B hB => simpa [asAddr, Instr.loadAt, Instr.sureAddr] using h1
        · exact hK.elim
    obtain ⟨u, y, h1, h2, h3⟩ := this
    obtain ⟨us, xs, h4, h5, h6⟩ := ares_run s r rs _ h3
    refine ⟨u :: us, y :: xs, ?_, Reps.cons h2 h5, h6⟩
    rw [List.mapM_cons]
    simp only [Sem.run_bind, h1, Result.andThen_ok, h4, Sem.run_pure]
theorem tupOf_rep {C : Ctx} {xs : List AV} {us : List Value} (h : Reps C xs us.toArray) : Rep C (tupOf xs) (if hh : us.toArray.size = 1 then us.toArray[0] else .tuple us.toArray) := by
  cases xs with
  | nil =>
    have : us = [] := by have := h.1; simp at this; exact List.length_eq_zero_iff.1 this.symm
    subst this
    exact .tup _ _ h.1 h.2
  | cons x xs =>
    obtain ⟨v, us', e, h1, h2⟩ := h.uncons
    have e : us = v :: us' := by simpa using e
    subst e
    cases xs with
    | nil =>
      have : us' = [] := by have := h2.1; simp at this; exact List.length_eq_zero_iff.1 this.symm
      subst this
      exact h1
    | cons y ys =>
      have h3 := h2.1
      rw [dif_neg (by intro hh; simp at hh h3; subst hh; simp at h3)]
      exact .tup _ _ h.1 h.2
theorem results_run {P : Program} {C : Ctx} {h : Hp} {w : World} {fn : Func} {tm : List AV} {vs : Array Value} {K : AV → Prop} (s : Sim C h w) (r : Reps C tm vs) (hK : ares P fn.results.toList tm h fun xs => K (tupOf xs)) : ∃ v y, (results fn vs).run P w = .ok v w ∧ Rep C y v ∧ K y := by
  obtain ⟨us, xs, h1, h2, h3⟩ := ares_run s r fn.results.toList _ hK
  refine ⟨_, _, ?_, tupOf_rep h2, h3⟩
  have e : results fn vs = (do let us ← fn.results.mapM (resSem vs); pure (if hh : us.size = 1 then us[0] else .tuple us)) := by
    unfold results
    have : ∀ f : ResultVar → Sem Value, (∀ r, f r = resSem vs r) → (do let us ← fn.results.mapM f; pure (if hh : us.size = 1 then us[0] else .tuple us)) = (do let us ← fn.results.mapM (resSem vs); pure (if hh : us.size = 1 then us[0] else .tuple us) : Sem Value) := fun f hf => by
      rw [funext hf]
    exact this _ fun r => by cases r <;> rfl
  rw [e, Array.mapM_eq_mapM_toList]
  simp only [Sem.run_bind, Sem.run_map, h1, Result.andThen_ok]
  rfl
/-- Taking the marks, one by one. -/
theorem leaves_marks {P : Program} {fn : Func} {C : Ctx} {h : Hp} {tm : List AV} {vs : Array Value} {K : AV → Prop} {n : Nat} {R : Ending → World → Prop} (r : Reps C tm vs) (hK : ares P fn.results.toList tm h fun xs => K (tupOf xs)) : ∀ (ms : List Nat) (w : World), Sim C h w → ms.Nodup → (∀ q ∈ ms, w.heap[q]? = some (.deferred (some [])) ∧ ¬ Trk C q) →
    (∀ w', w'.heap.size = w.heap.size → w'.os = w.os → w'.tape = w.tape → w'.output = w.output → (∀ b, b ∉ ms → w'.heap[b]? = w.heap[b]?) → Sim C h w' → ∀ v y, Rep C y v → K y → R (.returned v) w') → LeavesInM Fence.wide n P fn vs R (ms.map fun q => { target := .collected q, args := #[] }) .returning w
  | [], w, s, _, _, hR => by
    obtain ⟨v, y, h1, h2, h3⟩ := results_run s r hK
    exact ⟨v, h1, hR w rfl rfl rfl rfl (fun _ _ => rfl) s v y h2 h3⟩
  | q :: ms, w, s, hn, hm, hR => by
    obtain ⟨h1, h2⟩ := hm q (List.mem_cons_self ..)
    obtain ⟨hq, hn'⟩ := List.nodup_cons.1 hn
    refine ⟨by simp, .inl ⟨q, { w with heap := w.heap.setIfInBounds q (.deferred none) }, rfl, ?_, ?_⟩⟩
    · simp [Instr.takeDeferred, getObj, setObj, Sem.run, h1]
    · have ho : ∀ b, b ≠ q → (w.heap.setIfInBounds q (.deferred none))[b]? = w.heap[b]? := fun b hb => Array.getElem?_setIfInBounds_ne (Ne.symm hb)
      have s' : Sim C h { w with heap := w.heap.setIfInBounds q (.deferred none) } := s.same fun b t => ho b fun e => by
        subst e
        rcases t with t | ⟨o, v, hv⟩
        · exact h2 t
        · have := s.hM _ _ _ hv
          simp [World.cell?, h1] at this
      refine leaves_marks r hK ms _ s' hn' (fun p hp => ?_) fun w' e1 e2 e3 e4 e5 s'' v y h3 h4 => hR w' (by rw [e1]; simp) e2 e3 e4 (fun b hb => ?_) s'' v y h3 h4
      · obtain ⟨a1, a2⟩ := hm p (List.mem_cons_of_mem _ hp)
        exact ⟨by rw [ho p (fun e => hq (e ▸ hp))]; exact a1, a2⟩
      · rw [e5 b (fun e => hb (List.mem_cons_of_mem _ e)), ho b (fun e => hb (e ▸ List.mem_cons_self ..))]
theorem acall_body {P : Program} {f : FuncId} {fn : Func} {c : Code} {args : List AV} {h : Hp} {K : AV → Hp → Prop} (hf : P.funcs[f]? = some fn) (hb : fn.body = some c) (k : AWp P c (bodyQ P fn K) (args ++ List.replicate (fn.ntmps - args.length) .any) h) : ACall P f args h K := by
  intro C w vs s r
  refine (callsIn_wide (n := 0)).1 (callsIn_of_wp_marks hf hb trivial ?_)
  have hr : Reps C (args ++ List.replicate (fn.ntmps - args.length) .any) (vs ++ Array.replicate (fn.ntmps - vs.size) undef) := by
    have a1 : Reps C args vs.toList.toArray := by simpa using r
    have a2 : Reps C (List.replicate (fn.ntmps - args.length) .any) (List.replicate (fn.ntmps - vs.size) undef).toArray := by
      refine Reps.of (by simp [r.1]) fun i x v hx hv => ?_
      rw [List.getElem?_replicate] at hx
      split at hx
      · cases hx; exact .any _
      · cases hx
    have := a1.append a2
    have e : (vs.toList ++ List.replicate (fn.ntmps - vs.size) undef).toArray = vs ++ Array.replicate (fn.ntmps - vs.size) undef := by apply Array.ext'; simp
    rwa [e] at this
  have hk := k C w { tmps := vs ++ Array.replicate (fn.ntmps - vs.size) undef, defers := [] } none 0 s hr (fun l e => by cases e)
  refine wpIn_mono hk fun e a' w' hp => ?_
  obtain ⟨tm', h', C', h1, h2, h3, h4, ms, h5, h6, h7⟩ := hp
  have done : (ares P fn.results.toList tm' h' fun xs => K (tupOf xs) h') → LeavesInM Fence.wide 0 P fn a'.tmps (fun e w' => ∃ v, e = .returned v ∧ Post C w K v w') a'.defers .returning w' := fun hK => by
    rw [h5]
    simp only [List.append_nil]
    refine leaves_marks (K := fun y => K y h') h4 hK ms w' h3 h6 (fun q hq => (h7 q hq).2) fun w2 e1 e2 e3 e4 e5 s2 v y h8 h9 => ⟨v, rfl, y, h', C', h9, ⟨h2.le, by rw [e1]; exact h2.hsz, e2.trans h2.hos, e3.trans h2.htape, e4.trans h2.hout, fun b hb hn => ?_, h2.htr, h2.hMn⟩, s2, h8⟩
    rw [e5 b (fun hm => by have := (h7 b hm).1; omega)]
    exact h2.hun b hb hn
  cases e with
  | normal => exact done h1
  | ret => exact done h1
  | _ => exact h1.elim
end Go.V
namespace Go.V
open Go
set_option linter.unusedVariables false
set_option linter.unusedSimpArgs false

def shutG : Gr → Gr
  | _ => .no
mutual
def shut : AV → AV
  | .agg cs => .agg (shutL cs)
  | .tup cs => .tup (shutL cs)
  | .row gr xs => .row (shutG gr) (shutL xs)
  | .eptr x o => .eptr (shut x) o
  | .clo fn a b => .clo fn (shutL a) (shutL b)
  | .ifc t v => .ifc t (shut v)
  | .any => .any
  | .lit v => .lit v
  | .ptr k o => .ptr k o
  | .sl k o n s => .sl k o n s
  | .yld j => .yld j
def shutL : List AV → List AV
  | [] => []
  | x :: xs => shut x :: shutL xs
end
def clG (ng : Nat) : Gr → Bool
  | .at g _ _ => decide (g < ng)
  | _ => true
mutual
/-- It refers to boxes below nb, growing rows below ng, loops below nl alone. -/
def cl (nb ng nl : Nat) : AV → Bool
  | .agg cs => clL nb ng nl cs
  | .tup cs => clL nb ng nl cs
  | .row gr xs => clG ng gr && clL nb ng nl xs
  | .eptr x _ => cl nb ng nl x
  | .clo _ a b => clL nb ng nl a && clL nb ng nl b
  | .ifc _ v => cl nb ng nl v
  | .any => true
  | .lit _ => true
  | .ptr k _ => decide (k < nb)
  | .sl k _ _ _ => decide (k < nb)
  | .yld j => decide (j < nl)
def clL (nb ng nl : Nat) : List AV → Bool
  | [] => true
  | x :: xs => cl nb ng nl x && clL nb ng nl xs
end
theorem shutL_map : ∀ xs : List AV, shutL xs = xs.map shut
  | [] => rfl
  | x :: xs => by rw [shutL, shutL_map xs]; rfl
theorem clL_all {nb ng nl : Nat} : ∀ xs : List AV, clL nb ng nl xs = true ↔ ∀ x ∈ xs, cl nb ng nl x = true
  | [] => by simp [clL]
  | x :: xs => by rw [clL, Bool.and_eq_true, clL_all xs]; simp
theorem shutL_enc {α : Type} {f : α → AV} (h : ∀ a, shut (f a) = f a) (l : List α) : shutL (l.map f) = l.map f := by
  rw [shutL_map, List.map_map]; exact List.map_congr_left fun a _ => h a
theorem clL_enc {α : Type} {f : α → AV} {nb ng nl : Nat} (h : ∀ a, cl nb ng nl (f a) = true) (l : List α) : clL nb ng nl (l.map f) = true := by
  rw [clL_all]; intro x hx; obtain ⟨a, _, rfl⟩ := List.mem_map.1 hx; exact h a
theorem shutL_append (xs ys : List AV) : shutL (xs ++ ys) = shutL xs ++ shutL ys := by simp [shutL_map]
theorem clL_append (nb ng nl : Nat) (xs ys : List AV) : clL nb ng nl (xs ++ ys) = (clL nb ng nl xs && clL nb ng nl ys) := by
  rw [Bool.eq_iff_iff, Bool.and_eq_true, clL_all, clL_all, clL_all]
  exact ⟨fun h => ⟨fun x hx => h x (List.mem_append.2 (.inl hx)), fun x hx => h x (List.mem_append.2 (.inr hx))⟩, fun h x hx => (List.mem_append.1 hx).elim (h.1 x) (h.2 x)⟩
theorem shut_get {C : Ctx} {xs : List AV} {f : Nat → Value} (h : ∀ i x, xs[i]? = some x → Rep C (shut x) (f i)) (i : Nat) (x : AV) (hx : (shutL xs)[i]? = some x) : Rep C x (f i) := by
  rw [shutL_map, List.getElem?_map] at hx
  cases hi : xs[i]? with
  | none => rw [hi] at hx; cases hx
  | some y => rw [hi] at hx; cases hx; exact h i y hi
theorem shutL_length (xs : List AV) : (shutL xs).length = xs.length := by rw [shutL_map, List.length_map]
theorem Rep.shut {C : Ctx} {x : AV} {v : Value} (h : Rep C x v) : Rep C (Go.V.shut x) v := by
  induction h with
  | any v => exact .any v
  | lit v h1 => exact .lit v h1
  | agg cs vs hl _ ih => exact .agg _ vs (by rw [shutL_length, hl]) (shut_get ih)
  | tup cs vs hl _ ih => exact .tup _ vs (by rw [shutL_length, hl]) (shut_get ih)
  | row gr xs A n c s val hn hc hb _ hs hm hg ih =>
    refine .row _ _ A n c s val (by rw [shutL_length, hn]) hc hb (shut_get ih) hs hm ?_
    cases gr with
    | no => trivial
    | full => trivial
    | «at» g e s' => trivial
  | ptr k off B h1 => exact .ptr k off B h1
  | eptr x off v B o _ hm ih => exact .eptr _ off v B o ih hm
  | sl k off n s B c h1 hc hb => exact .sl k off n s B c h1 hc hb
  | clo fn first caps v1 v2 hl1 hl2 _ _ ih1 ih2 => exact .clo fn _ _ v1 v2 (by rw [shutL_length, hl1]) (by rw [shutL_length, hl2]) (shut_get ih1) (shut_get ih2)
  | yld j l h1 => exact .yld j l h1
  | ifc t x v _ ih => exact .ifc t _ v ih
theorem cl_get {nb ng nl : Nat} {xs : List AV} (h : clL nb ng nl xs = true) {i : Nat} {x : AV} (hx : xs[i]? = some x) : cl nb ng nl x = true := (clL_all xs).1 h x (List.mem_of_getElem? hx)

def Ctx.cut (C : Ctx) (nb ng nl : Nat) : Ctx := { C with mu := fun k => if k < nb then C.mu k else none, gl := C.gl.take ng, lp := fun j => if j < nl then C.lp j else none }
theorem Rep.cut {C : Ctx} {nb ng nl : Nat} (hng : ng ≤ C.gl.length) {x : AV} {v : Value} (h : Rep C x v) (hc : cl nb ng nl x = true) : Rep (C.cut nb ng nl) x v := by
  induction h with
  | any v => exact .any v
  | lit v h1 => exact .lit v h1
  | agg cs vs hl _ ih => exact .agg cs vs hl fun i x hx => ih i x hx (cl_get (by simpa [cl] using hc) hx)
  | tup cs vs hl _ ih => exact .tup cs vs hl fun i x hx => ih i x hx (cl_get (by simpa [cl] using hc) hx)
  | row gr xs A n c s val hn hcc hb _ hs hm hg ih =>
    simp only [cl, Bool.and_eq_true] at hc
    refine .row gr xs A n c s val hn hcc hb (fun i x hx => ih i x hx (cl_get hc.2 hx)) hs hm ?_
    cases gr with
    | no => trivial
    | full => trivial
    | «at» g e s' =>
      obtain ⟨h1, h2, h3, h4⟩ := hg
      have hg : g < ng := by have := hc.1; simpa [clG] using this
      have hD : (C.gl.take ng).getD g 0 = C.gl.getD g 0 := by simp [List.getD, List.getElem?_take, hg]
      refine ⟨h1, by simp [Ctx.cut]; omega, by show e ≤ (C.gl.take ng).getD g 0; rw [hD]; exact h3, fun e1 => ?_⟩
      have e1 : (C.gl.take ng).getD g 0 = e := e1
      rw [hD] at e1
      exact h4 e1
  | ptr k off B h1 => exact .ptr k off B (by show (if k < nb then C.mu k else none) = some B; rw [if_pos (by simpa [cl] using hc)]; exact h1)
  | eptr x off v B o _ hm ih => exact .eptr _ off v B o (ih (by simpa [cl] using hc)) hm
  | sl k off n s B c h1 hcc hb => exact .sl k off n s B c (by show (if k < nb then C.mu k else none) = some B; rw [if_pos (by simpa [cl] using hc)]; exact h1) hcc hb
  | clo fn first caps v1 v2 hl1 hl2 _ _ ih1 ih2 =>
    simp only [cl, Bool.and_eq_true] at hc
    exact .clo fn _ _ v1 v2 hl1 hl2 (fun i x hx => ih1 i x hx (cl_get hc.1 hx)) (fun i x hx => ih2 i x hx (cl_get hc.2 hx))
  | yld j l h1 => exact .yld j l (by show (if j < nl then C.lp j else none) = some l; rw [if_pos (by simpa [cl] using hc)]; exact h1)
  | ifc t x v _ ih => exact .ifc t _ v (ih (by simpa [cl] using hc))
theorem Rep.cl {C : Ctx} {h : Hp} {w : World} (s : Sim C h w) {x : AV} {v : Value} (r : Rep C x v) : Go.V.cl h.bx.length h.gl.length h.lp.length x = true := by
  induction r with
  | any v => rfl
  | lit v h1 => rfl
  | agg cs vs hl _ ih => rw [Go.V.cl, clL_all]; intro x hx; obtain ⟨i, hi, rfl⟩ := List.mem_iff_getElem.1 hx; exact ih i _ (List.getElem?_eq_getElem hi)
  | tup cs vs hl _ ih => rw [Go.V.cl, clL_all]; intro x hx; obtain ⟨i, hi, rfl⟩ := List.mem_iff_getElem.1 hx; exact ih i _ (List.getElem?_eq_getElem hi)
  | row gr xs A n c s' val hn hcc hb _ hs hm hg ih =>
    rw [Go.V.cl, Bool.and_eq_true, clL_all]
    refine ⟨?_, fun x hx => by obtain ⟨i, hi, rfl⟩ := List.mem_iff_getElem.1 hx; exact ih i _ (List.getElem?_eq_getElem hi)⟩
    cases gr with
    | no => rfl
    | full => rfl
    | «at» g e s'' =>
      have := hg.2.1
      rw [s.hgl] at this
      simpa [clG] using this
  | ptr k off B h1 => have := (s.hmu k).1 (by rw [h1]; rfl); simpa [Go.V.cl] using this
  | eptr x off v B o _ hm ih => rw [Go.V.cl]; exact ih
  | sl k off n s' B c h1 hcc hb => have := (s.hmu k).1 (by rw [h1]; rfl); simpa [Go.V.cl] using this
  | clo fn first caps v1 v2 hl1 hl2 _ _ ih1 ih2 =>
    rw [Go.V.cl, Bool.and_eq_true, clL_all, clL_all]
    exact ⟨fun x hx => by obtain ⟨i, hi, rfl⟩ := List.mem_iff_getElem.1 hx; exact ih1 i _ (List.getElem?_eq_getElem hi), fun x hx => by obtain ⟨i, hi, rfl⟩ := List.mem_iff_getElem.1 hx; exact ih2 i _ (List.getElem?_eq_getElem hi)⟩
  | yld j l h1 => have := (s.hlp j).1 (by rw [h1]; rfl); simpa [Go.V.cl] using this
  | ifc t x v _ ih => rw [Go.V.cl]; exact ih
theorem Reps.cl {C : Ctx} {h : Hp} {w : World} (s : Sim C h w) {xs : List AV} {vs : Array Value} (r : Reps C xs vs) : clL h.bx.length h.gl.length h.lp.length xs = true := by
  rw [clL_all]; intro x hx; obtain ⟨i, hi, rfl⟩ := List.mem_iff_getElem.1 hx; exact (r.2 i _ (List.getElem?_eq_getElem hi)).cl s
theorem Reps.cut {C : Ctx} {nb ng nl : Nat} (hng : ng ≤ C.gl.length) {xs : List AV} {vs : Array Value} (h : Reps C xs vs) (hc : clL nb ng nl xs = true) : Reps (C.cut nb ng nl) xs vs := ⟨h.1, fun i x hx => (h.2 i x hx).cut hng (cl_get hc hx)⟩
theorem Sim.cut {C : Ctx} {h h2 : Hp} {w : World} (s : Sim C h w) {nb ng nl : Nat} (hnb : h2.bx.length = nb) (hbx : ∀ (k : Nat) (cs : List AV), h2.bx[k]? = some cs → h.bx[k]? = some cs ∧ clL nb ng nl cs = true) (hgl : h2.gl = h.gl.take ng) (hng : ng ≤ h.gl.length) (hlp : h2.lp = h.lp) (hnl : nl = h.lp.length)
    (hltm : ∀ (j : Nat) (L : LInfo), h.lp[j]? = some L → clL nb ng nl L.tm = true) : Sim (C.cut nb ng nl) h2 w := by
  have hng' : ng ≤ C.gl.length := by rw [s.hgl]; exact hng
  have hmu : ∀ k B, (C.cut nb ng nl).mu k = some B → k < nb ∧ C.mu k = some B := fun k B e => by
    have e : (if k < nb then C.mu k else none) = some B := e
    split at e
    · exact ⟨‹_›, e⟩
    · cases e
  have hgl' : ∀ g, g < (C.cut nb ng nl).gl.length → g < C.gl.length := fun g hg => by
    have hg : g < (C.gl.take ng).length := hg
    rw [List.length_take] at hg; omega
  have hlp' : ∀ j l, (C.cut nb ng nl).lp j = some l → C.lp j = some l := fun j l e => by
    have e : (if j < nl then C.lp j else none) = some l := e
    split at e
    · exact e
    · cases e
  refine ⟨s.hM, ?_, fun k => ?_, fun k cs B e1 e2 => ?_, fun k k' B e1 e2 => s.hinj _ _ _ (hmu _ _ e1).2 (hmu _ _ e2).2, fun g x hg hx => s.hgr g x (hgl' g hg) hx, fun g g' x x' hg hg' hx hx' => s.hgi g g' x x' (hgl' g hg) (hgl' g' hg') hx hx', fun g k x hg hx e => s.hgb g k x (hgl' g hg) hx (hmu _ _ e).2, fun j => ?_, fun j L l e1 e2 => ?_, fun j j' l e1 e2 => s.hli _ _ _ (hlp' _ _ e1) (hlp' _ _ e2)⟩
  · show C.gl.take ng = h2.gl; rw [hgl, s.hgl]
  · show (if k < nb then C.mu k else none).isSome = true ↔ k < h2.bx.length
    rw [hnb]
    by_cases hk : k < nb
    · rw [if_pos hk]
      have : k < h.bx.length := by
        have h1 : h2.bx[k]? = some (h2.bx[k]'(by omega)) := List.getElem?_eq_getElem (by omega)
        exact (List.getElem?_eq_some_iff.1 (hbx k _ h1).1).1
      exact ⟨fun _ => hk, fun _ => (s.hmu k).2 this⟩
    · rw [if_neg hk]; exact ⟨fun e => (by cases e), fun e => absurd e hk⟩
  · obtain ⟨h1, h3⟩ := hbx k cs e1
    obtain ⟨arr, t, h4, h5, h6⟩ := s.hbx k cs B h1 (hmu _ _ e2).2
    exact ⟨arr, t, h4, h5.cut hng' h3, h6⟩
  · show (if j < nl then C.lp j else none).isSome = true ↔ j < h2.lp.length
    rw [hlp, ← hnl]
    by_cases hj : j < nl
    · rw [if_pos hj]; exact ⟨fun _ => hj, fun _ => (s.hlp j).2 (by omega)⟩
    · rw [if_neg hj]; exact ⟨fun e => (by cases e), fun e => absurd e hj⟩
  · rw [hlp] at e1
    obtain ⟨r, h1, h3⟩ := s.hlr j L l e1 (hlp' _ _ e2)
    exact ⟨r, h1, ⟨h3.htm.cut hng' (hltm j L e1), h3.hpa, h3.has, h3.hbo, h3.hst⟩⟩
theorem Ext.cut {C0 C : Ctx} {w0 w : World} {h0 : Hp} (s0 : Sim C0 h0 w0) (e : Ext C0 w0 C w) : Ext C0 w0 (C.cut h0.bx.length h0.gl.length h0.lp.length) w := by
  have hg0 : C0.gl.length = h0.gl.length := by rw [s0.hgl]
  have hD : ∀ g, g < C0.gl.length → (C.cut h0.bx.length h0.gl.length h0.lp.length).gl.getD g 0 = C.gl.getD g 0 := fun g hg => by
    show (C.gl.take h0.gl.length).getD g 0 = C.gl.getD g 0
    simp [List.getD, List.getElem?_take, show g < h0.gl.length by omega]
  refine ⟨⟨e.le.hM, fun k B h => ?_, ?_, fun g hg => by rw [hD g hg]; exact e.le.hge g hg, fun g hg he => by rw [hD g hg] at he; exact e.le.hga g hg he, fun j l h => ?_⟩, e.hsz, e.hos, e.htape, e.hout, e.hun, fun b hb => e.htr b ?_, e.hMn⟩
  · show (if k < h0.bx.length then C.mu k else none) = some B
    rw [if_pos ((s0.hmu k).1 (by rw [h]; rfl))]; exact e.le.hmu _ _ h
  · show C0.gl.length ≤ (C.gl.take h0.gl.length).length
    have := e.le.hgl
    rw [List.length_take]; omega
  · show (if j < h0.lp.length then C.lp j else none) = some l
    rw [if_pos ((s0.hlp j).1 (by rw [h]; rfl))]; exact e.le.hlp _ _ h
  · rcases hb with ⟨k, hk⟩ | ⟨g, x, hg, hx, hgb⟩ | ⟨j, hj⟩
    · have hk : (if k < h0.bx.length then C.mu k else none) = some b := hk
      split at hk
      · exact .inl ⟨k, hk⟩
      · cases hk
    · have hg : g < (C.gl.take h0.gl.length).length := hg
      rw [List.length_take] at hg
      exact .inr (.inl ⟨g, x, by omega, hx, hgb⟩)
    · have hj : (if j < h0.lp.length then C.lp j else none) = some b := hj
      split at hj
      · exact .inr (.inr ⟨j, hj⟩)
      · cases hj
/-! ### What is sealed: own rows become rows that nobody writes -/
inductive Frz (bx : List (List AV)) (nb ng nl : Nat) : AV → AV → Prop where
  | keep (x y : AV) (h1 : shut x = y) (h2 : cl nb ng nl y = true) : Frz bx nb ng nl x y
  | agg (cs ds : List AV) (hl : cs.length = ds.length) (h : ∀ (i : Nat) (x y : AV), cs[i]? = some x → ds[i]? = some y → Frz bx nb ng nl x y) : Frz bx nb ng nl (.agg cs) (.agg ds)
  | tup (cs ds : List AV) (hl : cs.length = ds.length) (h : ∀ (i : Nat) (x y : AV), cs[i]? = some x → ds[i]? = some y → Frz bx nb ng nl x y) : Frz bx nb ng nl (.tup cs) (.tup ds)
  | row (gr : Gr) (xs ys : List AV) (hl : xs.length = ys.length) (h : ∀ (i : Nat) (x y : AV), xs[i]? = some x → ys[i]? = some y → Frz bx nb ng nl x y) : Frz bx nb ng nl (.row gr xs) (.row .no ys)
  | sl (k off n s : Nat) (cs xs ys : List AV) (hk : nb ≤ k) (hb : bx[k]? = some cs) (hn : xs.length = n) (hw : rowW s xs) (hc : (cs.drop off).take (n * s) = xs.flatMap AV.cells) (hl : xs.length = ys.length) (h : ∀ (i : Nat) (x y : AV), xs[i]? = some x → ys[i]? = some y → Frz bx nb ng nl x y) : Frz bx nb ng nl (.sl k off n s) (.row .no ys)
def FrzL (bx : List (List AV)) (nb ng nl : Nat) (cs ds : List AV) : Prop := cs.length = ds.length ∧ ∀ (i : Nat) (x y : AV), cs[i]? = some x → ds[i]? = some y → Frz bx nb ng nl x y
theorem w_cells {x : AV} {n : Nat} (h : x.w = some n) : x.cells.length = n := by
  cases x <;> simp [AV.w, AV.cells] at h ⊢ <;> omega
theorem flatMap_len {s : Nat} : ∀ {xs : List AV}, rowW s xs → (xs.flatMap AV.cells).length = xs.length * s
  | [], _ => by simp
  | x :: xs, h => by
    rw [List.flatMap_cons, List.length_append, w_cells (h x (List.mem_cons_self ..)), flatMap_len (fun y hy => h y (List.mem_cons_of_mem _ hy)), List.length_cons, Nat.succ_mul]; omega
theorem flatMap_at {s : Nat} : ∀ {xs : List AV}, rowW s xs → ∀ {i : Nat} {x : AV}, xs[i]? = some x → ((xs.flatMap AV.cells).drop (i * s)).take s = x.cells
  | [], _, i, x, hx => by simp at hx
  | y :: xs, h, 0, x, hx => by
    simp at hx; subst hx
    rw [List.flatMap_cons, Nat.zero_mul, List.drop_zero, List.take_left' (w_cells (h _ (List.mem_cons_self ..)))]
  | y :: xs, h, i + 1, x, hx => by
    have hy := w_cells (h y (List.mem_cons_self ..))
    rw [List.flatMap_cons, Nat.succ_mul, Nat.add_comm (i * s) s, ← List.drop_drop, List.drop_left' hy]
    exact flatMap_at (fun z hz => h z (List.mem_cons_of_mem _ hz)) (by simpa using hx)
theorem rep_of_cells {C : Ctx} {x : AV} {n : Nat} (hw : x.w = some n) {vs : Array Value} (hr : Reps C x.cells vs) : ∃ v, Rep C x v ∧ v.cells = vs := by
  have scal : isCell x = true → x.cells = [x] → ∃ v, Rep C x v ∧ v.cells = vs := fun hc hx => by
    rw [hx] at hr
    obtain ⟨v, us, rfl, h1, h2⟩ := hr.uncons
    have : us = [] := by have := h2.1; simp at this; exact List.length_eq_zero_iff.1 this.symm
    subst this
    refine ⟨v, h1, ?_⟩
    have h3 := h1.one hc
    cases v <;> first | rfl | simp [Value.oneCell'] at h3
  cases x with
  | any => simp [AV.w] at hw
  | tup cs => simp [AV.w] at hw
  | agg cs => exact ⟨.agg vs, .agg _ _ hr.1 hr.2, rfl⟩
  | _ => exact scal rfl rfl
open Classical in
noncomputable def ownM (C : Ctx) (w : World) (nb : Nat) (b o : Nat) : Option Value :=
  match C.M b o with
  | some v => some v
  | none => if ∃ k, nb ≤ k ∧ C.mu k = some b then w.cell? ⟨b, o, none⟩ else none
theorem ownM_old {C : Ctx} {w : World} {nb b o : Nat} {v : Value} (h : C.M b o = some v) : ownM C w nb b o = some v := by unfold ownM; rw [h]
theorem ownM_own {C : Ctx} {w : World} {nb k b o : Nat} {v : Value} (hk : nb ≤ k) (hb : C.mu k = some b) (hM : C.M b o = none) (h : w.cell? ⟨b, o, none⟩ = some v) : ownM C w nb b o = some v := by
  unfold ownM; rw [hM]; simp only; rw [if_pos ⟨k, hk, hb⟩]; exact h
theorem ownM_inv {C : Ctx} {w : World} {nb b o : Nat} {v : Value} (h : ownM C w nb b o = some v) : C.M b o = some v ∨ (C.M b o = none ∧ (∃ k, nb ≤ k ∧ C.mu k = some b) ∧ w.cell? ⟨b, o, none⟩ = some v) := by
  unfold ownM at h
  split at h
  · rename_i u hu; cases h; exact .inl hu
  · rename_i hu
    split at h
    · rename_i hk; exact .inr ⟨hu, hk, h⟩
    · cases h
noncomputable def Ctx.own (C : Ctx) (w : World) (nb : Nat) : Ctx := { C with M := ownM C w nb }
theorem CLe.own (C : Ctx) (w : World) (nb : Nat) : CLe C (C.own w nb) := ⟨fun _ _ _ h => ownM_old h, fun _ _ h => h, Nat.le_refl _, fun _ _ => Nat.le_refl _, fun _ _ _ => rfl, fun _ _ h => h⟩
theorem Rep.frz {C : Ctx} {h : Hp} {w : World} (s : Sim C h w) {nb ng nl : Nat} (hng : ng ≤ C.gl.length) {x y : AV} (f : Frz h.bx nb ng nl x y) : ∀ {v : Value}, Rep C x v → Rep ((C.own w nb).cut nb ng nl) y v := by
  induction f with
  | keep x y h1 h2 => intro v r; subst h1; exact (r.shut.mono (CLe.own C w nb)).cut (C := C.own w nb) hng h2
  | agg cs ds hl _ ih =>
    intro v r
    cases r with
    | agg _ vs hlv hr =>
      refine .agg _ vs (hl ▸ hlv) fun i y hy => ?_
      have hi := (List.getElem?_eq_some_iff.1 hy).1
      have hx : cs[i]? = some (cs[i]'(by omega)) := List.getElem?_eq_getElem (by omega)
      exact ih i _ y hx hy (hr i _ hx)
  | tup cs ds hl _ ih =>
    intro v r
    cases r with
    | tup _ vs hlv hr =>
      refine .tup _ vs (hl ▸ hlv) fun i y hy => ?_
      have hi := (List.getElem?_eq_some_iff.1 hy).1
      have hx : cs[i]? = some (cs[i]'(by omega)) := List.getElem?_eq_getElem (by omega)
      exact ih i _ y hx hy (hr i _ hx)
  | row gr xs ys hl _ ih =>
    intro v r
    cases r with
    | row _ _ A n c s0 val hn hc hb hr hs hm hg =>
      refine .row .no ys A n c s0 val (hl ▸ hn) hc hb (fun i y hy => ?_) hs (fun i j u hi hu => let ⟨a, h1, h2, h3⟩ := hm i j u hi hu; ⟨a, h1, h2, ownM_old h3⟩) trivial
      have hi := (List.getElem?_eq_some_iff.1 hy).1
      have hx : xs[i]? = some (xs[i]'(by omega)) := List.getElem?_eq_getElem (by omega)
      exact ih i _ y hx hy (hr i _ hx)
  | sl k off n sz cs xs ys hk hb hn hw hc hl _ ih =>
    intro v r
    cases r with
    | sl _ _ _ _ B c hB hcc hbb =>
    obtain ⟨B', arr, t, h1, h2, h3, h4⟩ := s.box hb
    rw [hB] at h1; cases h1
    obtain ⟨_, _, _, _, hnone⟩ := s.hbx k cs B hb hB
    have seg := h3.take_drop off (n * sz)
    rw [hc] at seg
    have chunk : ∀ i x, xs[i]? = some x → ∃ u, Rep C x u ∧ u.cells = ((((arr.toList.drop off).take (n * sz)).drop (i * sz)).take sz).toArray := fun i x hx => by
      have q := seg.take_drop (i * sz) sz
      rw [flatMap_at hw hx] at q
      exact rep_of_cells (hw x (List.mem_of_getElem? hx)) (by simpa using q)
    have all : ∀ i, ∃ u, ∀ x, xs[i]? = some x → Rep C x u ∧ u.cells = ((((arr.toList.drop off).take (n * sz)).drop (i * sz)).take sz).toArray := fun i => by
      cases hx : xs[i]? with
      | none => exact ⟨undef, fun x h => by cases h⟩
      | some x => obtain ⟨u, hu⟩ := chunk i x hx; exact ⟨u, fun x' h => by cases h; exact hu⟩
    obtain ⟨val, hval⟩ := Classical.skolem.1 all
    have hlen : n * sz ≤ (arr.toList.drop off).length := by
      have := seg.1
      rw [flatMap_len hw, hn] at this
      simp at this
      simp; omega
    have hxi : ∀ i, i < n → xs[i]? = some (xs[i]!) := fun i hi => by
      rw [List.getElem!_eq_getElem?_getD, List.getElem?_eq_getElem (by omega)]; rfl
    refine .row .no ys _ n c sz val (by omega) hcc hbb (fun i y hy => ?_) (fun i hi => ?_) (fun i j u hi hu => ?_) trivial
    · have hi := (List.getElem?_eq_some_iff.1 hy).1
      exact ih i _ y (hxi i (by omega)) hy (hval i _ (hxi i (by omega))).1
    · rw [(hval i _ (hxi i hi)).2]
      have h5 : i * sz + sz ≤ n * sz := by rw [← Nat.succ_mul]; exact Nat.mul_le_mul_right _ hi
      simp only [List.size_toArray, List.length_take, List.length_drop] at hlen ⊢
      omega
    · rw [(hval i _ (hxi i hi)).2] at hu
      simp only [List.getElem?_toArray, List.getElem?_take, List.getElem?_drop] at hu
      split at hu
      · split at hu
        · refine ⟨_, rfl, rfl, ownM_own hk hB (hnone _) ?_⟩
          have := h4 (off + (i * sz + j)) u (by simpa using hu)
          rw [Nat.zero_add, ← Nat.add_assoc] at this
          exact this
        · cases hu
      · cases hu
theorem Reps.frz {C : Ctx} {h : Hp} {w : World} (s : Sim C h w) {nb ng nl : Nat} (hng : ng ≤ C.gl.length) {xs ys : List AV} (f : FrzL h.bx nb ng nl xs ys) {vs : Array Value} (r : Reps C xs vs) : Reps ((C.own w nb).cut nb ng nl) ys vs :=
  ⟨f.1 ▸ r.1, fun i y hy => by
    have hi := (List.getElem?_eq_some_iff.1 hy).1
    have hl := f.1
    have hx : xs[i]? = some (xs[i]'(by omega)) := List.getElem?_eq_getElem (by omega)
    exact (f.2 i _ y hx hy |> fun q => Rep.frz s hng q) (r.2 i _ hx)⟩
theorem frz_keep {bx : List (List AV)} {nb ng nl : Nat} {cs : List AV} (h : clL nb ng nl (shutL cs) = true) : FrzL bx nb ng nl cs (shutL cs) :=
  ⟨(shutL_length cs).symm, fun i x y hx hy => by
    rw [shutL_map, List.getElem?_map, hx] at hy
    cases hy
    exact .keep x _ rfl (cl_get h (by rw [shutL_map, List.getElem?_map, hx]; rfl))⟩
theorem Sim.fin {C : Ctx} {h h2 : Hp} {w : World} (s : Sim C h w) {nb ng nl : Nat} (hnb : h2.bx.length = nb) (hbx : ∀ (k : Nat) (cs : List AV), h2.bx[k]? = some cs → ∃ cs', h.bx[k]? = some cs' ∧ ((cs' = cs ∧ clL nb ng nl cs = true) ∨ FrzL h.bx nb ng nl cs' cs)) (hgl : h2.gl = h.gl.take ng) (hng : ng ≤ h.gl.length) (hlp : h2.lp = h.lp) (hnl : nl = h.lp.length)
    (hltm : ∀ (j : Nat) (L : LInfo), h.lp[j]? = some L → clL nb ng nl L.tm = true) : Sim ((C.own w nb).cut nb ng nl) h2 w := by
  have hng' : ng ≤ C.gl.length := by rw [s.hgl]; exact hng
  have hmu : ∀ k B, ((C.own w nb).cut nb ng nl).mu k = some B → k < nb ∧ C.mu k = some B := fun k B e => by
    have e : (if k < nb then C.mu k else none) = some B := e
    split at e
    · exact ⟨‹_›, e⟩
    · cases e
  have hgl' : ∀ g, g < ((C.own w nb).cut nb ng nl).gl.length → g < C.gl.length := fun g hg => by
    have hg : g < (C.gl.take ng).length := hg
    rw [List.length_take] at hg; omega
  have hlp' : ∀ j l, ((C.own w nb).cut nb ng nl).lp j = some l → C.lp j = some l := fun j l e => by
    have e : (if j < nl then C.lp j else none) = some l := e
    split at e
    · exact e
    · cases e
  have old : ∀ {cs : List AV} {arr : Array Value}, Reps C cs arr → clL nb ng nl cs = true → Reps ((C.own w nb).cut nb ng nl) cs arr := fun {cs arr} r hc => (r.mono (CLe.own C w nb)).cut (C := C.own w nb) hng' hc
  refine ⟨fun b o v e => ?_, ?_, fun k => ?_, fun k cs B e1 e2 => ?_, fun k k' B e1 e2 => s.hinj _ _ _ (hmu _ _ e1).2 (hmu _ _ e2).2, fun g x hg hx => ?_, fun g g' x x' hg hg' hx hx' => s.hgi g g' x x' (hgl' g hg) (hgl' g' hg') hx hx', fun g k x hg hx e => s.hgb g k x (hgl' g hg) hx (hmu _ _ e).2, fun j => ?_, fun j L l e1 e2 => ?_, fun j j' l e1 e2 => s.hli _ _ _ (hlp' _ _ e1) (hlp' _ _ e2)⟩
  · rcases ownM_inv e with e | ⟨_, _, e⟩
    · exact s.hM _ _ _ e
    · exact e
  · show C.gl.take ng = h2.gl; rw [hgl, s.hgl]
  · show (if k < nb then C.mu k else none).isSome = true ↔ k < h2.bx.length
    rw [hnb]
    by_cases hk : k < nb
    · rw [if_pos hk]
      have : k < h.bx.length := by
        have h1 : h2.bx[k]? = some (h2.bx[k]'(by omega)) := List.getElem?_eq_getElem (by omega)
        obtain ⟨cs', h3, _⟩ := hbx k _ h1
        exact (List.getElem?_eq_some_iff.1 h3).1
      exact ⟨fun _ => hk, fun _ => (s.hmu k).2 this⟩
    · rw [if_neg hk]; exact ⟨fun e => (by cases e), fun e => absurd e hk⟩
  · obtain ⟨cs', h1, h3⟩ := hbx k cs e1
    obtain ⟨hk, hB⟩ := hmu _ _ e2
    obtain ⟨arr, t, h4, h5, h6⟩ := s.hbx k cs' B h1 hB
    refine ⟨arr, t, h4, ?_, fun o => ?_⟩
    · rcases h3 with ⟨rfl, h3⟩ | h3
      · exact old h5 h3
      · exact h5.frz s hng' h3
    · cases e : ownM C w nb B o with
      | none => exact e
      | some v =>
        rcases ownM_inv e with e | ⟨_, ⟨k', hk', e'⟩, _⟩
        · rw [h6 o] at e; cases e
        · have := s.hinj _ _ _ hB e'; omega
  · obtain ⟨arr, t, h1, h2, h3⟩ := s.hgr g x (hgl' g hg) hx
    refine ⟨arr, t, h1, h2, fun o ho => ?_⟩
    cases e : ownM C w nb x.1 o with
    | none => exact e
    | some v =>
      rcases ownM_inv e with e | ⟨_, ⟨k', hk', e'⟩, _⟩
      · rw [h3 o ho] at e; cases e
      · exact absurd e' (s.hgb g k' x (hgl' g hg) hx)
  · show (if j < nl then C.lp j else none).isSome = true ↔ j < h2.lp.length
    rw [hlp, ← hnl]
    by_cases hj : j < nl
    · rw [if_pos hj]; exact ⟨fun _ => hj, fun _ => (s.hlp j).2 (by omega)⟩
    · rw [if_neg hj]; exact ⟨fun e => (by cases e), fun e => absurd e hj⟩
  · rw [hlp] at e1
    obtain ⟨r, h1, h3⟩ := s.hlr j L l e1 (hlp' _ _ e2)
    exact ⟨r, h1, ⟨old h3.htm (hltm j L e1), h3.hpa, h3.has, h3.hbo, h3.hst⟩⟩
theorem Ext.fin {C0 C : Ctx} {w0 w : World} {h0 : Hp} (s0 : Sim C0 h0 w0) (e : Ext C0 w0 C w) (hinj : ∀ k k' B, C.mu k = some B → C.mu k' = some B → k = k') : Ext C0 w0 ((C.own w h0.bx.length).cut h0.bx.length h0.gl.length h0.lp.length) w := by
  have k := e.cut s0
  refine ⟨⟨fun b o v h => ownM_old (e.le.hM b o v h), k.le.hmu, k.le.hgl, k.le.hge, k.le.hga, k.le.hlp⟩, k.hsz, k.hos, k.htape, k.hout, k.hun, k.htr, fun b o v h => ?_⟩
  rcases ownM_inv h with h | ⟨_, ⟨k', hk', h'⟩, _⟩
  · exact e.hMn b o v h
  · exact .inr (e.htr b (.inl ⟨k', h'⟩))
/-- What is left behind: the answer, sealed; the boxes that were there; no new growing row. -/
structure Fin (h0 : Hp) (K : AV → Hp → Prop) (r : AV) (h h2 : Hp) : Prop where
  hr : ∃ r2, K r2 h2 ∧ Frz h.bx h0.bx.length h0.gl.length h0.lp.length r r2
  hnb : h2.bx.length = h0.bx.length
  hbx : ∀ (k : Nat) (cs : List AV), h2.bx[k]? = some cs → ∃ cs', h.bx[k]? = some cs' ∧ ((cs' = cs ∧ (h0.bx[k]? = some cs ∨ clL h0.bx.length h0.gl.length h0.lp.length cs = true)) ∨ FrzL h.bx h0.bx.length h0.gl.length h0.lp.length cs' cs)
  hgl : h2.gl = h.gl.take h0.gl.length
  hng : h0.gl.length ≤ h.gl.length
  hlp : h2.lp = h.lp
  hnl : h.lp.length = h0.lp.length
  htm : ∀ (j : Nat) (L : LInfo), h.lp[j]? = some L → ∃ L0, h0.lp[j]? = some L0 ∧ L0.tm = L.tm
theorem post_fin {C0 : Ctx} {h0 : Hp} {w0 : World} {K : AV → Hp → Prop} (s0 : Sim C0 h0 w0) {v : Value} {w : World} (p : Post C0 w0 (fun r h => ∃ h2, Fin h0 K r h h2) v w) : Post C0 w0 K v w := by
  obtain ⟨r, h, C, ⟨h2, f⟩, e, s, hr⟩ := p
  have hng : h0.gl.length ≤ C.gl.length := by rw [s.hgl]; exact f.hng
  obtain ⟨r2, hK, hf⟩ := f.hr
  refine ⟨r2, h2, (C.own w h0.bx.length).cut h0.bx.length h0.gl.length h0.lp.length, hK, e.fin s0 s.hinj, s.fin f.hnb (fun k cs hk => ?_) f.hgl f.hng f.hlp f.hnl.symm (fun j L hj => ?_), hr.frz s hng hf⟩
  · obtain ⟨cs', h1, h3⟩ := f.hbx k cs hk
    refine ⟨cs', h1, h3.imp (fun ⟨h4, h5⟩ => ⟨h4, h5.elim (fun h6 => ?_) id⟩) id⟩
    obtain ⟨B, arr, t, _, _, h7, _⟩ := s0.box h6
    exact h7.cl s0
  · obtain ⟨L0, h1, h3⟩ := f.htm j L hj
    have hj0 := (List.getElem?_eq_some_iff.1 h1).1
    obtain ⟨l, hl⟩ := Option.isSome_iff_exists.1 ((s0.hlp j).2 hj0)
    obtain ⟨r0, _, h4⟩ := s0.hlr j L0 l h1 hl
    rw [← h3]
    exact h4.htm.cl s0
theorem acall_fin {P : Program} {f : FuncId} {args : List AV} {h0 : Hp} {K : AV → Hp → Prop} (k : ACall P f args h0 (fun r h => ∃ h2, Fin h0 K r h h2)) : ACall P f args h0 K :=
  fun C w vs s r => Calls.mono (k C w vs s r) fun e w' ⟨v, h1, p⟩ => ⟨v, h1, post_fin s p⟩
/-- Nothing that was there is changed. -/
theorem fin_pure {h0 : Hp} {K : AV → Hp → Prop} {r r2 : AV} {h : Hp} (hK : K r2 h0) (hf : Frz h.bx h0.bx.length h0.gl.length h0.lp.length r r2) (hb : ∃ e, h.bx = h0.bx ++ e) (hg : ∃ e, h.gl = h0.gl ++ e) (hl : h.lp = h0.lp) : ∃ h2, Fin h0 K r h h2 := by
  obtain ⟨e1, hb⟩ := hb
  obtain ⟨e2, hg⟩ := hg
  refine ⟨h0, ⟨r2, hK, hf⟩, rfl, fun k cs hk => ⟨cs, ?_, .inl ⟨rfl, .inl hk⟩⟩, ?_, by rw [hg]; simp, hl.symm, by rw [hl], fun j L hj => ⟨L, by rw [← hl]; exact hj, rfl⟩⟩
  · rw [hb, List.getElem?_append_left (List.getElem?_eq_some_iff.1 hk).1]; exact hk
  · rw [hg]; simp
/-- Boxes that were there are changed: h2 are those, as they are sealed. -/
theorem fin_boxes {h0 : Hp} {K : AV → Hp → Prop} {r r2 : AV} {h : Hp} (bx2 : List (List AV)) (hK : K r2 { h0 with bx := bx2 }) (hf : Frz h.bx h0.bx.length h0.gl.length h0.lp.length r r2) (hn : bx2.length = h0.bx.length)
    (hb : ∀ (k : Nat) (cs : List AV), bx2[k]? = some cs → ∃ cs', h.bx[k]? = some cs' ∧ ((cs' = cs ∧ (h0.bx[k]? = some cs ∨ clL h0.bx.length h0.gl.length h0.lp.length cs = true)) ∨ FrzL h.bx h0.bx.length h0.gl.length h0.lp.length cs' cs)) (hg : ∃ e, h.gl = h0.gl ++ e) (hl : h.lp = h0.lp) : ∃ h2, Fin h0 K r h h2 := by
  obtain ⟨e2, hg⟩ := hg
  exact ⟨{ h0 with bx := bx2 }, ⟨r2, hK, hf⟩, hn, hb, by rw [hg]; simp, by rw [hg]; simp, hl.symm, by rw [hl], fun j L hj => ⟨L, by rw [← hl]; exact hj, rfl⟩⟩
/-- One box that was there is changed. -/
theorem fin_set {h0 : Hp} {K : AV → Hp → Prop} {r r2 : AV} {h : Hp} {k : Nat} {cs cs2 : List AV} (hK : K r2 { h0 with bx := h0.bx.set k cs2 }) (hf : Frz h.bx h0.bx.length h0.gl.length h0.lp.length r r2) (hcs : FrzL h.bx h0.bx.length h0.gl.length h0.lp.length cs cs2) (hb : ∃ e, h.bx = h0.bx.set k cs ++ e) (hg : ∃ e, h.gl = h0.gl ++ e) (hl : h.lp = h0.lp) : ∃ h2, Fin h0 K r h h2 := by
  obtain ⟨e1, hb⟩ := hb
  refine fin_boxes _ hK hf (by simp) (fun k' cs' hk => ?_) hg hl
  have hlt : k' < h0.bx.length := by have := (List.getElem?_eq_some_iff.1 hk).1; simpa using this
  by_cases e : k' = k
  · subst e
    rw [List.getElem?_set_self hlt] at hk
    cases hk
    exact ⟨cs, by rw [hb, List.getElem?_append_left (by simpa using hlt), List.getElem?_set_self hlt], .inr hcs⟩
  · rw [List.getElem?_set_ne (Ne.symm e)] at hk
    exact ⟨cs', by rw [hb, List.getElem?_append_left (by simpa using hlt), List.getElem?_set_ne (Ne.symm e)]; exact hk, .inl ⟨rfl, .inl hk⟩⟩
/-! ### A function that changes nothing may look at own rows: a loan -/
def plain : AV → Bool
  | .lit _ => true
  | .tup cs => cs.all fun x => match x with | .lit _ => true | _ => false
  | _ => false
theorem Rep.plain {C D : Ctx} {x : AV} {v : Value} (h : Rep C x v) (hp : plain x = true) : Rep D x v := by
  cases h with
  | lit v h1 => exact .lit v h1
  | tup cs vs hl hr =>
    refine .tup cs vs hl fun i x hx => ?_
    have h1 := List.all_eq_true.1 hp x (List.mem_of_getElem? hx)
    have h2 := hr i x hx
    split at h1
    · cases h2 with
      | lit _ h3 => exact .lit _ h3
    · cases h1
  | _ => simp [Go.V.plain] at hp
theorem acall_loan {P : Program} {f : FuncId} {args args' : List AV} {r : AV} (hp : ∀ h, ACall P f args' h (fun r' h' => r' = r ∧ h' = h)) {h : Hp} (hf : FrzL h.bx 0 0 0 args args') (hr : plain r = true) : ACall P f args h (fun r' h' => r' = r ∧ h' = h) := by
  intro C w vs s rs
  have rs' := rs.frz s (Nat.zero_le _) hf
  have s0 : Sim ((C.own w 0).cut 0 0 0) ⟨[], [], []⟩ w := by
    have hmu : ∀ k, ((C.own w 0).cut 0 0 0).mu k = none := fun k => by show (if k < 0 then C.mu k else none) = none; rw [if_neg (by omega)]
    have hlp : ∀ k, ((C.own w 0).cut 0 0 0).lp k = none := fun k => by show (if k < 0 then C.lp k else none) = none; rw [if_neg (by omega)]
    have hgl : ((C.own w 0).cut 0 0 0).gl = [] := by show C.gl.take 0 = []; rfl
    have hg0 : ∀ {g : Nat}, g < ((C.own w 0).cut 0 0 0).gl.length → False := fun {g} hg => by rw [hgl] at hg; simp at hg
    refine ⟨fun b o v e => ?_, hgl, (fun k => by simp [hmu]), (fun k cs B e1 e2 => by simp at e1), (fun k k' B e1 e2 => by rw [hmu] at e1; cases e1), (fun g x hg hx => (hg0 hg).elim), (fun g g' x x' hg hg' hx hx' => (hg0 hg).elim), (fun g k x hg hx e => (hg0 hg).elim), (fun j => by simp [hlp]), (fun j L l e1 e2 => by simp at e1), (fun j j' l e1 e2 => by rw [hlp] at e1; cases e1)⟩
    rcases ownM_inv e with e | ⟨_, _, e⟩
    · exact s.hM _ _ _ e
    · exact e
  have nt : ∀ b, ¬ Trk ((C.own w 0).cut 0 0 0) b := fun b t => by
    rcases t with ⟨k, hk⟩ | ⟨g, x, hg, _⟩ | ⟨j, hj⟩
    · have hk : (if k < 0 then C.mu k else none) = some b := hk
      rw [if_neg (by omega)] at hk; cases hk
    · have hg : g < (C.gl.take 0).length := hg
      simp at hg
    · have hj : (if j < 0 then C.lp j else none) = some b := hj
      rw [if_neg (by omega)] at hj; cases hj
  refine Calls.mono (hp _ _ w vs s0 rs') fun e w' ⟨v, h1, r', h', C', ⟨h2, h3⟩, x, s', hr'⟩ => ?_
  subst h2; subst h3
  have same : ∀ b, b < w.heap.size → w'.heap[b]? = w.heap[b]? := fun b hb => x.hun b hb (nt b)
  refine ⟨v, h1, _, h, C, ⟨rfl, rfl⟩, ⟨.refl C, x.hsz, x.hos, x.htape, x.hout, fun b hb _ => same b hb, fun _ h => .inl h, fun _ _ _ h => .inl h⟩, s.same fun b t => same b (s.lt t), hr'.plain hr⟩
end Go.V
namespace Go.V
open Go
set_option linter.unusedVariables false
set_option linter.unusedSimpArgs false

theorem putObj_other (w : World) {l b : Nat} (o : Obj) (h : b ≠ l) : (w.putObj l o).heap[b]? = w.heap[b]? := World.putObj_heap_other h
theorem Sim.setLoop {C : Ctx} {h : Hp} {w : World} (s : Sim C h w) {j l : Nat} {L' : LInfo} {r' : Loop} (hl : C.lp j = some l) (hr : LRel C L' r') : Sim C { h with lp := h.lp.set j L' } (w.putObj l (.loop r')) ∧ Ext C w C (w.putObj l (.loop r')) := by
  have hj : j < h.lp.length := (s.hlp j).1 (by rw [hl]; rfl)
  have hlt : l < w.heap.size := s.trk_lt (.inr (.inr ⟨j, hl⟩))
  refine ⟨⟨fun b o v e => ?_, s.hgl, s.hmu, fun k cs B e1 e2 => ?_, s.hinj, fun g x hg hx => ?_, s.hgi, s.hgb, fun j' => ?_, fun j' L l' e1 e2 => ?_, s.hli⟩, ⟨.refl C, by simp, rfl, rfl, rfl, fun b hb hn => putObj_other w _ (fun e => hn (e ▸ .inr (.inr ⟨j, hl⟩))), fun _ h => .inl h, fun _ _ _ h => .inl h⟩⟩
  · rw [cell_of_heap (putObj_other w _ (fun e' => s.M_ne_loop e (by rw [hl, e'])))]; exact s.hM b o v e
  · rw [putObj_other w _ (fun e' => s.box_ne_loop e2 (by rw [hl, e']))]; exact s.hbx k cs B e1 e2
  · rw [putObj_other w _ (fun e' => s.gr_ne_loop hg hx (by rw [hl, e']))]; exact s.hgr g x hg hx
  · rw [s.hlp j']; simp
  · have e1 : (h.lp.set j L')[j']? = some L := e1
    by_cases hjj : j' = j
    · subst hjj
      rw [hl] at e2; cases e2
      rw [List.getElem?_set_self hj] at e1; cases e1
      exact ⟨r', World.putObj_heap_same hlt, hr⟩
    · rw [List.getElem?_set_ne (Ne.symm hjj)] at e1
      rw [putObj_other w _ (fun e' => hjj (s.hli _ _ _ e2 (by rw [hl, e'])))]
      exact s.hlr j' L l' e1 e2
theorem Sim.loop {C : Ctx} {h : Hp} {w : World} (s : Sim C h w) {j : Nat} {L : LInfo} (hL : h.lp[j]? = some L) : ∃ l r, C.lp j = some l ∧ w.heap[l]? = some (.loop r) ∧ LRel C L r := by
  have hj := (s.hlp j).2 (List.getElem?_eq_some_iff.1 hL).1
  obtain ⟨l, hl⟩ := Option.isSome_iff_exists.1 hj
  obtain ⟨r, h1, h2⟩ := s.hlr j L l hL hl
  exact ⟨l, r, hl, h1, h2⟩
def jumpOf : Exit → Option (Option Code)
  | .normal => some none
  | .ret => some (some .ret)
  | .exit id => some (some (.exit id))
  | .goto t => some (some (.goto t))
  | _ => none
def stOf : Option Code → LoopSt
  | none => .ready
  | some c => .done c
def setParams (tm : List AV) (ps : Array Tmp) (args : List AV) : List AV := (ps.toList.zip args).foldl (fun tm x => tm.set x.1 x.2) tm
theorem setParams_reps {C : Ctx} : ∀ (ps : List Tmp) (args : List AV) (vs : List Value) (tm : List AV) (ts : Array Value), Reps C args vs.toArray → Reps C tm ts → Reps C ((ps.zip args).foldl (fun tm x => tm.set x.1 x.2) tm) ((ps.zip vs).foldl (fun tm x => tm.setIfInBounds x.1 x.2) ts)
  | [], _, _, _, _, _, h => by simpa using h
  | p :: ps, [], vs, tm, ts, ha, h => by
    have : vs = [] := by have := ha.1; simp at this; exact List.length_eq_zero_iff.1 this.symm
    subst this; simpa using h
  | p :: ps, x :: args, vs, tm, ts, ha, h => by
    obtain ⟨v, us, e, h1, h2⟩ := ha.uncons
    have e : vs = v :: us := by simpa using e
    subst e
    simp only [List.zip_cons_cons, List.foldl_cons]
    exact setParams_reps ps args us _ _ h2 (reps_put (a := { tmps := ts, defers := [] }) h (some p) h1)
def roundQ (P : Program) (j : Nat) (K : AV → Hp → Prop) (e : Exit) (_ : List AV) (h : Hp) : Prop :=
  match jumpOf e with
  | some jmp => match h.lp[j]? with
    | some L => K (.lit (.bool jmp.isNone)) { h with lp := h.lp.set j { L with st := stOf jmp } }
    | none => False
  | none => False
def assignQ (P : Program) (j : Nat) (K : AV → Hp → Prop) (body : Code) (e : Exit) (tm : List AV) (h : Hp) : Prop :=
  match e with
  | .normal => match h.lp[j]? with
    | some L => L.st = .ready ∧ AWp P body (roundQ P j K) tm { h with lp := h.lp.set j { L with st := .busy } }
    | none => False
  | _ => False
/-- A call of the loop's own function: one round. -/
theorem acallv_yld {P : Program} {j : Nat} {args : List AV} {h : Hp} {K : AV → Hp → Prop} {L : LInfo} (hL : h.lp[j]? = some L) (hlen : args.length = L.params.size) (k : AWp P L.assign (assignQ P j K L.body) (setParams L.tm L.params args) h) : ACallV P (.yld j) args h K := by
  intro C w v vs s r rs
  cases r with
  | yld _ l hl =>
    obtain ⟨l', r, hl', hr, hrel⟩ := s.loop hL
    rw [hl] at hl'; cases hl'
    have e : (callSem (.func (.yield l) #[] #[]) vs).run P w = .ok (.round l r.fn ((r.params.zip vs).foldl (fun tmps (t, a) => tmps.setIfInBounds t a) r.tmps) r.assign r.body) w := by
      simp only [callSem, Deferred.ofValue]
      show (Instr.yield l (#[] ++ vs)).run P w = _
      rw [Array.empty_append]
      exact run_yield hr (by rw [← rs.1, hlen, hrel.hpa])
    rw [e]
    intro n
    refine roundIn_of_wpIn trivial ?_
    have hreps : Reps C (setParams L.tm L.params args) ((r.params.zip vs).foldl (fun tmps (t, a) => tmps.setIfInBounds t a) r.tmps) := by
      have := setParams_reps r.params.toList args vs.toList L.tm r.tmps (by rw [Array.toArray_toList]; exact rs) hrel.htm
      rw [← hrel.hpa]
      have e2 : (r.params.zip vs).foldl (fun tmps (x : Tmp × Value) => tmps.setIfInBounds x.1 x.2) r.tmps = (r.params.toList.zip vs.toList).foldl (fun tmps x => tmps.setIfInBounds x.1 x.2) r.tmps := by
        rw [← Array.foldl_toList, Array.toList_zip]
      unfold setParams
      exact e2 ▸ this
    rw [hrel.has, hrel.hbo]
    have hk := k C w { tmps := (r.params.zip vs).foldl (fun tmps (t, a) => tmps.setIfInBounds t a) r.tmps, defers := [] } (some l) n s hreps (fun l' e' => by cases e'; exact ⟨j, hl⟩)
    refine wpIn_mono hk fun ex a1 w1 hp => ?_
    obtain ⟨tm1, h1, C1, hq, ext1, s1, r1, mk1⟩ := hp
    unfold assignQ at hq
    split at hq
    · split at hq
      · rename_i L1 hL1
        obtain ⟨hst, hq⟩ := hq
        obtain ⟨l1, q1, hl1, hr1, hrel1⟩ := s1.loop hL1
        rw [ext1.le.hlp _ _ hl] at hl1; cases hl1
        have hs1 := hrel1.hst
        rw [hst] at hs1
        have hbusy : LRel C1 { L1 with st := .busy } { q1 with state := .busy } := ⟨hrel1.htm, hrel1.hpa, hrel1.has, hrel1.hbo, rfl⟩
        obtain ⟨s2, e2⟩ := s1.setLoop (ext1.le.hlp _ _ hl) hbusy
        refine ⟨_, run_beginRound hr1 hs1.1, ?_⟩
        have hk2 := hq C1 _ a1 (some l) n s2 r1 (fun l' e' => by cases e'; exact ⟨j, ext1.le.hlp _ _ hl⟩)
        refine wpIn_mono hk2 fun ex2 a2 w3 hp2 => ?_
        obtain ⟨tm2, h3, C3, hq3, ext3, s3, r3, mk3⟩ := hp2
        unfold roundQ at hq3
        have done : ∀ jmp, jumpOf ex2 = some jmp → ∃ v w', (Instr.endRound l jmp).run P w3 = .ok v w' ∧ ∃ v', (Ending.returned v) = .returned v' ∧ Post C w K v' w' := fun jmp hj => by
          rw [hj] at hq3
          simp only at hq3
          split at hq3
          · rename_i L3 hL3
            obtain ⟨l3, q3, hl3, hr3, hrel3⟩ := s3.loop hL3
            have hl0 : C3.lp j = some l := ext3.le.hlp _ _ (ext1.le.hlp _ _ hl)
            rw [hl0] at hl3; cases hl3
            have hend : LRel C3 { L3 with st := stOf jmp } { q3 with state := if jmp.isNone then .ready else .done, pending := jmp } := by
              refine ⟨hrel3.htm, hrel3.hpa, hrel3.has, hrel3.hbo, ?_⟩
              cases jmp with
              | none => exact ⟨rfl, rfl⟩
              | some c => exact ⟨rfl, rfl⟩
            obtain ⟨s4, e4⟩ := s3.setLoop hl0 hend
            exact ⟨_, _, run_endRound jmp hr3, _, rfl, _, _, C3, hq3, ext1.trans (e2.trans (ext3.trans e4)), s4, .lit _ rfl⟩
          · exact hq3.elim
        cases ex2 with
        | normal => exact done none rfl
        | ret => exact done (some .ret) rfl
        | exit id => exact done (some (.exit id)) rfl
        | goto t => exact done (some (.goto t)) rfl
        | panic ch => exact hq3.elim
        | outgrown => exact hq3.elim
      · exact hq.elim
    · exact hq.elim

/-! ### The statement -/
def Ctx.loop (C : Ctx) (j l : Nat) : Ctx := { C with lp := fun j' => if j' = j then some l else C.lp j' }
theorem Sim.lp_none {C : Ctx} {h : Hp} {w : World} (s : Sim C h w) : C.lp h.lp.length = none := by
  cases e : C.lp h.lp.length with
  | none => rfl
  | some B => have := (s.hlp h.lp.length).1 (by rw [e]; rfl); omega
theorem CLe.loop {C : Ctx} {j l : Nat} (h : C.lp j = none) : CLe C (C.loop j l) := by
  refine ⟨fun _ _ _ e => e, fun _ _ e => e, Nat.le_refl _, fun _ _ => Nat.le_refl _, fun _ _ _ => rfl, fun j' l' e => ?_⟩
  show (if j' = j then some l else C.lp j') = some l'
  rw [if_neg (fun e' => by rw [e', h] at e; cases e)]; exact e
theorem Sim.claimLoop {C : Ctx} {h : Hp} {w : World} (s : Sim C h w) {l : Nat} {r : Loop} {L : LInfo} (hl : w.heap[l]? = some (.loop r)) (hn : ¬ Trk C l) (hr : LRel C L r) : Sim (C.loop h.lp.length l) { h with lp := h.lp ++ [L] } w := by
  have hle := CLe.loop (l := l) s.lp_none
  have hlp : ∀ j l', (C.loop h.lp.length l).lp j = some l' → (j = h.lp.length ∧ l' = l) ∨ (j ≠ h.lp.length ∧ C.lp j = some l') := by
    intro j l' e
    have e : (if j = h.lp.length then some l else C.lp j) = some l' := e
    split at e
    · cases e; exact .inl ⟨‹_›, rfl⟩
    · exact .inr ⟨‹_›, e⟩
  refine ⟨s.hM, s.hgl, s.hmu, fun k cs B e1 e2 => ?_, s.hinj, s.hgr, s.hgi, s.hgb, fun j => ?_, fun j L' l' e1 e2 => ?_, fun j j' l' e1 e2 => ?_⟩
  · obtain ⟨arr, t, h1, h2, h3⟩ := s.hbx k cs B e1 e2
    exact ⟨arr, t, h1, h2.mono hle, h3⟩
  · show (if j = h.lp.length then some l else C.lp j).isSome = true ↔ j < (h.lp ++ [L]).length
    rw [List.length_append]
    by_cases hj : j = h.lp.length
    · simp [hj]
    · rw [if_neg hj, s.hlp j]; simp; omega
  · rcases hlp j l' e2 with ⟨rfl, rfl⟩ | ⟨hj, e3⟩
    · have e4 : (h.lp ++ [L])[h.lp.length]? = some L' := e1
      simp at e4; subst e4
      exact ⟨r, hl, ⟨hr.htm.mono hle, hr.hpa, hr.has, hr.hbo, hr.hst⟩⟩
    · have hlt := (s.hlp j).1 (by rw [e3]; rfl)
      have e4 : (h.lp ++ [L])[j]? = some L' := e1
      rw [List.getElem?_append_left hlt] at e4
      obtain ⟨r', h1, h2⟩ := s.hlr j L' l' e4 e3
      exact ⟨r', h1, ⟨h2.htm.mono hle, h2.hpa, h2.has, h2.hbo, h2.hst⟩⟩
  · rcases hlp j l' e1 with ⟨rfl, rfl⟩ | ⟨hj, e3⟩ <;> rcases hlp j' _ e2 with ⟨rfl, h9⟩ | ⟨hj', e4⟩
    · rfl
    · exact absurd (.inr (.inr ⟨_, e4⟩)) hn
    · subst h9; exact absurd (.inr (.inr ⟨_, e3⟩)) hn
    · exact s.hli _ _ _ e3 e4
theorem Ext.loop {C : Ctx} {w w' : World} {j l : Nat} (e : Ext C w C w') (h : C.lp j = none) (hl : w.heap.size ≤ l) : Ext C w (C.loop j l) w' := by
  refine ⟨CLe.loop h, e.hsz, e.hos, e.htape, e.hout, e.hun, fun b hb => ?_, fun _ _ _ h => .inl h⟩
  rcases hb with ⟨k', hk⟩ | ⟨g, x, hg, hx, hgb⟩ | ⟨j', hj⟩
  · exact .inl (.inl ⟨k', hk⟩)
  · exact .inl (.inr (.inl ⟨g, x, hg, hx, hgb⟩))
  · have hj : (if j' = j then some l else C.lp j') = some b := hj
    split at hj
    · cases hj; exact .inr hl
    · exact .inl (.inr (.inr ⟨j', hj⟩))
/-- Behind the loop: its own record is dropped. -/
structure LoopEnd (h h1 : Hp) (L1 : LInfo) : Prop where
  hlen : h1.lp.length = h.lp.length + 1
  hL1 : h1.lp[h.lp.length]? = some L1
  hnb : h.bx.length ≤ h1.bx.length
  hng : h.gl.length ≤ h1.gl.length
  hbx : ∀ cs ∈ h1.bx, cs ∈ h.bx ∨ clL h1.bx.length h1.gl.length h.lp.length cs = true
  htm : ∀ (j : Nat) (L : LInfo), j < h.lp.length → h1.lp[j]? = some L → ∃ L0, h.lp[j]? = some L0 ∧ L0.tm = L.tm
mutual
theorem cl_mono {nb ng nl nb' ng' nl' : Nat} (h1 : nb ≤ nb') (h2 : ng ≤ ng') (h3 : nl ≤ nl') : ∀ x : AV, cl nb ng nl x = true → cl nb' ng' nl' x = true
  | .agg cs, h => by rw [cl] at h ⊢; exact clL_mono h1 h2 h3 cs h
  | .tup cs, h => by rw [cl] at h ⊢; exact clL_mono h1 h2 h3 cs h
  | .row gr xs, h => by
    rw [cl, Bool.and_eq_true] at h ⊢
    refine ⟨?_, clL_mono h1 h2 h3 xs h.2⟩
    cases gr with
    | «at» g e s => have := h.1; simp [clG] at this ⊢; omega
    | _ => rfl
  | .eptr x o, h => by rw [cl] at h ⊢; exact cl_mono h1 h2 h3 x h
  | .clo fn a b, h => by rw [cl, Bool.and_eq_true] at h ⊢; exact ⟨clL_mono h1 h2 h3 a h.1, clL_mono h1 h2 h3 b h.2⟩
  | .ifc t v, h => by rw [cl] at h ⊢; exact cl_mono h1 h2 h3 v h
  | .any, _ => rfl
  | .lit _, _ => rfl
  | .ptr k o, h => by simp [cl] at h ⊢; omega
  | .sl k o n s, h => by simp [cl] at h ⊢; omega
  | .yld j, h => by simp [cl] at h ⊢; omega
theorem clL_mono {nb ng nl nb' ng' nl' : Nat} (h1 : nb ≤ nb') (h2 : ng ≤ ng') (h3 : nl ≤ nl') : ∀ xs : List AV, clL nb ng nl xs = true → clL nb' ng' nl' xs = true
  | [], _ => rfl
  | x :: xs, h => by rw [clL, Bool.and_eq_true] at h ⊢; exact ⟨cl_mono h1 h2 h3 x h.1, clL_mono h1 h2 h3 xs h.2⟩
end
def rangeQ (P : Program) (Q : Exit → List AV → Hp → Prop) (tm : List AV) (h : Hp) (_ : AV) (h1 : Hp) : Prop :=
  ∃ L1, LoopEnd h h1 L1 ∧ match L1.st with
    | .ready => Q .normal tm { h1 with lp := h1.lp.take h.lp.length }
    | .done c => AWp P c Q tm { h1 with lp := h1.lp.take h.lp.length }
    | .busy => False
theorem awp_rangeFunc {P : Program} {g : Operand} {ps : Array Tmp} {assign body : Code} {Q : Exit → List AV → Hp → Prop} {tm : List AV} {h : Hp} {f : FuncId} {first caps : List AV} (hg : ev tm g = .clo (.func f) first caps) (hf : fnOk P f = true)
    (k : ACall P f (first ++ [.yld h.lp.length] ++ caps) { h with lp := h.lp ++ [⟨tm, ps, assign, body, .ready⟩] } (rangeQ P Q tm h)) : AWp P (.rangeFunc g ps assign body) Q tm h := by
  intro C w a ro n s r d
  refine wpIn_rangeFunc fun fn _ => ?_
  have hv := rep_ev r g
  rw [hg] at hv
  -- the record is laid
  have enter : ∃ l mark w1, (Instr.enterLoop fn a.tmps ps assign body (fz ro).round).run P w = .ok (l, mark) w1 ∧ w.heap.size ≤ l ∧ w1.heap[l]? = some (.loop { state := .ready, pending := none, fn, tmps := a.tmps, params := ps, assign, body, defers := (w1.heap[l]?.map fun o => match o with | .loop r => r.defers | _ => 0).getD 0 }) ∧ Sim C h w1 ∧ Ext C w C w1 ∧ Mk w C w1 a.defers (mark ++ a.defers) := by
    rw [fz_round]
    cases ro with
    | none =>
      refine ⟨_, _, _, run_enterLoop_outer fn a.tmps ps assign body, by omega, ?_, (s.alloc _).alloc _, (Ext.alloc C w _).trans (Ext.alloc C _ _), [w.heap.size], rfl, by simp, fun q hq => ?_⟩
      · have := alloc_new (w.alloc (.deferred (some []))) (.loop { state := .ready, pending := none, fn, tmps := a.tmps, params := ps, assign, body, defers := w.heap.size })
        rw [alloc_size] at this
        rw [this]; rfl
      · simp at hq; subst hq
        refine ⟨Nat.le_refl _, ?_, s.free.1⟩
        rw [alloc_old _ _ (by rw [alloc_size]; omega)]
        exact alloc_new w _
    | some l0 =>
      obtain ⟨j0, hj0⟩ := d l0 rfl
      have hlt := (s.hlp j0).1 (by rw [hj0]; rfl)
      obtain ⟨r0, h0, _⟩ := s.hlr j0 _ l0 (List.getElem?_eq_getElem hlt) hj0
      refine ⟨_, _, _, run_enterLoop_inner h0 fn a.tmps ps assign body, Nat.le_refl _, ?_, s.alloc _, Ext.alloc C w _, [], rfl, List.nodup_nil, fun q hq => by cases hq⟩
      rw [alloc_new]; rfl
  obtain ⟨l, mark, w1, e1, hl1, hl2, s1, x1, mk1⟩ := enter
  generalize hdef : (w1.heap[l]?.map fun o => match o with | .loop r => r.defers | _ => 0).getD 0 = df at hl2
  have hnt : ¬ Trk C l := fun t => by have := s.trk_lt t; omega
  have s2 := s1.claimLoop (L := ⟨tm, ps, assign, body, .ready⟩) hl2 hnt ⟨r, rfl, rfl, rfl, ⟨rfl, rfl⟩⟩
  have x2 : Ext C w (C.loop h.lp.length l) w1 := by
    refine ⟨CLe.loop s.lp_none, x1.hsz, x1.hos, x1.htape, x1.hout, x1.hun, fun b hb => ?_, fun _ _ _ h => .inl h⟩
    rcases hb with ⟨k', hk⟩ | ⟨g', x, hg', hx, hgb⟩ | ⟨j', hj⟩
    · exact .inl (.inl ⟨k', hk⟩)
    · exact .inl (.inr (.inl ⟨g', x, hg', hx, hgb⟩))
    · have hj : (if j' = h.lp.length then some l else C.lp j') = some b := hj
      split at hj
      · cases hj; exact .inr hl1
      · exact .inl (.inr (.inr ⟨j', hj⟩))
  have mk2 : Mk w (C.loop h.lp.length l) w1 a.defers (mark ++ a.defers) := by
    obtain ⟨ms, m1, m2, m3⟩ := mk1
    refine ⟨ms, m1, m2, fun q hq => ?_⟩
    obtain ⟨c1, c2, c3⟩ := m3 q hq
    refine ⟨c1, c2, fun t => ?_⟩
    rcases t with ⟨k', hk⟩ | ⟨g', x, hg', hx, hgb⟩ | ⟨j', hj⟩
    · exact c3 (.inl ⟨k', hk⟩)
    · exact c3 (.inr (.inl ⟨g', x, hg', hx, hgb⟩))
    · have hj : (if j' = h.lp.length then some l else C.lp j') = some q := hj
      split at hj
      · cases hj; rw [hl2] at c2; cases c2
      · exact c3 (.inr (.inr ⟨j', hj⟩))
  generalize hgv : a.eval g = gv at hv
  cases hv with
  | clo _ _ _ v1 v2 q1 q2 q3 q4 =>
    refine ⟨l, mark, w1, { target := .fn (.func f) v2, args := v1 ++ #[.func (.yield l) #[] #[]] }, w1, f, v1 ++ #[.func (.yield l) #[] #[]] ++ v2, w1, e1, ?_, fun f' _ => fz_fn ro f', ?_, fun e => (by rw [fz_depth] at e; cases e), ?_⟩
    · simp only [resolve, rangeCall]; rw [hgv]; simp [Deferred.ofValue, Act.eval]
    · exact callFunc_run hf _ w1
    · refine fz_calls ?_
      have hargs : Reps (C.loop h.lp.length l) (first ++ [.yld h.lp.length] ++ caps) (v1 ++ #[.func (.yield l) #[] #[]] ++ v2) := by
        have hle := CLe.loop (l := l) s.lp_none
        have a1 : Reps (C.loop h.lp.length l) first v1.toList.toArray := by rw [Array.toArray_toList]; exact Reps.mono hle ⟨q1, q3⟩
        have a2 : Reps (C.loop h.lp.length l) [.yld h.lp.length] [Value.func (.yield l) #[] #[]].toArray := Reps.cons (.yld _ l (if_pos rfl)) (Reps.nil _)
        have a3 : Reps (C.loop h.lp.length l) caps v2.toList.toArray := by rw [Array.toArray_toList]; exact Reps.mono hle ⟨q2, q4⟩
        have := (a1.append a2).append a3
        have e : (v1.toList ++ [Value.func (.yield l) #[] #[]] ++ v2.toList).toArray = v1 ++ #[.func (.yield l) #[] #[]] ++ v2 := by apply Array.ext'; simp
        rwa [e] at this
      refine Calls.mono (k (C.loop h.lp.length l) w1 _ s2 hargs) fun ee w3 ⟨v, hee, rr, h1, C1, hq, x3, s3, _⟩ => ?_
      subst hee
      obtain ⟨L1, le, hq⟩ := hq
      obtain ⟨l', q, hl', hr, hrel⟩ := s3.loop le.hL1
      have hl0 : C1.lp h.lp.length = some l := x3.le.hlp _ _ (if_pos rfl)
      rw [hl0] at hl'; cases hl'
      have hst := hrel.hst
      have hnb : q.state ≠ .busy := by
        cases hs : L1.st with
        | ready => rw [hs] at hst; rw [hst.1]; simp
        | busy => rw [hs] at hq; exact hq.elim
        | done c => rw [hs] at hst; rw [hst.1]; simp
      refine ⟨_, _, run_endLoop hr hnb, ?_⟩
      generalize hw5 : w3.putObj l (.loop { q with state := .exhausted }) = w5
      -- the record is dropped
      have clh : ∀ xs : List AV, clL h.bx.length h.gl.length h.lp.length xs = true → clL h1.bx.length h1.gl.length h.lp.length xs = true := fun xs => clL_mono le.hnb le.hng (Nat.le_refl _) xs
      have clbx : ∀ cs ∈ h1.bx, clL h1.bx.length h1.gl.length h.lp.length cs = true := fun cs hcs => by
        rcases le.hbx cs hcs with hc | hc
        · obtain ⟨i, hi, rfl⟩ := List.mem_iff_getElem.1 hc
          obtain ⟨B, arr, t, _, _, h5, _⟩ := s.box (List.getElem?_eq_getElem hi)
          exact clh _ (h5.cl s)
        · exact hc
      have s4 : Sim (C1.cut h1.bx.length h1.gl.length h.lp.length) { h1 with lp := h1.lp.take h.lp.length } w3 := by
        have hng' : h1.gl.length ≤ C1.gl.length := by rw [s3.hgl]; exact Nat.le_refl _
        have hcutmu : ∀ k, (C1.cut h1.bx.length h1.gl.length h.lp.length).mu k = C1.mu k := fun k => by
          show (if k < h1.bx.length then C1.mu k else none) = C1.mu k
          split
          · rfl
          · rename_i hk
            cases e : C1.mu k with
            | none => rfl
            | some B => exact absurd ((s3.hmu k).1 (by rw [e]; rfl)) hk
        have hcutgl : (C1.cut h1.bx.length h1.gl.length h.lp.length).gl = C1.gl := by
          show C1.gl.take h1.gl.length = C1.gl
          rw [← s3.hgl, List.take_length]
        have hlpc : ∀ j l', (C1.cut h1.bx.length h1.gl.length h.lp.length).lp j = some l' → j < h.lp.length ∧ C1.lp j = some l' := fun j l' e => by
          have e : (if j < h.lp.length then C1.lp j else none) = some l' := e
          split at e
          · exact ⟨‹_›, e⟩
          · cases e
        refine ⟨s3.hM, by rw [hcutgl]; exact s3.hgl, fun k => by rw [hcutmu]; exact s3.hmu k, fun k cs B e1 e2 => ?_, fun k k' B e1 e2 => s3.hinj _ _ _ (by rw [← hcutmu]; exact e1) (by rw [← hcutmu]; exact e2), fun g' x hg' hx => s3.hgr g' x (by rw [← hcutgl]; exact hg') hx, fun g1 g2 x x' hg1 hg2 hx hx' => s3.hgi g1 g2 x x' (by rw [← hcutgl]; exact hg1) (by rw [← hcutgl]; exact hg2) hx hx', fun g' k x hg' hx e => s3.hgb g' k x (by rw [← hcutgl]; exact hg') hx (by rw [← hcutmu]; exact e), fun j => ?_, fun j L l' e1 e2 => ?_, fun j j' l' e1 e2 => s3.hli _ _ _ (hlpc _ _ e1).2 (hlpc _ _ e2).2⟩
        · rw [hcutmu] at e2
          obtain ⟨arr, t, h4, h5, h6⟩ := s3.hbx k cs B e1 e2
          exact ⟨arr, t, h4, h5.cut hng' (clbx cs (List.mem_of_getElem? e1)), h6⟩
        · show (if j < h.lp.length then C1.lp j else none).isSome = true ↔ j < (h1.lp.take h.lp.length).length
          rw [List.length_take, le.hlen]
          by_cases hj : j < h.lp.length
          · rw [if_pos hj]
            exact ⟨fun _ => by omega, fun _ => (s3.hlp j).2 (by rw [le.hlen]; omega)⟩
          · rw [if_neg hj]; exact ⟨fun e => (by cases e), fun e => by omega⟩
        · obtain ⟨hj, e3⟩ := hlpc j l' e2
          have e1 : (h1.lp.take h.lp.length)[j]? = some L := e1
          rw [List.getElem?_take, if_pos hj] at e1
          obtain ⟨r', h4, h5⟩ := s3.hlr j L l' e1 e3
          obtain ⟨L0, h6, h7⟩ := le.htm j L hj e1
          obtain ⟨l0, r0, _, _, h8⟩ := s.loop h6
          refine ⟨r', h4, ⟨h5.htm.cut hng' ?_, h5.hpa, h5.has, h5.hbo, h5.hst⟩⟩
          rw [← h7]
          exact clh _ (h8.htm.cl s)
      have hle4 : CLe C (C1.cut h1.bx.length h1.gl.length h.lp.length) := by
        have hC := (CLe.loop (l := l) s.lp_none).trans x3.le
        refine ⟨hC.hM, fun k B e => ?_, ?_, fun g' hg' => ?_, fun g' hg' e => ?_, fun j l' e => ?_⟩
        · have e5 := hC.hmu k B e
          show (if k < h1.bx.length then C1.mu k else none) = some B
          rw [if_pos ((s3.hmu k).1 (by rw [e5]; rfl))]; exact e5
        · show C.gl.length ≤ (C1.gl.take h1.gl.length).length
          rw [← s3.hgl, List.take_length]; exact hC.hgl
        · show C.gl.getD g' 0 ≤ (C1.gl.take h1.gl.length).getD g' 0
          rw [← s3.hgl, List.take_length]; exact hC.hge g' hg'
        · have e : (C1.gl.take h1.gl.length).getD g' 0 = C.gl.getD g' 0 := e
          rw [← s3.hgl, List.take_length] at e
          exact hC.hga g' hg' e
        · show (if j < h.lp.length then C1.lp j else none) = some l'
          rw [if_pos ((s.hlp j).1 (by rw [e]; rfl))]; exact hC.hlp j l' e
      have x4 : Ext C w (C1.cut h1.bx.length h1.gl.length h.lp.length) w3 := by
        have xx := x2.trans x3
        refine ⟨hle4, xx.hsz, xx.hos, xx.htape, xx.hout, xx.hun, fun b hb => xx.htr b ?_, xx.hMn⟩
        rcases hb with ⟨k', hk⟩ | ⟨g', x, hg', hx, hgb⟩ | ⟨j', hj⟩
        · have hk : (if k' < h1.bx.length then C1.mu k' else none) = some b := hk
          split at hk
          · exact .inl ⟨k', hk⟩
          · cases hk
        · have hg' : g' < (C1.gl.take h1.gl.length).length := hg'
          rw [← s3.hgl, List.take_length] at hg'
          exact .inr (.inl ⟨g', x, hg', hx, hgb⟩)
        · have hj : (if j' < h.lp.length then C1.lp j' else none) = some b := hj
          split at hj
          · exact .inr (.inr ⟨j', hj⟩)
          · cases hj
      have hnt4 : ¬ Trk (C1.cut h1.bx.length h1.gl.length h.lp.length) l := fun t => by
        rcases t with ⟨k', hk⟩ | ⟨g', x, hg', hx, hgb⟩ | ⟨j', hj⟩
        · have hk : (if k' < h1.bx.length then C1.mu k' else none) = some l := hk
          split at hk
          · exact s3.box_ne_loop hk hl0
          · cases hk
        · have hg' : g' < (C1.gl.take h1.gl.length).length := hg'
          rw [← s3.hgl, List.take_length] at hg'
          exact s3.gr_ne_loop hg' hx (by rw [hl0, hgb])
        · have hj : (if j' < h.lp.length then C1.lp j' else none) = some l := hj
          split at hj
          · rename_i hlt
            have := s3.hli _ _ _ hj hl0
            omega
          · cases hj
      have ho : ∀ b : Nat, b ≠ l → w5.heap[b]? = w3.heap[b]? := fun b hb => by rw [← hw5]; exact putObj_other w3 _ hb
      have s5 : Sim (C1.cut h1.bx.length h1.gl.length h.lp.length) { h1 with lp := h1.lp.take h.lp.length } w5 := s4.same fun b t => ho b fun e => by
        subst e
        rcases t with t | ⟨o, v', hv'⟩
        · exact hnt4 t
        · exact s3.M_ne_loop hv' hl0
      have x5 : Ext C w (C1.cut h1.bx.length h1.gl.length h.lp.length) w5 := by
        refine ⟨hle4, by rw [← hw5]; simpa using x4.hsz, by rw [← hw5]; exact x4.hos, by rw [← hw5]; exact x4.htape, by rw [← hw5]; exact x4.hout, fun b hb hn => ?_, x4.htr, x4.hMn⟩
        rw [ho b (fun e => by omega)]; exact x4.hun b hb hn
      have r5 : Reps (C1.cut h1.bx.length h1.gl.length h.lp.length) tm a.tmps := r.mono hle4
      have mk5 : Mk w (C1.cut h1.bx.length h1.gl.length h.lp.length) w5 a.defers (mark ++ a.defers) := by
        obtain ⟨ms, m1, m2, m3⟩ := mk2.ext x3
        refine ⟨ms, m1, m2, fun p hp => ?_⟩
        obtain ⟨c1, c2, c3⟩ := m3 p hp
        have hpl : p ≠ l := fun e => by subst e; rw [hr] at c2; cases c2
        refine ⟨c1, by rw [ho p hpl]; exact c2, fun t => c3 ?_⟩
        rcases t with ⟨k', hk⟩ | ⟨g', x, hg', hx, hgb⟩ | ⟨j', hj⟩
        · have hk : (if k' < h1.bx.length then C1.mu k' else none) = some p := hk
          split at hk
          · exact .inl ⟨k', hk⟩
          · cases hk
        · have hg' : g' < (C1.gl.take h1.gl.length).length := hg'
          rw [← s3.hgl, List.take_length] at hg'
          exact .inr (.inl ⟨g', x, hg', hx, hgb⟩)
        · have hj : (if j' < h.lp.length then C1.lp j' else none) = some p := hj
          split at hj
          · exact .inr (.inr ⟨j', hj⟩)
          · cases hj
      cases hs : L1.st with
      | busy => rw [hs] at hq; exact hq.elim
      | ready =>
        rw [hs] at hst hq
        rw [hst.2]
        exact ⟨tm, _, _, hq, x5, s5, r5, mk5⟩
      | done c =>
        rw [hs] at hst hq
        rw [hst.2]
        exact wpIn_mono (hq _ _ { a with defers := mark ++ a.defers } ro n s5 r5 (d.mono hle4)) fun e a'' w'' hp => Post2.trans (a1 := { a with defers := mark ++ a.defers }) x5 mk5 hp
end Go.V
