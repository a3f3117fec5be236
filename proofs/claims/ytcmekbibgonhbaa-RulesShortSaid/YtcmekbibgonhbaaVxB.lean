/- The program logic of this claim, proved sound over the model. No conditions. -/
import Derived.Test.YtcmekbibgonhbaaVxA
import Derived.KernelRfl
import Derived.Shelf.Spec.SlicesGrow
import Derived.Deep.Slices
import Derived.Deep.Fields
import Derived.ChangeArms
import Derived.DataReads
import Derived.ChangeSame
import Derived.Below
import GoSem.ClaimJoined
namespace Go.V
open Go
set_option linter.unusedVariables false
set_option linter.unusedSimpArgs false

/-- A piece of code: what must hold, as far as no loop, no range over a function and no open order comes. -/
def cw (P : Program) : Code → (Exit → List AV → Hp → Prop) → List AV → Hp → Prop
  | .skip, Q, tm, h => Q .normal tm h
  | .label _, Q, tm, h => Q .normal tm h
  | .seq x y, Q, tm, h => cw P x (thenQ (cw P y Q) Q) tm h
  | .region id all false, Q, tm, h => aops P all all.toList (Q .normal) tm h
  | .cond c x y, Q, tm, h => (match ev tm c with
    | .lit (.bool t) => (t = true → cw P x Q tm h) ∧ (t = false → cw P y Q tm h)
    | _ => False)
  | .block id c, Q, tm, h => cw P c (blockQ id Q) tm h
  | .exit id, Q, tm, h => Q (.exit id) tm h
  | .ret, Q, tm, h => Q .ret tm h
  | c, Q, tm, h => AWp P c Q tm h
theorem aloadC_mono {P : Program} {t : TypeId} {cs : List AV} {o : Nat} {K K' : AV → Prop} (hk : ∀ y, K y → K' y) (q : aloadC P t cs o K) : aloadC P t cs o K' := by
  revert q
  unfold aloadC
  cases tAgg P t with
  | none => exact id
  | some b =>
    cases b <;> cases tSize P t with
    | none => exact id
    | some n => simp only; split <;> first | exact hk _ | exact fun q => ⟨q.1, hk _ q.2⟩ | exact id
theorem aload_mono {P : Program} {t : TypeId} {a : AV} {h : Hp} {K K' : AV → Prop} (hk : ∀ y, K y → K' y) (q : aload P t a h K) : aload P t a h K' := by
  revert q
  unfold aload
  cases a <;> simp only <;> try exact id
  · split
    · exact aloadC_mono hk
    · exact id
  · split
    · split
      · exact hk _
      · exact aloadC_mono hk
    · exact id
theorem aresOne_mono {P : Program} {x : ResultVar} {tm : List AV} {h : Hp} {K K' : AV → Prop} (hk : ∀ y, K y → K' y) (q : aresOne P x tm h K) : aresOne P x tm h K' := by
  revert q
  unfold aresOne
  cases x with
  | tmp t => exact hk _
  | cell a t =>
    simp only
    split
    · exact aload_mono hk
    · exact id
theorem ares_mono {P : Program} {tm : List AV} {h : Hp} : ∀ (rs : List ResultVar) {K K' : List AV → Prop}, (∀ xs, K xs → K' xs) → ares P rs tm h K → ares P rs tm h K'
  | [], _, _, hk, q => hk _ q
  | x :: rs, _, _, hk, q => aresOne_mono (fun y hy => ares_mono rs (fun xs => hk _) hy) q
theorem cw_sound {P : Program} : ∀ (c : Code) (Q : Exit → List AV → Hp → Prop) (tm : List AV) (h : Hp), cw P c Q tm h → AWp P c Q tm h
  | .skip, Q, tm, h, k => awp_skip k
  | .label _, Q, tm, h, k => awp_label k
  | .seq x y, Q, tm, h, k => awp_seq ((cw_sound x _ tm h k).mono fun e tm' h' q => by
      cases e with
      | normal => exact cw_sound y Q tm' h' q
      | _ => exact q)
  | .region id all false, Q, tm, h, k => awp_region k
  | .region id all true, Q, tm, h, k => k
  | .cond c x y, Q, tm, h, k => by
      simp only [cw] at k
      split at k
      · rename_i t ht
        exact awp_cond ht (fun e => cw_sound x Q tm h (k.1 e)) (fun e => cw_sound y Q tm h (k.2 e))
      · exact k.elim
  | .block id c, Q, tm, h, k => awp_block (cw_sound c _ tm h k)
  | .exit id, Q, tm, h, k => awp_exit k
  | .ret, Q, tm, h, k => awp_ret k
  | .loop c, Q, tm, h, k => k
  | .rangeFunc f ps a b, Q, tm, h, k => k
  | .scope c, Q, tm, h, k => k
  | .goto l, Q, tm, h, k => k
  | .refuse w, Q, tm, h, k => k
/-- The answer of a function, by its results alone. -/
def retQ (P : Program) (rs : List ResultVar) (K : AV → Hp → Prop) (e : Exit) (tm : List AV) (h : Hp) : Prop :=
  match e with
  | .normal => ares P rs tm h fun xs => K (tupOf xs) h
  | .ret => ares P rs tm h fun xs => K (tupOf xs) h
  | _ => False
/-- A function that changes nothing that was there: its answer. -/
def Pure (P : Program) (f : FuncId) (args : List AV) (r : AV) : Prop := ∀ h, ACall P f args h (fun r' h' => r' = r ∧ h' = h)
/-- What is asked at the end of such a function. -/
def pureK (h0 : Hp) (r : AV) (r' : AV) (h : Hp) : Prop := Frz h.bx h0.bx.length h0.gl.length h0.lp.length r' r ∧ (∃ e, h.bx = h0.bx ++ e) ∧ (∃ e, h.gl = h0.gl ++ e) ∧ h.lp = h0.lp
theorem pure_of {P : Program} {f : FuncId} {fn : Func} {c : Code} {rs : List ResultVar} {m : Nat} {args : List AV} {r : AV} (hf : P.funcs[f]? = some fn) (hb : fn.body = some c) (hr : fn.results.toList = rs) (hm : fn.ntmps - args.length = m)
    (k : ∀ h, cw P c (retQ P rs (pureK h r)) (args ++ List.replicate m .any) h) : Pure P f args r := by
  intro h
  refine acall_fin (acall_body hf hb ((cw_sound c _ _ h (hm ▸ k h)).mono fun e tm h' q => ?_))
  subst hr
  cases e with
  | normal => exact ares_mono _ (fun xs ⟨h1, h3, h4, h5⟩ => fin_pure (r2 := r) ⟨rfl, rfl⟩ h1 h3 h4 h5) q
  | ret => exact ares_mono _ (fun xs ⟨h1, h3, h4, h5⟩ => fin_pure (r2 := r) ⟨rfl, rfl⟩ h1 h3 h4 h5) q
  | _ => exact q
/-- Where a loop goes on. -/
def loopQ (P : Program) (c : Code) (Q : Exit → List AV → Hp → Prop) (S : List Nat) (tm : List AV) (h : Hp) : Prop := ALoop P c Q (forget S tm) h
/-- A loop, by induction on what is left: st i is what its head shows, the slots of S forgotten. -/
theorem loop_ind {P : Program} {c : Code} {Q : Exit → List AV → Hp → Prop} {tm : List AV} {h : Hp} {ι : Type} (S : List Nat) (I : ι → Prop) (μ : ι → Nat) (tms : ι → List AV) (hs : ι → Hp) (i0 : ι) (hI : I i0) (htm : forget S tm = tms i0) (hh : h = hs i0)
    (round : ∀ i, I i → (∀ j, I j → μ j < μ i → ALoop P c Q (tms j) (hs j)) → cw P c (thenQ (loopQ P c Q S) Q) (tms i) (hs i)) : AWp P (.loop c) Q tm h := by
  have key : ∀ n i, μ i = n → I i → ALoop P c Q (tms i) (hs i) := by
    intro n
    induction n using Nat.strongRecOn with
    | _ n ih => exact fun i hn hi => aloop_round S (cw_sound c _ _ _ (round i hi fun j hj hlt => ih (μ j) (hn ▸ hlt) j rfl hj))
  refine awp_loop S ?_
  rw [htm, hh]
  exact key _ i0 rfl hI
theorem wrap_id {n : Int} (h1 : -9223372036854775808 ≤ n) (h2 : n ≤ 9223372036854775807) : IntKind.i64.wrap n = n := by
  unfold IntKind.wrap
  simp [IntKind.bits, IntKind.signed]
  omega
end Go.V
namespace Go.V
open Go
set_option linter.unusedVariables false
set_option linter.unusedSimpArgs false
section
variable {P : Program} {tm : List AV} {h : Hp} {K : AV → Hp → Prop} {K1 : AV → Prop} {E : Operand → AV}
theorem ev_tmp (t : Nat) : ev tm (.tmp t) = tm.getD t .any := (fun _ : Unit => rfl) ()
theorem ev_int (k : IntKind) (n : Int) : ev tm (.const (.int k n)) = .lit (.int k n) := (fun _ : Unit => rfl) ()
theorem ev_bool (b : Bool) : ev tm (.const (.bool b)) = .lit (.bool b) := (fun _ : Unit => rfl) ()
theorem ev_str (s : ByteArray) : ev tm (.const (.string s)) = .lit (.string s) := (fun _ : Unit => rfl) ()
theorem ev_nil : ev tm (.const (.slice none 0 0)) = .row .full [] := (fun _ : Unit => rfl) ()
theorem ev_nilf : ev tm (.const .nilFunc) = .lit .nilFunc := (fun _ : Unit => rfl) ()
theorem ev_nilp : ev tm (.const (.pointer none)) = .lit (.pointer none) := (fun _ : Unit => rfl) ()
theorem ev_func (f : FuncId) : ev tm (.func f) = .lit (.func (.func f) #[] #[]) := (fun _ : Unit => rfl) ()
theorem w_lit (v : Value) : (AV.lit v).w = some 1 := (fun _ : Unit => rfl) ()
theorem w_row (g : Gr) (xs : List AV) : (AV.row g xs).w = some 1 := (fun _ : Unit => rfl) ()
theorem w_ptr (k o : Nat) : (AV.ptr k o).w = some 1 := (fun _ : Unit => rfl) ()
theorem w_eptr (x : AV) (o : Nat) : (AV.eptr x o).w = some 1 := (fun _ : Unit => rfl) ()
theorem w_sl (k o n s : Nat) : (AV.sl k o n s).w = some 1 := (fun _ : Unit => rfl) ()
theorem w_clo (f : Fn) (a b : List AV) : (AV.clo f a b).w = some 1 := (fun _ : Unit => rfl) ()
theorem w_yld (j : Nat) : (AV.yld j).w = some 1 := (fun _ : Unit => rfl) ()
theorem w_agg (cs : List AV) : (AV.agg cs).w = if cs.all isCell then some cs.length else none := (fun _ : Unit => rfl) ()
theorem ic_lit (v : Value) : isCell (.lit v) = true := (fun _ : Unit => rfl) ()
theorem ic_row (g : Gr) (xs : List AV) : isCell (.row g xs) = true := (fun _ : Unit => rfl) ()
theorem ic_ptr (k o : Nat) : isCell (.ptr k o) = true := (fun _ : Unit => rfl) ()
theorem ic_sl (k o n s : Nat) : isCell (.sl k o n s) = true := (fun _ : Unit => rfl) ()
theorem ic_clo (f : Fn) (a b : List AV) : isCell (.clo f a b) = true := (fun _ : Unit => rfl) ()
theorem ic_yld (j : Nat) : isCell (.yld j) = true := (fun _ : Unit => rfl) ()
theorem cells_lit (v : Value) : (AV.lit v).cells = [.lit v] := (fun _ : Unit => rfl) ()
theorem cells_row (g : Gr) (xs : List AV) : (AV.row g xs).cells = [.row g xs] := (fun _ : Unit => rfl) ()
theorem cells_ptr (k o : Nat) : (AV.ptr k o).cells = [.ptr k o] := (fun _ : Unit => rfl) ()
theorem cells_clo (f : Fn) (a b : List AV) : (AV.clo f a b).cells = [.clo f a b] := (fun _ : Unit => rfl) ()
theorem cells_sl (k o n s : Nat) : (AV.sl k o n s).cells = [.sl k o n s] := (fun _ : Unit => rfl) ()
theorem cells_yld (j : Nat) : (AV.yld j).cells = [.yld j] := (fun _ : Unit => rfl) ()
theorem cells_agg (cs : List AV) : (AV.agg cs).cells = cs := (fun _ : Unit => rfl) ()
theorem isAgg_agg (cs : List AV) : (AV.agg cs).isAgg = true := (fun _ : Unit => rfl) ()
theorem isAgg_lit (v : Value) : (AV.lit v).isAgg = false := (fun _ : Unit => rfl) ()
theorem isAgg_row (g : Gr) (xs : List AV) : (AV.row g xs).isAgg = false := (fun _ : Unit => rfl) ()
/-- Marks what simp must look at (so that it never looks at all the rest). -/
def nm {α : Type} (x : α) : α := x
theorem nm_def {α : Type} (x : α) : nm x = x := (fun _ : Unit => rfl) ()
theorem kNext_some (F : List AV → Hp → Prop) (d : Nat) (r : AV) : kNext F (some d) tm r h = F (nm (tm.set d r)) h := (fun _ : Unit => rfl) ()
theorem kNext_none (F : List AV → Hp → Prop) (r : AV) : kNext F none tm r h = F (nm tm) h := (fun _ : Unit => rfl) ()
/-- What comes behind a call, where simp doesn't look. -/
class HK where
  k : AV → Hp → Prop
def ACallI (P : Program) (f : AV) (args : List AV) (h : Hp) [K : HK] : Prop := ACallV P f args h K.k
theorem hk_def (K : AV → Hp → Prop) : (HK.mk K).k = K := (fun _ : Unit => rfl) ()
class HL where
  c : Code
  q : Exit → List AV → Hp → Prop
def AWpI (P : Program) [L : HL] (tm : List AV) (h : Hp) : Prop := AWp P L.c L.q tm h
theorem putA_some (d : Nat) (r : AV) : putA tm (some d) r = tm.set d r := (fun _ : Unit => rfl) ()
theorem atH_apply (r : AV) : atH K h r = K r h := (fun _ : Unit => rfl) ()
theorem aops_nil (all : Array Oper) (K : List AV → Hp → Prop) : aops P all [] K tm h = K tm h := (fun _ : Unit => rfl) ()
theorem aops_none (all : Array Oper) (d : Option Tmp) (op : Op) (t : TypeId) (p : String) (a : Array Edge) (rest : List Oper) (K : List AV → Hp → Prop) :
    aops P all (⟨d, op, t, p, a, none⟩ :: rest) K tm h = aop P ⟨d, op, t, p, a, none⟩ (ev tm) h (kNext (aops P all rest K) d tm) := (fun _ : Unit => rfl) ()
def ask (p : Prop) : Prop := p
theorem ask_def (p : Prop) : ask p = p := (fun _ : Unit => rfl) ()
/-- One of two ways; simp looks at the condition first. -/
def gP (p x y : Prop) : Prop := (p → x) ∧ (¬p → y)
@[congr] theorem gP_congr {p p' x y : Prop} (e : p = p') : gP p x y = gP p' x y := by rw [e]
theorem gP_true (x y : Prop) : gP True x y = x := by simp [gP]
theorem gP_false (x y : Prop) : gP False x y = y := by simp [gP]
theorem gP_not (p x y : Prop) : gP (¬p) x y = gP (ask p) y x := by
  refine propext ⟨fun ⟨a, b⟩ => ⟨fun hp => b (fun hn => hn hp), a⟩, fun ⟨a, b⟩ => ⟨b, fun hn => a (Classical.not_not.1 hn)⟩⟩
theorem gP_le {α : Type} [LE α] (a b : α) (x y : Prop) : gP (a ≤ b) x y = ((a ≤ b → x) ∧ (¬a ≤ b → y)) := (fun _ : Unit => rfl) ()
theorem gP_lt {α : Type} [LT α] (a b : α) (x y : Prop) : gP (a < b) x y = ((a < b → x) ∧ (¬a < b → y)) := (fun _ : Unit => rfl) ()
/-- Equations as conditions: shielded, so that simp doesn't rewrite by them. -/
def asT (b : Bool) : Prop := b = true
def asE {α : Type} (a b : α) : Prop := a = b
theorem gP_eqT (b : Bool) (x y : Prop) : gP (b = true) x y = gP (ask (asT b)) x y := (fun _ : Unit => rfl) ()
theorem gP_eqF (b : Bool) (x y : Prop) : gP (b = false) x y = gP (ask (asT b)) y x := by cases b <;> simp [gP, ask, asT]
theorem gP_eqI (a b : Int) (x y : Prop) : gP (a = b) x y = gP (ask (asE a b)) x y := (fun _ : Unit => rfl) ()
theorem gP_eqN (a b : Nat) (x y : Prop) : gP (a = b) x y = gP (ask (asE a b)) x y := (fun _ : Unit => rfl) ()
theorem gP_asT (b : Bool) (x y : Prop) : gP (asT b) x y = ((asT b → x) ∧ (¬asT b → y)) := (fun _ : Unit => rfl) ()
theorem gP_asE {α : Type} (a b : α) (x y : Prop) : gP (asE a b) x y = ((asE a b → x) ∧ (¬asE a b → y)) := (fun _ : Unit => rfl) ()
theorem gP_and (p q x y : Prop) : gP (p ∧ q) x y = gP (ask p) (gP (ask q) x y) y := by
  refine propext ⟨fun ⟨a, b⟩ => ⟨fun hp => ⟨fun hq => a ⟨hp, hq⟩, fun hq => b fun h => hq h.2⟩, fun hp => b fun h => hp h.1⟩, fun ⟨a, b⟩ => ⟨fun h => (a h.1).1 h.2, fun h => ?_⟩⟩
  by_cases hp : p
  · exact (a hp).2 fun hq => h ⟨hp, hq⟩
  · exact b hp
def gV (v : Option (Option Bool)) (want : Bool) (x y : Prop) : Prop :=
  match v with
  | some (some b) => gP (ask (b = want)) x y
  | some none => y
  | none => False
@[congr] theorem gV_congr {v v' : Option (Option Bool)} {want : Bool} {x y : Prop} (e : v = v') : gV v want x y = gV v' want x y := by rw [e]
theorem gV_some (b want : Bool) (x y : Prop) : gV (some (some b)) want x y = gP (ask (b = want)) x y := (fun _ : Unit => rfl) ()
theorem gV_skip (want : Bool) (x y : Prop) : gV (some none) want x y = y := (fun _ : Unit => rfl) ()
theorem gV_eq (v : Option (Option Bool)) (want : Bool) (x y : Prop) : gV v want x y = (match v with
    | some z => (z = some want → x) ∧ (z ≠ some want → y)
    | none => False) := by
  cases v with
  | none => rfl
  | some z => cases z with
    | none => simp [gV]
    | some b => simp [gV, gP, ask]
theorem aops_some (all : Array Oper) (d : Option Tmp) (op : Op) (t : TypeId) (p : String) (a : Array Edge) (j : Nat) (want : Bool) (rest : List Oper) (K : List AV → Hp → Prop) :
    aops P all (⟨d, op, t, p, a, some (j, want)⟩ :: rest) K tm h = gV (nm (gval all tm j)) want (aop P ⟨d, op, t, p, a, some (j, want)⟩ (ev tm) h (kNext (aops P all rest K) d tm)) (aops P all rest K (nm (putA tm d (.tup []))) h) := by
  rw [gV_eq]; simp only [nm, aops]; cases gval all tm j <;> rfl
section ops
variable (d : Option Tmp) (ty : TypeId) (p : String) (a : Array Edge) (g : Option (Nat × Bool))
theorem aop_move (x : Operand) : aop P ⟨d, .move x, ty, p, a, g⟩ E h K = K (E x) h := (fun _ : Unit => rfl) ()
theorem aop_assign (x : Operand) : aop P ⟨d, .assign x, ty, p, a, g⟩ E h K = K (E x) h := (fun _ : Unit => rfl) ()
def apick (c x y : AV) (K : AV → Hp → Prop) (h : Hp) : Prop :=
  match c with
  | .lit (.bool t) => (t = true → K x h) ∧ (t = false → K y h)
  | _ => False
theorem aop_pick (c x y : Operand) : aop P ⟨d, .pick c x y, ty, p, a, g⟩ E h K = apick (E c) (E x) (E y) K h := (fun _ : Unit => rfl) ()
theorem apick_lit (t : Bool) (x y : AV) : apick (.lit (.bool t)) x y K h = gP (ask (t = true)) (K x h) (K y h) := by simp only [apick, gP, ask, Bool.not_eq_true]
theorem apick_true (x y : AV) : apick (.lit (.bool true)) x y K h = K x h := by simp [apick]
theorem apick_false (x y : AV) : apick (.lit (.bool false)) x y K h = K y h := by simp [apick]
theorem aop_alloc (t : TypeId) : aop P ⟨d, .alloc t, ty, p, a, g⟩ E h K = match aZero P t with
    | some cs => K (.ptr h.bx.length 0) { h with bx := h.bx ++ [cs] }
    | none => False := (fun _ : Unit => rfl) ()
def abox (x : AV) (h : Hp) (K : AV → Hp → Prop) : Prop :=
  match x.w with
  | some _ => K (.ptr h.bx.length 0) { h with bx := h.bx ++ [x.cells] }
  | none => False
theorem aop_box (t : TypeId) (x : Operand) : aop P ⟨d, .box t x, ty, p, a, g⟩ E h K = abox (E x) h K := (fun _ : Unit => rfl) ()
theorem abox_of {x : AV} {n : Nat} (hw : x.w = some n) : abox x h K = K (.ptr h.bx.length 0) { h with bx := h.bx ++ [x.cells] } := by unfold abox; rw [hw]
theorem aop_build (t : TypeId) (parts : Array (Nat × Operand)) : aop P ⟨d, .build t parts, ty, p, a, g⟩ E h K = abuild P t (parts.toList.map fun q => (q.1, E q.2)) (atH K h) := (fun _ : Unit => rfl) ()
theorem aop_buildSlice (t : TypeId) (n : Nat) (parts : Array (Nat × Operand)) : aop P ⟨d, .buildSlice t n parts, ty, p, a, g⟩ E h K = abuildSlice P t n (parts.toList.map fun q => (q.1, E q.2)) (atH K h) := (fun _ : Unit => rfl) ()
theorem aop_load (t : TypeId) (x : Operand) : aop P ⟨d, .load t x, ty, p, a, g⟩ E h K = aload P t (E x) h (atH K h) := (fun _ : Unit => rfl) ()
theorem aop_store (t : TypeId) (x v : Operand) : aop P ⟨d, .store t x v, ty, p, a, g⟩ E h K = astore P t (E x) (E v) h K := (fun _ : Unit => rfl) ()
theorem aop_nil (x : Operand) : aop P ⟨d, .nilCheck x, ty, p, a, g⟩ E h K = anil (E x) (K (E x) h) := (fun _ : Unit => rfl) ()
theorem aop_bin (op : BinOp) (t : TypeId) (x : Operand) (n : Tmp) (t2 : TypeId) : aop P ⟨d, .binOp op t x (.tmp n) t2, ty, p, a, g⟩ E h K = abin P op t (E x) (E (.tmp n)) (atH K h) := (fun _ : Unit => rfl) ()
theorem aop_binI (op : BinOp) (t : TypeId) (x : Operand) (k : IntKind) (n : Int) (t2 : TypeId) : aop P ⟨d, .binOp op t x (.const (.int k n)) t2, ty, p, a, g⟩ E h K = abin P op t (E x) (E (.const (.int k n))) (atH K h) := (fun _ : Unit => rfl) ()
theorem aop_binB (op : BinOp) (t : TypeId) (x : Operand) (n : Bool) (t2 : TypeId) : aop P ⟨d, .binOp op t x (.const (.bool n)) t2, ty, p, a, g⟩ E h K = abin P op t (E x) (E (.const (.bool n))) (atH K h) := (fun _ : Unit => rfl) ()
theorem aop_binS (op : BinOp) (t : TypeId) (x : Operand) (n : ByteArray) (t2 : TypeId) : aop P ⟨d, .binOp op t x (.const (.string n)) t2, ty, p, a, g⟩ E h K = abin P op t (E x) (E (.const (.string n))) (atH K h) := (fun _ : Unit => rfl) ()
theorem aop_binA (op : BinOp) (t : TypeId) (x : Operand) (n : Array Value) (t2 : TypeId) : aop P ⟨d, .binOp op t x (.const (.agg n)) t2, ty, p, a, g⟩ E h K = abin P op t (E x) (E (.const (.agg n))) (atH K h) := (fun _ : Unit => rfl) ()
theorem aop_binP (op : BinOp) (t : TypeId) (x : Operand) (n : Option Addr) (t2 : TypeId) : aop P ⟨d, .binOp op t x (.const (.pointer n)) t2, ty, p, a, g⟩ E h K = abin P op t (E x) (E (.const (.pointer n))) (atH K h) := (fun _ : Unit => rfl) ()
theorem aop_binN (op : BinOp) (t : TypeId) (x : Operand) (t2 : TypeId) : aop P ⟨d, .binOp op t x (.const (.slice none 0 0)) t2, ty, p, a, g⟩ E h K = anilS P op t (E x) (atH K h) := (fun _ : Unit => rfl) ()
theorem aop_make (t : TypeId) (l c : Operand) : aop P ⟨d, .makeSlice t l c, ty, p, a, g⟩ E h K = amakeSl P t (E l) (E c) h K := (fun _ : Unit => rfl) ()
theorem aop_un (op : UnOp) (t : TypeId) (x : Operand) : aop P ⟨d, .unOp op t x, ty, p, a, g⟩ E h K = aun op (E x) (atH K h) := (fun _ : Unit => rfl) ()
theorem aop_conv (s t : TypeId) (x : Operand) : aop P ⟨d, .convert s t x, ty, p, a, g⟩ E h K = aconv P s t (E x) (atH K h) := (fun _ : Unit => rfl) ()
theorem aop_func (fn : Fn) (x y : Array Operand) : aop P ⟨d, .makeFunc fn x y, ty, p, a, g⟩ E h K = K (.clo fn (x.toList.map E) (y.toList.map E)) h := (fun _ : Unit => rfl) ()
theorem aop_slice (t : TypeId) (x : Operand) (lo hi mx : Option Operand) : aop P ⟨d, .slice t x lo hi mx, ty, p, a, g⟩ E h K = ((tArr P t).isNone = true ∧ aslice P t (E x) (lo.map E) (hi.map E) (mx.map E) (atH K h)) := (fun _ : Unit => rfl) ()
theorem aop_fieldAddr (t : TypeId) (x : Operand) (f : Nat) : aop P ⟨d, .fieldAddr t x f, ty, p, a, g⟩ E h K = afield P t (E x) f (atH K h) := (fun _ : Unit => rfl) ()
theorem aop_field (t : TypeId) (x : Operand) (f : Nat) : aop P ⟨d, .field t x f, ty, p, a, g⟩ E h K = afieldV P t (E x) f (atH K h) := (fun _ : Unit => rfl) ()
theorem aop_indexAddr (t : TypeId) (x i : Operand) : aop P ⟨d, .indexAddr t x i, ty, p, a, g⟩ E h K = aindexA P t (E x) (E i) (atH K h) := (fun _ : Unit => rfl) ()
theorem aop_index (t : TypeId) (x i : Operand) : aop P ⟨d, .index t x i, ty, p, a, g⟩ E h K = aindex P t (E x) (E i) (atH K h) := (fun _ : Unit => rfl) ()
theorem aop_extract (x : Operand) (i : Nat) : aop P ⟨d, .extract x i, ty, p, a, g⟩ E h K = aextract (E x) i (atH K h) := (fun _ : Unit => rfl) ()
theorem aop_call (f : Operand) (args : Array Operand) (ts : Array TypeId) : aop P ⟨d, .call ⟨.value f, args, ts⟩, ty, p, a, g⟩ E h K = @ACallI P (E f) (args.toList.map E) h ⟨K⟩ := (fun _ : Unit => rfl) ()
theorem aop_builtin (b : Builtin) (args : Array Operand) (ts : Array TypeId) : aop P ⟨d, .call ⟨.builtin b, args, ts⟩, ty, p, a, g⟩ E h K = abuiltin P b ts.toList (args.toList.map E) h K := (fun _ : Unit => rfl) ()
theorem aop_iface (t : TypeId) (x : Operand) : aop P ⟨d, .makeInterface t x, ty, p, a, g⟩ E h K = ((tAgg P t).isSome = true ∧ (∀ ms, P.underlying t ≠ some (.interface ms)) ∧ K (.ifc t (E x)) h) := (fun _ : Unit => rfl) ()
end ops
/-! #### loads and stores -/
theorem aload_ptr {t : TypeId} {k o : Nat} : aload P t (.ptr k o) h K1 = match h.bx[k]? with
    | some cs => aloadC P t cs o K1
    | none => False := (fun _ : Unit => rfl) ()
theorem aload_eptr {t : TypeId} {x : AV} {o : Nat} : aload P t (.eptr x o) h K1 = match x.w with
    | some m => if o = 0 ∧ tAgg P t = some true ∧ tSize P t = some m ∧ x.isAgg = true then K1 x else aloadC P t x.cells o K1
    | none => False := (fun _ : Unit => rfl) ()
theorem aloadC_def {t : TypeId} {cs : List AV} {o : Nat} : aloadC P t cs o K1 = match tAgg P t, tSize P t with
    | some true, some n => if o = 0 ∧ cs.length = n then K1 (.agg cs) else o + n ≤ cs.length ∧ K1 (.agg ((cs.drop o).take n))
    | some false, some _ => match cs[o]? with
      | some x => K1 x
      | none => False
    | _, _ => False := (fun _ : Unit => rfl) ()
theorem astore_ptr {t : TypeId} {k o : Nat} {v : AV} : astore P t (.ptr k o) v h K = match h.bx[k]?, tSize P t, v.w with
    | some cs, some n, some m => m = n ∧ o + n ≤ cs.length ∧ K .any { h with bx := h.bx.set k (splice cs o v.cells) }
    | _, _, _ => False := (fun _ : Unit => rfl) ()
theorem anil_ptr (k o : Nat) (X : Prop) : anil (.ptr k o) X = X := (fun _ : Unit => rfl) ()
theorem anil_eptr (x : AV) (o : Nat) (X : Prop) : anil (.eptr x o) X = X := (fun _ : Unit => rfl) ()
theorem anil_clo (f : FuncId) (x y : List AV) (X : Prop) : anil (.clo (.func f) x y) X = X := (fun _ : Unit => rfl) ()
theorem anil_fn (f : FuncId) (x y : Array Value) (X : Prop) : anil (.lit (.func (.func f) x y)) X = X := (fun _ : Unit => rfl) ()
theorem afield_ptr {t : TypeId} {k o f : Nat} : afield P t (.ptr k o) f K1 = match tField P t f with
    | some (off, ft) => match tSize P ft with
      | some (n + 1) => K1 (.ptr k (o + off))
      | _ => False
    | none => False := (fun _ : Unit => rfl) ()
theorem afield_eptr {t : TypeId} {x : AV} {o f : Nat} : afield P t (.eptr x o) f K1 = match tField P t f with
    | some (off, ft) => match tSize P ft with
      | some (n + 1) => K1 (.eptr x (o + off))
      | _ => False
    | none => False := (fun _ : Unit => rfl) ()
theorem aindexA_row {t : TypeId} {gr : Gr} {xs : List AV} {k : IntKind} {n : Int} : aindexA P t (.row gr xs) (.lit (.int k n)) K1 = match tElem P t with
    | some e => match tSize P e with
      | some sz => 0 < sz ∧ 0 ≤ n ∧ n < xs.length ∧ (xs.getD n.toNat .any).w = some sz ∧ K1 (.eptr (xs.getD n.toNat .any) 0)
      | none => False
    | none => False := (fun _ : Unit => rfl) ()
theorem aindexA_sl {t : TypeId} {k off len s : Nat} {kk : IntKind} {n : Int} : aindexA P t (.sl k off len s) (.lit (.int kk n)) K1 = match tElem P t with
    | some e => tSize P e = some s ∧ 0 ≤ n ∧ n < len ∧ K1 (.ptr k (off + n.toNat * s))
    | none => False := (fun _ : Unit => rfl) ()
theorem aextract_tup {vs : List AV} {i : Nat} : aextract (.tup vs) i K1 = match vs[i]? with
    | some v => K1 v
    | none => False := (fun _ : Unit => rfl) ()
theorem alen_row {t : TypeId} {gr : Gr} {xs : List AV} : alen P t (.row gr xs) K1 = ((tElem P t).isSome = true ∧ K1 (.lit (.int .i64 xs.length))) := (fun _ : Unit => rfl) ()
theorem alen_sl {t : TypeId} {k o n s : Nat} : alen P t (.sl k o n s) K1 = ((tElem P t).isSome = true ∧ K1 (.lit (.int .i64 n))) := (fun _ : Unit => rfl) ()
theorem alen_str {t : TypeId} {s : ByteArray} : alen P t (.lit (.string s)) K1 = (P.underlying t = some .string ∧ K1 (.lit (.int .i64 s.size))) := (fun _ : Unit => rfl) ()
theorem ablt_len {t : TypeId} {ts : List TypeId} {x : AV} : abuiltin P .len (t :: ts) [x] h K = alen P t x (atH K h) := (fun _ : Unit => rfl) ()
theorem ablt_append {t tx : TypeId} {s x : AV} : abuiltin P .append [t, tx] [s, x] h K = aappend P t tx s x h K := (fun _ : Unit => rfl) ()
theorem ablt_min {ts : List TypeId} {k k' : IntKind} {x y : Int} : abuiltin P .min ts [.lit (.int k x), .lit (.int k' y)] h K = K (.lit (.int k (if y < x then y else x))) h := (fun _ : Unit => rfl) ()
theorem ablt_max {ts : List TypeId} {k k' : IntKind} {x y : Int} : abuiltin P .max ts [.lit (.int k x), .lit (.int k' y)] h K = K (.lit (.int k (if y > x then y else x))) h := (fun _ : Unit => rfl) ()
theorem abin_int (op : BinOp) (t : TypeId) (k k' : IntKind) (x y : Int) : abin P op t (.lit (.int k x)) (.lit (.int k' y)) K1 = abinI op k x k' y K1 := (fun _ : Unit => rfl) ()
theorem abin_bool (op : BinOp) (t : TypeId) (x y : Bool) (ht : P.underlying t = some .bool) : abin P op t (.lit (.bool x)) (.lit (.bool y)) K1 = (match op with
    | .eql => K1 (.lit (.bool (x == y)))
    | .neq => K1 (.lit (.bool (!(x == y))))
    | _ => False) := by cases op <;> simp [abin, ht]
theorem abinI_add (k : IntKind) (x y : Int) : abinI .add k x k y K1 = K1 (.lit (.int k (k.wrap (x + y)))) := by simp [abinI]
theorem abinI_sub (k : IntKind) (x y : Int) : abinI .sub k x k y K1 = K1 (.lit (.int k (k.wrap (x - y)))) := by simp [abinI]
theorem abinI_eql (k : IntKind) (x y : Int) : abinI .eql k x k y K1 = K1 (.lit (.bool (decide (x = y)))) := by simp [abinI]
theorem abinI_neq (k : IntKind) (x y : Int) : abinI .neq k x k y K1 = K1 (.lit (.bool (!decide (x = y)))) := by simp [abinI]
theorem abinI_lss (k : IntKind) (x y : Int) : abinI .lss k x k y K1 = K1 (.lit (.bool (decide (x < y)))) := by simp [abinI]
theorem abinI_leq (k : IntKind) (x y : Int) : abinI .leq k x k y K1 = K1 (.lit (.bool (decide (x ≤ y)))) := by simp [abinI]
theorem abinI_gtr (k : IntKind) (x y : Int) : abinI .gtr k x k y K1 = K1 (.lit (.bool (decide (y < x)))) := by simp [abinI]
theorem abinI_geq (k : IntKind) (x y : Int) : abinI .geq k x k y K1 = K1 (.lit (.bool (decide (y ≤ x)))) := by simp [abinI]
theorem aun_not (b : Bool) : aun .not (.lit (.bool b)) K1 = K1 (.lit (.bool (!b))) := (fun _ : Unit => rfl) ()
theorem ares_nil (K : List AV → Prop) : ares P [] tm h K = K [] := (fun _ : Unit => rfl) ()
theorem ares_tmp (t : Nat) (rs : List ResultVar) (K : List AV → Prop) : ares P (.tmp t :: rs) tm h K = ares P rs tm h (fun xs => K (tm.getD t .any :: xs)) := (fun _ : Unit => rfl) ()
theorem tupOf_one (x : AV) : tupOf [x] = x := (fun _ : Unit => rfl) ()
theorem tupOf_two (x y : AV) (l : List AV) : tupOf (x :: y :: l) = .tup (x :: y :: l) := (fun _ : Unit => rfl) ()
section code
variable {Q : Exit → List AV → Hp → Prop} {next : List AV → Hp → Prop}
theorem cw_skip : cw P .skip Q tm h = Q .normal tm h := (fun _ : Unit => rfl) ()
theorem cw_label (l : Nat) : cw P (.label l) Q tm h = Q .normal tm h := (fun _ : Unit => rfl) ()
theorem cw_seq (x y : Code) : cw P (.seq x y) Q tm h = cw P x (thenQ (cw P y Q) Q) tm h := (fun _ : Unit => rfl) ()
theorem cw_region (id : Nat) (all : Array Oper) : cw P (.region id all false) Q tm h = aops P all all.toList (Q .normal) (nm tm) h := (fun _ : Unit => rfl) ()
theorem cw_draw (id : Nat) (all : Array Oper) : cw P (.region id all true) Q tm h = @AWpI P ⟨.region id all true, Q⟩ tm h := (fun _ : Unit => rfl) ()
def acond (v : AV) (P : Program) (x y : Code) (Q : Exit → List AV → Hp → Prop) (tm : List AV) (h : Hp) : Prop :=
  match v with
  | .lit (.bool t) => (t = true → cw P x Q tm h) ∧ (t = false → cw P y Q tm h)
  | _ => False
theorem cw_cond (c : Operand) (x y : Code) : cw P (.cond c x y) Q tm h = acond (ev tm c) P x y Q tm h := (fun _ : Unit => rfl) ()
theorem acond_lit (t : Bool) (x y : Code) : acond (.lit (.bool t)) P x y Q tm h = gP (ask (t = true)) (cw P x Q tm h) (cw P y Q tm h) := by simp only [acond, gP, ask, Bool.not_eq_true]
@[congr] theorem acond_congr {v v' : AV} {x y : Code} {Q : Exit → List AV → Hp → Prop} {tm : List AV} {h : Hp} (e : v = v') : acond v P x y Q tm h = acond v' P x y Q tm h := by rw [e]
theorem acond_true (x y : Code) : acond (.lit (.bool true)) P x y Q tm h = cw P x Q tm h := by simp [acond]
theorem acond_false (x y : Code) : acond (.lit (.bool false)) P x y Q tm h = cw P y Q tm h := by simp [acond]
theorem cw_block (id : Nat) (c : Code) : cw P (.block id c) Q tm h = cw P c (blockQ id Q) tm h := (fun _ : Unit => rfl) ()
theorem cw_exit (id : Nat) : cw P (.exit id) Q tm h = Q (.exit id) tm h := (fun _ : Unit => rfl) ()
theorem cw_ret : cw P .ret Q tm h = Q .ret tm h := (fun _ : Unit => rfl) ()
theorem cw_loop (c : Code) : cw P (.loop c) Q tm h = @AWpI P ⟨.loop c, Q⟩ tm h := (fun _ : Unit => rfl) ()
theorem cw_range (f : Operand) (ps : Array Tmp) (x y : Code) : cw P (.rangeFunc f ps x y) Q tm h = @AWpI P ⟨.rangeFunc f ps x y, Q⟩ tm h := (fun _ : Unit => rfl) ()
theorem thenQ_normal : thenQ next Q .normal tm h = next tm h := (fun _ : Unit => rfl) ()
theorem thenQ_ret : thenQ next Q .ret tm h = Q .ret tm h := (fun _ : Unit => rfl) ()
theorem thenQ_exit (id : Nat) : thenQ next Q (.exit id) tm h = Q (.exit id) tm h := (fun _ : Unit => rfl) ()
theorem blockQ_normal (id : Nat) : blockQ id Q .normal tm h = Q .normal tm h := (fun _ : Unit => rfl) ()
theorem blockQ_ret (id : Nat) : blockQ id Q .ret tm h = Q .ret tm h := (fun _ : Unit => rfl) ()
theorem blockQ_exit (id id' : Nat) : blockQ id Q (.exit id') tm h = if id' = id then Q .normal tm h else Q (.exit id') tm h := (fun _ : Unit => rfl) ()
theorem retQ_ret (rs : List ResultVar) : retQ P rs K .ret tm h = ares P rs tm h fun xs => K (tupOf xs) h := (fun _ : Unit => rfl) ()
theorem retQ_normal (rs : List ResultVar) : retQ P rs K .normal tm h = ares P rs tm h fun xs => K (tupOf xs) h := (fun _ : Unit => rfl) ()
theorem loopQ_def (c : Code) (S : List Nat) : loopQ P c Q S tm h = ALoop P c Q (forget S tm) h := (fun _ : Unit => rfl) ()
end code
end
/-- The element of a typed row. -/
theorem getD_enc {α : Type} [Inhabited α] (f : α → AV) (l : List α) {n : Nat} (h : n < l.length) : (l.map f).getD n .any = f (l.getD n default) := by
  simp [List.getD, h]
theorem get_own {α : Type} (l e : List α) (i : Nat) : (l ++ e)[l.length + i]? = e[i]? := by rw [List.getElem?_append_right (by omega)]; congr 1; omega
theorem get_own0 {α : Type} (l e : List α) : (l ++ e)[l.length]? = e[0]? := get_own l e 0
theorem set_own {α : Type} (l e : List α) (i : Nat) (x : α) : (l ++ e).set (l.length + i) x = l ++ e.set i x := by
  rw [List.set_append_right _ _ (by omega)]; congr 2; omega
theorem set_own0 {α : Type} (l e : List α) (x : α) : (l ++ e).set l.length x = l ++ e.set 0 x := set_own l e 0 x
theorem get_old {α : Type} {l : List α} {k : Nat} {x : α} (h : l[k]? = some x) (e : List α) : (l ++ e)[k]? = some x := by rw [List.getElem?_append_left (List.getElem?_eq_some_iff.1 h).1]; exact h
end Go.V
namespace Go.V
open Go
set_option linter.unusedVariables false
set_option linter.unusedSimpArgs false

/-! ### Operations whose answer is one -/
def isQ (r : AV) (h : Hp) (r' : AV) (h' : Hp) : Prop := r' = r ∧ h' = h
theorem abinI_det {op : BinOp} {k k' : IntKind} {x y : Int} {K : AV → Prop} (h : abinI op k x k' y K) : ∃ r, abinI op k x k' y (fun z => z = r) ∧ K r := by
  revert h
  cases op <;> simp only [abinI] <;> first | exact fun h => ⟨_, ⟨h.1, h.2.1, rfl⟩, h.2.2⟩ | exact fun h => ⟨_, ⟨h.1, rfl⟩, h.2⟩
theorem abinS_det {op : BinOp} {x y : ByteArray} {K : AV → Prop} (h : abinS op x y K) : ∃ r, abinS op x y (fun z => z = r) ∧ K r := by
  revert h
  cases op <;> simp only [abinS] <;> first | exact fun h => h.elim | exact fun h => ⟨_, ⟨h.1, rfl⟩, h.2⟩ | exact fun h => ⟨_, rfl, h⟩
theorem abin_det {P : Program} {op : BinOp} {t : TypeId} {a b : AV} {K : AV → Prop} (h : abin P op t a b K) : ∃ r, abin P op t a b (fun z => z = r) ∧ K r := by
  unfold abin at h ⊢
  split at h
  · exact abinI_det h
  · exact abinS_det h
  · obtain ⟨h1, h2⟩ := h
    revert h2
    cases op <;> simp only <;> first | exact fun h => h.elim | exact fun h => ⟨_, ⟨h1, rfl⟩, h⟩
  · unfold abinA at h ⊢
    split at h
    · obtain ⟨h1, h2, h3, h4, h5, h6, h7⟩ := h
      revert h7
      cases op <;> simp only <;> first | exact fun h => h.elim | exact fun h => ⟨_, ⟨h1, h2, h3, h4, h5, h6, rfl⟩, h⟩
    · exact h.elim
  · exact h.elim
theorem aun_det {op : UnOp} {a : AV} {K : AV → Prop} (h : aun op a K) : ∃ r, aun op a (fun z => z = r) ∧ K r := by
  unfold aun at h ⊢
  split at h <;> first | exact h.elim | exact ⟨_, rfl, h⟩
theorem aconv_det {P : Program} {s t : TypeId} {a : AV} {K : AV → Prop} (h : aconv P s t a K) : ∃ r, aconv P s t a (fun z => z = r) ∧ K r := by
  unfold aconv at h ⊢
  split at h
  · rename_i k1 k n h1 h2; (try simp only [h1, h2]); exact ⟨_, rfl, h⟩
  · exact h.elim
theorem aloadC_det {P : Program} {t : TypeId} {cs : List AV} {o : Nat} {K : AV → Prop} (h : aloadC P t cs o K) : ∃ r, aloadC P t cs o (fun z => z = r) ∧ K r := by
  unfold aloadC at h ⊢
  split at h
  · rename_i n h1 h2
    try simp only [h1, h2]
    split at h
    · rename_i hif; simp only [hif, and_self, if_true]; exact ⟨_, rfl, h⟩
    · rename_i hif; simp only [hif, if_false]; exact ⟨_, ⟨h.1, rfl⟩, h.2⟩
  · rename_i n h1 h2
    try simp only [h1, h2]
    split at h
    · exact ⟨_, rfl, h⟩
    · exact h.elim
  · exact h.elim
theorem aload_det {P : Program} {t : TypeId} {a : AV} {hp : Hp} {K : AV → Prop} (h : aload P t a hp K) : ∃ r, aload P t a hp (fun z => z = r) ∧ K r := by
  unfold aload at h ⊢
  split at h
  · split at h
    · exact aloadC_det h
    · exact h.elim
  · split at h
    · split at h
      · rename_i hif; simp only [hif, and_self, if_true]; exact ⟨_, rfl, h⟩
      · rename_i hif; simp only [hif, if_false]; exact aloadC_det h
    · exact h.elim
  · exact h.elim
theorem afield_det {P : Program} {t : TypeId} {x : AV} {f : Nat} {K : AV → Prop} (h : afield P t x f K) : ∃ r, afield P t x f (fun z => z = r) ∧ K r := by
  unfold afield at h ⊢
  split at h
  · rename_i off ft h1
    try simp only [h1]
    split at h
    · split at h <;> first | exact h.elim | exact ⟨_, rfl, h⟩
    · exact h.elim
  · exact h.elim
theorem afieldV_det {P : Program} {t : TypeId} {x : AV} {f : Nat} {K : AV → Prop} (h : afieldV P t x f K) : ∃ r, afieldV P t x f (fun z => z = r) ∧ K r := by
  unfold afieldV at h ⊢
  split at h
  · split at h
    · rename_i off ft h1
      try simp only [h1]
      split at h
      · rename_i h2 h3; (try simp only [h2, h3]); exact ⟨_, rfl, h⟩
      · rename_i h2 h3
        try simp only [h2, h3]
        split at h
        · exact ⟨_, rfl, h⟩
        · exact h.elim
      · exact h.elim
    · exact h.elim
  · exact h.elim
theorem aindexA_det {P : Program} {t : TypeId} {x i : AV} {K : AV → Prop} (h : aindexA P t x i K) : ∃ r, aindexA P t x i (fun z => z = r) ∧ K r := by
  unfold aindexA at h ⊢
  split at h
  · split at h
    · rename_i e h1
      try simp only [h1]
      split at h
      · exact ⟨_, ⟨h.1, h.2.1, h.2.2.1, h.2.2.2.1, rfl⟩, h.2.2.2.2⟩
      · exact h.elim
    · exact h.elim
  · split at h
    · rename_i e h1
      try simp only [h1]
      exact ⟨_, ⟨h.1, h.2.1, h.2.2.1, rfl⟩, h.2.2.2⟩
    · exact h.elim
  · split at h
    · rename_i l e h1
      try simp only [h1]
      split at h
      · exact ⟨_, ⟨h.1, h.2.1, rfl⟩, h.2.2⟩
      · exact h.elim
    · exact h.elim
  · exact h.elim
theorem aindex_det {P : Program} {t : TypeId} {x i : AV} {K : AV → Prop} (h : aindex P t x i K) : ∃ r, aindex P t x i (fun z => z = r) ∧ K r := by
  unfold aindex at h ⊢
  split at h
  · exact ⟨_, ⟨h.1, h.2.1, h.2.2.1, rfl⟩, h.2.2.2⟩
  · exact h.elim
theorem aextract_det {x : AV} {i : Nat} {K : AV → Prop} (h : aextract x i K) : ∃ r, aextract x i (fun z => z = r) ∧ K r := by
  unfold aextract at h ⊢
  split at h
  · split at h
    · exact ⟨_, rfl, h⟩
    · exact h.elim
  · exact h.elim
theorem abuild_det {P : Program} {t : TypeId} {parts : List (Nat × AV)} {K : AV → Prop} (h : abuild P t parts K) : ∃ r, abuild P t parts (fun z => z = r) ∧ K r := by
  unfold abuild at h ⊢
  split at h
  · rename_i cs l h1 h2
    try simp only [h1, h2]
    split at h
    · rename_i cs' h3; (try simp only [h3]); exact ⟨_, rfl, h⟩
    · exact h.elim
  · exact h.elim
theorem abuildSlice_det {P : Program} {t : TypeId} {n : Nat} {parts : List (Nat × AV)} {K : AV → Prop} (h : abuildSlice P t n parts K) : ∃ r, abuildSlice P t n parts (fun z => z = r) ∧ K r := by
  unfold abuildSlice at h ⊢
  split at h
  · rename_i e h1
    try simp only [h1]
    split at h
    · rename_i sz z h2 h3
      try simp only [h2, h3]
      obtain ⟨a, b, c, h⟩ := h
      split at h
      · rename_i es h4; (try simp only [h4]); exact ⟨_, ⟨a, b, c, rfl⟩, h⟩
      · exact h.elim
    · exact h.elim
  · exact h.elim
theorem aslice_det {P : Program} {t : TypeId} {x : AV} {lo hi mx : Option AV} {K : AV → Prop} (h : aslice P t x lo hi mx K) : ∃ r, aslice P t x lo hi mx (fun z => z = r) ∧ K r := by
  unfold aslice at h ⊢
  split at h
  · split at h
    · rename_i h1 h2
      try simp only [h1, h2]
      exact ⟨_, ⟨h.1, h.2.1, h.2.2.1, h.2.2.2.1, rfl⟩, h.2.2.2.2⟩
    · exact h.elim
  · split at h
    · rename_i e h1
      try simp only [h1]
      split at h
      · rename_i sz h2
        try simp only [h2]
        obtain ⟨a, b, h⟩ := h
        split at h
        · rename_i h3; (try simp only [h3]); exact ⟨_, ⟨a, b, h.1, h.2.1, rfl⟩, h.2.2⟩
        · rename_i h3; (try simp only [h3]); exact ⟨_, ⟨a, b, h.1, h.2.1, h.2.2.1, rfl⟩, h.2.2.2⟩
        · rename_i h3; (try simp only [h3]); exact ⟨_, ⟨a, b, h.1, h.2.1, h.2.2.1, h.2.2.2.1, rfl⟩, h.2.2.2.2⟩
        · exact h.elim
      · exact h.elim
    · exact h.elim
  · rename_i k off n s
    split at h
    · rename_i e h1
      try simp only [h1]
      obtain ⟨a, h⟩ := h
      split at h
      · rename_i l hh h3 h4
        try simp only [h3, h4]
        obtain ⟨b1, b2, b3, b4, b5⟩ := h
        by_cases hl : l < n
        · exact ⟨_, ⟨a, b1, b2, b3, fun _ => rfl, fun e => by omega⟩, b4 hl⟩
        · exact ⟨_, ⟨a, b1, b2, b3, fun e => absurd e hl, fun _ => rfl⟩, b5 (by omega)⟩
      · exact h.elim
    · exact h.elim
  · exact h.elim
theorem alen_det {P : Program} {t : TypeId} {x : AV} {K : AV → Prop} (h : alen P t x K) : ∃ r, alen P t x (fun z => z = r) ∧ K r := by
  unfold alen at h ⊢
  split at h <;> first | exact h.elim | exact ⟨_, ⟨h.1, rfl⟩, h.2⟩
/-- Its answer is one, and it changes nothing. -/
def simple (o : Oper) : Bool :=
  match o.op with
  | .move _ | .assign _ | .pick .. | .build .. | .buildSlice .. | .load .. | .nilCheck _ | .binOp .. | .unOp .. | .convert .. | .makeInterface .. | .makeFunc .. | .slice .. | .fieldAddr .. | .field .. | .indexAddr .. | .index .. | .extract .. => true
  | .call c => match c.callee with
    | .builtin .len | .builtin .cap | .builtin .min | .builtin .max => true
    | _ => false
  | _ => false
theorem atH_isQ (r : AV) (h : Hp) : atH (isQ r h) h = fun z => z = r := by funext z; simp [atH, isQ]
theorem aop0_det {P : Program} {o : Oper} {E : Operand → AV} {h : Hp} {K : AV → Hp → Prop} (hs : simple o = true) (hh : aop0 P o E h K) : ∃ r, aop0 P o E h (isQ r h) ∧ K r h := by
  have key : ∀ {F : (AV → Prop) → Prop}, (∀ K : AV → Prop, F K → ∃ r, F (fun z => z = r) ∧ K r) → F (atH K h) → ∃ r, F (atH (isQ r h) h) ∧ K r h := fun hF hx => by
    obtain ⟨r, h1, h2⟩ := hF _ hx
    exact ⟨r, by rw [atH_isQ]; exact h1, h2⟩
  unfold aop0 at hh ⊢
  unfold simple at hs
  cases ho : o.op with
  | move x => simp only [ho] at hh ⊢; exact ⟨_, ⟨rfl, rfl⟩, hh⟩
  | assign x => simp only [ho] at hh ⊢; exact ⟨_, ⟨rfl, rfl⟩, hh⟩
  | pick c a b =>
    simp only [ho] at hh ⊢
    split at hh
    · rename_i t hc
      cases t with
      | true => exact ⟨_, ⟨fun _ => ⟨rfl, rfl⟩, fun e => (by cases e)⟩, hh.1 rfl⟩
      | false => exact ⟨_, ⟨fun e => (by cases e), fun _ => ⟨rfl, rfl⟩⟩, hh.2 rfl⟩
    · exact hh.elim
  | build t ps => simp only [ho] at hh ⊢; exact key (fun _ => abuild_det) hh
  | buildSlice t n ps => simp only [ho] at hh ⊢; exact key (fun _ => abuildSlice_det) hh
  | load t a => simp only [ho] at hh ⊢; exact key (fun _ => aload_det) hh
  | nilCheck x =>
    simp only [ho] at hh ⊢
    unfold anil at hh ⊢
    split at hh <;> first | exact hh.elim | exact ⟨_, ⟨rfl, rfl⟩, hh⟩
  | binOp op t x y t2 => simp only [ho] at hh ⊢; exact key (fun _ => abin_det) hh
  | unOp op t x => simp only [ho] at hh ⊢; exact key (fun _ => aun_det) hh
  | convert a b x => simp only [ho] at hh ⊢; exact key (fun _ => aconv_det) hh
  | makeInterface t x => simp only [ho] at hh ⊢; exact ⟨_, ⟨hh.1, hh.2.1, rfl, rfl⟩, hh.2.2⟩
  | makeFunc f a b => simp only [ho] at hh ⊢; exact ⟨_, ⟨rfl, rfl⟩, hh⟩
  | slice t x lo hi mx =>
    simp only [ho] at hh ⊢
    obtain ⟨h1, h2⟩ := hh
    obtain ⟨r, h3, h4⟩ := key (F := fun K => aslice P _ _ _ _ _ K) (fun _ => aslice_det) h2
    exact ⟨r, ⟨h1, h3⟩, h4⟩
  | fieldAddr t x f => simp only [ho] at hh ⊢; exact key (fun _ => afield_det) hh
  | field t x f => simp only [ho] at hh ⊢; exact key (fun _ => afieldV_det) hh
  | indexAddr t x i => simp only [ho] at hh ⊢; exact key (fun _ => aindexA_det) hh
  | index t x i => simp only [ho] at hh ⊢; exact key (fun _ => aindex_det) hh
  | extract x i => simp only [ho] at hh ⊢; exact key (fun _ => aextract_det) hh
  | call c =>
    simp only [ho] at hh hs ⊢
    cases hc : c.callee with
    | value f => simp [hc] at hs
    | invoke a b => simp [hc] at hs
    | builtin b =>
      simp only [hc] at hh hs ⊢
      unfold abuiltin at hh ⊢
      split at hh
      · exact key (fun _ => alen_det) hh
      · exact ⟨_, ⟨hh.1, rfl, rfl⟩, hh.2⟩
      · simp at hs
      · exact ⟨_, ⟨rfl, rfl⟩, hh⟩
      · exact ⟨_, ⟨rfl, rfl⟩, hh⟩
      · exact hh.elim
  | _ => simp [ho] at hs
/-- It does not look at the heap at all. -/
def heapless (o : Oper) : Bool :=
  match o.op with
  | .move _ | .assign _ | .extract .. | .binOp .. | .unOp .. | .fieldAddr .. | .indexAddr .. | .index .. | .convert .. => true
  | .call c => match c.callee with
    | .builtin .len => true
    | _ => false
  | _ => false
theorem aop0_heapless {P : Program} {o : Oper} {E : Operand → AV} {h h2 : Hp} {r : AV} (hs : heapless o = true) (hh : aop0 P o E h (isQ r h)) : aop0 P o E h2 (isQ r h2) := by
  unfold aop0 at hh ⊢
  unfold heapless at hs
  cases ho : o.op with
  | move x => simp only [ho] at hh ⊢; exact ⟨hh.1, rfl⟩
  | assign x => simp only [ho] at hh ⊢; exact ⟨hh.1, rfl⟩
  | binOp op t x y t2 => simp only [ho, atH_isQ] at hh ⊢; exact hh
  | unOp op t x => simp only [ho, atH_isQ] at hh ⊢; exact hh
  | convert a b x => simp only [ho, atH_isQ] at hh ⊢; exact hh
  | fieldAddr t x f => simp only [ho, atH_isQ] at hh ⊢; exact hh
  | indexAddr t x i => simp only [ho, atH_isQ] at hh ⊢; exact hh
  | index t x i => simp only [ho, atH_isQ] at hh ⊢; exact hh
  | extract x i => simp only [ho, atH_isQ] at hh ⊢; exact hh
  | call c =>
    simp only [ho] at hh hs ⊢
    cases hc : c.callee with
    | value f => simp [hc] at hs
    | invoke a b => simp [hc] at hs
    | builtin b =>
      simp only [hc] at hh hs ⊢
      unfold abuiltin at hh ⊢
      split at hh
      · rw [atH_isQ] at hh ⊢; exact hh
      · simp at hs
      · simp at hs
      · simp at hs
      · simp at hs
      · exact hh.elim
  | _ => simp [ho] at hs
end Go.V
namespace Go.V
open Go
set_option linter.unusedVariables false
set_option linter.unusedSimpArgs false

def ACallQ (P : Program) (f : AV) (args : List AV) (h : Hp) (F : AV → Prop) : Prop := ∃ r, ACallV P f args h (isQ r h) ∧ F r
theorem acallq_of {P : Program} {f : AV} {args : List AV} {h : Hp} {F : AV → Prop} {r : AV} (k : ACallV P f args h (isQ r h)) (hF : F r) : ACallQ P f args h F := ⟨r, k, hF⟩
def qK (F : AV → Prop) (r : AV) (_ : Hp) : Prop := F r
/-- An operation that changes nothing. -/
def aq (P : Program) (o : Oper) (E : Operand → AV) (h : Hp) (F : AV → Prop) : Prop :=
  match o.op with
  | .call c => match c.callee with
    | .value f => ACallQ P (E f) (c.args.toList.map E) h F
    | _ => simple o = true ∧ aop0 P o E h (qK F)
  | _ => simple o = true ∧ aop0 P o E h (qK F)
theorem aq_spec {P : Program} {o : Oper} {E : Operand → AV} {h : Hp} {F : AV → Prop} (k : aq P o E h F) : ∃ r, AOp P o E h (isQ r h) ∧ (heapless o = true → ∀ h2, AOp P o E h2 (isQ r h2)) ∧ (∀ c, o.op ≠ .defer c) ∧ F r := by
  have simp' : simple o = true ∧ aop0 P o E h (qK F) → ∃ r, AOp P o E h (isQ r h) ∧ (heapless o = true → ∀ h2, AOp P o E h2 (isQ r h2)) ∧ (∀ c, o.op ≠ .defer c) ∧ F r := fun ⟨h1, h2⟩ => by
    obtain ⟨r, h3, h4⟩ := aop0_det h1 h2
    exact ⟨r, aop0_sound h3, fun hl h2 => aop0_sound (aop0_heapless hl h3), aop0_not_defer h3, h4⟩
  unfold aq at k
  split at k
  · rename_i c hc
    split at k
    · rename_i f hf
      obtain ⟨r, h1, h2⟩ := k
      have : aop0 P o E h (isQ r h) := by unfold aop0; rw [hc]; simp only [hf]; exact h1
      refine ⟨r, aop0_sound this, fun hl => ?_, aop0_not_defer this, h2⟩
      simp [heapless, hc, hf] at hl
    · exact simp' k
  · exact simp' k
def kQ (F : List AV → Option (Nat × List AV) → Prop) (dst : Option Tmp) (tm : List AV) (al : Option (Nat × List AV)) (r : AV) : Prop := F (putA tm dst r) al
def gA (v : Option Bool) (want : Bool) (X Y : Prop) : Prop := ∃ b, v = some b ∧ (b = want → X) ∧ (b ≠ want → Y)
def aopsQ (P : Program) (all : Array Oper) (h : Hp) : List Oper → (List AV → Option (Nat × List AV) → Prop) → List AV → Option (Nat × List AV) → Prop
  | [], K, tm, al => K tm al
  | o :: rest, K, tm, al => match o.op with
    | .alloc t => match o.guard, o.dst, al, aZero P t with
      | none, some d, none, some cs => aopsQ P all h rest K (tm.set d .any) (some (d, cs))
      | _, _, _, _ => False
    | .box _ x => match o.guard, o.dst, al, (ev tm x).w with
      | none, some d, none, some _ => aopsQ P all h rest K (tm.set d .any) (some (d, (ev tm x).cells))
      | _, _, _, _ => False
    | _ => match o.guard with
      | none => aq P o (ev tm) h (kQ (aopsQ P all h rest K) o.dst tm al)
      | some (j, want) => match gval all tm j with
        | some b => (b = some want → aq P o (ev tm) h (kQ (aopsQ P all h rest K) o.dst tm al)) ∧ (b ≠ some want → aopsQ P all h rest K (putA tm o.dst (.tup [])) al)
        | none => False

/-! ### What is asked of the region's edges -/
def dir (all : Array Oper) (i j : Nat) : Bool :=
  match all[i]? with
  | some o => o.after.any fun e => Region.binds .any e && e.on == j
  | none => false
def ancB (all : Array Oper) : Nat → Nat → Nat → Bool
  | 0, _, _ => false
  | f + 1, i, j => dir all i j || (match all[i]? with
    | some o => o.after.any fun e => Region.binds .any e && ancB all f e.on j
    | none => false)
def looks (all : Array Oper) (o : Oper) (t : Nat) : Bool := (o.looksAt all).contains t
def dstIs (o : Oper) (t : Nat) : Bool := o.dst == some t
def okL (all : Array Oper) : List Oper → Bool
  | [] => true
  | o :: rest => (match o.dst with
      | some d => rest.all fun o' => !dstIs o' d
      | none => true) && ((o :: rest).all fun o' => match o'.dst with
      | some d => !looks all o d
      | none => true) && okL all rest
def lowEdges (all : Array Oper) : Bool := all.toList.zipIdx.all fun (o, i) => o.after.all fun e => !Region.binds .any e || decide (e.on < i)
def sufOk (all : Array Oper) (m : Nat) : Bool := all.toList.zipIdx.all fun (s, i) => decide (i < m) || (all.toList.take m).zipIdx.all fun (o, j) => match s.dst with
  | some d => (!looks all o d || ancB all all.size i j) && !dstIs o d
  | none => true
def dataOk (all : Array Oper) (m : Nat) : Bool := all.toList.zipIdx.all fun (o, i) => (all.toList.take m).zipIdx.all fun (o', j) => i == j || (match o'.dst with
  | some t => !looks all o t || dir all i j
  | none => true)
def orderOk (all : Array Oper) (m : Nat) : Bool := all.toList.zipIdx.all fun (o, i) => decide (i < m) || all.toList.zipIdx.all fun (o', j) => !decide (j < i) || (if m ≤ j then dir all i j else (heapless o' || ancB all all.size i j))
def drawOk (all : Array Oper) (m : Nat) : Bool := decide (m ≤ all.size) && lowEdges all && okL all (all.toList.take m) && sufOk all m && dataOk all m && orderOk all m
theorem zipIdx_all {α : Type} {l : List α} {f : α × Nat → Bool} (h : l.zipIdx.all f = true) {i : Nat} {x : α} (hx : l[i]? = some x) : f (x, i) = true := by
  rw [List.all_eq_true] at h
  refine h (x, i) ?_
  rw [List.mem_zipIdx_iff_getElem?]
  simpa using hx

/-! ### What the evaluation says of each operation -/
theorem AOp.congr {P : Program} {o : Oper} {E E' : Operand → AV} {h : Hp} {K : AV → Hp → Prop} (k : AOp P o E h K) (he : ∀ x ∈ o.op.operands, E x = E' x ∨ E x = .any) : AOp P o E' h K := by
  intro C w ρ s hcst hr
  refine k C w ρ s hcst fun x hx => ?_
  rcases he x hx with h1 | h1
  · rw [h1]; exact hr x hx
  · rw [h1]; exact .any _
def isAlloc (o : Oper) : Bool :=
  match o.op with
  | .alloc _ | .box .. => true
  | _ => false
structure RunFact (P : Program) (all : Array Oper) (h : Hp) (tm : List AV) (o : Oper) (r : AV) : Prop where
  hg : o.guard = none ∨ ∃ j w, o.guard = some (j, w) ∧ gval all tm j = some (some w)
  hq : AOp P o (ev tm) h (isQ r h)
  hl : heapless o = true → ∀ h2, AOp P o (ev tm) h2 (isQ r h2)
  hd : ∀ c, o.op ≠ .defer c
  hr : ∀ d : Nat, o.dst = some d → d < tm.length → tm.getD d .any = r
structure SkipFact (all : Array Oper) (tm : List AV) (o : Oper) : Prop where
  hg : ∃ j w b, o.guard = some (j, w) ∧ gval all tm j = some b ∧ b ≠ some w
  hr : ∀ d : Nat, o.dst = some d → d < tm.length → tm.getD d .any = .tup []
structure AllocFact (P : Program) (tm : List AV) (al : Option (Nat × List AV)) (o : Oper) (d : Nat) (cs : List AV) : Prop where
  hg : o.guard = none
  hd : o.dst = some d
  hal : al = some (d, cs)
  ho : (∃ t, o.op = .alloc t ∧ aZero P t = some cs) ∨ (∃ t x n, o.op = .box t x ∧ (ev tm x).w = some n ∧ cs = (ev tm x).cells)
  hr : d < tm.length → tm.getD d .any = .any
def Fact (P : Program) (all : Array Oper) (h : Hp) (tm : List AV) (al : Option (Nat × List AV)) (o : Oper) : Prop :=
  (∃ d cs, AllocFact P tm al o d cs) ∨ (isAlloc o = false ∧ ∃ r, RunFact P all h tm o r) ∨ (isAlloc o = false ∧ SkipFact all tm o)
theorem getD_set {tm : List AV} {d t : Nat} {v : AV} (h : t ≠ d) : (tm.set d v).getD t .any = tm.getD t .any := by
  simp only [List.getD, List.getElem?_set_ne (Ne.symm h)]
theorem getD_putA {tm : List AV} {d : Option Tmp} {t : Nat} {v : AV} (h : d ≠ some t) : (putA tm d v).getD t .any = tm.getD t .any := by
  cases d with
  | none => rfl
  | some d => exact getD_set (fun e => h (by rw [e]))
theorem getD_set_self {tm : List AV} {d : Nat} {v : AV} (h : d < tm.length) : (tm.set d v).getD d .any = v := by
  simp only [List.getD, List.getElem?_set_self h, Option.getD_some]
theorem length_putA (tm : List AV) (d : Option Tmp) (v : AV) : (putA tm d v).length = tm.length := by cases d <;> simp [putA]
theorem ev_look {all : Array Oper} {o : Oper} {tm tm' : List AV} (h : ∀ t, looks all o t = true → tm'.getD t .any = tm.getD t .any) : ∀ x ∈ o.op.operands, ev tm' x = ev tm x := by
  intro x hx
  cases x with
  | tmp t =>
    refine h t ?_
    unfold looks Oper.looksAt
    rw [List.contains_iff_mem]
    exact List.mem_append_left _ (List.mem_filterMap.2 ⟨.tmp t, by simpa using hx, rfl⟩)
  | _ => rfl
theorem gval_look {all : Array Oper} {o : Oper} {tm tm' : List AV} {j : Nat} {w : Bool} (hg : o.guard = some (j, w)) (h : ∀ t, looks all o t = true → tm'.getD t .any = tm.getD t .any) : gval all tm' j = gval all tm j := by
  unfold gval
  split
  · rename_i d hd
    rw [h d]
    unfold looks Oper.looksAt
    rw [List.contains_iff_mem]
    refine List.mem_append_right _ ?_
    simp [hg, hd]
  · rfl
def Evald (P : Program) (all : Array Oper) (h : Hp) (K : List AV → Option (Nat × List AV) → Prop) (tm : List AV) (al : Option (Nat × List AV)) (ops : List Oper) : Prop :=
    ∃ tm' al', K tm' al' ∧ tm'.length = tm.length ∧ (∀ t : Nat, (∀ o ∈ ops, o.dst ≠ some t) → tm'.getD t .any = tm.getD t .any) ∧ (∀ o ∈ ops, Fact P all h tm' al' o) ∧ (al ≠ none → al' = al) ∧ (al = none → al' ≠ none → ∃ o ∈ ops, ∃ d cs, AllocFact P tm' al' o d cs)
theorem factsQ {P : Program} {all : Array Oper} {h : Hp} : ∀ (ops : List Oper) (K : List AV → Option (Nat × List AV) → Prop) (tm : List AV) (al : Option (Nat × List AV)), okL all ops = true → aopsQ P all h ops K tm al →
    Evald P all h K tm al ops
  | [], K, tm, al, _, hk => ⟨tm, al, hk, rfl, fun _ _ => rfl, fun o ho => (by cases ho), fun _ => rfl, fun e1 e2 => absurd e1 e2⟩
  | o :: rest, K, tm, al, hok, hk => by
    simp only [okL, Bool.and_eq_true] at hok
    obtain ⟨⟨ok1, ok2⟩, ok3⟩ := hok
    have hnd : ∀ d, o.dst = some d → ∀ o' ∈ rest, o'.dst ≠ some d := fun d hd o' ho' e => by
      rw [hd] at ok1
      simp only [List.all_eq_true] at ok1
      have := ok1 o' ho'
      simp [dstIs, e] at this
    have hlk : ∀ t, looks all o t = true → ∀ o' ∈ o :: rest, o'.dst ≠ some t := fun t ht o' ho' e => by
      rw [List.all_eq_true] at ok2
      have := ok2 o' ho'
      rw [e] at this
      simp [ht] at this
    -- what holds once the rest is evaluated from tm1
    have fin : ∀ (tm1 : List AV) (al1 : Option (Nat × List AV)), tm1.length = tm.length → (∀ t, o.dst ≠ some t → tm1.getD t .any = tm.getD t .any) → aopsQ P all h rest K tm1 al1 →
        ∃ tm' al', K tm' al' ∧ tm'.length = tm.length ∧ (∀ t, (∀ o' ∈ o :: rest, o'.dst ≠ some t) → tm'.getD t .any = tm.getD t .any) ∧ (∀ o' ∈ rest, Fact P all h tm' al' o') ∧ (al1 ≠ none → al' = al1) ∧ (al1 = none → al' ≠ none → ∃ o ∈ rest, ∃ d cs, AllocFact P tm' al' o d cs) ∧
          (∀ t, looks all o t = true → tm'.getD t .any = tm.getD t .any) ∧ (∀ d, o.dst = some d → tm'.getD d .any = tm1.getD d .any) := by
      intro tm1 al1 hl1 hsame hq
      obtain ⟨tm', al', f1, f2, f3, f4, f5, f6⟩ := factsQ rest K tm1 al1 ok3 hq
      refine ⟨tm', al', f1, f2.trans hl1, fun t ht => ?_, f4, f5, f6, fun t ht => ?_, fun d hd => f3 d (hnd d hd)⟩
      · rw [f3 t (fun o' ho' => ht o' (List.mem_cons_of_mem _ ho')), hsame t (ht o (List.mem_cons_self ..))]
      · rw [f3 t (fun o' ho' => hlk t ht o' (List.mem_cons_of_mem _ ho')), hsame t (hlk t ht o (List.mem_cons_self ..))]
    have allocCase : ∀ d cs, o.guard = none → o.dst = some d → al = none → ((∃ t, o.op = .alloc t ∧ aZero P t = some cs) ∨ (∃ t x n, o.op = .box t x ∧ (ev tm x).w = some n ∧ cs = (ev tm x).cells)) → aopsQ P all h rest K (tm.set d .any) (some (d, cs)) →
        Evald P all h K tm al (o :: rest) := by
      intro d cs hg hd hal ho hq
      obtain ⟨tm', al', f1, f2, f3, f4, f5, f6, f7, f8⟩ := fin (tm.set d .any) (some (d, cs)) (by simp) (fun t ht => getD_set (fun e => ht (by rw [hd, e]))) hq
      have fact : AllocFact P tm' al' o d cs := by
        refine ⟨hg, hd, f5 (by simp), ?_, fun hlt => ?_⟩
        · rcases ho with ho | ⟨t, x, n, h1, h2, h3⟩
          · exact .inl ho
          · have he := ev_look (all := all) (o := o) f7 x (by rw [h1]; simp [Op.operands])
            exact .inr ⟨t, x, n, h1, by rw [he]; exact h2, by rw [he]; exact h3⟩
        · rw [f8 d hd]; exact getD_set_self (by omega)
      refine ⟨tm', al', f1, f2, f3, fun o' ho' => ?_, fun e => absurd hal e, fun _ _ => ⟨o, List.mem_cons_self .., d, cs, fact⟩⟩
      rcases List.mem_cons.1 ho' with rfl | ho'
      · exact .inl ⟨d, cs, fact⟩
      · exact f4 o' ho'
    have wrap : ∀ (tm1 : List AV), tm1.length = tm.length → (∀ t, o.dst ≠ some t → tm1.getD t .any = tm.getD t .any) → aopsQ P all h rest K tm1 al →
        (∀ tm', tm'.length = tm.length → (∀ t, looks all o t = true → tm'.getD t .any = tm.getD t .any) → (∀ d, o.dst = some d → tm'.getD d .any = tm1.getD d .any) → (isAlloc o = false ∧ ∃ r, RunFact P all h tm' o r) ∨ (isAlloc o = false ∧ SkipFact all tm' o)) →
        Evald P all h K tm al (o :: rest) := by
      intro tm1 hl1 hsame hq hfact
      obtain ⟨tm', al', f1, f2, f3, f4, f5, f6, f7, f8⟩ := fin tm1 al hl1 hsame hq
      refine ⟨tm', al', f1, f2, f3, fun o' ho' => ?_, f5, fun e1 e2 => let ⟨o', h1, h2⟩ := f6 e1 e2; ⟨o', List.mem_cons_of_mem _ h1, h2⟩⟩
      rcases List.mem_cons.1 ho' with rfl | ho'
      · exact .inr (hfact tm' f2 f7 f8)
      · exact f4 o' ho'
    have runCase : isAlloc o = false → (o.guard = none ∨ ∃ j w, o.guard = some (j, w) ∧ gval all tm j = some (some w)) → aq P o (ev tm) h (kQ (aopsQ P all h rest K) o.dst tm al) → Evald P all h K tm al (o :: rest) := fun hna hg hq => by
      obtain ⟨r, q1, q2, q3, q4⟩ := aq_spec hq
      refine wrap (putA tm o.dst r) (length_putA ..) (fun t ht => getD_putA ht) q4 fun tm' hl f7 f8 => .inl ⟨hna, r, ?_, ?_, ?_, q3, ?_⟩
      · rcases hg with hg | ⟨j, w, hg, hv⟩
        · exact .inl hg
        · exact .inr ⟨j, w, hg, by rw [gval_look hg f7]; exact hv⟩
      · exact q1.congr fun x hx => .inl (ev_look f7 x hx).symm
      · exact fun hl h2 => (q2 hl h2).congr fun x hx => .inl (ev_look f7 x hx).symm
      · intro d hd hlt
        rw [f8 d hd, hd]
        exact getD_set_self (hl ▸ hlt)
    have skipCase : isAlloc o = false → (∃ j w b, o.guard = some (j, w) ∧ gval all tm j = some b ∧ b ≠ some w) → aopsQ P all h rest K (putA tm o.dst (.tup [])) al → Evald P all h K tm al (o :: rest) := fun hna hg hq => by
      refine wrap (putA tm o.dst (.tup [])) (length_putA ..) (fun t ht => getD_putA ht) hq fun tm' hl f7 f8 => .inr ⟨hna, ?_, ?_⟩
      · obtain ⟨j, w, b, hg, hv, hb⟩ := hg
        exact ⟨j, w, b, hg, by rw [gval_look hg f7]; exact hv, hb⟩
      · intro d hd hlt
        rw [f8 d hd, hd]
        exact getD_set_self (hl ▸ hlt)
    have other : isAlloc o = false → (match o.guard with
      | none => aq P o (ev tm) h (kQ (aopsQ P all h rest K) o.dst tm al)
      | some (j, want) => match gval all tm j with
        | some b => (b = some want → aq P o (ev tm) h (kQ (aopsQ P all h rest K) o.dst tm al)) ∧ (b ≠ some want → aopsQ P all h rest K (putA tm o.dst (.tup [])) al)
        | none => False) → Evald P all h K tm al (o :: rest) := fun hna hh => by
      split at hh
      · rename_i hg; exact runCase hna (.inl hg) hh
      · rename_i j want hg
        split at hh
        · rename_i b hb
          by_cases hbw : b = some want
          · exact runCase hna (.inr ⟨j, want, hg, by rw [hb, hbw]⟩) (hh.1 hbw)
          · exact skipCase hna ⟨j, want, b, hg, hb, hbw⟩ (hh.2 hbw)
        · exact hh.elim
    simp only [aopsQ] at hk
    split at hk
    · rename_i t ho
      split at hk
      · rename_i d cs hg hd hz
        exact allocCase d cs hg hd rfl (.inl ⟨t, ho, hz⟩) hk
      · exact hk.elim
    · rename_i t x ho
      split at hk
      · rename_i d n hg hd hw
        exact allocCase d _ hg hd rfl (.inr ⟨t, x, n, ho, hw, rfl⟩) hk
      · exact hk.elim
    · rename_i hn1 hn2
      refine other ?_ hk
      unfold isAlloc
      cases ho : o.op <;> first | rfl | exact absurd ho (hn1 _) | exact absurd ho (hn2 _ _)
end Go.V
namespace Go.V
open Go
set_option linter.unusedVariables false
set_option linter.unusedSimpArgs false

def Lst (l : Array Bool) (i : Nat) : Prop := l.getD i false = true
instance (l : Array Bool) (i : Nat) : Decidable (Lst l i) := inferInstanceAs (Decidable (_ = _))
theorem lst_set {l : Array Bool} {i : Nat} (hi : i < l.size) (j : Nat) : Lst (l.setIfInBounds i true) j ↔ (j = i ∨ Lst l j) := by
  unfold Lst
  simp only [Array.getD_eq_getD_getElem?]
  by_cases h : j = i
  · subst h; simp [Array.getElem?_setIfInBounds_self_of_lt hi]
  · rw [Array.getElem?_setIfInBounds_ne (Ne.symm h)]; simp [h]
def Closed (all : Array Oper) (l : Array Bool) : Prop := ∀ i, Lst l i → ∀ o, all[i]? = some o → ∀ e ∈ o.after, Region.binds .any e = true → Lst l e.on
theorem anc_lst {all : Array Oper} {l : Array Bool} (hc : Closed all l) : ∀ (f i j : Nat), (∀ o, all[i]? = some o → ∀ e ∈ o.after, Region.binds .any e = true → Lst l e.on) → ancB all f i j = true → Lst l j
  | 0, _, _, _, h => by cases h
  | f + 1, i, j, hi, h => by
    simp only [ancB, Bool.or_eq_true] at h
    rcases h with h | h
    · unfold dir at h
      split at h
      · rename_i o ho
        rw [Array.any_eq_true'] at h
        obtain ⟨e, he, h2⟩ := h
        rw [Bool.and_eq_true, beq_iff_eq] at h2
        rw [← h2.2]; exact hi o ho e he h2.1
      · cases h
    · split at h
      · rename_i o ho
        rw [Array.any_eq_true'] at h
        obtain ⟨e, he, h2⟩ := h
        rw [Bool.and_eq_true] at h2
        exact anc_lst hc f e.on j (fun o' ho' e' he' hb' => hc e.on (hi o ho e he h2.1) o' ho' e' he' hb') h2.2
      · cases h
theorem dir_lst {all : Array Oper} {l : Array Bool} {i j : Nat} (hi : ∀ o, all[i]? = some o → ∀ e ∈ o.after, Region.binds .any e = true → Lst l e.on) (h : dir all i j = true) : Lst l j := by
  unfold dir at h
  split at h
  · rename_i o ho
    rw [Array.any_eq_true'] at h
    obtain ⟨e, he, h2⟩ := h
    rw [Bool.and_eq_true, beq_iff_eq] at h2
    rw [← h2.2]; exact hi o ho e he h2.1
  · cases h
theorem ready_spec {all : Array Oper} {l : Array Bool} (hl : l.size = all.size) {i : Nat} : i ∈ Region.ready .any all l ↔ i < all.size ∧ ¬ Lst l i ∧ ∀ o, all[i]? = some o → ∀ e ∈ o.after, Region.binds .any e = true → Lst l e.on := by
  unfold Region.ready
  rw [List.mem_filter, List.mem_range, Bool.and_eq_true]
  constructor
  · rintro ⟨h1, h2, h3⟩
    refine ⟨h1, ?_, fun o ho e he hb => ?_⟩
    · unfold Lst
      have : l[i]? = some (l[i]'(by omega)) := Array.getElem?_eq_getElem (by omega)
      simp only [Array.getD_eq_getD_getElem?, this, Option.getD_some] at h2 ⊢
      simpa using h2
    · rw [ho] at h3
      simp only [Option.map_some, Option.getD_some] at h3
      rw [Array.all_eq_true'] at h3
      have := h3 e he
      rw [hb] at this
      simpa [Lst] using this
  · rintro ⟨h1, h2, h3⟩
    refine ⟨h1, ?_, ?_⟩
    · unfold Lst at h2
      have : l[i]? = some (l[i]'(by omega)) := Array.getElem?_eq_getElem (by omega)
      simp only [Array.getD_eq_getD_getElem?, this, Option.getD_some] at h2 ⊢
      simpa using h2
    · have ho : all[i]? = some all[i] := Array.getElem?_eq_getElem h1
      rw [ho]
      simp only [Option.map_some, Option.getD_some]
      rw [Array.all_eq_true']
      intro e he
      cases hb : Region.binds .any e with
      | false => rfl
      | true => have := h3 _ ho e he hb; simpa [Lst] using this
def cnt (l : Array Bool) (n : Nat) : Nat := (List.range n).countP fun i => !(l.getD i false)
theorem countP_lt {α : Type} {p q : α → Bool} : ∀ (l : List α), (∀ x ∈ l, p x = true → q x = true) → (∃ x ∈ l, q x = true ∧ p x = false) → l.countP p < l.countP q
  | [], _, ⟨x, hx, _⟩ => by cases hx
  | a :: l, h, ⟨x, hx, hq, hp⟩ => by
    have hle : l.countP p ≤ l.countP q := List.countP_mono_left fun y hy => h y (List.mem_cons_of_mem _ hy)
    rcases List.mem_cons.1 hx with rfl | hx
    · simp [List.countP_cons, hq, hp]; omega
    · have ih := countP_lt l (fun y hy => h y (List.mem_cons_of_mem _ hy)) ⟨x, hx, hq, hp⟩
      simp only [List.countP_cons]
      cases hpa : p a with
      | false => simp; omega
      | true => rw [h a (List.mem_cons_self ..) hpa]; simp; omega
theorem cnt_set {l : Array Bool} {n i : Nat} (hl : l.size = n) (hi : i < n) (hn : ¬ Lst l i) : cnt (l.setIfInBounds i true) n < cnt l n := by
  unfold cnt
  refine countP_lt _ (fun j _ hj => ?_) ⟨i, List.mem_range.2 hi, by simpa [Lst] using hn, ?_⟩
  · by_cases e : Lst l j
    · have := (lst_set (l := l) (by omega : i < l.size) j).2 (.inr e)
      unfold Lst at this; rw [this] at hj; cases hj
    · simpa [Lst] using e
  · have := (lst_set (l := l) (by omega : i < l.size) i).2 (.inl rfl)
    unfold Lst at this; rw [this]; rfl
theorem all_listed {all : Array Oper} {l : Array Bool} (hlow : lowEdges all = true) (hl : l.size = all.size) (hr : Region.ready .any all l = []) : ∀ i, i < all.size → Lst l i := by
  intro i
  induction i using Nat.strongRecOn with
  | _ i ih =>
    intro hi
    refine Classical.byContradiction fun hn => ?_
    have : i ∈ Region.ready .any all l := (ready_spec hl).2 ⟨hi, hn, fun o ho e he hb => ?_⟩
    · rw [hr] at this; cases this
    · have h1 := zipIdx_all hlow (i := i) (x := o) (by simpa using ho)
      simp only [Array.all_eq_true'] at h1
      have h2 := h1 e he
      rw [hb] at h2
      have h3 : e.on < i := by simpa using h2
      exact ih e.on h3 (by omega)
theorem put_getD {a : Act} {dst : Option Tmp} {v : Value} {t : Nat} (h : dst ≠ some t) : (a.put dst v).tmps.getD t undef = a.tmps.getD t undef := by
  cases dst with
  | none => rfl
  | some d =>
    simp only [Act.put, Array.getD_eq_getD_getElem?]
    rw [Array.getElem?_setIfInBounds_ne (fun e => h (by rw [e]))]
theorem put_getD_self {a : Act} {d : Nat} {v : Value} (h : d < a.tmps.size) : (a.put (some d) v).tmps.getD d undef = v := by
  simp only [Act.put, Array.getD_eq_getD_getElem?, Array.getElem?_setIfInBounds_self_of_lt h, Option.getD_some]
theorem put_size (a : Act) (dst : Option Tmp) (v : Value) : (a.put dst v).tmps.size = a.tmps.size := by cases dst <;> simp [Act.put]
theorem put_defers (a : Act) (dst : Option Tmp) (v : Value) : (a.put dst v).defers = a.defers := by cases dst <;> rfl
def Pend (w00 : World) (C : Ctx) (w : World) (a : Act) (d : Nat) (cs : List AV) : Prop :=
  ∃ b arr t, (d < a.tmps.size → a.tmps.getD d undef = .pointer (some ⟨b, 0, none⟩)) ∧ w.heap[b]? = some (.cells arr t (0, 0)) ∧ Reps C cs arr ∧ ¬ Trk C b ∧ (∀ o, C.M b o = none) ∧ w00.heap.size ≤ b
theorem Pend.ext {w00 : World} {C C' : Ctx} {w w' : World} {a a' : Act} {d : Nat} {cs : List AV} (h : Pend w00 C w a d cs) (e : Ext C w C' w') (hs : a'.tmps.size = a.tmps.size) (ht : a'.tmps.getD d undef = a.tmps.getD d undef) : Pend w00 C' w' a' d cs := by
  obtain ⟨b, arr, t, h1, h2, h3, h4, h5, h6⟩ := h
  have hlt : b < w.heap.size := (Array.getElem?_eq_some_iff.1 h2).1
  refine ⟨b, arr, t, fun hd => by rw [ht]; exact h1 (by omega), by rw [e.hun b hlt h4]; exact h2, h3.mono e.le, fun t' => ?_, fun o => ?_, h6⟩
  · rcases e.htr b t' with t' | t'
    · exact h4 t'
    · omega
  · cases hM : C'.M b o with
    | none => rfl
    | some v =>
      rcases e.hMn b o v hM with h7 | h7 | h7
      · rw [h5 o] at h7; cases h7
      · exact absurd h7 h4
      · omega
def drawK (P : Program) (all : Array Oper) (m : Nat) (h : Hp) (K : List AV → Hp → Prop) (tm : List AV) (al : Option (Nat × List AV)) : Prop :=
  match al with
  | none => aops P all (all.toList.drop m) K tm h
  | some (d, cs) => aops P all (all.toList.drop m) K (tm.set d (.ptr h.bx.length 0)) { h with bx := h.bx ++ [cs] }
/-- A value's slot: what an unlisted operation is still to write there does not matter. -/
def Slots (all : Array Oper) (m : Nat) (l : Array Bool) (C : Ctx) (tm : List AV) (a : Act) : Prop :=
  ∀ t : Nat, (∃ j o, j < m ∧ ¬ Lst l j ∧ all[j]? = some o ∧ o.dst = some t) ∨ Rep C (tm.getD t .any) (a.tmps.getD t undef)

theorem awp_draw {P : Program} {rid : Nat} {all : Array Oper} {Q : Exit → List AV → Hp → Prop} {tm : List AV} {h : Hp} (hmix : P.follows .mixedOrders = true) (m : Nat) (hok : drawOk all m = true) (k : aopsQ P all h (all.toList.take m) (drawK P all m h (Q .normal)) tm none) : AWp P (.region rid all true) Q tm h := by
  intro C0 w00 a0 ro n s0 r0 d0
  refine wpIn_region_any hmix ?_
  simp only [drawOk, Bool.and_eq_true] at hok
  obtain ⟨⟨⟨⟨⟨ok0, ok1⟩, ok2⟩, ok3⟩, ok4⟩, ok5⟩ := hok
  have hm : m ≤ all.size := by simpa using ok0
  obtain ⟨tmp, alp, hK, hlen, hfr, hfacts, _, hal⟩ := factsQ _ _ _ _ ok2 k
  have hal := hal rfl
  -- the prefix's operations
  have hpre : ∀ {i : Nat} {o : Oper}, i < m → all[i]? = some o → o ∈ all.toList.take m := fun {i o} hi ho => by
    refine List.mem_of_getElem? (i := i) ?_
    rw [List.getElem?_take, if_pos hi]; simpa using ho
  have hsuf : ∀ {i : Nat} {o : Oper}, m ≤ i → all[i]? = some o → o ∈ all.toList.drop m := fun {i o} hi ho => by
    refine List.mem_of_getElem? (i := i - m) ?_
    rw [List.getElem?_drop, show m + (i - m) = i by omega]; simpa using ho
  have okdst : ∀ (ops : List Oper), okL all ops = true → ∀ (i j : Nat) (o o' : Oper) (t : Nat), ops[i]? = some o → ops[j]? = some o' → o.dst = some t → o'.dst = some t → i = j := by
    intro ops
    induction ops with
    | nil => intro _ i j o o' t h1; simp at h1
    | cons x xs ih =>
      intro hx i j o o' t h1 h2 h3 h4
      simp only [okL, Bool.and_eq_true] at hx
      obtain ⟨⟨q1, q2⟩, q3⟩ := hx
      have hno : x.dst = some t → ∀ y ∈ xs, y.dst ≠ some t := fun hd y hy e => by
        rw [hd] at q1
        simp only [List.all_eq_true] at q1
        have := q1 y hy
        simp [dstIs, e] at this
      cases i with
      | zero =>
        simp at h1; subst h1
        cases j with
        | zero => rfl
        | succ j => simp at h2; exact absurd h4 (hno h3 o' (List.mem_of_getElem? h2))
      | succ i =>
        simp at h1
        cases j with
        | zero => simp at h2; subst h2; exact absurd h3 (hno h4 o (List.mem_of_getElem? h1))
        | succ j => simp at h2; rw [ih q3 i j o o' t h1 h2 h3 h4]
  have hdst1 : ∀ {i j : Nat} {o o' : Oper} {t : Nat}, i < m → j < m → all[i]? = some o → all[j]? = some o' → o.dst = some t → o'.dst = some t → i = j := fun {i j o o' t} hi hj h1 h2 h3 h4 =>
    okdst _ ok2 i j o o' t (by rw [List.getElem?_take, if_pos hi]; simpa using h1) (by rw [List.getElem?_take, if_pos hj]; simpa using h2) h3 h4
  have okself : ∀ (ops : List Oper), okL all ops = true → ∀ o ∈ ops, ∀ d, o.dst = some d → looks all o d = false := by
    intro ops
    induction ops with
    | nil => intro _ o ho; cases ho
    | cons x xs ih =>
      intro hx o ho d hd
      simp only [okL, Bool.and_eq_true] at hx
      obtain ⟨⟨q1, q2⟩, q3⟩ := hx
      rcases List.mem_cons.1 ho with rfl | ho
      · rw [List.all_eq_true] at q2
        have := q2 o (List.mem_cons_self ..)
        rw [hd] at this
        simpa using this
      · exact ih q3 o ho d hd
  have hsufd : ∀ {i j : Nat} {s o : Oper} {t : Nat}, m ≤ i → all[i]? = some s → j < m → all[j]? = some o → s.dst = some t → (looks all o t = false ∨ ancB all all.size i j = true) ∧ o.dst ≠ some t := fun {i j s o t} hi hs hj ho hd => by
    have h1 := zipIdx_all ok3 (i := i) (x := s) (by simpa using hs)
    simp only [show ¬ i < m by omega, decide_false, Bool.false_or] at h1
    have h2 := zipIdx_all h1 (i := j) (x := o) (by rw [List.getElem?_take, if_pos hj]; simpa using ho)
    simp only [hd] at h2
    simp only [Bool.and_eq_true, Bool.or_eq_true, Bool.not_eq_true'] at h2
    refine ⟨h2.1, fun e => ?_⟩
    have := h2.2
    simp [dstIs, e] at this
  -- a ready operation's operands are there
  have hopd : ∀ {l : Array Bool} {i : Nat} {o : Oper}, all[i]? = some o → (∀ o, all[i]? = some o → ∀ e ∈ o.after, Region.binds .any e = true → Lst l e.on) → ∀ t, looks all o t = true → ∀ j o', j < m → all[j]? = some o' → o'.dst = some t → j ≠ i → Lst l j := by
    intro l i o ho hready t ht j o' hj ho' hd hne
    have h1 := zipIdx_all ok4 (i := i) (x := o) (by simpa using ho)
    have h2 := zipIdx_all h1 (i := j) (x := o') (by rw [List.getElem?_take, if_pos hj]; simpa using ho')
    simp only [hd, ht, Bool.not_true, Bool.false_or, Bool.or_eq_true, beq_iff_eq] at h2
    rcases h2 with h2 | h2
    · exact absurd h2.symm hne
    · exact dir_lst hready h2
  have htm0 : ∀ t : Nat, (∀ o ∈ all.toList.take m, o.dst ≠ some t) → Rep C0 (tmp.getD t .any) (a0.tmps.getD t undef) := fun t ht => by rw [hfr t ht]; exact rep_tm r0 t
  have hsz0 : a0.tmps.size = tmp.length := by rw [hlen, ← r0.1]
  let J1 (l : Array Bool) (a : Act) (w : World) : Prop := (∀ i, m ≤ i → ¬ Lst l i) ∧ ∃ C, Ext C0 w00 C w ∧ Sim C h w ∧ a.defers = a0.defers ∧ a.tmps.size = tmp.length ∧ Slots all m l C tmp a ∧
    ∀ i o d cs, i < m → all[i]? = some o → AllocFact P tmp alp o d cs → Lst l i → Pend w00 C w a d cs
  let J2 (l : Array Bool) (a : Act) (w : World) : Prop := ∃ C q tm' h', m + q ≤ all.size ∧ (∀ i, m ≤ i → i < all.size → (Lst l i ↔ i < m + q)) ∧ (∀ i o, i < m → all[i]? = some o → heapless o = true ∨ Lst l i) ∧ aops P all (all.toList.drop (m + q)) (Q .normal) tm' h' ∧
    Ext C0 w00 C w ∧ Sim C h' w ∧ a.defers = a0.defers ∧ a.tmps.size = tmp.length ∧ tm'.length = tmp.length ∧ Slots all m l C tm' a ∧ (∀ t : Nat, (∀ (i : Nat) (s : Oper), m ≤ i → i < m + q → all[i]? = some s → s.dst ≠ some t) → tm'.getD t .any = tmp.getD t .any ∨ tmp.getD t .any = .any) ∧
    (∀ (i : Nat) (o : Oper) (t : Nat), i < m → all[i]? = some o → isAlloc o = false → o.dst = some t → tm'.getD t .any = tmp.getD t .any)
  -- from the first part to the second
  have conv : ∀ l a w, m ≤ all.size → J1 l a w → (∀ i o, i < m → all[i]? = some o → heapless o = true ∨ Lst l i) → J2 l a w := by
    intro l a w hm ⟨j1, C, e, s, hd, hsz, hsl, hp⟩ hall
    have hlist : ∀ i, m ≤ i → i < all.size → (Lst l i ↔ i < m + 0) := fun i hi _ => ⟨fun hl => absurd hl (j1 i hi), fun hlt => by omega⟩
    by_cases hnone : alp = none
    · rw [hnone] at hK
      exact ⟨C, 0, tmp, h, by omega, hlist, hall, hK, e, s, hd, hsz, rfl, hsl, fun _ _ => .inl rfl, fun _ _ _ _ _ _ _ => rfl⟩
    · obtain ⟨o, ho, d, cs, hf⟩ := hal hnone
      obtain ⟨i, hi0⟩ := List.mem_iff_getElem?.1 ho
      have him : i < m := by rw [List.getElem?_take] at hi0; split at hi0; assumption; cases hi0
      have hio : all[i]? = some o := by rw [List.getElem?_take, if_pos him] at hi0; simpa using hi0
      have hli : Lst l i := (hall i o him hio).resolve_left fun hh => by
        rcases hf.ho with ⟨t, h1, _⟩ | ⟨t, x, n, h1, _⟩ <;> (unfold heapless at hh; rw [h1] at hh; cases hh)
      obtain ⟨b, arr, t, p1, p2, p3, p4, p5, p6⟩ := hp i o d cs him hio hf hli
      have hK' := hK
      rw [hf.hal] at hK'
      have s' := s.claimBox p2 p4 p5 p3
      have hle := CLe.box (B := b) s.mu_none
      refine ⟨C.box h.bx.length b, 0, tmp.set d (.ptr h.bx.length 0), { h with bx := h.bx ++ [cs] }, by omega, hlist, hall, hK', ?_, s', hd, hsz, by simp, fun t' => ?_, fun t' ht' => ?_, fun i' o' t' hi' ho' hna hd' => ?_⟩
      · refine ⟨e.le.trans hle, e.hsz, e.hos, e.htape, e.hout, e.hun, fun b' hb' => ?_, e.hMn⟩
        rcases hb' with ⟨k', hk⟩ | ⟨g, x, hg, hx, hgb⟩ | ⟨j, hj⟩
        · have hk : (if k' = h.bx.length then some b else C.mu k') = some b' := hk
          split at hk
          · cases hk; exact .inr p6
          · exact e.htr b' (.inl ⟨k', hk⟩)
        · exact e.htr b' (.inr (.inl ⟨g, x, hg, hx, hgb⟩))
        · exact e.htr b' (.inr (.inr ⟨j, hj⟩))
      · by_cases htd : t' = d
        · subst htd
          right
          by_cases hlt : t' < tmp.length
          · rw [getD_set_self hlt, p1 (by omega)]
            exact .ptr _ _ _ (if_pos rfl)
          · simp only [List.getD]
            rw [List.getElem?_eq_none (by simp; omega)]
            exact .any _
        · rcases hsl t' with h1 | h1
          · exact .inl h1
          · right; rw [getD_set htd]; exact h1.mono hle
      · by_cases htd : t' = d
        · subst htd
          right
          by_cases hlt : t' < tmp.length
          · exact hf.hr hlt
          · simp only [List.getD]; rw [List.getElem?_eq_none (by omega)]; rfl
        · exact .inl (getD_set htd)
      · have hne : t' ≠ d := fun e1 => by
          subst e1
          have := hdst1 hi' him ho' hio hd' hf.hd
          subst this
          rw [hio] at ho'; cases ho'
          rcases hf.ho with ⟨t, h1, _⟩ | ⟨t, x, n, h1, _⟩ <;> (unfold isAlloc at hna; rw [h1] at hna; cases hna)
        exact getD_set hne
  -- a slot that is written
  have slotPut : ∀ (l : Array Bool) (C C' : Ctx) (tm1 tm2 : List AV) (a : Act) (i : Nat) (dst : Option Tmp) (v : Value), i < l.size → CLe C C' → a.tmps.size = tm1.length → tm2.length = tm1.length → (∀ t : Nat, dst ≠ some t → tm2.getD t .any = tm1.getD t .any) → (∀ d : Nat, dst = some d → d < tm1.length → Rep C' (tm2.getD d .any) v) → (∀ o, i < m → all[i]? = some o → o.dst = dst) →
      Slots all m l C tm1 a → Slots all m (l.setIfInBounds i true) C' tm2 (a.put dst v) := by
    intro l C C' tm1 tm2 a i dst v hi hle hsz hl2 hsame hdv hdo hsl t
    by_cases hdt : dst = some t
    · right
      by_cases hlt : t < tm1.length
      · subst hdt
        rw [put_getD_self (by omega)]
        exact hdv t rfl hlt
      · simp only [List.getD]
        rw [List.getElem?_eq_none (by omega)]
        exact .any _
    · rcases hsl t with ⟨j, o, hj, hnl, ho, hd⟩ | h1
      · left
        refine ⟨j, o, hj, fun hl => ?_, ho, hd⟩
        rcases (lst_set hi j).1 hl with rfl | hl
        · exact hdt (by rw [← hdo o hj ho, hd])
        · exact hnl hl
      · right
        rw [hsame t hdt, put_getD hdt]
        exact h1.mono hle
  have closed_set : ∀ (l : Array Bool) (i : Nat), i < l.size → Closed all l → (∀ o, all[i]? = some o → ∀ e ∈ o.after, Region.binds .any e = true → Lst l e.on) → Closed all (l.setIfInBounds i true) := by
    intro l i hi hc hr j hj o ho e he hb
    rw [lst_set hi]
    right
    rcases (lst_set hi j).1 hj with rfl | hj
    · exact hr o ho e he hb
    · exact hc j hj o ho e he hb
  -- everything is done
  have done : ∀ l a w, (∀ i, i < all.size → Lst l i) → (J1 l a w ∨ J2 l a w) → Post2 C0 w00 a0 Q .normal a w := by
    intro l a w hall hJ
    have hJ2 : J2 l a w := hJ.elim (fun h1 => conv l a w hm h1 fun i o hi ho => .inr (hall i (Array.getElem?_eq_some_iff.1 ho).1)) id
    obtain ⟨C, q, tm', h', hq, hlist, _, hops, e, s, hd, hsz, hl', hsl, _, _⟩ := hJ2
    have hmq : m + q = all.size := by
      refine Nat.le_antisymm hq (Nat.le_of_not_lt fun hlt => ?_)
      have := (hlist (m + q) (by omega) hlt).1 (hall _ hlt)
      omega
    rw [hmq, ← Array.length_toList, List.drop_length] at hops
    refine ⟨tm', h', C, hops, e, s, ⟨by omega, fun i x hx => ?_⟩, by rw [hd]; exact .refl _ _ _ _⟩
    rcases hsl i with ⟨j, o, hj, hnl, ho, _⟩ | h1
    · exact absurd (hall j (Array.getElem?_eq_some_iff.1 ho).1) hnl
    · have hxd : tm'.getD i .any = x := by simp only [List.getD, hx, Option.getD_some]
      rw [hxd] at h1; exact h1
  have yields : ∀ (C : Ctx) (tm1 : List AV) (a : Act) (o : Oper) (j : Nat) (wt : Bool) (b : Option Bool), (∀ t : Nat, looks all o t = true → Rep C (tm1.getD t .any) (a.tmps.getD t undef)) → a.tmps.size = tm1.length → o.guard = some (j, wt) → gval all tm1 j = some b → yielded all a.tmps j = b := by
    intro C tm1 a o j wt b hrep hsz hg hv
    unfold gval at hv
    unfold yielded
    split at hv
    · rename_i d hd
      have hlk : looks all o d = true := by
        unfold looks Oper.looksAt
        rw [List.contains_iff_mem]
        refine List.mem_append_right _ ?_
        simp [hg, hd]
      have hr := hrep d hlk
      have key : ∀ x, tm1.getD d .any = x → x ≠ .any → ∃ u, a.tmps[d]? = some u ∧ Rep C x u := fun x hb hx => by
        have hlt : d < tm1.length := Nat.lt_of_not_le fun hle => by
          simp only [List.getD, List.getElem?_eq_none hle] at hb; exact hx hb.symm
        rw [hb] at hr
        have e1 : a.tmps[d]? = some (a.tmps.getD d undef) := by
          have hlt' : d < a.tmps.size := hsz ▸ hlt
          simp [Array.getD, hlt']
        exact ⟨_, e1, hr⟩
      split at hv
      · rename_i b' hb'
        cases hv
        obtain ⟨u, h1, h2⟩ := key _ hb' (by simp)
        cases h2
        rw [hd]; simp [h1]
      · rename_i hb'
        cases hv
        obtain ⟨u, h1, h2⟩ := key _ hb' (by simp)
        cases h2 with
        | tup _ vs hl _ => rw [hd]; simp [h1]
      · cases hv
    · cases hv
  have main : ∀ (fuel : Nat) (l : Array Bool) (a : Act) (w : World), cnt l all.size ≤ fuel → l.size = all.size → Closed all l → (J1 l a w ∨ J2 l a w) → wpAnyIn (fz ro) n P .any all (Post2 C0 w00 a0 Q) fuel l a w := by
    intro fuel
    induction fuel with
    | zero =>
      intro l a w hc hl hcl hJ
      have hall : ∀ i, i < all.size → Lst l i := fun i hi => Classical.byContradiction fun hn => by
        have := cnt_set hl hi hn
        omega
      have hempty : Region.ready .any all l = [] := by
        rw [List.eq_nil_iff_forall_not_mem]
        intro i hi
        obtain ⟨h1, h2, _⟩ := (ready_spec hl).1 hi
        exact h2 (hall i h1)
      exact ⟨hempty, done l a w hall hJ⟩
    | succ fuel ih =>
      intro l a w hc hl hcl hJ
      refine ⟨fun hr => done l a w (all_listed ok1 hl hr) hJ, fun i hi => ?_⟩
      obtain ⟨hin, hnl, hed⟩ := (ready_spec hl).1 hi
      have hil : i < l.size := by omega
      have ho : all[i]? = some all[i] := Array.getElem?_eq_getElem hin
      generalize all[i] = o at ho
      have next : ∀ a' w', (J1 (l.setIfInBounds i true) a' w' ∨ J2 (l.setIfInBounds i true) a' w') → wpAnyIn (fz ro) n P .any all (Post2 C0 w00 a0 Q) fuel (l.setIfInBounds i true) a' w' := fun a' w' hJ' =>
        ih _ a' w' (by have := cnt_set hl hin hnl; omega) (by simp [hl]) (closed_set l i hil hcl hed) hJ'
      unfold wpOpIn
      simp only [ho]
      -- an operation that is run, one that is passed over
      have runs : ∀ (C : Ctx) (E : Operand → AV) (K : AV → Hp → Prop) (hh : Hp), Sim C hh w → (∀ x ∈ o.op.operands, Rep C (E x) (a.eval x)) → AOp P o E hh K → (∀ c, o.op ≠ .defer c) → (∀ v w', Post C w K v w' → wpAnyIn (fz ro) n P .any all (Post2 C0 w00 a0 Q) fuel (l.setIfInBounds i true) (a.put o.dst v) w') → o.wpIn (fz ro) n P a w (wpAnyIn (fz ro) n P .any all (Post2 C0 w00 a0 Q) fuel (l.setIfInBounds i true)) (Post2 C0 w00 a0 Q) := by
        intro C E K hh s hE hop hnd hk
        refine ⟨fun f _ => fz_fn ro f, ?_⟩
        rw [fz_round, Oper.semAt_eq ro a.eval o hnd]
        exact upon_in (hop C w a.eval s (fun _ => rfl) hE) hk
      by_cases him : i < m
      · -- an operation of the first part
        have hmem := hpre him ho
        have slotsLook : ∀ (C : Ctx) (tm1 : List AV), Slots all m l C tm1 a → ∀ t : Nat, looks all o t = true → Rep C (tm1.getD t .any) (a.tmps.getD t undef) := fun C tm1 hsl t ht => by
          rcases hsl t with ⟨j, o', hj, hnj, ho', hd'⟩ | h1
          · by_cases hji : j = i
            · subst hji
              rw [ho] at ho'; cases ho'
              rw [okself _ ok2 _ hmem t hd'] at ht; cases ht
            · exact absurd (hopd ho hed t ht j o' hj ho' hd' hji) hnj
          · exact h1
        have evRep : ∀ (C : Ctx), (∀ t : Nat, looks all o t = true → Rep C (tmp.getD t .any) (a.tmps.getD t undef)) → ∀ x ∈ o.op.operands, Rep C (ev tmp x) (a.eval x) := fun C hr x hx => by
          cases x with
          | tmp t =>
            refine hr t ?_
            unfold looks Oper.looksAt
            rw [List.contains_iff_mem]
            exact List.mem_append_left _ (List.mem_filterMap.2 ⟨.tmp t, by simpa using hx, rfl⟩)
          | const v => exact rep_ofVal C v
          | global g => exact .lit _ rfl
          | func f => exact .lit _ rfl
        rcases hJ with ⟨j1, C, e, s, hd, hsz, hsl, hp⟩ | ⟨C, q, tm', h', hq, hlist, hheap, hops, e, s, hd, hsz, hl', hsl, hsame, hpd⟩
        · -- nothing of the second part has been done
          have hlk := slotsLook C tmp hsl
          have hE := evRep C hlk
          have j1' : ∀ i', m ≤ i' → ¬ Lst (l.setIfInBounds i true) i' := fun i' hi' hl2 => by
            rcases (lst_set hil i').1 hl2 with h1 | h1
            · omega
            · exact j1 i' hi' h1
          have pendNew : ∀ (C' : Ctx) (w' : World) (v : Value), isAlloc o = false → Ext C w C' w' → ∀ i' o' d cs, i' < m → all[i']? = some o' → AllocFact P tmp alp o' d cs → Lst (l.setIfInBounds i true) i' → Pend w00 C' w' (a.put o.dst v) d cs := by
            intro C' w' v hna e' i' o' d cs hi' ho' hf hl2
            rcases (lst_set hil i').1 hl2 with rfl | h1
            · rw [ho] at ho'; cases ho'
              rcases hf.ho with ⟨t, h1, _⟩ | ⟨t, x, n, h1, _⟩ <;> (unfold isAlloc at hna; rw [h1] at hna; cases hna)
            · refine (hp i' o' d cs hi' ho' hf h1).ext e' (put_size ..) (put_getD fun hd' => ?_)
              have := hdst1 him hi' ho ho' hd' hf.hd
              subst this
              exact hnl h1
          rcases hfacts o hmem with ⟨d, cs, hf⟩ | ⟨hna, r, hf⟩ | ⟨hna, hf⟩
          · -- an allocation
            rw [if_pos (by simp [Region.wanted, hf.hg])]
            have alloc : ∃ cells t, (execOp a.eval o).run P w = .ok (.value (.pointer (some ⟨w.heap.size, 0, none⟩))) (w.alloc (.cells cells t)) ∧ Reps C cs cells ∧ ∀ c, o.op ≠ .defer c := by
              rcases hf.ho with ⟨t, h1, h2⟩ | ⟨t, x, nn, h1, h2, h3⟩
              · obtain ⟨z, z1, z2, _⟩ := aZero_inv (C := C) h2
                exact ⟨z.cells, t, by simp [execOp, h1, Instr.alloc, tZero_run z1, newVar, newRow], z2, fun c e => by rw [h1] at e; cases e⟩
              · have hc := (hE x (by rw [h1]; simp [Op.operands])).cells h2
                exact ⟨(a.eval x).cells, t, by simp [execOp, h1, Instr.box, newVar, newRow], by rw [h3]; exact hc.hr, fun c e => by rw [h1] at e; cases e⟩
            obtain ⟨cells, t, hrun, hreps, hnd⟩ := alloc
            refine ⟨fun f _ => fz_fn ro f, ?_⟩
            rw [fz_round, Oper.semAt_eq ro a.eval o hnd, hrun]
            refine next _ _ (.inl ⟨j1', C, e.trans (Ext.alloc C w _), s.alloc _, by rw [put_defers]; exact hd, by rw [put_size]; exact hsz, slotPut l C C tmp tmp a i o.dst _ hil (.refl C) hsz rfl (fun _ _ => rfl) (fun d' hd' hlt => ?_) (fun o' _ ho' => by rw [ho] at ho'; cases ho'; rfl) hsl, fun i' o' d' cs' hi' ho' hf' hl2 => ?_⟩)
            · rw [hf.hd] at hd'; cases hd'
              rw [hf.hr hlt]; exact .any _
            · have h1 := hf.hal
              rw [hf'.hal] at h1
              cases h1
              have hii := hdst1 hi' him ho' ho hf'.hd hf.hd
              subst hii
              refine ⟨w.heap.size, cells, t, fun hlt => ?_, alloc_new w _, hreps, s.free.1, s.free.2, e.hsz⟩
              rw [hf.hd]
              rw [put_size] at hlt
              exact put_getD_self hlt
          · -- one that is run
            have hw : Region.wanted o (yielded all a.tmps) = true := by
              rcases hf.hg with hg | ⟨j, wt, hg, hv⟩
              · simp [Region.wanted, hg]
              · simp [Region.wanted, hg, yields C tmp a o j wt (some wt) hlk hsz hg hv]
            rw [if_pos hw]
            refine runs C (ev tmp) _ h s hE hf.hq hf.hd fun v w' ⟨r', h2, C', ⟨q1, q2⟩, q3, q4, q5⟩ => next _ _ (.inl ⟨j1', C', e.trans q3, by rw [← q2]; exact q4, by rw [put_defers]; exact hd, by rw [put_size]; exact hsz, slotPut l C C' tmp tmp a i o.dst v hil q3.le hsz rfl (fun _ _ => rfl) (fun d hd' hlt => by rw [hf.hr d hd' hlt, ← q1]; exact q5) (fun o' _ ho' => by rw [ho] at ho'; cases ho'; rfl) hsl, pendNew C' w' v hna q3⟩)
          · -- one that is passed over
            obtain ⟨j, wt, b, hg, hv, hb⟩ := hf.hg
            rw [if_neg (by simp [Region.wanted, hg, yields C tmp a o j wt b hlk hsz hg hv, hb])]
            exact ⟨fun f _ => fz_fn ro f, next _ _ (.inl ⟨j1', C, e, s, by rw [put_defers]; exact hd, by rw [put_size]; exact hsz, slotPut l C C tmp tmp a i o.dst undef hil (.refl C) hsz rfl (fun _ _ => rfl) (fun d hd' hlt => by rw [hf.hr d hd' hlt]; exact rep_skip _) (fun o' _ ho' => by rw [ho] at ho'; cases ho'; rfl) hsl, pendNew C w undef hna (.refl C w)⟩)⟩
        · -- the second part has begun
          have hhl : heapless o = true := (hheap i o him ho).resolve_right hnl
          have hlk' := slotsLook C tm' hsl
          have hlk : ∀ t : Nat, looks all o t = true → Rep C (tmp.getD t .any) (a.tmps.getD t undef) := fun t ht => by
            have h1 := hlk' t ht
            rcases hsame t (fun j s' hj1 hj2 hs' hd' => by
              rcases (hsufd hj1 hs' him ho hd').1 with h3 | h3
              · rw [h3] at ht; cases ht
              · have hjn : j < all.size := (Array.getElem?_eq_some_iff.1 hs').1
                have hlj : Lst l j := (hlist j hj1 hjn).2 hj2
                exact hnl (anc_lst hcl _ j i (hcl j hlj) h3)) with h2 | h2
            · rw [← h2]; exact h1
            · rw [h2]; exact .any _
          have hE := evRep C hlk
          have hlist' : ∀ i', m ≤ i' → i' < all.size → (Lst (l.setIfInBounds i true) i' ↔ i' < m + q) := fun i' hi' hn' => by
            rw [lst_set hil, hlist i' hi' hn']
            constructor
            · rintro (h1 | h1) <;> omega
            · exact .inr
          have hheap' : ∀ i' o', i' < m → all[i']? = some o' → heapless o' = true ∨ Lst (l.setIfInBounds i true) i' := fun i' o' hi' ho' => (hheap i' o' hi' ho').imp id fun h1 => (lst_set hil i').2 (.inr h1)
          rcases hfacts o hmem with ⟨d, cs, hf⟩ | ⟨hna, r, hf⟩ | ⟨hna, hf⟩
          · rcases hf.ho with ⟨t, h1, _⟩ | ⟨t, x, n, h1, _⟩ <;> (unfold heapless at hhl; rw [h1] at hhl; cases hhl)
          · have hw : Region.wanted o (yielded all a.tmps) = true := by
              rcases hf.hg with hg | ⟨j, wt, hg, hv⟩
              · simp [Region.wanted, hg]
              · simp [Region.wanted, hg, yields C tmp a o j wt (some wt) hlk hsz hg hv]
            rw [if_pos hw]
            refine runs C (ev tmp) _ h' s hE (hf.hl hhl h') hf.hd fun v w' ⟨r', h2, C', ⟨q1, q2⟩, q3, q4, q5⟩ => next _ _ (.inr ⟨C', q, tm', h', hq, hlist', hheap', hops, e.trans q3, by rw [← q2]; exact q4, by rw [put_defers]; exact hd, by rw [put_size]; exact hsz, hl', slotPut l C C' tm' tm' a i o.dst v hil q3.le (by omega) rfl (fun _ _ => rfl) (fun d hd' hlt => by rw [hpd i o d him ho hna hd', hf.hr d hd' (by omega), ← q1]; exact q5) (fun o' _ ho' => by rw [ho] at ho'; cases ho'; rfl) hsl, hsame, hpd⟩)
          · obtain ⟨j, wt, b, hg, hv, hb⟩ := hf.hg
            rw [if_neg (by simp [Region.wanted, hg, yields C tmp a o j wt b hlk hsz hg hv, hb])]
            exact ⟨fun f _ => fz_fn ro f, next _ _ (.inr ⟨C, q, tm', h', hq, hlist', hheap', hops, e, s, by rw [put_defers]; exact hd, by rw [put_size]; exact hsz, hl', slotPut l C C tm' tm' a i o.dst undef hil (.refl C) (by omega) rfl (fun _ _ => rfl) (fun d hd' hlt => by rw [hpd i o d him ho hna hd', hf.hr d hd' (by omega)]; exact rep_skip _) (fun o' _ ho' => by rw [ho] at ho'; cases ho'; rfl) hsl, hsame, hpd⟩)⟩
      · -- an operation of the second part: it is its turn
        have him : m ≤ i := Nat.le_of_not_lt him
        have hord := zipIdx_all ok5 (i := i) (x := o) (by simpa using ho)
        simp only [show ¬ i < m by omega, decide_false, Bool.false_or] at hord
        have hbefore : ∀ j o', j < i → all[j]? = some o' → (m ≤ j → Lst l j) ∧ (j < m → heapless o' = true ∨ Lst l j) := fun j o' hj ho' => by
          have h1 := zipIdx_all hord (i := j) (x := o') (by simpa using ho')
          simp only [hj, decide_true, Bool.not_true, Bool.false_or] at h1
          constructor
          · intro hmj
            rw [if_pos hmj] at h1
            exact dir_lst hed h1
          · intro hjm
            rw [if_neg (by omega), Bool.or_eq_true] at h1
            exact h1.imp id (anc_lst hcl _ _ _ hed)
        have hJ2 : J2 l a w := hJ.elim (fun h1 => conv l a w hm h1 fun j o' hj ho' => (hbefore j o' (by omega) ho').2 hj) id
        obtain ⟨C, q, tm', h', hq, hlist, hheap, hops, e, s, hd, hsz, hl', hsl, hsame, hpd⟩ := hJ2
        have hiq : i = m + q := by
          have h1 : ¬ i < m + q := fun h2 => hnl ((hlist i him hin).2 h2)
          refine Nat.le_antisymm (Nat.le_of_not_lt fun h2 => ?_) (by omega)
          have h3 : all[m + q]? = some (all[m + q]'(by omega)) := Array.getElem?_eq_getElem (by omega)
          have h4 := (hbefore (m + q) _ h2 h3).1 (by omega)
          have := (hlist (m + q) (by omega) (by omega)).1 h4
          omega
        have hdrop : all.toList.drop (m + q) = o :: all.toList.drop (m + (q + 1)) := by
          have : all.toList[m + q]? = some o := by rw [← hiq]; simpa using ho
          rw [List.drop_eq_getElem_cons (by have := (List.getElem?_eq_some_iff.1 this).1; exact this)]
          congr 1
          exact (List.getElem?_eq_some_iff.1 this).2
        rw [hdrop] at hops
        have hmem := hsuf him ho
        have hlk : ∀ t : Nat, looks all o t = true → Rep C (tm'.getD t .any) (a.tmps.getD t undef) := fun t ht => by
          rcases hsl t with ⟨j, o', hj, hnj, ho', hd'⟩ | h1
          · exact absurd (hopd ho hed t ht j o' hj ho' hd' (by omega)) hnj
          · exact h1
        have hE : ∀ x ∈ o.op.operands, Rep C (ev tm' x) (a.eval x) := fun x hx => by
          cases x with
          | tmp t =>
            refine hlk t ?_
            unfold looks Oper.looksAt
            rw [List.contains_iff_mem]
            exact List.mem_append_left _ (List.mem_filterMap.2 ⟨.tmp t, by simpa using hx, rfl⟩)
          | const v => exact rep_ofVal C v
          | global g => exact .lit _ rfl
          | func f => exact .lit _ rfl
        have hlist' : ∀ i', m ≤ i' → i' < all.size → (Lst (l.setIfInBounds i true) i' ↔ i' < m + (q + 1)) := fun i' hi' hn' => by
          rw [lst_set hil, hlist i' hi' hn']
          omega
        have hheap' : ∀ i' o', i' < m → all[i']? = some o' → heapless o' = true ∨ Lst (l.setIfInBounds i true) i' := fun i' o' hi' ho' => (hheap i' o' hi' ho').imp id fun h1 => (lst_set hil i').2 (.inr h1)
        have goes : ∀ (C' : Ctx) (v : Value) (r : AV) (h2 : Hp) (w' : World), aops P all (all.toList.drop (m + (q + 1))) (Q .normal) (putA tm' o.dst r) h2 → Ext C w C' w' → Sim C' h2 w' → Rep C' r v → wpAnyIn (fz ro) n P .any all (Post2 C0 w00 a0 Q) fuel (l.setIfInBounds i true) (a.put o.dst v) w' := by
          intro C' v r h2 w' hops' e' s' hr
          refine next _ _ (.inr ⟨C', q + 1, putA tm' o.dst r, h2, by omega, hlist', hheap', hops', e.trans e', s', by rw [put_defers]; exact hd, by rw [put_size]; exact hsz, by rw [length_putA]; exact hl', slotPut l C C' tm' (putA tm' o.dst r) a i o.dst v hil e'.le (by omega) (length_putA ..) (fun t ht => getD_putA ht) (fun d hd' hlt => by rw [hd']; show Rep C' ((tm'.set d r).getD d .any) v; rw [getD_set_self hlt]; exact hr) (fun o' hlt ho' => by omega) hsl, fun t ht => ?_, fun i' o' t hi' ho' hna hd' => ?_⟩)
          · rw [getD_putA (fun e1 => ht i o him (by omega) ho e1)]; exact hsame t fun j s' h1 h2 h3 => ht j s' h1 (by omega) h3
          · rw [getD_putA (fun e1 => (hsufd him ho hi' ho' e1).2 hd')]; exact hpd i' o' t hi' ho' hna hd'
        simp only [aops] at hops
        split at hops
        · rename_i hg
          rw [if_pos (by simp [Region.wanted, hg])]
          exact runs C (ev tm') _ h' s hE (aop_sound hops) (aop_not_defer hops) fun v w' ⟨r, h2, C', q1, q3, q4, q5⟩ => goes C' v r h2 w' q1 q3 q4 q5
        · rename_i j wt hg
          split at hops
          · rename_i b hb
            have hy := yields C tm' a o j wt b hlk (by omega) hg hb
            by_cases hbw : b = wt
            · rw [if_pos (by simp [Region.wanted, hg, hy, hbw])]
              exact runs C (ev tm') _ h' s hE (aop_sound (hops.1 hbw)) (aop_not_defer (hops.1 hbw)) fun v w' ⟨r, h2, C', q1, q3, q4, q5⟩ => goes C' v r h2 w' q1 q3 q4 q5
            · rw [if_neg (by simp [Region.wanted, hg, hy, hbw])]
              exact ⟨fun f _ => fz_fn ro f, goes C undef (.tup []) h' w (hops.2 hbw) (.refl C w) s (rep_skip C)⟩
          · exact hops.elim
  refine main all.size (Array.replicate all.size false) a0 _ ?_ (by simp) (fun i hi => ?_) (.inl ⟨fun i _ hi => ?_, C0, Ext.drew C0 w00 _, s0.drew _, rfl, hsz0, fun t => ?_, fun i o d cs hi ho hf hl => ?_⟩)
  · unfold cnt
    exact Nat.le_trans List.countP_le_length (by simp)
  · unfold Lst at hi
    simp only [Array.getD_eq_getD_getElem?, Array.getElem?_replicate] at hi
    split at hi <;> cases hi
  · unfold Lst at hi
    simp only [Array.getD_eq_getD_getElem?, Array.getElem?_replicate] at hi
    split at hi <;> cases hi
  · by_cases hw : ∃ j o, j < m ∧ all[j]? = some o ∧ o.dst = some t
    · obtain ⟨j, o, h1, h2, h3⟩ := hw
      refine .inl ⟨j, o, h1, fun hl => ?_, h2, h3⟩
      unfold Lst at hl
      simp only [Array.getD_eq_getD_getElem?, Array.getElem?_replicate] at hl
      split at hl <;> cases hl
    · right
      refine htm0 t fun o ho hd => hw ?_
      obtain ⟨j, hj⟩ := List.mem_iff_getElem?.1 ho
      rw [List.getElem?_take] at hj
      split at hj
      · exact ⟨j, o, by assumption, by simpa using hj, hd⟩
      · cases hj
  · unfold Lst at hl
    simp only [Array.getD_eq_getD_getElem?, Array.getElem?_replicate] at hl
    split at hl <;> cases hl
end Go.V
namespace Go.V
open Go
set_option linter.unusedVariables false
def lpQ (L : List AV → Hp → Prop) (S : List Nat) (tm : List AV) (h : Hp) : Prop := L (forget S tm) h
theorem lpQ_def (L : List AV → Hp → Prop) (S : List Nat) (tm : List AV) (h : Hp) : lpQ L S tm h = L (forget S tm) h := (fun _ : Unit => rfl) ()
/-- loop_ind, the loop itself hidden. -/
theorem loop2 {P : Program} {c : Code} {Q : Exit → List AV → Hp → Prop} {tm : List AV} {h : Hp} {ι : Type} (S : List Nat) (I : ι → Prop) (μ : ι → Nat) (tms : ι → List AV) (hs : ι → Hp) (i0 : ι) (hI : I i0) (htm : forget S tm = tms i0) (hh : h = hs i0)
    (round : ∀ (L : List AV → Hp → Prop) (i : ι), I i → (∀ j, I j → μ j < μ i → L (tms j) (hs j)) → cw P c (thenQ (lpQ L S) Q) (tms i) (hs i)) : @AWpI P ⟨.loop c, Q⟩ tm h :=
  loop_ind S I μ tms hs i0 hI htm hh fun i hi ih => round (ALoop P c Q) i hi ih
theorem pureK_bx {h k : Hp} {r : AV} (e : List (List AV)) (hk : k = { h with bx := h.bx ++ e }) (hr : shut r = r) (hc : cl h.bx.length h.gl.length h.lp.length r = true) : pureK h r r k := by
  subst hk; exact ⟨.keep _ _ hr hc, ⟨e, rfl⟩, ⟨[], by simp⟩, rfl⟩
theorem pureK_lit {h : Hp} {v v' : Value} {e : List (List AV)} {gl : List Nat} {lp : List LInfo} (hg : gl = h.gl) (hl : lp = h.lp) (hv : v = v') : pureK h (.lit v) (.lit v') { bx := h.bx ++ e, gl := gl, lp := lp } := by
  subst hg; subst hl; subst hv; exact ⟨.keep _ _ rfl rfl, ⟨e, rfl⟩, ⟨[], by simp⟩, rfl⟩
theorem pureK_lit0 {h : Hp} {v v' : Value} (hv : v = v') : pureK h (.lit v) (.lit v') h := by
  subst hv; exact ⟨.keep _ _ rfl rfl, ⟨[], by simp⟩, ⟨[], by simp⟩, rfl⟩
theorem pureK_gen {h : Hp} {r a : AV} {e : List (List AV)} {gl : List Nat} {lp : List LInfo} (hr : shut a = r) (hc : ∀ nb ng nl, cl nb ng nl r = true) (hg : gl = h.gl) (hl : lp = h.lp) : pureK h r a { bx := h.bx ++ e, gl := gl, lp := lp } := by
  subst hg; subst hl; exact ⟨.keep _ _ hr (hc _ _ _), ⟨e, rfl⟩, ⟨[], by simp⟩, rfl⟩
theorem pureK_gen0 {h : Hp} {r a : AV} (hr : shut a = r) (hc : ∀ nb ng nl, cl nb ng nl r = true) : pureK h r a h :=
  ⟨.keep _ _ hr (hc _ _ _), ⟨[], by simp⟩, ⟨[], by simp⟩, rfl⟩
/-- A call of a function whose answer is known. -/
theorem call_pure {P : Program} {f : FuncId} {args : List AV} {r : AV} {h : Hp} {K : HK} (hf : fnOk P f = true) (hp : Pure P f args r) (k : K.k r h) : @ACallI P (.lit (.func (.func f) #[] #[])) args h K :=
  acallv_fn hf ((hp h).mono fun r' h' ⟨e1, e2⟩ => by subst e1; subst e2; exact k)
theorem aindexA_enc {P : Program} {α : Type} [Inhabited α] (f : α → AV) (l : List α) {t : TypeId} {g : Gr} {k : IntKind} {n : Int} {K1 : AV → Prop} : aindexA P t (.row g (l.map f)) (.lit (.int k n)) K1 = match tElem P t with
    | some e => match tSize P e with
      | some sz => 0 < sz ∧ 0 ≤ n ∧ n < l.length ∧ (f (l.getD n.toNat default)).w = some sz ∧ K1 (.eptr (f (l.getD n.toNat default)) 0)
      | none => False
    | none => False := by
  rw [aindexA_row]
  cases tElem P t with
  | none => rfl
  | some e =>
    simp only
    cases tSize P e with
    | none => rfl
    | some sz =>
      simp only [List.length_map]
      refine propext ⟨fun ⟨h1, h2, h3, h4, h5⟩ => ?_, fun ⟨h1, h2, h3, h4, h5⟩ => ?_⟩
      · rw [getD_enc f l (by omega)] at h4 h5; exact ⟨h1, h2, h3, h4, h5⟩
      · rw [← getD_enc f l (by omega)] at h4 h5; exact ⟨h1, h2, h3, h4, h5⟩
theorem set8 {α : Type} (a b c d e f g h : α) (l : List α) (n : Nat) (x : α) : (a :: b :: c :: d :: e :: f :: g :: h :: l).set (n + 8) x = a :: b :: c :: d :: e :: f :: g :: h :: l.set n x := (fun _ : Unit => rfl) ()
theorem getD8 {α : Type} (a b c d e f g h : α) (l : List α) (n : Nat) (x : α) : (a :: b :: c :: d :: e :: f :: g :: h :: l).getD (n + 8) x = l.getD n x := (fun _ : Unit => rfl) ()
theorem get8 {α : Type} (a b c d e f g h : α) (l : List α) (n : Nat) : (a :: b :: c :: d :: e :: f :: g :: h :: l)[n + 8]? = l[n]? := by simp only [List.getElem?_cons_succ]
/-! #### what simp looks into: never the code, never what comes behind -/
@[congr] theorem aloadC_cg {P : Program} {t : TypeId} {cs : List AV} {o : Nat} {K : AV → Prop} {cs' : List AV} {o' : Nat} (e_cs : cs = cs') (e_o : o = o') : aloadC P t cs o K = aloadC P t cs' o' K := by subst e_cs; subst e_o; rfl
@[congr] theorem aload_cg {P : Program} {t : TypeId} {a : AV} {h : Hp} {K : AV → Prop} {a' : AV} (e_a : a = a') : aload P t a h K = aload P t a' h K := by subst e_a; rfl
@[congr] theorem astore_cg {P : Program} {t : TypeId} {a v : AV} {h : Hp} {K : AV → Hp → Prop} {a' : AV} {v' : AV} (e_a : a = a') (e_v : v = v') : astore P t a v h K = astore P t a' v' h K := by subst e_a; subst e_v; rfl
@[congr] theorem abinI_cg {op : BinOp} {k : IntKind} {x : Int} {k2 : IntKind} {y : Int} {K : AV → Prop} {x' : Int} {y' : Int} (e_x : x = x') (e_y : y = y') : abinI op k x k2 y K = abinI op k x' k2 y' K := by subst e_x; subst e_y; rfl
@[congr] theorem abin_cg {P : Program} {op : BinOp} {t : TypeId} {a b : AV} {K : AV → Prop} {a' : AV} {b' : AV} (e_a : a = a') (e_b : b = b') : abin P op t a b K = abin P op t a' b' K := by subst e_a; subst e_b; rfl
@[congr] theorem aun_cg {op : UnOp} {a : AV} {K : AV → Prop} {a' : AV} (e_a : a = a') : aun op a K = aun op a' K := by subst e_a; rfl
@[congr] theorem aconv_cg {P : Program} {s t : TypeId} {a : AV} {K : AV → Prop} {a' : AV} (e_a : a = a') : aconv P s t a K = aconv P s t a' K := by subst e_a; rfl
@[congr] theorem abuild_cg {P : Program} {t : TypeId} {ps : List (Nat × AV)} {K : AV → Prop} {ps' : List (Nat × AV)} (e_ps : ps = ps') : abuild P t ps K = abuild P t ps' K := by subst e_ps; rfl
@[congr] theorem abuildSlice_cg {P : Program} {t : TypeId} {n : Nat} {ps : List (Nat × AV)} {K : AV → Prop} {ps' : List (Nat × AV)} (e_ps : ps = ps') : abuildSlice P t n ps K = abuildSlice P t n ps' K := by subst e_ps; rfl
@[congr] theorem afield_cg {P : Program} {t : TypeId} {a : AV} {f : Nat} {K : AV → Prop} {a' : AV} (e_a : a = a') : afield P t a f K = afield P t a' f K := by subst e_a; rfl
@[congr] theorem afieldV_cg {P : Program} {t : TypeId} {a : AV} {f : Nat} {K : AV → Prop} {a' : AV} (e_a : a = a') : afieldV P t a f K = afieldV P t a' f K := by subst e_a; rfl
@[congr] theorem aindexA_cg {P : Program} {t : TypeId} {a b : AV} {K : AV → Prop} {a' : AV} {b' : AV} (e_a : a = a') (e_b : b = b') : aindexA P t a b K = aindexA P t a' b' K := by subst e_a; subst e_b; rfl
@[congr] theorem aindex_cg {P : Program} {t : TypeId} {a b : AV} {K : AV → Prop} {a' : AV} {b' : AV} (e_a : a = a') (e_b : b = b') : aindex P t a b K = aindex P t a' b' K := by subst e_a; subst e_b; rfl
@[congr] theorem aextract_cg {a : AV} {i : Nat} {K : AV → Prop} {a' : AV} (e_a : a = a') : aextract a i K = aextract a' i K := by subst e_a; rfl
@[congr] theorem aslice_cg {P : Program} {t : TypeId} {a : AV} {x y z : Option AV} {K : AV → Prop} {a' : AV} {x' : Option AV} {y' : Option AV} {z' : Option AV} (e_a : a = a') (e_x : x = x') (e_y : y = y') (e_z : z = z') : aslice P t a x y z K = aslice P t a' x' y' z' K := by subst e_a; subst e_x; subst e_y; subst e_z; rfl
@[congr] theorem alen_cg {P : Program} {t : TypeId} {a : AV} {K : AV → Prop} {a' : AV} (e_a : a = a') : alen P t a K = alen P t a' K := by subst e_a; rfl
@[congr] theorem aappend_cg {P : Program} {t u : TypeId} {a b : AV} {h : Hp} {K : AV → Hp → Prop} {a' : AV} {b' : AV} (e_a : a = a') (e_b : b = b') : aappend P t u a b h K = aappend P t u a' b' h K := by subst e_a; subst e_b; rfl
@[congr] theorem abuiltin_cg {P : Program} {b : Builtin} {ts : List TypeId} {xs : List AV} {h : Hp} {K : AV → Hp → Prop} {xs' : List AV} (e_xs : xs = xs') : abuiltin P b ts xs h K = abuiltin P b ts xs' h K := by subst e_xs; rfl
@[congr] theorem anil_cg {a : AV} {K : Prop} {a' : AV} (e_a : a = a') : anil a K = anil a' K := by subst e_a; rfl
@[congr] theorem abox_cg {a : AV} {h : Hp} {K : AV → Hp → Prop} {a' : AV} (e_a : a = a') : abox a h K = abox a' h K := by subst e_a; rfl
@[congr] theorem apick_cg {c a b : AV} {K : AV → Hp → Prop} {h : Hp} {c' : AV} (e_c : c = c') : apick c a b K h = apick c' a b K h := by subst e_c; rfl
@[congr] theorem aops_cg {P : Program} {all : Array Oper} {l : List Oper} {K : List AV → Hp → Prop} {tm : List AV} {h : Hp} {tm' : List AV} {h' : Hp} (e_tm : tm = tm') (e_h : h = h') : aops P all l K tm h = aops P all l K tm' h' := by subst e_tm; subst e_h; rfl
end Go.V
namespace Go.V
open Go
set_option linter.unusedVariables false
set_option linter.unusedSimpArgs false
section
variable {P : Program} {tm : List AV} {h : Hp} {all : Array Oper} {m : Nat} {rest : List Oper} {K : List AV → Option (Nat × List AV) → Prop} {al : Option (Nat × List AV)} {d : Option Tmp} {ty : TypeId} {p : String} {a : Array Edge} {g : Option (Nat × Bool)} {E : Operand → AV} {F : AV → Prop}
/-- The first part of a region that draws. -/
def aopsT (P : Program) (all : Array Oper) (h : Hp) (m : Nat) (l : List Oper) (K : List AV → Option (Nat × List AV) → Prop) (tm : List AV) (al : Option (Nat × List AV)) : Prop := aopsQ P all h (l.take m) K tm al
/-- The rest of it. -/
def aopsD (P : Program) (all : Array Oper) (m : Nat) (l : List Oper) (K : List AV → Hp → Prop) (tm : List AV) (h : Hp) : Prop := aops P all (l.drop m) K tm h
def drawT (P : Program) (all : Array Oper) (m : Nat) (h : Hp) (K : List AV → Hp → Prop) (tm : List AV) (al : Option (Nat × List AV)) : Prop :=
  match al with
  | none => aopsD P all m all.toList K tm h
  | some (d, cs) => aopsD P all m all.toList K (tm.set d (.ptr h.bx.length 0)) { h with bx := h.bx ++ [cs] }
theorem awp_drawT {P : Program} {rid : Nat} {all : Array Oper} {Q : Exit → List AV → Hp → Prop} {tm : List AV} {h : Hp} (hmix : P.follows .mixedOrders = true) (m : Nat) (hok : drawOk all m = true) (k : aopsT P all h m all.toList (drawT P all m h (Q .normal)) (nm tm) none) : @AWpI P ⟨.region rid all true, Q⟩ tm h := by
  refine awp_draw hmix m hok ?_
  have e : drawK P all m h (Q .normal) = drawT P all m h (Q .normal) := by
    funext tm al; cases al with
    | none => rfl
    | some x => rfl
  show aopsQ P all h (List.take m all.toList) (drawK P all m h (Q .normal)) tm none
  rw [e]; exact k
theorem drawT_none {K : List AV → Hp → Prop} : drawT P all m h K tm none = aopsD P all m all.toList K tm h := (fun _ : Unit => rfl) ()
theorem drawT_some {K : List AV → Hp → Prop} {t : Nat} {cs : List AV} : drawT P all m h K tm (some (t, cs)) = aopsD P all m all.toList K (tm.set t (.ptr h.bx.length 0)) { h with bx := h.bx ++ [cs] } := (fun _ : Unit => rfl) ()
theorem aopsD_succ {K : List AV → Hp → Prop} {o : Oper} {l : List Oper} : aopsD P all (m + 1) (o :: l) K tm h = aopsD P all m l K tm h := (fun _ : Unit => rfl) ()
theorem aopsD_zero {K : List AV → Hp → Prop} {l : List Oper} : aopsD P all 0 l K tm h = aops P all l K (nm tm) h := (fun _ : Unit => rfl) ()
theorem aopsT_zero {l : List Oper} : aopsT P all h 0 l K tm al = K tm al := (fun _ : Unit => rfl) ()
@[congr] theorem aopsT_cg {l : List Oper} {tm' : List AV} (e : tm = tm') : aopsT P all h m l K tm al = aopsT P all h m l K tm' al := by rw [e]
def stepT (P : Program) (all : Array Oper) (h : Hp) (m : Nat) (o : Oper) (rest : List Oper) (K : List AV → Option (Nat × List AV) → Prop) (tm : List AV) (al : Option (Nat × List AV)) : Prop :=
  match o.guard with
  | none => aq P o (ev tm) h (kQ (aopsT P all h m rest K) o.dst tm al)
  | some (j, want) => match gval all tm j with
    | some b => (b = some want → aq P o (ev tm) h (kQ (aopsT P all h m rest K) o.dst tm al)) ∧ (b ≠ some want → aopsT P all h m rest K (putA tm o.dst (.tup [])) al)
    | none => False
theorem kQ_some {d : Nat} {r : AV} : kQ K (some d) tm al r = K (nm (tm.set d r)) al := (fun _ : Unit => rfl) ()
theorem kQ_none {r : AV} : kQ K none tm al r = K (nm tm) al := (fun _ : Unit => rfl) ()
theorem qK_def {r : AV} : qK F r h = F r := (fun _ : Unit => rfl) ()
theorem stepT_none {op : Op} : stepT P all h m ⟨d, op, ty, p, a, none⟩ rest K tm al = aq P ⟨d, op, ty, p, a, none⟩ (ev tm) h (kQ (aopsT P all h m rest K) d tm al) := (fun _ : Unit => rfl) ()
theorem stepT_some {op : Op} {j : Nat} {want : Bool} : stepT P all h m ⟨d, op, ty, p, a, some (j, want)⟩ rest K tm al = gV (nm (gval all tm j)) want (aq P ⟨d, op, ty, p, a, some (j, want)⟩ (ev tm) h (kQ (aopsT P all h m rest K) d tm al)) (aopsT P all h m rest K (nm (putA tm d (.tup []))) al) := by
  rw [gV_eq]; simp only [nm, stepT]; try (cases gval all tm j <;> rfl)
class HF where
  f : AV → Prop
def ACallJ (P : Program) (f : AV) (args : List AV) (h : Hp) [F : HF] : Prop := ACallQ P f args h F.f
theorem hf_def : (HF.mk F).f = F := (fun _ : Unit => rfl) ()
/-- A call within such a region of a function whose answer is known. -/
theorem callq_pure {f : FuncId} {args : List AV} {r : AV} {F : HF} (hf : fnOk P f = true) (hp : Pure P f args r) (k : F.f r) : @ACallJ P (.lit (.func (.func f) #[] #[])) args h F :=
  acallq_of (acallv_fn hf (hp h)) k
theorem aopsT_alloc {d : Nat} {t : TypeId} : aopsT P all h (m + 1) (⟨some d, .alloc t, ty, p, a, none⟩ :: rest) K tm none = match aZero P t with
    | some cs => aopsT P all h m rest K (nm (tm.set d .any)) (some (d, cs))
    | none => False := by
  simp only [aopsT, List.take_succ_cons, aopsQ]; cases aZero P t <;> rfl
theorem aopsT_box {d : Nat} {t : TypeId} {x : Operand} : aopsT P all h (m + 1) (⟨some d, .box t x, ty, p, a, none⟩ :: rest) K tm none = match (ev tm x).w with
    | some _ => aopsT P all h m rest K (nm (tm.set d .any)) (some (d, (ev tm x).cells))
    | none => False := by
  simp only [aopsT, List.take_succ_cons, aopsQ]; cases (ev tm x).w <;> rfl
theorem aopsT_call {f : Operand} {xs : Array Operand} {ts : Array TypeId} : aopsT P all h (m + 1) (⟨d, .call ⟨.value f, xs, ts⟩, ty, p, a, g⟩ :: rest) K tm al = stepT P all h m ⟨d, .call ⟨.value f, xs, ts⟩, ty, p, a, g⟩ rest K tm al := (fun _ : Unit => rfl) ()
theorem aq_call {f : Operand} {xs : Array Operand} {ts : Array TypeId} : aq P ⟨d, .call ⟨.value f, xs, ts⟩, ty, p, a, g⟩ E h F = @ACallJ P (E f) (xs.toList.map E) h ⟨F⟩ := (fun _ : Unit => rfl) ()
theorem aopsT_move (x : Operand) : aopsT P all h (m + 1) (⟨d, .move x, ty, p, a, g⟩ :: rest) K tm al = stepT P all h m ⟨d, .move x, ty, p, a, g⟩ rest K tm al := (fun _ : Unit => rfl) ()
theorem aq_move (x : Operand) : aq P ⟨d, .move x, ty, p, a, g⟩ E h F = aop P ⟨d, .move x, ty, p, a, g⟩ E h (qK F) := propext ⟨fun q => q.2, fun q => ⟨rfl, q⟩⟩
theorem aopsT_assign (x : Operand) : aopsT P all h (m + 1) (⟨d, .assign x, ty, p, a, g⟩ :: rest) K tm al = stepT P all h m ⟨d, .assign x, ty, p, a, g⟩ rest K tm al := (fun _ : Unit => rfl) ()
theorem aq_assign (x : Operand) : aq P ⟨d, .assign x, ty, p, a, g⟩ E h F = aop P ⟨d, .assign x, ty, p, a, g⟩ E h (qK F) := propext ⟨fun q => q.2, fun q => ⟨rfl, q⟩⟩
theorem aopsT_pick (c x y : Operand) : aopsT P all h (m + 1) (⟨d, .pick c x y, ty, p, a, g⟩ :: rest) K tm al = stepT P all h m ⟨d, .pick c x y, ty, p, a, g⟩ rest K tm al := (fun _ : Unit => rfl) ()
theorem aq_pick (c x y : Operand) : aq P ⟨d, .pick c x y, ty, p, a, g⟩ E h F = aop P ⟨d, .pick c x y, ty, p, a, g⟩ E h (qK F) := propext ⟨fun q => q.2, fun q => ⟨rfl, q⟩⟩
theorem aopsT_build (s : TypeId) (ps : Array (Nat × Operand)) : aopsT P all h (m + 1) (⟨d, .build s ps, ty, p, a, g⟩ :: rest) K tm al = stepT P all h m ⟨d, .build s ps, ty, p, a, g⟩ rest K tm al := (fun _ : Unit => rfl) ()
theorem aq_build (s : TypeId) (ps : Array (Nat × Operand)) : aq P ⟨d, .build s ps, ty, p, a, g⟩ E h F = aop P ⟨d, .build s ps, ty, p, a, g⟩ E h (qK F) := propext ⟨fun q => q.2, fun q => ⟨rfl, q⟩⟩
theorem aopsT_bslice (s : TypeId) (n : Nat) (ps : Array (Nat × Operand)) : aopsT P all h (m + 1) (⟨d, .buildSlice s n ps, ty, p, a, g⟩ :: rest) K tm al = stepT P all h m ⟨d, .buildSlice s n ps, ty, p, a, g⟩ rest K tm al := (fun _ : Unit => rfl) ()
theorem aq_bslice (s : TypeId) (n : Nat) (ps : Array (Nat × Operand)) : aq P ⟨d, .buildSlice s n ps, ty, p, a, g⟩ E h F = aop P ⟨d, .buildSlice s n ps, ty, p, a, g⟩ E h (qK F) := propext ⟨fun q => q.2, fun q => ⟨rfl, q⟩⟩
theorem aopsT_load (s : TypeId) (x : Operand) : aopsT P all h (m + 1) (⟨d, .load s x, ty, p, a, g⟩ :: rest) K tm al = stepT P all h m ⟨d, .load s x, ty, p, a, g⟩ rest K tm al := (fun _ : Unit => rfl) ()
theorem aq_load (s : TypeId) (x : Operand) : aq P ⟨d, .load s x, ty, p, a, g⟩ E h F = aop P ⟨d, .load s x, ty, p, a, g⟩ E h (qK F) := propext ⟨fun q => q.2, fun q => ⟨rfl, q⟩⟩
theorem aopsT_nil (x : Operand) : aopsT P all h (m + 1) (⟨d, .nilCheck x, ty, p, a, g⟩ :: rest) K tm al = stepT P all h m ⟨d, .nilCheck x, ty, p, a, g⟩ rest K tm al := (fun _ : Unit => rfl) ()
theorem aq_nil (x : Operand) : aq P ⟨d, .nilCheck x, ty, p, a, g⟩ E h F = aop P ⟨d, .nilCheck x, ty, p, a, g⟩ E h (qK F) := propext ⟨fun q => q.2, fun q => ⟨rfl, q⟩⟩
theorem aopsT_bin (b : BinOp) (s : TypeId) (x y : Operand) (u : TypeId) : aopsT P all h (m + 1) (⟨d, .binOp b s x y u, ty, p, a, g⟩ :: rest) K tm al = stepT P all h m ⟨d, .binOp b s x y u, ty, p, a, g⟩ rest K tm al := (fun _ : Unit => rfl) ()
theorem aq_bin (b : BinOp) (s : TypeId) (x y : Operand) (u : TypeId) : aq P ⟨d, .binOp b s x y u, ty, p, a, g⟩ E h F = abin P b s (E x) (E y) (atH (qK F) h) := propext ⟨fun q => q.2, fun q => ⟨rfl, q⟩⟩
theorem aopsT_un (b : UnOp) (s : TypeId) (x : Operand) : aopsT P all h (m + 1) (⟨d, .unOp b s x, ty, p, a, g⟩ :: rest) K tm al = stepT P all h m ⟨d, .unOp b s x, ty, p, a, g⟩ rest K tm al := (fun _ : Unit => rfl) ()
theorem aq_un (b : UnOp) (s : TypeId) (x : Operand) : aq P ⟨d, .unOp b s x, ty, p, a, g⟩ E h F = aop P ⟨d, .unOp b s x, ty, p, a, g⟩ E h (qK F) := propext ⟨fun q => q.2, fun q => ⟨rfl, q⟩⟩
theorem aopsT_conv (s u : TypeId) (x : Operand) : aopsT P all h (m + 1) (⟨d, .convert s u x, ty, p, a, g⟩ :: rest) K tm al = stepT P all h m ⟨d, .convert s u x, ty, p, a, g⟩ rest K tm al := (fun _ : Unit => rfl) ()
theorem aq_conv (s u : TypeId) (x : Operand) : aq P ⟨d, .convert s u x, ty, p, a, g⟩ E h F = aop P ⟨d, .convert s u x, ty, p, a, g⟩ E h (qK F) := propext ⟨fun q => q.2, fun q => ⟨rfl, q⟩⟩
theorem aopsT_iface (s : TypeId) (x : Operand) : aopsT P all h (m + 1) (⟨d, .makeInterface s x, ty, p, a, g⟩ :: rest) K tm al = stepT P all h m ⟨d, .makeInterface s x, ty, p, a, g⟩ rest K tm al := (fun _ : Unit => rfl) ()
theorem aq_iface (s : TypeId) (x : Operand) : aq P ⟨d, .makeInterface s x, ty, p, a, g⟩ E h F = aop P ⟨d, .makeInterface s x, ty, p, a, g⟩ E h (qK F) := propext ⟨fun q => q.2, fun q => ⟨rfl, q⟩⟩
theorem aopsT_func (f : Fn) (x y : Array Operand) : aopsT P all h (m + 1) (⟨d, .makeFunc f x y, ty, p, a, g⟩ :: rest) K tm al = stepT P all h m ⟨d, .makeFunc f x y, ty, p, a, g⟩ rest K tm al := (fun _ : Unit => rfl) ()
theorem aq_func (f : Fn) (x y : Array Operand) : aq P ⟨d, .makeFunc f x y, ty, p, a, g⟩ E h F = aop P ⟨d, .makeFunc f x y, ty, p, a, g⟩ E h (qK F) := propext ⟨fun q => q.2, fun q => ⟨rfl, q⟩⟩
theorem aopsT_slice (s : TypeId) (x : Operand) (lo hi mx : Option Operand) : aopsT P all h (m + 1) (⟨d, .slice s x lo hi mx, ty, p, a, g⟩ :: rest) K tm al = stepT P all h m ⟨d, .slice s x lo hi mx, ty, p, a, g⟩ rest K tm al := (fun _ : Unit => rfl) ()
theorem aq_slice (s : TypeId) (x : Operand) (lo hi mx : Option Operand) : aq P ⟨d, .slice s x lo hi mx, ty, p, a, g⟩ E h F = aop P ⟨d, .slice s x lo hi mx, ty, p, a, g⟩ E h (qK F) := propext ⟨fun q => q.2, fun q => ⟨rfl, q⟩⟩
theorem aopsT_fa (s : TypeId) (x : Operand) (i : Nat) : aopsT P all h (m + 1) (⟨d, .fieldAddr s x i, ty, p, a, g⟩ :: rest) K tm al = stepT P all h m ⟨d, .fieldAddr s x i, ty, p, a, g⟩ rest K tm al := (fun _ : Unit => rfl) ()
theorem aq_fa (s : TypeId) (x : Operand) (i : Nat) : aq P ⟨d, .fieldAddr s x i, ty, p, a, g⟩ E h F = aop P ⟨d, .fieldAddr s x i, ty, p, a, g⟩ E h (qK F) := propext ⟨fun q => q.2, fun q => ⟨rfl, q⟩⟩
theorem aopsT_fv (s : TypeId) (x : Operand) (i : Nat) : aopsT P all h (m + 1) (⟨d, .field s x i, ty, p, a, g⟩ :: rest) K tm al = stepT P all h m ⟨d, .field s x i, ty, p, a, g⟩ rest K tm al := (fun _ : Unit => rfl) ()
theorem aq_fv (s : TypeId) (x : Operand) (i : Nat) : aq P ⟨d, .field s x i, ty, p, a, g⟩ E h F = aop P ⟨d, .field s x i, ty, p, a, g⟩ E h (qK F) := propext ⟨fun q => q.2, fun q => ⟨rfl, q⟩⟩
theorem aopsT_ia (s : TypeId) (x i : Operand) : aopsT P all h (m + 1) (⟨d, .indexAddr s x i, ty, p, a, g⟩ :: rest) K tm al = stepT P all h m ⟨d, .indexAddr s x i, ty, p, a, g⟩ rest K tm al := (fun _ : Unit => rfl) ()
theorem aq_ia (s : TypeId) (x i : Operand) : aq P ⟨d, .indexAddr s x i, ty, p, a, g⟩ E h F = aop P ⟨d, .indexAddr s x i, ty, p, a, g⟩ E h (qK F) := propext ⟨fun q => q.2, fun q => ⟨rfl, q⟩⟩
theorem aopsT_iv (s : TypeId) (x i : Operand) : aopsT P all h (m + 1) (⟨d, .index s x i, ty, p, a, g⟩ :: rest) K tm al = stepT P all h m ⟨d, .index s x i, ty, p, a, g⟩ rest K tm al := (fun _ : Unit => rfl) ()
theorem aq_iv (s : TypeId) (x i : Operand) : aq P ⟨d, .index s x i, ty, p, a, g⟩ E h F = aop P ⟨d, .index s x i, ty, p, a, g⟩ E h (qK F) := propext ⟨fun q => q.2, fun q => ⟨rfl, q⟩⟩
theorem aopsT_ext (x : Operand) (i : Nat) : aopsT P all h (m + 1) (⟨d, .extract x i, ty, p, a, g⟩ :: rest) K tm al = stepT P all h m ⟨d, .extract x i, ty, p, a, g⟩ rest K tm al := (fun _ : Unit => rfl) ()
theorem aq_ext (x : Operand) (i : Nat) : aq P ⟨d, .extract x i, ty, p, a, g⟩ E h F = aop P ⟨d, .extract x i, ty, p, a, g⟩ E h (qK F) := propext ⟨fun q => q.2, fun q => ⟨rfl, q⟩⟩
theorem aopsT_len (xs : Array Operand) (ts : Array TypeId) : aopsT P all h (m + 1) (⟨d, .call ⟨.builtin .len, xs, ts⟩, ty, p, a, g⟩ :: rest) K tm al = stepT P all h m ⟨d, .call ⟨.builtin .len, xs, ts⟩, ty, p, a, g⟩ rest K tm al := (fun _ : Unit => rfl) ()
theorem aq_len (xs : Array Operand) (ts : Array TypeId) : aq P ⟨d, .call ⟨.builtin .len, xs, ts⟩, ty, p, a, g⟩ E h F = aop P ⟨d, .call ⟨.builtin .len, xs, ts⟩, ty, p, a, g⟩ E h (qK F) := propext ⟨fun q => q.2, fun q => ⟨rfl, q⟩⟩
theorem aopsT_min (xs : Array Operand) (ts : Array TypeId) : aopsT P all h (m + 1) (⟨d, .call ⟨.builtin .min, xs, ts⟩, ty, p, a, g⟩ :: rest) K tm al = stepT P all h m ⟨d, .call ⟨.builtin .min, xs, ts⟩, ty, p, a, g⟩ rest K tm al := (fun _ : Unit => rfl) ()
theorem aq_min (xs : Array Operand) (ts : Array TypeId) : aq P ⟨d, .call ⟨.builtin .min, xs, ts⟩, ty, p, a, g⟩ E h F = aop P ⟨d, .call ⟨.builtin .min, xs, ts⟩, ty, p, a, g⟩ E h (qK F) := propext ⟨fun q => q.2, fun q => ⟨rfl, q⟩⟩
theorem aopsT_max (xs : Array Operand) (ts : Array TypeId) : aopsT P all h (m + 1) (⟨d, .call ⟨.builtin .max, xs, ts⟩, ty, p, a, g⟩ :: rest) K tm al = stepT P all h m ⟨d, .call ⟨.builtin .max, xs, ts⟩, ty, p, a, g⟩ rest K tm al := (fun _ : Unit => rfl) ()
theorem aq_max (xs : Array Operand) (ts : Array TypeId) : aq P ⟨d, .call ⟨.builtin .max, xs, ts⟩, ty, p, a, g⟩ E h F = aop P ⟨d, .call ⟨.builtin .max, xs, ts⟩, ty, p, a, g⟩ E h (qK F) := propext ⟨fun q => q.2, fun q => ⟨rfl, q⟩⟩
end
theorem abuild_def {P : Program} {t : TypeId} {parts : List (Nat × AV)} {K : AV → Prop} : abuild P t parts K = match aZero P t, tPlaces P t with
  | some cs, some l => match fillA (l[·]?) cs parts with
    | some cs' => K (.agg cs')
    | none => False
  | _, _ => False := (fun _ : Unit => rfl) ()
theorem abuildSlice_def {P : Program} {t : TypeId} {len : Nat} {parts : List (Nat × AV)} {K : AV → Prop} : abuildSlice P t len parts K = match tElem P t with
  | some e => match tSize P e, (tZero P e).map ofVal with
    | some sz, some z => 0 < sz ∧ len * sz ≤ 16777216 ∧ z.w = some sz ∧ (match setA sz (List.replicate len z) parts with
      | some es => K (.row .full es)
      | none => False)
    | _, _ => False
  | none => False := by
  unfold abuildSlice
  cases tElem P t with
  | none => rfl
  | some e =>
    simp only
    cases tSize P e with
    | none => cases tZero P e <;> rfl
    | some sz => cases tZero P e <;> rfl
/-- The value of an operation of the list, found without a look at the code. -/
def gvL (l : List Oper) (j : Nat) (tm : List AV) : Option (Option Bool) := gval l.toArray tm j
def bofV : AV → Option (Option Bool)
  | .lit (.bool b) => some (some b)
  | .tup [] => some none
  | _ => none
theorem gval_L (l : List Oper) (j : Nat) (tm : List AV) : gval l.toArray tm j = gvL l j tm := (fun _ : Unit => rfl) ()
theorem gvL_zero {d : Nat} {op : Op} {ty : TypeId} {p : String} {a : Array Edge} {g : Option (Nat × Bool)} (l : List Oper) (tm : List AV) : gvL (⟨some d, op, ty, p, a, g⟩ :: l) 0 tm = bofV (tm.getD d .any) := by
  simp only [gvL, gval, bofV, List.getElem?_toArray, List.getElem?_cons_zero, Option.bind_some]; cases tm.getD d .any with
  | lit v => cases v <;> rfl
  | tup l => cases l <;> rfl
  | _ => rfl
theorem gvL_succ (o : Oper) (l : List Oper) (j : Nat) (tm : List AV) : gvL (o :: l) (j + 1) tm = gvL l j tm := by simp [gvL, gval]
theorem bofV_lit (b : Bool) : bofV (.lit (.bool b)) = some (some b) := (fun _ : Unit => rfl) ()
theorem bofV_skip : bofV (.tup []) = some none := (fun _ : Unit => rfl) ()
theorem ares_cell {P : Program} {tm : List AV} {h : Hp} (a : Tmp) (t : TypeId) (rs : List ResultVar) (K : List AV → Prop) : ares P (.cell a t :: rs) tm h K = aresOne P (.cell a t) tm h (fun x => ares P rs tm h (fun xs => K (x :: xs))) := (fun _ : Unit => rfl) ()
/-! #### growing rows -/
class HA where
  k : AV → Hp → Prop
def appendI (P : Program) (t tx : TypeId) (s x : AV) (h : Hp) [K : HA] : Prop := aappend P t tx s x h K.k
theorem ha_def (K : AV → Hp → Prop) : (HA.mk K).k = K := (fun _ : Unit => rfl) ()
theorem ablt_appendI {P : Program} {t tx : TypeId} {s x : AV} {h : Hp} {K : AV → Hp → Prop} : abuiltin P .append [t, tx] [s, x] h K = @appendI P t tx s x h ⟨K⟩ := (fun _ : Unit => rfl) ()
/-- A row that is this function's own, at the growth marks behind gl0. -/
def Grows (sz : Nat) (gl0 : List Nat) (gr : Gr) (gl : List Nat) : Prop := (gr = .full ∧ gl = gl0) ∨ ∃ e, gr = .at gl0.length e sz ∧ gl = gl0 ++ [e]
theorem grows_new (sz : Nat) (gl0 : List Nat) : Grows sz gl0 .full gl0 := .inl ⟨rfl, rfl⟩
theorem Grows.ext {sz : Nat} {gl0 : List Nat} {gr : Gr} {gl : List Nat} (g : Grows sz gl0 gr gl) : ∃ e, gl = gl0 ++ e := by
  rcases g with ⟨_, rfl⟩ | ⟨e, _, rfl⟩
  · exact ⟨[], by simp⟩
  · exact ⟨[e], rfl⟩
theorem rowW_mapE {α : Type} {f : α → AV} {sz : Nat} (hw : ∀ a, (f a).w = some sz) (l : List α) : rowW sz (l.map f) := by
  intro x hx
  obtain ⟨a, _, rfl⟩ := List.mem_map.1 hx
  exact hw a
theorem append_grow {P : Program} {α : Type} (f : α → AV) {t tx e sz b : Nat} {zc : List AV} (xs ys : List α) {gr g2 : Gr} {h : Hp} {gl0 : List Nat} {K : HA} (hw : ∀ a, (f a).w = some sz)
    (h1 : tElem P t = some e) (h2 : tSize P e = some sz) (h3 : tBytes P e = some b) (h4 : aZero P e = some zc) (h5 : (tElem P tx).isSome = true) (h6 : zc.length = sz) (h7 : 0 < sz) (h8 : grW g2 sz) (hb : 0 < b) (h9 : (xs.length + ys.length) * b ≤ 140737488355328) (hg : Grows sz gl0 gr h.gl)
    (k : ∀ gr' gl', Grows sz gl0 gr' gl' → K.k (.row gr' ((xs ++ ys).map f)) { h with gl := gl' }) : @appendI P t tx (.row gr (xs.map f)) (.row g2 (ys.map f)) h K := by
  unfold appendI aappend
  simp only [h1, h2, h3, h4]
  refine ⟨h5, h6, h7, rowW_mapE hw xs, rowW_mapE hw ys, h8, by simpa using h9, ?_, ?_⟩
  · simp only [List.length_map]
    exact Nat.le_trans (Nat.le_mul_of_pos_right _ hb) h9
  · rcases hg with ⟨rfl, hgl⟩ | ⟨m, rfl, hgl⟩
    · simp only
      have := k (.at gl0.length 0 sz) (gl0 ++ [0]) (.inr ⟨0, rfl, rfl⟩)
      left
      rw [hgl, ← List.map_append]; exact this
    · simp only
      refine ⟨trivial, by rw [hgl]; simp, ?_⟩
      have := k (.at gl0.length (m + 1) sz) (gl0 ++ [m + 1]) (.inr ⟨m + 1, rfl, rfl⟩)
      rw [hgl, ← List.map_append]; simpa using this
theorem shutG_any (g : Gr) : shutG g = .no := by cases g <;> rfl
theorem pureK_gl {h : Hp} {r a : AV} {e : List (List AV)} {gl : List Nat} {lp : List LInfo} (hr : shut a = r) (hc : ∀ nb ng nl, cl nb ng nl r = true) (hg : ∃ x, gl = h.gl ++ x) (hl : lp = h.lp) : pureK h r a { bx := h.bx ++ e, gl := gl, lp := lp } := by
  subst hl; exact ⟨.keep _ _ hr (hc _ _ _), ⟨e, rfl⟩, hg, rfl⟩
theorem pureK_gl0 {h : Hp} {r a : AV} {gl : List Nat} {lp : List LInfo} (hr : shut a = r) (hc : ∀ nb ng nl, cl nb ng nl r = true) (hg : ∃ x, gl = h.gl ++ x) (hl : lp = h.lp) : pureK h r a { bx := h.bx, gl := gl, lp := lp } := by
  subst hl; exact ⟨.keep _ _ hr (hc _ _ _), ⟨[], by simp⟩, hg, rfl⟩
theorem nat_ge (n : Nat) : (0 ≤ (n : Int)) = True := by simp
theorem asT_t {b : Bool} (h : asT b) : b = true := h
theorem asT_f {b : Bool} (h : ¬asT b) : ¬b = true := h
theorem asE_t {α : Type} {a b : α} (h : asE a b) : a = b := h
theorem asE_f {α : Type} {a b : α} (h : ¬asE a b) : ¬a = b := h
/-! #### arguments up to growth marks -/
theorem Pure.shut {P : Program} {f : FuncId} {args : List AV} {r : AV} (hp : Pure P f (shutL args) r) : Pure P f args r := by
  intro h C w vs s rs
  exact hp h C w vs s ⟨by rw [shutL_length]; exact rs.1, shut_get fun i x hx => (rs.2 i x hx).shut⟩
theorem call_shut {P : Program} {f : FuncId} {args args' : List AV} {r : AV} {h : Hp} {K : HK} (hf : fnOk P f = true) (hp : Pure P f args' r) (ha : shutL args = args') (k : K.k r h) : @ACallI P (.lit (.func (.func f) #[] #[])) args h K :=
  call_pure hf (Pure.shut (ha ▸ hp)) k
theorem callq_shut {P : Program} {f : FuncId} {args args' : List AV} {r : AV} {h : Hp} {F : HF} (hf : fnOk P f = true) (hp : Pure P f args' r) (ha : shutL args = args') (k : F.f r) : @ACallJ P (.lit (.func (.func f) #[] #[])) args h F :=
  callq_pure hf (Pure.shut (ha ▸ hp)) k
/-! #### slices of rows -/
class HS where
  k : AV → Prop
def asliceI (P : Program) (t : TypeId) (x : AV) (lo hi mx : Option AV) [K : HS] : Prop := aslice P t x lo hi mx K.k
theorem hs_def (K : AV → Prop) : (HS.mk K).k = K := (fun _ : Unit => rfl) ()
theorem aop_sliceI {P : Program} {E : Operand → AV} {h : Hp} {K : AV → Hp → Prop} {d : Option Tmp} {ty : TypeId} {p : String} {a : Array Edge} {g : Option (Nat × Bool)} (t : TypeId) (x : Operand) (lo hi mx : Option Operand) : aop P ⟨d, .slice t x lo hi mx, ty, p, a, g⟩ E h K = ((tArr P t).isNone = true ∧ @asliceI P t (E x) (lo.map E) (hi.map E) (mx.map E) ⟨atH K h⟩) := (fun _ : Unit => rfl) ()
theorem slice_from {P : Program} {α : Type} (f : α → AV) {t e sz : Nat} (l : List α) {g : Gr} {k : IntKind} {n : Int} {K : HS} (hw : ∀ a, (f a).w = some sz) (h1 : tElem P t = some e) (h2 : tSize P e = some sz) (hg : grW g sz) (h3 : 0 ≤ n) (h4 : n ≤ l.length) (q : K.k (.row g ((l.drop n.toNat).map f))) : @asliceI P t (.row g (l.map f)) (some (.lit (.int k n))) none none K := by
  unfold asliceI aslice
  simp only [h1, h2, abound]
  refine ⟨rowW_mapE hw l, hg, h3, by simpa using h4, by rw [← List.map_drop]; exact q⟩
theorem slice_to {P : Program} {α : Type} (f : α → AV) {t e sz : Nat} (l : List α) {g : Gr} {k : IntKind} {n : Int} {K : HS} (hw : ∀ a, (f a).w = some sz) (h1 : tElem P t = some e) (h2 : tSize P e = some sz) (hg : grW g sz) (h3 : 0 ≤ n) (h4 : n ≤ l.length) (q : K.k (.row .no ((l.take n.toNat).map f))) : @asliceI P t (.row g (l.map f)) none (some (.lit (.int k n))) none K := by
  unfold asliceI aslice
  simp only [h1, h2, abound]
  refine ⟨rowW_mapE hw l, hg, by omega, h3, by simpa using h4, by simpa [List.map_take] using q⟩
end Go.V
namespace Go.V
open Go
set_option linter.unusedVariables false
theorem acall_walk {P : Program} {f : FuncId} {fn : Func} {c : Code} {rs : List ResultVar} {m : Nat} {args : List AV} {h : Hp} {K : AV → Hp → Prop} (hf : P.funcs[f]? = some fn) (hb : fn.body = some c) (hr : fn.results.toList = rs) (hm : fn.ntmps - args.length = m)
    (k : cw P c (retQ P rs K) (args ++ List.replicate m .any) h) : ACall P f args h K := by
  refine acall_body hf hb ((cw_sound c _ _ h (hm ▸ k)).mono fun e tm h' q => ?_)
  subst hr
  cases e <;> exact q
theorem call_with {P : Program} {f : FuncId} {args : List AV} {h : Hp} {K : HK} (hf : fnOk P f = true) (k : ACall P f args h K.k) : @ACallI P (.lit (.func (.func f) #[] #[])) args h K := acallv_fn hf k
theorem call_v {P : Program} {f : AV} {args : List AV} {h : Hp} {K : HK} {K0 : AV → Hp → Prop} (k : ACallV P f args h K0) (hk : ∀ r h', K0 r h' → K.k r h') : @ACallI P f args h K := ACallV.mono k hk
/-! #### range over a function, by an invariant -/
/-- What a loop leaves alone: the records of other loops; and that nothing keeps its own. -/
structure Keeps (h h' : Hp) : Prop where
  hlp : h'.lp = h.lp
  hnb : h.bx.length ≤ h'.bx.length
  hng : h.gl.length ≤ h'.gl.length
  hbx : ∀ cs ∈ h'.bx, cs ∈ h.bx ∨ clL h'.bx.length h'.gl.length h.lp.length cs = true
/-- How a round ends. -/
def endQ (Q : Exit → List AV → Hp → Prop) (tm : List AV) (h : Hp) (L : LInfo) (next : Hp → Prop) (e : Exit) (_ : List AV) (h1 : Hp) : Prop :=
  h1.lp = h.lp ++ [L] ∧ match e with
    | .normal => next { h1 with lp := h.lp }
    | .ret => Keeps h { h1 with lp := h.lp } ∧ Q .ret tm { h1 with lp := h.lp }
    | .exit id => Keeps h { h1 with lp := h.lp } ∧ Q (.exit id) tm { h1 with lp := h.lp }
    | _ => False
theorem endQ_normal {Q : Exit → List AV → Hp → Prop} {tm : List AV} {h : Hp} {L : LInfo} {next : Hp → Prop} {tm1 : List AV} {h1 : Hp} : endQ Q tm h L next .normal tm1 h1 = (h1.lp = h.lp ++ [L] ∧ next { h1 with lp := h.lp }) := (fun _ : Unit => rfl) ()
theorem endQ_ret {Q : Exit → List AV → Hp → Prop} {tm : List AV} {h : Hp} {L : LInfo} {next : Hp → Prop} {tm1 : List AV} {h1 : Hp} : endQ Q tm h L next .ret tm1 h1 = (h1.lp = h.lp ++ [L] ∧ Keeps h { h1 with lp := h.lp } ∧ Q .ret tm { h1 with lp := h.lp }) := (fun _ : Unit => rfl) ()
theorem endQ_exit {Q : Exit → List AV → Hp → Prop} {tm : List AV} {h : Hp} {L : LInfo} {next : Hp → Prop} {tm1 : List AV} {h1 : Hp} {id : Nat} : endQ Q tm h L next (.exit id) tm1 h1 = (h1.lp = h.lp ++ [L] ∧ Keeps h { h1 with lp := h.lp } ∧ Q (.exit id) tm { h1 with lp := h.lp }) := (fun _ : Unit => rfl) ()
def asgQ (P : Program) (h : Hp) (body : Code) (L L' : LInfo) (E : Exit → List AV → Hp → Prop) (e : Exit) (tm1 : List AV) (h1 : Hp) : Prop :=
  match e with
  | .normal => h1.lp = h.lp ++ [L] ∧ cw P body E tm1 { h1 with lp := h.lp ++ [L'] }
  | _ => False
theorem asgQ_normal {P : Program} {h : Hp} {body : Code} {L L' : LInfo} {E : Exit → List AV → Hp → Prop} {tm1 : List AV} {h1 : Hp} : asgQ P h body L L' E .normal tm1 h1 = (h1.lp = h.lp ++ [L] ∧ cw P body E tm1 { h1 with lp := h.lp ++ [L'] }) := (fun _ : Unit => rfl) ()
def recS (h : Hp) (L : LInfo) (I : Hp → Prop) (hh : Hp) : Prop := ∃ h', I h' ∧ hh = { h' with lp := h.lp ++ [L] }
def recF (P : Program) (Q : Exit → List AV → Hp → Prop) (tm : List AV) (h : Hp) (hh : Hp) : Prop := ∃ h' L1, Keeps h h' ∧ hh = { h' with lp := h.lp ++ [L1] } ∧ match L1.st with
  | .ready => Q .normal tm h'
  | .done c => AWp P c Q tm h'
  | .busy => False
theorem rangeQ_of {P : Program} {Q : Exit → List AV → Hp → Prop} {tm : List AV} {h hh : Hp} {r : AV} (k : recF P Q tm h hh) : rangeQ P Q tm h r hh := by
  obtain ⟨h', L1, k1, rfl, k2⟩ := k
  refine ⟨L1, ⟨by simp, by simp, k1.hnb, k1.hng, k1.hbx, fun j L hj hL => ?_⟩, ?_⟩
  · rw [List.getElem?_append_left hj] at hL
    exact ⟨L, hL, rfl⟩
  · have e : ({ bx := h'.bx, gl := h'.gl, lp := (h.lp ++ [L1]).take h.lp.length } : Hp) = h' := by
      rw [List.take_left']
      · cases h' with
        | mk a b c => have := k1.hlp; simp only at this; subst this; rfl
      · rfl
    cases hs : L1.st with
    | ready => rw [hs] at k2; simp only at k2 ⊢; rw [e]; exact k2
    | done c => rw [hs] at k2; simp only at k2 ⊢; rw [e]; exact k2
    | busy => rw [hs] at k2; exact k2
/-- One round. -/
theorem round_of {P : Program} {Q : Exit → List AV → Hp → Prop} {tm : List AV} {h h' : Hp} {ps : Array Tmp} {assign body : Code} {args : List AV} {next : Hp → Prop} (hlen : args.length = ps.size)
    (k : ∀ L L' : LInfo, cw P assign (asgQ P h body L L' (endQ Q tm h L' next)) (setParams tm ps args) { h' with lp := h.lp ++ [L] }) :
    ACallV P (.yld h.lp.length) args { h' with lp := h.lp ++ [⟨tm, ps, assign, body, .ready⟩] } (fun r h2 => (r = .lit (.bool true) ∧ recS h ⟨tm, ps, assign, body, .ready⟩ next h2) ∨ (r = .lit (.bool false) ∧ recF P Q tm h h2)) := by
  refine acallv_yld (L := ⟨tm, ps, assign, body, .ready⟩) (by simp) hlen ?_
  refine (cw_sound assign _ _ _ (k ⟨tm, ps, assign, body, .ready⟩ ⟨tm, ps, assign, body, .busy⟩)).mono fun e tm1 h1 q => ?_
  cases e with
  | normal =>
    obtain ⟨q1, q2⟩ := q
    have e1 : h1.lp[h.lp.length]? = some ⟨tm, ps, assign, body, .ready⟩ := by rw [q1]; simp
    simp only [assignQ, e1]
    refine ⟨trivial, ?_⟩
    have e2 : h1.lp.set h.lp.length ⟨tm, ps, assign, body, .busy⟩ = h.lp ++ [⟨tm, ps, assign, body, .busy⟩] := by rw [q1]; simp
    rw [e2]
    refine (cw_sound body _ _ _ q2).mono fun e tm2 h2 z => ?_
    obtain ⟨z1, z2⟩ := z
    have e3 : h2.lp[h.lp.length]? = some ⟨tm, ps, assign, body, .busy⟩ := by rw [z1]; simp
    have e4 : ∀ st, h2.lp.set h.lp.length ⟨tm, ps, assign, body, st⟩ = h.lp ++ [⟨tm, ps, assign, body, st⟩] := fun st => by rw [z1]; simp
    cases e with
    | normal =>
      simp only [roundQ, jumpOf, e3, stOf, e4]
      exact .inl ⟨rfl, _, z2, rfl⟩
    | ret =>
      simp only [roundQ, jumpOf, e3, stOf, e4]
      exact .inr ⟨rfl, _, _, z2.1, rfl, awp_ret z2.2⟩
    | exit id =>
      simp only [roundQ, jumpOf, e3, stOf, e4]
      exact .inr ⟨rfl, _, _, z2.1, rfl, awp_exit z2.2⟩
    | _ => exact z2.elim
  | _ => exact q.elim
theorem awp_rangeI {P : Program} {g : Operand} {ps : Array Tmp} {assign body : Code} {Q : Exit → List AV → Hp → Prop} {tm : List AV} {h : Hp} {f : FuncId} {first caps : List AV} (hg : ev tm g = .clo (.func f) first caps) (hf : fnOk P f = true)
    (k : ACall P f (first ++ [.yld h.lp.length] ++ caps) { h with lp := h.lp ++ [⟨tm, ps, assign, body, .ready⟩] } (fun _ h1 => recF P Q tm h h1)) : @AWpI P ⟨.rangeFunc g ps assign body, Q⟩ tm h :=
  awp_rangeFunc hg hf (k.mono fun r h1 => rangeQ_of)
theorem setParams1 {tm : List AV} {p : Tmp} {x : AV} : setParams tm #[p] [x] = tm.set p x := (fun _ : Unit => rfl) ()
theorem setParams2 {tm : List AV} {p q : Tmp} {x y : AV} : setParams tm #[p, q] [x, y] = (tm.set p x).set q y := (fun _ : Unit => rfl) ()
/-! #### a heap that grew -/
structure Sub (h g : Hp) : Prop where
  hbx : ∃ e, g.bx = h.bx ++ e
  hgl : ∃ e, g.gl = h.gl ++ e
  hlp : g.lp = h.lp
theorem Sub.refl (h : Hp) : Sub h h := ⟨⟨[], by simp⟩, ⟨[], by simp⟩, rfl⟩
theorem Sub.more {h g : Hp} (s : Sub h g) (e : List (List AV)) : Sub h { bx := g.bx ++ e, gl := g.gl, lp := g.lp } := by
  obtain ⟨⟨x, hx⟩, h2, h3⟩ := s
  exact ⟨⟨x ++ e, by simp only; rw [hx, List.append_assoc]⟩, h2, h3⟩
theorem Sub.start {h : Hp} {e : List (List AV)} : Sub h { bx := h.bx ++ e, gl := h.gl, lp := h.lp } := ⟨⟨e, rfl⟩, ⟨[], by simp⟩, rfl⟩
theorem pureK_sub {h g : Hp} {r a : AV} (hr : shut a = r) (hc : ∀ nb ng nl, cl nb ng nl r = true) (s : Sub h g) : pureK h r a g := ⟨.keep _ _ hr (hc _ _ _), s.hbx, s.hgl, s.hlp⟩
theorem old_all {l : List (List AV)} {k : Nat} {x : List AV} (h : l[k]? = some x) : ∀ e, (l ++ e)[k]? = some x := fun e => get_old h e
theorem old_start {l e : List (List AV)} {k : Nat} {x : List AV} (h : e[k]? = some x) : ∀ e', ((l ++ e) ++ e')[l.length + k]? = some x := fun e' => by
  rw [List.append_assoc, get_own]; exact get_old h e'
end Go.V
namespace Go.V
open Go Go.Proofs Go.Shelf
set_option linter.unusedVariables false
set_option linter.unusedSimpArgs false
theorem grow_acall {P : Program} {ρ : Ren} (L : Lays8.n4 P ρ) {i : TypeInfo} {z : Value} (hi : P.info? (ρ.t 25) = some i) (hz : i.zero = some z) (hs : 0 < i.size) (hzs : z.cells.size = i.size) {n : Nat} (h0 : 0 < n) (hb : n * i.bytes ≤ 140737488355328) (h63 : n ≤ 4611686018427387904) (h : Hp) :
    ACall P (ρ.f 4) [.row .full [], .int n] h (fun r h' => r = .row (.at h.gl.length 0 i.size) [] ∧ h' = { h with gl := h.gl ++ [0] }) := by
  intro C w vs sim r
  obtain ⟨v1, us, rfl, r1, r2⟩ := r.uncons
  obtain ⟨v2, us', e1, r3, r4⟩ := r2.uncons
  have e2 : us' = [] := by have := r4.1; simp at this; exact List.length_eq_zero_iff.1 this.symm
  subst e2
  have e1 : us = [v2] := by simpa using e1
  subst e1
  cases r3
  cases r1 with
  | row _ _ A l c s0 val hn hc hbb hr hss hm hg =>
  have hl : l = 0 := hn
  have hcl : c = l := hg
  subst hl; subst hcl
  refine Calls.mono (Any8.slices_Grow_grow L i z hi hz hs A 0 0 n [] w (Nat.le_refl _) (by omega) (by simpa using hb) (by omega) (by simp) (fun _ => rfl) (fun a ha j v hj => by simp at hj)) fun e w' ⟨q1, q2⟩ => ?_
  have hdrew : Sim C h w.drew := sim.drew _
  have hcap1 : 0 + n ≤ grownCap w (0 + n) 0 (ρ.t 25) := grownCap_ge w _ _ _
  have hcap2 : grownCap w (0 + n) 0 (ρ.t 25) < 9223372036854775808 := by
    have := grownCap_le_maxLen w (0 + n) 0 (ρ.t 25) (by unfold maxLen; omega)
    unfold maxLen at this; omega
  generalize hcap : grownCap w (0 + n) 0 (ρ.t 25) = cap at *
  generalize harr : (#[] ++ Builtin.zeroCells z.cells (0 + n - 0) ++ Builtin.zeroCells z.cells (cap - (0 + n))) = arr at *
  have hsize : arr.size = cap * i.size := by
    rw [← harr]
    simp only [Array.size_append, size_zeroCells, hzs, Array.size_empty, Nat.zero_add, Nat.sub_zero]
    rw [← Nat.add_mul]; congr 1; omega
  have s1 : Sim C h (w.drew.alloc (.cells arr (ρ.t 25))) := hdrew.alloc _
  have e1 : Ext C w C (w.drew.alloc (.cells arr (ρ.t 25))) := (Ext.drew C w _).trans (Ext.alloc C w.drew _)
  obtain ⟨s2, hle⟩ := s1.newGrow 0 (some (w.heap.size, 0, arr.size)) (fun y hy => by
    cases hy
    exact ⟨⟨arr, ρ.t 25, alloc_new w.drew _, rfl, fun o _ => sim.free.2 o⟩, sim.free.1⟩)
  subst q2
  refine ⟨_, q1, _, _, _, ⟨rfl, rfl⟩, e1.grow hle (fun g' hg' => by simp at hg'; omega) (fun y hy => by cases hy; exact .inl (Nat.le_refl _)), s2, ?_⟩
  refine .row _ [] _ 0 cap i.size (fun _ => default) rfl (Nat.zero_le _) hcap2 (fun i x hx => by simp at hx) (fun i hi => by omega) (fun i j u hi => by omega) ?_
  rw [← sim.hgl]
  refine ⟨rfl, by simp [Ctx.grow], Nat.zero_le _, fun _ => .inr ⟨⟨w.heap.size, 0, none⟩, arr.size, rfl, rfl, ?_, ?_⟩⟩
  · show (if C.gl.length = C.gl.length then some (w.heap.size, 0, arr.size) else C.ga C.gl.length) = some (w.heap.size, 0 + 0 * i.size, arr.size)
    rw [if_pos rfl, Nat.zero_mul]
  · show 0 + cap * i.size ≤ arr.size
    rw [hsize]; omega
theorem grow0_acall {P : Program} {ρ : Ren} (L : Lays8.n4 P ρ) (h : Hp) : ACall P (ρ.f 4) [.row .full [], .int 0] h (fun r h' => r = .row .full [] ∧ h' = h) := by
  intro C w vs sim r
  obtain ⟨v1, us, rfl, r1, r2⟩ := r.uncons
  obtain ⟨v2, us', e1, r3, r4⟩ := r2.uncons
  have e2 : us' = [] := by have := r4.1; simp at this; exact List.length_eq_zero_iff.1 this.symm
  subst e2
  have e1 : us = [v2] := by simpa using e1
  subst e1
  cases r3
  have hr1 := r1
  cases r1 with
  | row _ _ A l c s0 val hn hc hbb hr hss hm hg =>
  have hl : l = 0 := hn
  have hcl : c = l := hg
  subst hl; subst hcl
  refine Calls.mono (Any8.slices_Grow_room L A 0 0 0 w (Nat.le_refl _) (by omega) (by omega) (by omega)) fun e w' ⟨q1, q2⟩ => ?_
  subst q2
  exact ⟨_, q1, _, _, C, ⟨rfl, rfl⟩, .refl C _, sim, hr1⟩
/-! ### Rows in boxes -/
def bxRow {α : Type} (f : α → AV) (l : List α) (pad : List AV) : List AV := (l.flatMap fun a => (f a).cells) ++ pad
theorem bxRow_len {α : Type} {f : α → AV} {s : Nat} (hw : ∀ a, (f a).w = some s) (l : List α) (pad : List AV) : (bxRow f l pad).length = l.length * s + pad.length := by
  have : (l.flatMap fun a => (f a).cells).length = l.length * s := by
    induction l with
    | nil => simp
    | cons a l ih => rw [List.flatMap_cons, List.length_append, w_cells (hw a), ih, List.length_cons, Nat.succ_mul]; omega
  rw [bxRow, List.length_append, this]
theorem bxRow_split {α : Type} [Inhabited α] (f : α → AV) {l : List α} (pad : List AV) {i : Nat} (hi : i < l.length) : bxRow f l pad = bxRow f (l.take i) ((f (l.getD i default)).cells ++ bxRow f (l.drop (i + 1)) pad) := by
  have e : l = l.take i ++ (l.getD i default :: l.drop (i + 1)) := by
    conv => lhs; rw [← List.take_append_drop i l, List.drop_eq_getElem_cons hi]
    rw [List.getD, List.getElem?_eq_getElem hi]; rfl
  conv => lhs; rw [e]
  simp only [bxRow, List.flatMap_append, List.flatMap_cons, List.append_assoc]
theorem bxRow_get {α : Type} [Inhabited α] {f : α → AV} {s : Nat} (hw : ∀ a, (f a).w = some s) {l : List α} {pad : List AV} {i j : Nat} (hi : i < l.length) (hj : j < s) : (bxRow f l pad)[i * s + j]? = (f (l.getD i default)).cells[j]? := by
  have h1 := bxRow_len hw (l.take i) []
  rw [bxRow_split f pad hi]
  have h2 : ((l.take i).flatMap fun a => (f a).cells).length = i * s := by
    have := h1; simp only [bxRow, List.append_nil, List.length_take, List.length_nil, Nat.add_zero] at this; rw [this]; congr 1; omega
  rw [bxRow, List.getElem?_append_right (by rw [h2]; omega), h2, Nat.add_sub_cancel_left, List.getElem?_append_left (by rw [w_cells (hw _)]; exact hj)]
theorem bxRow_seg {α : Type} [Inhabited α] {f : α → AV} {s : Nat} (hw : ∀ a, (f a).w = some s) {l : List α} {pad : List AV} {i j n : Nat} (hi : i < l.length) (hj : j + n ≤ s) : ((bxRow f l pad).drop (i * s + j)).take n = ((f (l.getD i default)).cells.drop j).take n := by
  have h1 := bxRow_len hw (l.take i) []
  rw [bxRow_split f pad hi]
  have h2 : ((l.take i).flatMap fun a => (f a).cells).length = i * s := by
    have := h1; simp only [bxRow, List.append_nil, List.length_take, List.length_nil, Nat.add_zero] at this; rw [this]; congr 1; omega
  have h3 := w_cells (hw (l.getD i default))
  rw [bxRow, ← List.drop_drop, List.drop_left' h2, List.drop_append_of_le_length (by omega), List.take_append_of_le_length (by rw [List.length_drop]; omega)]
theorem bxRow_splice {α : Type} [Inhabited α] {f : α → AV} {s : Nat} (hw : ∀ a, (f a).w = some s) {l : List α} {pad : List AV} {i j : Nat} {xs : List AV} (a' : α) (hi : i < l.length) (hj : j + xs.length ≤ s) (ha : splice (f (l.getD i default)).cells j xs = (f a').cells) : splice (bxRow f l pad) (i * s + j) xs = bxRow f (l.set i a') pad := by
  have h1 := bxRow_len hw (l.take i) []
  have h2 : ((l.take i).flatMap fun a => (f a).cells).length = i * s := by
    have := h1; simp only [bxRow, List.append_nil, List.length_take, List.length_nil, Nat.add_zero] at this; rw [this]; congr 1; omega
  have h3 := w_cells (hw (l.getD i default))
  have e1 : bxRow f (l.set i a') pad = bxRow f (l.take i) ((f a').cells ++ bxRow f (l.drop (i + 1)) pad) := by
    rw [bxRow_split f pad (by rw [List.length_set]; exact hi)]
    have a1 : (l.set i a').take i = l.take i := by rw [List.take_set_of_le (Nat.le_refl _)]
    have a2 : (l.set i a').drop (i + 1) = l.drop (i + 1) := by rw [List.drop_set_of_lt (by omega)]
    rw [a1, a2, List.getD, List.getElem?_set_self hi]; rfl
  rw [e1, ← ha, bxRow_split f pad hi]
  generalize bxRow f (l.drop (i + 1)) pad = rest
  simp only [bxRow]
  generalize hA : ((l.take i).flatMap fun a => (f a).cells) = A at *
  generalize (f (l.getD i default)).cells = B at *
  simp only [splice]
  rw [← h2, List.take_append, List.take_of_length_le (by omega), Nat.add_sub_cancel_left, List.take_append_of_le_length (by omega), Nat.add_assoc, List.drop_append, List.drop_of_length_le (by omega), Nat.add_sub_cancel_left, List.drop_append_of_le_length (by omega)]
  simp
/-- A row of a box, sealed. -/
theorem frz_bxRow {α : Type} {f : α → AV} {s : Nat} (hw : ∀ a, (f a).w = some s) {bx : List (List AV)} {nb ng nl k : Nat} {l : List α} {pad : List AV} (hk : nb ≤ k) (hb : bx[k]? = some (bxRow f l pad)) (hs : ∀ a, shut (f a) = f a) (hc : ∀ a, cl nb ng nl (f a) = true) : Frz bx nb ng nl (.sl k 0 l.length s) (.row .no (l.map f)) := by
  have e : (l.map f).flatMap AV.cells = l.flatMap fun a => (f a).cells := by rw [List.flatMap_map]
  refine .sl k 0 l.length s _ (l.map f) _ hk hb (by simp) (rowW_mapE hw l) ?_ rfl fun i x y hx hy => ?_
  · rw [e, List.drop_zero, bxRow, List.take_left']
    have := bxRow_len hw l []
    simpa [bxRow] using this
  · rw [hx] at hy; cases hy
    rw [List.getElem?_map] at hx
    cases hl : l[i]? with
    | none => rw [hl] at hx; cases hx
    | some a => rw [hl] at hx; cases hx; exact .keep _ _ (hs a) (hc a)
/-- A part of a row of a box, sealed. -/
theorem frz_bxSub {α : Type} {f : α → AV} {s : Nat} (hw : ∀ a, (f a).w = some s) {bx : List (List AV)} {nb ng nl k a b : Nat} {l : List α} {pad : List AV} (hk : nb ≤ k) (hb : bx[k]? = some (bxRow f l pad)) (hs : ∀ a, shut (f a) = f a) (hc : ∀ a, cl nb ng nl (f a) = true) (hab : a + b ≤ l.length) : Frz bx nb ng nl (.sl k (a * s) b s) (.row .no (((l.drop a).take b).map f)) := by
  have e : ∀ l : List α, (l.map f).flatMap AV.cells = l.flatMap fun a => (f a).cells := fun l => by rw [List.flatMap_map]
  refine .sl k (a * s) b s _ (((l.drop a).take b).map f) _ hk hb (by simp; omega) (rowW_mapE hw _) ?_ rfl fun i x y hx hy => ?_
  · rw [e]
    have h1 : bxRow f l pad = (l.take a).flatMap (fun a => (f a).cells) ++ (((l.drop a).take b).flatMap (fun a => (f a).cells) ++ bxRow f (l.drop (a + b)) pad) := by
      conv => lhs; rw [bxRow, ← List.take_append_drop a l, ← List.take_append_drop b (l.drop a), List.drop_drop]
      simp only [bxRow, List.flatMap_append, List.append_assoc]
    have h2 := bxRow_len hw (l.take a) []
    have h3 := bxRow_len hw ((l.drop a).take b) []
    simp only [bxRow, List.append_nil, List.length_nil, Nat.add_zero] at h2 h3
    have h2' : (List.flatMap (fun a => (f a).cells) (l.take a)).length = a * s := by rw [h2, List.length_take]; congr 1; omega
    have h3' : (List.flatMap (fun a => (f a).cells) ((l.drop a).take b)).length = b * s := by rw [h3, List.length_take, List.length_drop]; congr 1; omega
    rw [h1, List.drop_left' h2', List.take_left' h3']
  · rw [hx] at hy; cases hy
    rw [List.getElem?_map] at hx
    cases hl : ((l.drop a).take b)[i]? with
    | none => rw [hl] at hx; cases hx
    | some a => rw [hl] at hx; cases hx; exact .keep _ _ (hs a) (hc a)
theorem append_box {P : Program} {α : Type} (f : α → AV) {t tx e sz b : Nat} {zc : List AV} (xs ys : List α) {g2 : Gr} {h : Hp} {K : HA} (hw : ∀ a, (f a).w = some sz)
    (h1 : tElem P t = some e) (h2 : tSize P e = some sz) (h3 : tBytes P e = some b) (h4 : aZero P e = some zc) (h5 : (tElem P tx).isSome = true) (h6 : zc.length = sz) (h7 : 0 < sz) (h8 : grW g2 sz) (hb : 0 < b) (h9 : (xs.length + ys.length) * b ≤ 140737488355328) (hne : ys ≠ [])
    (k : ∀ pad, K.k (.sl h.bx.length 0 (xs ++ ys).length sz) { h with bx := h.bx ++ [bxRow f (xs ++ ys) pad] }) : @appendI P t tx (.row .full (xs.map f)) (.row g2 (ys.map f)) h K := by
  unfold appendI aappend
  simp only [h1, h2, h3, h4]
  refine ⟨h5, h6, h7, rowW_mapE hw xs, rowW_mapE hw ys, h8, by simpa using h9, ?_, .inr ⟨by simpa using hne, fun pad => ?_⟩⟩
  · simp only [List.length_map]
    exact Nat.le_trans (Nat.le_mul_of_pos_right _ hb) h9
  · have := k pad
    rw [bxRow] at this
    rw [← List.map_append, List.flatMap_map]
    simpa using this
/-- A call of a function whose answer is known, with own rows on loan. -/
theorem call_loan {P : Program} {f : FuncId} {args args' : List AV} {r : AV} {h : Hp} {K : HK} (hf : fnOk P f = true) (hp : Pure P f args' r) (hl : FrzL h.bx 0 0 0 args args') (hr : plain r = true) (k : K.k r h) : @ACallI P (.lit (.func (.func f) #[] #[])) args h K :=
  acallv_fn hf ((acall_loan hp hl hr).mono fun r' h' ⟨e1, e2⟩ => by subst e1; subst e2; exact k)
theorem callq_loan {P : Program} {f : FuncId} {args args' : List AV} {r : AV} {h : Hp} {F : HF} (hf : fnOk P f = true) (hp : Pure P f args' r) (hl : FrzL h.bx 0 0 0 args args') (hr : plain r = true) (k : F.f r) : @ACallJ P (.lit (.func (.func f) #[] #[])) args h F :=
  acallq_of (acallv_fn hf ((acall_loan hp hl hr).mono fun r' h' ⟨e1, e2⟩ => ⟨e1, e2⟩)) k
theorem frzL_nil {bx : List (List AV)} {nb ng nl : Nat} : FrzL bx nb ng nl [] [] := ⟨rfl, fun i x y hx => by simp at hx⟩
theorem frzL_cons {bx : List (List AV)} {nb ng nl : Nat} {x y : AV} {xs ys : List AV} (h : Frz bx nb ng nl x y) (k : FrzL bx nb ng nl xs ys) : FrzL bx nb ng nl (x :: xs) (y :: ys) :=
  ⟨by rw [List.length_cons, List.length_cons, k.1], fun i a b ha hb => by
    cases i with
    | zero => simp at ha hb; subst ha; subst hb; exact h
    | succ i => exact k.2 i a b (by simpa using ha) (by simpa using hb)⟩
theorem frz_agg {bx : List (List AV)} {nb ng nl : Nat} {xs ys : List AV} (k : FrzL bx nb ng nl xs ys) : Frz bx nb ng nl (.agg xs) (.agg ys) := .agg _ _ k.1 k.2
theorem frz_tup {bx : List (List AV)} {nb ng nl : Nat} {xs ys : List AV} (k : FrzL bx nb ng nl xs ys) : Frz bx nb ng nl (.tup xs) (.tup ys) := .tup _ _ k.1 k.2
theorem pureK_frz {h g : Hp} {r a : AV} (f : Frz g.bx h.bx.length h.gl.length h.lp.length a r) (s : Sub h g) : pureK h r a g := ⟨f, s.hbx, s.hgl, s.hlp⟩
/-- A call of slices.Grow, of nil. -/
theorem call_grow {P : Program} {ρ : Ren} (L : Lays8.n4 P ρ) {f e sz b : Nat} {zc : List AV} (hf : ρ.f 4 = f) (he : ρ.t 25 = e) (hfn : fnOk P f = true) (hsz : tSize P e = some sz) (hby : tBytes P e = some b) (hzc : aZero P e = some zc) (hzl : zc.length = sz) (h1 : 0 < sz) {n : Int} (h0 : 0 ≤ n) (hb : n.toNat * b ≤ 140737488355328) (h63 : n ≤ 4611686018427387904) {h : Hp} {K : HK}
    (k : ∀ gr gl, Grows sz h.gl gr gl → K.k (.row gr []) { h with gl := gl }) : @ACallI P (.lit (.func (.func f) #[] #[])) [.row .full [], .int n] h K := by
  subst hf; subst he
  cases hi : P.info? (ρ.t 25) with
  | none => simp [tSize, hi] at hsz
  | some i =>
    obtain ⟨z, hz, hzr, _⟩ := aZero_inv (C := ⟨fun _ _ => none, fun _ => none, [], fun _ => none, fun _ => none⟩) hzc
    have e1 : i.size = sz := by simpa [tSize, hi] using hsz
    have e2 : i.bytes = b := by simpa [tBytes, hi] using hby
    have e3 : i.zero = some z := by simpa [tZero, hi] using hz
    subst e1; subst e2
    by_cases hn : n = 0
    · subst hn
      exact acallv_fn hfn ((grow0_acall L h).mono fun r h' ⟨q1, q2⟩ => by subst q1; subst q2; exact k .full _ (grows_new _ _))
    · obtain ⟨m, rfl⟩ : ∃ m : Nat, n = m := ⟨n.toNat, by omega⟩
      exact acallv_fn hfn ((grow_acall L hi e3 h1 (by rw [← hzr.1, hzl]) (n := m) (by omega) (by simpa using hb) (by omega) h).mono fun r h' ⟨q1, q2⟩ => by subst q1; subst q2; exact k _ _ (.inr ⟨0, rfl, rfl⟩))
/-- A slice, held against nil. -/
theorem nil_eql {P : Program} {α : Type} (f : α → AV) {t e sz : Nat} (l : List α) {g : Gr} {K : AV → Prop} (hw : ∀ a, (f a).w = some sz) (h1 : tElem P t = some e) (h2 : tSize P e = some sz) (h0 : 0 < sz) (hg : grW g sz) (k1 : l = [] → K (.lit (.bool true))) (k2 : K (.lit (.bool false))) : anilS P .eql t (.row g (l.map f)) K := by
  unfold anilS
  simp only [h1, h2]
  exact ⟨h0, rowW_mapE hw l, hg, fun e => k1 (by simpa using e), k2⟩
theorem nil_neq {P : Program} {α : Type} (f : α → AV) {t e sz : Nat} (l : List α) {g : Gr} {K : AV → Prop} (hw : ∀ a, (f a).w = some sz) (h1 : tElem P t = some e) (h2 : tSize P e = some sz) (h0 : 0 < sz) (hg : grW g sz) (k1 : l = [] → K (.lit (.bool false))) (k2 : K (.lit (.bool true))) : anilS P .neq t (.row g (l.map f)) K := by
  unfold anilS
  simp only [h1, h2]
  exact ⟨h0, rowW_mapE hw l, hg, fun e => k1 (by simpa using e), k2⟩
/-! ### Loops, by the slots that are followed -/
def setTr (tm : List AV) (l : List (Nat × AV)) : List AV := l.foldl (fun t p => t.set p.1 p.2) tm
theorem setTr_nil (tm : List AV) : setTr tm [] = tm := (fun _ : Unit => rfl) ()
theorem setTr_cons (tm : List AV) (i : Nat) (x : AV) (l : List (Nat × AV)) : setTr tm ((i, x) :: l) = setTr (tm.set i x) l := (fun _ : Unit => rfl) ()
theorem loop3 {P : Program} {c : Code} {Q : Exit → List AV → Hp → Prop} {tm : List AV} {h : Hp} {ι : Type} (S S2 : List Nat) (tr : ι → List (Nat × AV)) (I : ι → Prop) (μ : ι → Nat) (hs : ι → Hp) (i0 : ι) (hI : I i0) (htm : forget S2 tm = setTr (forget S tm) (tr i0)) (hh : h = hs i0)
    (round : ∀ (L : List AV → Hp → Prop) (i : ι), I i → (∀ j, I j → μ j < μ i → L (setTr (forget S tm) (tr j)) (hs j)) → cw P c (thenQ (lpQ L S2) Q) (setTr (forget S tm) (tr i)) (hs i)) : @AWpI P ⟨.loop c, Q⟩ tm h :=
  loop2 S2 I μ (fun i => setTr (forget S tm) (tr i)) hs i0 hI htm hh round
end Go.V
namespace Go.V
open Go Go.Proofs Go.ChangeShapes Go.WideShapes Go.Deep Go.RowKit
set_option linter.unusedVariables false
set_option linter.unusedSimpArgs false
/-- All cells that are there: nobody writes them. -/
def allC (W : World) : Ctx := { M := fun b o => W.cell? ⟨b, o, none⟩, mu := fun _ => none, gl := [], ga := fun _ => none, lp := fun _ => none }
theorem allC_sim (W : World) : Sim (allC W) ⟨[], [], []⟩ W :=
  ⟨fun _ _ _ h => h, rfl, (fun k => by simp [allC]), (fun k cs B h => by simp at h), (fun k k' B h => by cases h), (fun g x hg => by simp [allC] at hg), (fun g g' x x' hg => by simp [allC] at hg), (fun g k x hg => by simp [allC] at hg), (fun j => by simp [allC]), (fun j L l h => by simp at h), (fun j j' l h => by cases h)⟩
theorem pure_calls {P : Program} {f : FuncId} {args : List AV} {r : Value} {W : World} {vs : Array Value} (hp : Pure P f args (.lit r)) (hr : Reps (allC W) args vs) : Calls P f vs W fun e W' => e = .returned r ∧ Below W.heap.size W W' := by
  refine Calls.mono (hp ⟨[], [], []⟩ (allC W) W vs (allC_sim W) hr) fun e W' ⟨v, h1, r', h', C', ⟨h2, h3⟩, x, s, q⟩ => ?_
  subst h2
  cases q with
  | lit _ _ =>
  refine ⟨h1, ⟨x.hos, x.htape, x.hout, x.hsz, fun b hb => x.hun b hb fun t => ?_⟩⟩
  rcases t with ⟨k, hk⟩ | ⟨g, y, hg, _⟩ | ⟨j, hj⟩
  · cases hk
  · simp [allC] at hg
  · cases hj
section
variable {H : Type} {enc : TypeId × Value → H} {P : Program} {W : World} {base : Nat} {spare : Nat → Bool} {held : Bool}
/-- Cells that read as data of type t, not too much of it, are those of a plain value. -/
def Opens (enc : TypeId × Value → H) (P : Program) (W : World) (base : Nat) (spare : Nat → Bool) (held : Bool) (t : TypeId) {α : Type} (f : α → AV) (G : α → Prop) : Prop :=
  ∀ fuel cs x, DataW.trod enc P W base spare held fuel t cs = some x → (x.1.weights P t).all (· ≤ reachBytes) = true → ∃ a, G a ∧ Reps (allC W) (f a).cells cs.toArray
theorem reps1 {C : Ctx} {x : AV} {v : Value} (h : Rep C x v) : Reps C [x] [v].toArray := Reps.cons h (Reps.nil C)
theorem Opens.int {t : TypeId} {k : IntKind} (ht : P.underlying t = some (.int k)) : Opens enc P W base spare held t (fun n : Int => AV.lit (.int k n)) (fun n => k.min ≤ n ∧ n ≤ k.max) := by
  intro fuel cs x h _
  obtain ⟨n, rfl, _, wf⟩ := DataW.trod_int ht h
  simp only [Lit.wf, Bool.and_eq_true, decide_eq_true_eq] at wf
  exact ⟨n, wf, reps1 (.lit _ rfl)⟩
theorem Opens.bool {t : TypeId} (ht : P.underlying t = some .bool) : Opens enc P W base spare held t AV.bool (fun _ => True) := by
  intro fuel cs x h _
  obtain ⟨b, rfl, _⟩ := DataW.trod_bool ht h
  exact ⟨b, trivial, reps1 (.lit _ rfl)⟩
theorem Opens.string {t : TypeId} (ht : P.underlying t = some .string) : Opens enc P W base spare held t AV.str (fun s => s.size ≤ 9223372036854775807) := by
  intro fuel cs x h _
  obtain ⟨s, rfl, _, hs⟩ := DataW.trod_string ht h
  exact ⟨s, by unfold maxLen at hs; omega, reps1 (.lit _ rfl)⟩
theorem choose_list {α : Type} {n : Nat} {p : Nat → α → Prop} (h : ∀ i, i < n → ∃ a, p i a) : ∃ l : List α, l.length = n ∧ ∀ i a, l[i]? = some a → p i a := by
  induction n with
  | zero => exact ⟨[], rfl, fun i a hi => by simp at hi⟩
  | succ n ih =>
    obtain ⟨l, hl, hp⟩ := ih (fun i hi => h i (by omega))
    obtain ⟨a, ha⟩ := h n (by omega)
    refine ⟨l ++ [a], by simp [hl], fun i b hi => ?_⟩
    by_cases hlt : i < l.length
    · rw [List.getElem?_append_left hlt] at hi; exact hp i b hi
    · rw [List.getElem?_append_right (by omega)] at hi
      have hi0 : i = n := by
        have := (List.getElem?_eq_some_iff.1 hi).1
        simp at this; omega
      subst hi0
      rw [hl, Nat.sub_self] at hi
      simp at hi
      subst hi
      exact ha
theorem weightsAll_mem {e : TypeId} : ∀ {ds : List (DataW H)} {d : DataW H}, d ∈ ds → (DataW.weightsAll P e ds).all (· ≤ reachBytes) = true → (d.weights P e).all (· ≤ reachBytes) = true
  | [], d, h, _ => by cases h
  | d' :: ds, d, h, hw => by
    rw [DataW.weightsAll, List.all_append, Bool.and_eq_true] at hw
    rcases List.mem_cons.1 h with rfl | h
    · exact hw.1
    · exact weightsAll_mem h hw.2
theorem cell_spot {w : World} {a : Addr} {u : Value} (h : w.cell? a = some u) : a.spot = none ∧ w.cell? ⟨a.block, a.off, none⟩ = some u := by
  obtain ⟨b, o, sp⟩ := a
  cases sp with
  | none => exact ⟨rfl, h⟩
  | some s => simp [World.cell?] at h; split at h <;> simp at h
theorem Opens.slice {t e : TypeId} {α : Type} {f : α → AV} {G : α → Prop} {sz b : Nat} (ht : P.underlying t = some (.slice e)) (hc : P.cellsOf e = sz) (hb : P.bytesOf e = b) (h0 : 0 < sz) (hw : ∀ a, (f a).w = some sz) (h : Opens enc P W base spare held e f G) :
    Opens enc P W base spare held t (fun l : List α => AV.row .no (l.map f)) (fun l => (∀ a, a ∈ l → G a) ∧ l.length * b ≤ 140737488351232) := by
  intro fuel cs x hx hwt
  rcases open_slice ht hx with ⟨rfl, _⟩ | ⟨a, len, cap, m, n, D, Pl, rfl, _, hl, hm, hmm, rfl, hi⟩
  · refine ⟨[], ⟨(fun a ha => by cases ha), (by simp)⟩, reps1 ?_⟩
    exact .row .no [] none 0 0 0 (fun _ => default) rfl (Nat.le_refl _) (by omega) (fun i x h => by simp at h) (fun i h => by omega) (fun i j u h => by omega) trivial
  · simp only [DataW.weights, ht] at hwt
    rw [List.all_cons, Bool.and_eq_true, List.all_append, Bool.and_eq_true] at hwt
    obtain ⟨hw1, hw2, _⟩ := hwt
    have hlm : len ≤ m := by rw [hmm]; split <;> omega
    obtain ⟨l, hll, hp⟩ := choose_list (n := len) (p := fun i a' => ∃ cs', W.cells? base (a.add (i * P.cellsOf e)) (P.cellsOf e) = some cs' ∧ G a' ∧ Reps (allC W) (f a').cells cs'.toArray) (fun i hi' => by
      obtain ⟨cs', h1, h2⟩ := hi i (by omega)
      obtain ⟨a', h3, h4⟩ := h _ _ _ h2 (weightsAll_mem (by simp only [List.mem_map, List.mem_range]; exact ⟨i, hi', rfl⟩) hw2)
      exact ⟨a', cs', h1, h3, h4⟩)
    have hval : ∀ i, ∃ v, ∀ a', l[i]? = some a' → Rep (allC W) (f a') v ∧ ∃ cs', W.cells? base (a.add (i * P.cellsOf e)) (P.cellsOf e) = some cs' ∧ v.cells = cs'.toArray := fun i => by
      cases hli : l[i]? with
      | none => exact ⟨undef, fun a' h => by cases h⟩
      | some a' =>
        obtain ⟨cs', h1, _, h3⟩ := hp i a' hli
        obtain ⟨v, h4, h5⟩ := rep_of_cells (hw a') h3
        exact ⟨v, fun a'' h => by cases h; exact ⟨h4, cs', h1, h5⟩⟩
    obtain ⟨val, hval⟩ := Classical.skolem.1 hval
    have hsp : 0 < len → a.spot = none := fun hpos => by
      obtain ⟨cs', h1, _⟩ := (hval 0 _ (List.getElem?_eq_getElem (by omega))).2
      obtain ⟨_, hcl, hat⟩ := World.cells?_some h1
      have h3 := hat 0 (by omega)
      rw [Go.Deep.add_add, List.getElem?_eq_getElem (by omega)] at h3
      have h4 := (cell_spot h3).1
      simpa [Addr.add] using h4
    refine ⟨l, ⟨fun a' ha' => ?_, ?_⟩, reps1 ?_⟩
    · obtain ⟨i, hi', rfl⟩ := List.mem_iff_getElem.1 ha'
      obtain ⟨cs', _, h3, _⟩ := hp i _ (List.getElem?_eq_getElem hi')
      exact h3
    · have hw1 := of_decide_eq_true hw1
      simp only [List.length_map, List.length_range, hb, reachBytes] at hw1
      rw [Nat.add_mul] at hw1
      rw [hll]; omega
    · refine .row .no (l.map f) (some a) len cap sz val (by simp [hll]) hl (by unfold maxLen at hm; omega) (fun i x hx => ?_) (fun i hi' => ?_) (fun i j u hi' hu => ?_) trivial
      · rw [List.getElem?_map] at hx
        cases hq : l[i]? with
        | none => rw [hq] at hx; cases hx
        | some q => rw [hq] at hx; cases hx; exact (hval i q hq).1
      · obtain ⟨cs', h1, h2⟩ := (hval i _ (List.getElem?_eq_getElem (by omega))).2
        obtain ⟨_, hcl, _⟩ := World.cells?_some h1
        rw [h2]; simp [hcl, hc]
      · obtain ⟨cs', h1, h2⟩ := (hval i _ (List.getElem?_eq_getElem (by omega))).2
        obtain ⟨_, hcl, hat⟩ := World.cells?_some h1
        rw [h2] at hu
        have hu : cs'[j]? = some u := by simpa using hu
        have hj := (List.getElem?_eq_some_iff.1 hu).1
        have h3 := hat j (by omega)
        rw [Go.Deep.add_add, hu] at h3
        obtain ⟨h4, h5⟩ := cell_spot h3
        obtain ⟨b', o', sp⟩ := a
        cases sp with
        | none =>
          refine ⟨_, rfl, rfl, ?_⟩
          show W.cell? ⟨b', o' + i * sz + j, none⟩ = some u
          rw [hc, Addr.add_lit] at h3
          rw [Nat.add_assoc]
          exact h3
        | some s => have := hsp (by omega); cases this
/-- A type's fields: where each begins, and of which type. -/
def tOT (P : Program) (t : TypeId) : Option (List (Nat × TypeId)) :=
  match P.underlying t with
  | some (.struct fs) => some (fs.toList.map fun f => (f.offset, f.type))
  | _ => none
theorem weightsEach_get : ∀ {ts : List TypeId} {ds : List (DataW H)} {i : Nat} {t : TypeId} {d : DataW H}, ts[i]? = some t → ds[i]? = some d → (DataW.weightsEach P ts ds).all (· ≤ reachBytes) = true → (d.weights P t).all (· ≤ reachBytes) = true
  | [], _, i, t, d, h, _, _ => by simp at h
  | _ :: _, [], i, t, d, _, h, _ => by simp at h
  | t' :: ts, d' :: ds, i, t, d, h1, h2, hw => by
    rw [DataW.weightsEach, List.all_append, Bool.and_eq_true] at hw
    cases i with
    | zero => simp at h1 h2; subst h1; subst h2; exact hw.1
    | succ i => exact weightsEach_get (by simpa using h1) (by simpa using h2) hw.2
/-- The fields of a struct, from an offset on, in line. -/
def OpensF (enc : TypeId × Value → H) (P : Program) (W : World) (base : Nat) (spare : Nat → Bool) (held : Bool) (off : Nat) (fs : List (Nat × TypeId)) (n : Nat) {α : Type} (g : α → List AV) (G : α → Prop) : Prop :=
  ∀ cs : List Value, cs.length = off + n → (∀ q, q ∈ fs → ∃ k y, DataW.trod enc P W base spare held k q.2 ((cs.drop q.1).take (P.cellsOf q.2)) = some y ∧ (y.1.weights P q.2).all (· ≤ reachBytes) = true) → ∃ a, G a ∧ Reps (allC W) (g a) (cs.drop off).toArray
theorem OpensF.nil {off : Nat} : OpensF enc P W base spare held off [] 0 (fun _ : Unit => []) (fun _ => True) := by
  intro cs hl _
  refine ⟨(), trivial, ?_⟩
  rw [List.drop_of_length_le (by omega)]
  exact Reps.nil _
theorem OpensF.cons {off n sz : Nat} {t : TypeId} {fs : List (Nat × TypeId)} {α β : Type} {f : α → AV} {g : β → List AV} {G : α → Prop} {G' : β → Prop} (hc : P.cellsOf t = sz) (h : Opens enc P W base spare held t f G) (h' : OpensF enc P W base spare held (off + sz) fs n g G') :
    OpensF enc P W base spare held off ((off, t) :: fs) (sz + n) (fun p : α × β => (f p.1).cells ++ g p.2) (fun p => G p.1 ∧ G' p.2) := by
  intro cs hl hf
  obtain ⟨k, y, hy, hw⟩ := hf (off, t) (by simp)
  simp only [hc] at hy
  obtain ⟨a, hg, ha⟩ := h _ _ _ hy hw
  obtain ⟨b, hg', hb⟩ := h' cs (by omega) (fun q hq => hf q (List.mem_cons_of_mem _ hq))
  refine ⟨(a, b), ⟨hg, hg'⟩, ?_⟩
  have e : (cs.drop off).toArray = ((cs.drop off).take sz ++ cs.drop (off + sz)).toArray := by rw [← List.drop_drop, List.take_append_drop]
  rw [e]
  exact ha.append hb
theorem Opens.struct {t : TypeId} {fs : List (Nat × TypeId)} {n : Nat} {α X : Type} {g : α → List AV} {G : α → Prop} {f : X → AV} {GX : X → Prop} (ht : tOT P t = some fs) (hc : P.cellsOf t = n) (h : OpensF enc P W base spare held 0 fs n g G) (mk : α → X) (hm : ∀ a, (f (mk a)).cells = g a) (hG : ∀ a, G a → GX (mk a)) : Opens enc P W base spare held t f GX := by
  unfold tOT at ht
  split at ht
  · rename_i fs' hu
    cases ht
    intro fuel cs x hx hw
    obtain ⟨xs, k, _, rfl, hlen, hxl, hf⟩ := DataW.trod_struct hu hx
    simp only [DataW.weights, hu] at hw
    obtain ⟨a, h1, h2⟩ := h cs (by omega) (fun q hq => by
      obtain ⟨f', hf', rfl⟩ := List.mem_map.1 hq
      obtain ⟨i, hi, rfl⟩ := List.mem_iff_getElem.1 hf'
      have hi' : i < fs'.size := by simpa using hi
      have e := hf i fs'[i] (Array.getElem?_eq_getElem hi')
      rw [List.getElem?_eq_getElem (by omega)] at e
      rw [Array.getElem_toList]
      refine ⟨k, _, e, weightsEach_get (i := i) (by simp [hi']) (by rw [List.getElem?_map, List.getElem?_eq_getElem (by omega)]; rfl) hw⟩)
    rw [List.drop_zero] at h2
    exact ⟨mk a, hG a h1, by rw [hm]; exact h2⟩
  · cases ht
theorem Opens.mono {t : TypeId} {α : Type} {f f' : α → AV} {G G' : α → Prop} (h : Opens enc P W base spare held t f G) (hf : ∀ a, f a = f' a) (hG : ∀ a, G a → G' a) : Opens enc P W base spare held t f' G' := fun fuel cs x hx hw => let ⟨a, h1, h2⟩ := h fuel cs x hx hw; ⟨a, hG a h1, hf a ▸ h2⟩
end
end Go.V
namespace Go.V
open Go
attribute [go_sem ↓] cw_skip cw_label cw_seq cw_region cw_draw cw_cond cw_block cw_exit cw_ret cw_loop cw_range thenQ_normal thenQ_ret thenQ_exit blockQ_normal blockQ_ret
attribute [go_sem ↓] blockQ_exit retQ_ret retQ_normal lpQ_def aop_move aop_assign aop_pick aop_alloc aop_box aop_build aop_buildSlice aop_load aop_store aop_nil aop_bin aop_binI
attribute [go_sem ↓] aop_binB aop_binS aop_binA aop_binP aop_un aop_conv aop_func aop_sliceI hs_def aop_fieldAddr aop_field aop_indexAddr aop_index aop_extract aop_call aop_builtin
attribute [go_sem ↓] aop_iface kNext_some kNext_none atH_apply ha_def ares_nil ares_tmp hk_def drawT_none drawT_some aopsD_succ aopsD_zero aopsT_zero kQ_some kQ_none qK_def
attribute [go_sem ↓] stepT_none stepT_some hf_def aq_call aq_move aq_assign aq_pick aq_build aq_bslice aq_load aq_nil aq_bin aq_un aq_conv aq_iface aq_func aq_slice aq_fa aq_fv
attribute [go_sem ↓] aq_ia aq_iv aq_ext aq_len aq_min aq_max ares_cell gval_L gvL_zero gvL_succ endQ_normal endQ_ret endQ_exit asgQ_normal
attribute [go_sem] acond_lit loopQ_def aops_nil aops_none aops_some gV_some gV_skip gP_true gP_false gP_not gP_le gP_lt gP_eqT gP_eqF gP_eqI gP_eqN gP_asT gP_asE gP_and apick_lit
attribute [go_sem] abox ev_tmp ev_int ev_bool ev_str ev_nil ev_nilf ev_nilp ev_func w_lit w_row w_ptr w_eptr w_sl w_clo w_yld w_agg ic_lit ic_row ic_ptr ic_sl ic_clo ic_yld
attribute [go_sem] cells_lit cells_row cells_ptr cells_clo cells_sl cells_yld cells_agg isAgg_agg isAgg_lit isAgg_row putA_some aload_ptr aload_eptr aloadC_def astore_ptr anil_ptr
attribute [go_sem] anil_eptr anil_clo anil_fn afield_ptr afield_eptr aindexA_enc aindexA_sl aextract_tup alen_row alen_sl alen_str ablt_len ablt_appendI ablt_min ablt_max abin_int
attribute [go_sem] abinI_add abinI_sub abinI_eql abinI_neq abinI_lss abinI_leq abinI_gtr abinI_geq aun_not tupOf_one tupOf_two get_own get_own0 set_own set_own0 wrap_id forget
attribute [go_sem] splice List.foldl_cons List.foldl_nil set8 getD8 get8 List.set_cons_succ List.set_cons_zero List.getD_cons_succ List.getD_cons_zero List.getElem?_cons_succ
attribute [go_sem] List.getElem?_cons_zero List.cons_append List.nil_append List.replicate List.map_cons List.map_nil List.length_map List.length_cons List.length_nil
attribute [go_sem] List.length_append List.all_cons List.all_nil List.take_succ_cons List.take_zero List.drop_succ_cons List.drop_zero List.append_nil Nat.zero_add Nat.add_zero
attribute [go_sem] Nat.add_assoc Nat.lt_irrefl Nat.zero_lt_one Nat.le_refl decide_eq_true_eq decide_eq_false_iff_not decide_true decide_false not_true_eq_false not_false_eq_true
attribute [go_sem] Int.ofNat_lt Int.ofNat_le Int.toNat_natCast Option.some.injEq Option.isSome_some Option.isNone_none Option.isNone_some Option.isSome_none Option.bind_some
attribute [go_sem] Option.bind_none Option.map_some Option.map_none true_and and_true false_and and_false if_true if_false ite_true ite_false and_self Bool.not_true Bool.not_false
attribute [go_sem] Bool.not_eq_true' Bool.not_eq_false' Bool.and_true Bool.and_self Bool.false_eq_true Bool.true_eq_false ne_eq eq_self true_implies false_implies implies_true
attribute [go_sem] forall_const List.getElem?_toArray Nat.sub_self Nat.add_sub_cancel_left nm_def ask_def aopsT_alloc aopsT_box aopsT_call aopsT_move aopsT_assign aopsT_pick
attribute [go_sem] aopsT_build aopsT_bslice aopsT_load aopsT_nil aopsT_bin aopsT_un aopsT_conv aopsT_iface aopsT_func aopsT_slice aopsT_fa aopsT_fv aopsT_ia aopsT_iv aopsT_ext
attribute [go_sem] aopsT_len aopsT_min aopsT_max aresOne bofV_lit bofV_skip nat_ge Int.toNat_zero setParams1 setParams2 abuild_def abuildSlice_def fillA setA
end Go.V
