/- How data that came in are opened, whatever they are made of (numbers, bools, texts, slices, structs, one in another): they read as a value of the kind's own type. No condition. -/
import Derived.Test.YtfnbaepioignaaaWWords
import Derived.Deep.Slices
import Derived.Deep.Fields
import Derived.ChangeArms
import Derived.DataReads
import Derived.ChangeSame
namespace Go.Proofs.YtfnbaepioignaaaW.Open
open Go.ChangeShapes Go.WideShapes Go.Deep Go.RowKit Go.Proofs.YtfnbaepioignaaaW.PrintWords
section
variable {H : Type} {enc : TypeId × Value → H} {P : Program} {w : World} {base : Nat} {spare : Nat → Bool} {held : Bool}
/-- Cells that read as data of type t hold a value of kind d, of which G is true. -/
def Opens (enc : TypeId × Value → H) (P : Program) (w : World) (base : Nat) (spare : Nat → Bool) (held : Bool) (t : TypeId) {α : Type} (d : Kd α) (G : α → Prop) : Prop :=
  ∀ fuel cs x, DataW.trod enc P w base spare held fuel t cs = some x → ∃ a, d.K w a cs ∧ G a
theorem Opens.int {t : TypeId} {k : IntKind} (ht : P.underlying t = some (.int k)) : Opens enc P w base spare held t (Kd.int k) (fun n => (Lit.int k n).wf = true) := by
  intro fuel cs x h
  obtain ⟨n, rfl, _, wf⟩ := DataW.trod_int ht h
  exact ⟨n, rfl, wf⟩
theorem Opens.bool {t : TypeId} (ht : P.underlying t = some .bool) : Opens enc P w base spare held t Kd.bool (fun _ => True) := by
  intro fuel cs x h
  obtain ⟨b, rfl, _⟩ := DataW.trod_bool ht h
  exact ⟨b, rfl, trivial⟩
theorem Opens.string {t : TypeId} (ht : P.underlying t = some .string) : Opens enc P w base spare held t Kd.string (fun s => s.size ≤ maxLen) := by
  intro fuel cs x h
  obtain ⟨s, rfl, _, hs⟩ := DataW.trod_string ht h
  exact ⟨s, rfl, hs⟩
theorem choose_list {α : Type} {n : Nat} {p : Nat → α → Prop} (h : ∀ i, i < n → ∃ a, p i a) : ∃ l : List α, l.length = n ∧ ∀ i a, l[i]? = some a → p i a := by
  induction n with
  | zero => exact ⟨[], rfl, fun i a hi => by simp at hi⟩
  | succ n ih =>
    obtain ⟨l, hl, hp⟩ := ih (fun i hi => h i (by omega))
    obtain ⟨a, ha⟩ := h n (by omega)
    refine ⟨l ++ [a], by simp [hl], fun i b hi => ?_⟩
    by_cases hlt : i < l.length
    · rw [List.getElem?_append_left hlt] at hi; exact hp i b hi
    · rw [List.getElem?_append_right (by omega)] at hi
      have hi0 : i = n := by
        have := (List.getElem?_eq_some_iff.1 hi).1
        simp at this; omega
      subst hi0
      rw [hl, Nat.sub_self] at hi
      simp at hi
      subst hi
      exact ha
theorem Opens.slice {t e : TypeId} {α : Type} {d : Kd α} {G : α → Prop} (ht : P.underlying t = some (.slice e)) (hc : P.cellsOf e = d.sz) (h : Opens enc P w base spare held e d G) :
    Opens enc P w base spare held t (Kd.slice e d) (fun l => (∀ a, a ∈ l → G a) ∧ l.length ≤ maxLen) := by
  intro fuel cs x hx
  rcases open_slice ht hx with ⟨rfl, _⟩ | ⟨a, len, cap, m, n, D, Pl, rfl, _, hl, hm, hmm, _, hi⟩
  · exact ⟨[], ⟨none, 0, rfl, Nat.le_refl _, ⟨rfl, by simp, fun h0 => absurd h0 (Nat.lt_irrefl 0)⟩⟩, fun a ha => by (cases ha), by simp [maxLen]⟩
  · have hlm : len ≤ m := by rw [hmm]; split <;> omega
    obtain ⟨l, hll, hp⟩ := choose_list (n := len) (p := fun i a' => ∃ cs', w.cells? base (a.add (i * P.cellsOf e)) (P.cellsOf e) = some cs' ∧ d.K w a' cs' ∧ G a') (fun i hi' => by
      obtain ⟨cs', h1, h2⟩ := hi i (by omega)
      obtain ⟨a', h3, h4⟩ := h _ _ _ h2
      exact ⟨a', cs', h1, h3, h4⟩)
    refine ⟨l, ⟨some a, cap, by rw [hll], by omega, ⟨rfl, ?_, fun _ => ⟨a, rfl, fun j p hj => ?_⟩⟩⟩, fun a' ha' => ?_, by omega⟩
    · unfold maxLen at hm; omega
    · obtain ⟨cs', h1, h2, _⟩ := hp j p hj
      obtain ⟨_, hcl, hat⟩ := World.cells?_some h1
      refine ⟨cs', by rw [hcl, hc], h2, fun i u hu => ?_⟩
      have hlt : i < cs'.length := (List.getElem?_eq_some_iff.1 hu).1
      have := hat i (by omega)
      rw [Go.Deep.add_add, hc] at this
      rw [this, hu]
    · obtain ⟨i, hi', rfl⟩ := List.mem_iff_getElem.1 ha'
      obtain ⟨cs', _, _, h3⟩ := hp i _ (List.getElem?_eq_getElem hi')
      exact h3
/-- The fields of a struct, from an offset on, in line. -/
def OpensF (enc : TypeId × Value → H) (P : Program) (w : World) (base : Nat) (spare : Nat → Bool) (held : Bool) (off : Nat) (fs : List Field) {α : Type} (d : Kd α) (G : α → Prop) : Prop :=
  ∀ cs : List Value, cs.length = off + d.sz → (∀ f, f ∈ fs → ∃ n y, DataW.trod enc P w base spare held n f.type ((cs.drop f.offset).take (P.cellsOf f.type)) = some y) → ∃ a, d.K w a (cs.drop off) ∧ G a
theorem OpensF.one {off : Nat} {f : Field} {α : Type} {d : Kd α} {G : α → Prop} (ho : f.offset = off) (hc : P.cellsOf f.type = d.sz) (h : Opens enc P w base spare held f.type d G) : OpensF enc P w base spare held off [f] d G := by
  intro cs hl hf
  obtain ⟨n, y, hy⟩ := hf f (by simp)
  rw [ho, hc, List.take_of_length_le (by rw [List.length_drop]; omega)] at hy
  exact h _ _ _ hy
theorem OpensF.cons {off : Nat} {f : Field} {fs : List Field} {α β : Type} {d : Kd α} {d' : Kd β} {G : α → Prop} {G' : β → Prop} (ho : f.offset = off) (hc : P.cellsOf f.type = d.sz) (h : Opens enc P w base spare held f.type d G)
    (h' : OpensF enc P w base spare held (off + d.sz) fs d' G') : OpensF enc P w base spare held off (f :: fs) (Kd.pair d d') (fun p => G p.1 ∧ G' p.2) := by
  intro cs hl hf
  obtain ⟨n, y, hy⟩ := hf f (by simp)
  rw [ho, hc] at hy
  obtain ⟨a, ha, hg⟩ := h _ _ _ hy
  have hl' : cs.length = off + d.sz + d'.sz := by rw [hl]; show off + (d.sz + d'.sz) = _; omega
  obtain ⟨b, hb, hg'⟩ := h' cs hl' (fun f' hf' => hf f' (List.mem_cons_of_mem _ hf'))
  refine ⟨(a, b), ⟨_, _, ?_, ha, hb⟩, hg, hg'⟩
  rw [← List.drop_drop, List.take_append_drop]
theorem Opens.struct {t : TypeId} {fs : Array Field} {α : Type} {d : Kd α} {G : α → Prop} (ht : P.underlying t = some (.struct fs)) (hc : P.cellsOf t = d.sz) (h : OpensF enc P w base spare held 0 fs.toList d G) : Opens enc P w base spare held t d G := by
  intro fuel cs x hx
  obtain ⟨xs, n, _, _, hlen, hxl, hf⟩ := DataW.trod_struct ht hx
  have := h cs (by rw [hlen, hc]; omega) (fun f hm => by
    obtain ⟨i, hi, rfl⟩ := List.mem_iff_getElem.1 hm
    have hi' : i < fs.size := by simpa using hi
    have e := hf i fs[i] (Array.getElem?_eq_getElem hi')
    rw [List.getElem?_eq_getElem (by omega)] at e
    rw [Array.getElem_toList]
    exact ⟨n, _, e⟩)
  rwa [List.drop_zero] at this
theorem Opens.iso {t : TypeId} {α β : Type} {d : Kd α} {f : β → α} {g : α → β} {G : α → Prop} (hfg : ∀ a, f (g a) = a) (h : Opens enc P w base spare held t d G) : Opens enc P w base spare held t (Kd.iso d f) (fun b => G (f b)) := by
  intro fuel cs x hx
  obtain ⟨a, ha, hg⟩ := h _ _ _ hx
  exact ⟨g a, by show d.K w (f (g a)) cs; rw [hfg]; exact ha, by show G (f (g a)); rw [hfg]; exact hg⟩
end
end Go.Proofs.YtfnbaepioignaaaW.Open
