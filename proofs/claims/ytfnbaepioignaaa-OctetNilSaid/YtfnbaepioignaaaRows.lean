/-
  No cell of these rows narrows 'for every input' (looked for: loops, veiled, ifaces, maps, wideKeys, modest, calm, conditions, laid).
  DERIVED. THE GIVEN ROWS OF THIS SEAT. 9 by the template 'for every input the law returns true; each argument reads behind the call as it read before'; 0 by the template 'total and deterministic' (their statements: YtfnbaepioignaaaTotals.lean).
  GIVEN WITH THE SEED: the statements are not yours to turn. If you find one false, say at which input.
  Laid BY PROGRAM, IN A SANDBOX (cutbox-rows.mjs): the forced cells as the released guide's own fill.sh prints them over the translation 1432a96e872e00d5… (all of the seat's roots in one cut). By AI agents, Wed Nov 11 2026. No macro, syntax, notation, axiom, sorry.
-/
import Derived.Test.YtfnbaepioignaaaChecked
import GoSem.Claim
import GoSem.ClaimJoined
import GoSem.ClaimMapViews
import Derived.JoinedTies
import Derived.KernelRfl
namespace Go.Proofs.Ytfnbaepioignaaa
/- THE CELL 'sum', in the pinned program and in every row, IS THE sha256 OF THE DUMP (.gsa) THAT YtfnbaepioignaaaProg.lean LOADS. Nothing in Lean hashes anything: it is a label: what it is worth is what the hold of that sum in a sandbox is worth. -/
noncomputable def Try.pinned : Pinned := { name := "ytfnbaepioignaaa", sum := "1432a96e872e00d59a5757b738792317c1ad7f080c02506daa3f88b0c4f20e32", checked := Try.checked }
namespace Rows
def none {H : Type} : Left H := { results := [], args := [] }

/-- 'fleuronlaw01.OctetParts': WHATEVER THE INPUT: true; the input reads as it did. -/
def octetPartsSpec : ChangeSpec := { name := "octetParts", fn := fun _ => fun
  | [d1, d2] => { results := [.lit (.bool true)], args := [d1, d2] }
  | _ => none }
def octetPartsRow : OpenClaim := { program := "ytfnbaepioignaaa", sum := "1432a96e872e00d59a5757b738792317c1ad7f080c02506daa3f88b0c4f20e32", func := "fleuron/fleuronlaw01.OctetParts", spec := "octetParts", unfollowed := true, recurses := true, apart := false }
def OctetPartsSaid : Prop := octetPartsRow.holds Try.pinned (OpenSpec.ofChange octetPartsSpec)

/-- ITS FALSE NEIGHBOUR: 'it returns false'. Refute it at one input. -/
def octetPartsWrong : ChangeSpec := { name := "octetParts", fn := fun _ => fun
  | [d1, d2] => { results := [.lit (.bool false)], args := [d1, d2] }
  | _ => none }
def OctetPartsWrongFalsely : Prop := octetPartsRow.holds Try.pinned (OpenSpec.ofChange octetPartsWrong)

/-- 'fleuronlaw01.OctetSums': WHATEVER THE INPUT: true; the input reads as it did. -/
def octetSumsSpec : ChangeSpec := { name := "octetSums", fn := fun _ => fun
  | [d1, d2, d3] => { results := [.lit (.bool true)], args := [d1, d2, d3] }
  | _ => none }
def octetSumsRow : OpenClaim := { program := "ytfnbaepioignaaa", sum := "1432a96e872e00d59a5757b738792317c1ad7f080c02506daa3f88b0c4f20e32", func := "fleuron/fleuronlaw01.OctetSums", spec := "octetSums", unfollowed := true, recurses := true, apart := false }
def OctetSumsSaid : Prop := octetSumsRow.holds Try.pinned (OpenSpec.ofChange octetSumsSpec)

/-- ITS FALSE NEIGHBOUR: 'it returns false'. Refute it at one input. -/
def octetSumsWrong : ChangeSpec := { name := "octetSums", fn := fun _ => fun
  | [d1, d2, d3] => { results := [.lit (.bool false)], args := [d1, d2, d3] }
  | _ => none }
def OctetSumsWrongFalsely : Prop := octetSumsRow.holds Try.pinned (OpenSpec.ofChange octetSumsWrong)

/-- 'fleuronlaw01.OctetSees': WHATEVER THE INPUT: true; the input reads as it did. -/
def octetSeesSpec : ChangeSpec := { name := "octetSees", fn := fun _ => fun
  | [d1, d2, d3] => { results := [.lit (.bool true)], args := [d1, d2, d3] }
  | _ => none }
def octetSeesRow : OpenClaim := { program := "ytfnbaepioignaaa", sum := "1432a96e872e00d59a5757b738792317c1ad7f080c02506daa3f88b0c4f20e32", func := "fleuron/fleuronlaw01.OctetSees", spec := "octetSees", unfollowed := true, recurses := true, apart := false }
def OctetSeesSaid : Prop := octetSeesRow.holds Try.pinned (OpenSpec.ofChange octetSeesSpec)

/-- ITS FALSE NEIGHBOUR: 'it returns false'. Refute it at one input. -/
def octetSeesWrong : ChangeSpec := { name := "octetSees", fn := fun _ => fun
  | [d1, d2, d3] => { results := [.lit (.bool false)], args := [d1, d2, d3] }
  | _ => none }
def OctetSeesWrongFalsely : Prop := octetSeesRow.holds Try.pinned (OpenSpec.ofChange octetSeesWrong)

/-- 'fleuronlaw01.OctetAll': WHATEVER THE INPUT: true; the input reads as it did. -/
def octetAllSpec : ChangeSpec := { name := "octetAll", fn := fun _ => fun
  | [d1, d2, d3] => { results := [.lit (.bool true)], args := [d1, d2, d3] }
  | _ => none }
def octetAllRow : OpenClaim := { program := "ytfnbaepioignaaa", sum := "1432a96e872e00d59a5757b738792317c1ad7f080c02506daa3f88b0c4f20e32", func := "fleuron/fleuronlaw01.OctetAll", spec := "octetAll", unfollowed := true, recurses := true, apart := false }
def OctetAllSaid : Prop := octetAllRow.holds Try.pinned (OpenSpec.ofChange octetAllSpec)

/-- ITS FALSE NEIGHBOUR: 'it returns false'. Refute it at one input. -/
def octetAllWrong : ChangeSpec := { name := "octetAll", fn := fun _ => fun
  | [d1, d2, d3] => { results := [.lit (.bool false)], args := [d1, d2, d3] }
  | _ => none }
def OctetAllWrongFalsely : Prop := octetAllRow.holds Try.pinned (OpenSpec.ofChange octetAllWrong)

/-- 'fleuronlaw01.OctetBack': WHATEVER THE INPUT: true; the input reads as it did. -/
def octetBackSpec : ChangeSpec := { name := "octetBack", fn := fun _ => fun
  | [d1, d2] => { results := [.lit (.bool true)], args := [d1, d2] }
  | _ => none }
def octetBackRow : OpenClaim := { program := "ytfnbaepioignaaa", sum := "1432a96e872e00d59a5757b738792317c1ad7f080c02506daa3f88b0c4f20e32", func := "fleuron/fleuronlaw01.OctetBack", spec := "octetBack", unfollowed := true, recurses := true, apart := false }
def OctetBackSaid : Prop := octetBackRow.holds Try.pinned (OpenSpec.ofChange octetBackSpec)

/-- ITS FALSE NEIGHBOUR: 'it returns false'. Refute it at one input. -/
def octetBackWrong : ChangeSpec := { name := "octetBack", fn := fun _ => fun
  | [d1, d2] => { results := [.lit (.bool false)], args := [d1, d2] }
  | _ => none }
def OctetBackWrongFalsely : Prop := octetBackRow.holds Try.pinned (OpenSpec.ofChange octetBackWrong)

/-- 'fleuronlaw01.OctetPlays': WHATEVER THE INPUT: true; the input reads as it did. -/
def octetPlaysSpec : ChangeSpec := { name := "octetPlays", fn := fun _ => fun
  | [d1, d2] => { results := [.lit (.bool true)], args := [d1, d2] }
  | _ => none }
def octetPlaysRow : OpenClaim := { program := "ytfnbaepioignaaa", sum := "1432a96e872e00d59a5757b738792317c1ad7f080c02506daa3f88b0c4f20e32", func := "fleuron/fleuronlaw01.OctetPlays", spec := "octetPlays", unfollowed := true, recurses := true, apart := false }
def OctetPlaysSaid : Prop := octetPlaysRow.holds Try.pinned (OpenSpec.ofChange octetPlaysSpec)

/-- ITS FALSE NEIGHBOUR: 'it returns false'. Refute it at one input. -/
def octetPlaysWrong : ChangeSpec := { name := "octetPlays", fn := fun _ => fun
  | [d1, d2] => { results := [.lit (.bool false)], args := [d1, d2] }
  | _ => none }
def OctetPlaysWrongFalsely : Prop := octetPlaysRow.holds Try.pinned (OpenSpec.ofChange octetPlaysWrong)

/-- 'fleuronlaw01.OctetTexts': WHATEVER THE INPUT: true; the input reads as it did. -/
def octetTextsSpec : ChangeSpec := { name := "octetTexts", fn := fun _ => fun
  | [d] => { results := [.lit (.bool true)], args := [d] }
  | _ => none }
def octetTextsRow : OpenClaim := { program := "ytfnbaepioignaaa", sum := "1432a96e872e00d59a5757b738792317c1ad7f080c02506daa3f88b0c4f20e32", func := "fleuron/fleuronlaw01.OctetTexts", spec := "octetTexts", unfollowed := true, recurses := true, apart := false }
def OctetTextsSaid : Prop := octetTextsRow.holds Try.pinned (OpenSpec.ofChange octetTextsSpec)

/-- ITS FALSE NEIGHBOUR: 'it returns false'. Refute it at one input. -/
def octetTextsWrong : ChangeSpec := { name := "octetTexts", fn := fun _ => fun
  | [d] => { results := [.lit (.bool false)], args := [d] }
  | _ => none }
def OctetTextsWrongFalsely : Prop := octetTextsRow.holds Try.pinned (OpenSpec.ofChange octetTextsWrong)

/-- 'fleuronlaw01.OctetFails': WHATEVER THE INPUT: true; the input reads as it did. -/
def octetFailsSpec : ChangeSpec := { name := "octetFails", fn := fun _ => fun
  | [d1, d2, d3] => { results := [.lit (.bool true)], args := [d1, d2, d3] }
  | _ => none }
def octetFailsRow : OpenClaim := { program := "ytfnbaepioignaaa", sum := "1432a96e872e00d59a5757b738792317c1ad7f080c02506daa3f88b0c4f20e32", func := "fleuron/fleuronlaw01.OctetFails", spec := "octetFails", unfollowed := true, recurses := true, apart := false }
def OctetFailsSaid : Prop := octetFailsRow.holds Try.pinned (OpenSpec.ofChange octetFailsSpec)

/-- ITS FALSE NEIGHBOUR: 'it returns false'. Refute it at one input. -/
def octetFailsWrong : ChangeSpec := { name := "octetFails", fn := fun _ => fun
  | [d1, d2, d3] => { results := [.lit (.bool false)], args := [d1, d2, d3] }
  | _ => none }
def OctetFailsWrongFalsely : Prop := octetFailsRow.holds Try.pinned (OpenSpec.ofChange octetFailsWrong)

/-- 'fleuronlaw01.OctetNil': WHATEVER THE INPUT: true; the input reads as it did. -/
def octetNilSpec : ChangeSpec := { name := "octetNil", fn := fun _ => fun
  | [d1, d2] => { results := [.lit (.bool true)], args := [d1, d2] }
  | _ => none }
def octetNilRow : OpenClaim := { program := "ytfnbaepioignaaa", sum := "1432a96e872e00d59a5757b738792317c1ad7f080c02506daa3f88b0c4f20e32", func := "fleuron/fleuronlaw01.OctetNil", spec := "octetNil", unfollowed := true, recurses := true, apart := false }
def OctetNilSaid : Prop := octetNilRow.holds Try.pinned (OpenSpec.ofChange octetNilSpec)

/-- ITS FALSE NEIGHBOUR: 'it returns false'. Refute it at one input. -/
def octetNilWrong : ChangeSpec := { name := "octetNil", fn := fun _ => fun
  | [d1, d2] => { results := [.lit (.bool false)], args := [d1, d2] }
  | _ => none }
def OctetNilWrongFalsely : Prop := octetNilRow.holds Try.pinned (OpenSpec.ofChange octetNilWrong)

/- THE SECOND FORM. 'bulk': how many values and letters a reading holds, each counted each time it is reached (what is shared counts as often as it is met; a slice's spare places count too). A statement '..UptoSaid' is the law's where the arguments, and the package variables that the reading takes, are together of bulk at most 1048576: NARROWER than '..Said'. Prove '..Said' where nothing that the law and all that it calls make is longer than what came in: it says more and counts as full. Else prove '..UptoSaid'. A law counts once. -/
mutual
def uptoBulk {H : Type} : DataW H → Nat
  | .lit (.string bytes) => bytes.length + 1
  | .lit _ => 1
  | .nil => 1
  | .ptr d => uptoBulk d + 1
  | .slice elems spare => uptoBulkAll elems + uptoBulkAll spare + 1
  | .agg parts => uptoBulkAll parts + 1
  | .iface _ d => uptoBulk d + 1
  | .map entries => uptoBulkEntries entries + 1
  | .held _ => 1
def uptoBulkAll {H : Type} : List (DataW H) → Nat
  | [] => 0
  | d :: r => uptoBulk d + uptoBulkAll r
def uptoBulkEntries {H : Type} : List (Lit × DataW H) → Nat
  | [] => 0
  | x :: r => uptoBulkEntry x + uptoBulkEntries r
def uptoBulkEntry {H : Type} : Lit × DataW H → Nat
  | (.string bytes, d) => bytes.length + uptoBulk d + 1
  | (_, d) => uptoBulk d + 1
 end
def uptoSmall : (H : Type) → List (DataW H) → Bool := fun _ ds => decide (uptoBulkAll ds ≤ 1048576)
def OpenSpec.upto (s : _root_.Go.ChangeSpec) : _root_.Go.OpenSpec := { _root_.Go.OpenSpec.ofChange s with cond := some uptoSmall }

/-- 'fleuronlaw01.OctetParts', WHERE WHAT IT READS IS OF BULK AT MOST 1048576: true; the input reads as it did. -/
def octetPartsUptoRow : OpenClaim := { program := "ytfnbaepioignaaa", sum := "1432a96e872e00d59a5757b738792317c1ad7f080c02506daa3f88b0c4f20e32", func := "fleuron/fleuronlaw01.OctetParts", spec := "octetParts", unfollowed := true, recurses := true, apart := false, narrowed := true }
def OctetPartsUptoSaid : Prop := octetPartsUptoRow.holds Try.pinned (OpenSpec.upto octetPartsSpec)

/-- 'fleuronlaw01.OctetSums', WHERE WHAT IT READS IS OF BULK AT MOST 1048576: true; the input reads as it did. -/
def octetSumsUptoRow : OpenClaim := { program := "ytfnbaepioignaaa", sum := "1432a96e872e00d59a5757b738792317c1ad7f080c02506daa3f88b0c4f20e32", func := "fleuron/fleuronlaw01.OctetSums", spec := "octetSums", unfollowed := true, recurses := true, apart := false, narrowed := true }
def OctetSumsUptoSaid : Prop := octetSumsUptoRow.holds Try.pinned (OpenSpec.upto octetSumsSpec)

/-- 'fleuronlaw01.OctetSees', WHERE WHAT IT READS IS OF BULK AT MOST 1048576: true; the input reads as it did. -/
def octetSeesUptoRow : OpenClaim := { program := "ytfnbaepioignaaa", sum := "1432a96e872e00d59a5757b738792317c1ad7f080c02506daa3f88b0c4f20e32", func := "fleuron/fleuronlaw01.OctetSees", spec := "octetSees", unfollowed := true, recurses := true, apart := false, narrowed := true }
def OctetSeesUptoSaid : Prop := octetSeesUptoRow.holds Try.pinned (OpenSpec.upto octetSeesSpec)

/-- 'fleuronlaw01.OctetAll', WHERE WHAT IT READS IS OF BULK AT MOST 1048576: true; the input reads as it did. -/
def octetAllUptoRow : OpenClaim := { program := "ytfnbaepioignaaa", sum := "1432a96e872e00d59a5757b738792317c1ad7f080c02506daa3f88b0c4f20e32", func := "fleuron/fleuronlaw01.OctetAll", spec := "octetAll", unfollowed := true, recurses := true, apart := false, narrowed := true }
def OctetAllUptoSaid : Prop := octetAllUptoRow.holds Try.pinned (OpenSpec.upto octetAllSpec)

/-- 'fleuronlaw01.OctetBack', WHERE WHAT IT READS IS OF BULK AT MOST 1048576: true; the input reads as it did. -/
def octetBackUptoRow : OpenClaim := { program := "ytfnbaepioignaaa", sum := "1432a96e872e00d59a5757b738792317c1ad7f080c02506daa3f88b0c4f20e32", func := "fleuron/fleuronlaw01.OctetBack", spec := "octetBack", unfollowed := true, recurses := true, apart := false, narrowed := true }
def OctetBackUptoSaid : Prop := octetBackUptoRow.holds Try.pinned (OpenSpec.upto octetBackSpec)

/-- 'fleuronlaw01.OctetPlays', WHERE WHAT IT READS IS OF BULK AT MOST 1048576: true; the input reads as it did. -/
def octetPlaysUptoRow : OpenClaim := { program := "ytfnbaepioignaaa", sum := "1432a96e872e00d59a5757b738792317c1ad7f080c02506daa3f88b0c4f20e32", func := "fleuron/fleuronlaw01.OctetPlays", spec := "octetPlays", unfollowed := true, recurses := true, apart := false, narrowed := true }
def OctetPlaysUptoSaid : Prop := octetPlaysUptoRow.holds Try.pinned (OpenSpec.upto octetPlaysSpec)

/-- 'fleuronlaw01.OctetTexts', WHERE WHAT IT READS IS OF BULK AT MOST 1048576: true; the input reads as it did. -/
def octetTextsUptoRow : OpenClaim := { program := "ytfnbaepioignaaa", sum := "1432a96e872e00d59a5757b738792317c1ad7f080c02506daa3f88b0c4f20e32", func := "fleuron/fleuronlaw01.OctetTexts", spec := "octetTexts", unfollowed := true, recurses := true, apart := false, narrowed := true }
def OctetTextsUptoSaid : Prop := octetTextsUptoRow.holds Try.pinned (OpenSpec.upto octetTextsSpec)

/-- 'fleuronlaw01.OctetFails', WHERE WHAT IT READS IS OF BULK AT MOST 1048576: true; the input reads as it did. -/
def octetFailsUptoRow : OpenClaim := { program := "ytfnbaepioignaaa", sum := "1432a96e872e00d59a5757b738792317c1ad7f080c02506daa3f88b0c4f20e32", func := "fleuron/fleuronlaw01.OctetFails", spec := "octetFails", unfollowed := true, recurses := true, apart := false, narrowed := true }
def OctetFailsUptoSaid : Prop := octetFailsUptoRow.holds Try.pinned (OpenSpec.upto octetFailsSpec)

/-- 'fleuronlaw01.OctetNil', WHERE WHAT IT READS IS OF BULK AT MOST 1048576: true; the input reads as it did. -/
def octetNilUptoRow : OpenClaim := { program := "ytfnbaepioignaaa", sum := "1432a96e872e00d59a5757b738792317c1ad7f080c02506daa3f88b0c4f20e32", func := "fleuron/fleuronlaw01.OctetNil", spec := "octetNil", unfollowed := true, recurses := true, apart := false, narrowed := true }
def OctetNilUptoSaid : Prop := octetNilUptoRow.holds Try.pinned (OpenSpec.upto octetNilSpec)

end Rows
end Go.Proofs.Ytfnbaepioignaaa
