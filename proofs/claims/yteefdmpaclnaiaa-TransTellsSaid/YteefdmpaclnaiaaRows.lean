/-
  No cell of these rows narrows 'for every input' (looked for: loops, veiled, ifaces, maps, wideKeys, modest, calm, conditions, laid).
  DERIVED. THE GIVEN ROWS OF THIS SEAT. 7 by the template 'for every input the law returns true; each argument reads behind the call as it read before'; 0 by the template 'total and deterministic' (their statements: YteefdmpaclnaiaaTotals.lean).
  GIVEN WITH THE SEED: the statements are not yours to turn. If you find one false, say at which input.
  Laid BY PROGRAM, IN A SANDBOX (cutbox-rows.mjs): the forced cells as the released guide's own fill.sh prints them over the translation 77dc21d348828457… (all of the seat's roots in one cut). By AI agents, Wed Nov 11 2026. No macro, syntax, notation, axiom, sorry.
-/
import Derived.Test.YteefdmpaclnaiaaChecked
import GoSem.Claim
import GoSem.ClaimJoined
import GoSem.ClaimMapViews
import Derived.JoinedTies
import Derived.KernelRfl
namespace Go.Proofs.Yteefdmpaclnaiaa
/- THE CELL 'sum', in the pinned program and in every row, IS THE sha256 OF THE DUMP (.gsa) THAT YteefdmpaclnaiaaProg.lean LOADS. Nothing in Lean hashes anything: it is a label: what it is worth is what the hold of that sum in a sandbox is worth. -/
noncomputable def Try.pinned : Pinned := { name := "yteefdmpaclnaiaa", sum := "77dc21d348828457626978d95ea9b40bebfe0376015283bf4578f083a75fd1c1", checked := Try.checked }
namespace Rows
def none {H : Type} : Left H := { results := [], args := [] }

/-- 'sorrellaw13.TransTells': WHATEVER THE INPUT: true; the input reads as it did. -/
def transTellsSpec : ChangeSpec := { name := "transTells", fn := fun _ => fun
  | [d1, d2, d3] => { results := [.lit (.bool true)], args := [d1, d2, d3] }
  | _ => none }
def transTellsRow : OpenClaim := { program := "yteefdmpaclnaiaa", sum := "77dc21d348828457626978d95ea9b40bebfe0376015283bf4578f083a75fd1c1", func := "sorrel/sorrellaw13.TransTells", spec := "transTells", inPlace := ["slices.overlaps[[]sorrel/api.Cell]"], unfollowed := true, recurses := true, apart := false }
def TransTellsSaid : Prop := transTellsRow.holds Try.pinned (OpenSpec.ofChange transTellsSpec)

/-- ITS FALSE NEIGHBOUR: 'it returns false'. Refute it at one input. -/
def transTellsWrong : ChangeSpec := { name := "transTells", fn := fun _ => fun
  | [d1, d2, d3] => { results := [.lit (.bool false)], args := [d1, d2, d3] }
  | _ => none }
def TransTellsWrongFalsely : Prop := transTellsRow.holds Try.pinned (OpenSpec.ofChange transTellsWrong)

/-- 'sorrellaw13.TransStays': WHATEVER THE INPUT: true; the input reads as it did. -/
def transStaysSpec : ChangeSpec := { name := "transStays", fn := fun _ => fun
  | [d1, d2] => { results := [.lit (.bool true)], args := [d1, d2] }
  | _ => none }
def transStaysRow : OpenClaim := { program := "yteefdmpaclnaiaa", sum := "77dc21d348828457626978d95ea9b40bebfe0376015283bf4578f083a75fd1c1", func := "sorrel/sorrellaw13.TransStays", spec := "transStays", inPlace := ["slices.overlaps[[]sorrel/api.Cell]"], unfollowed := true, recurses := true, apart := false }
def TransStaysSaid : Prop := transStaysRow.holds Try.pinned (OpenSpec.ofChange transStaysSpec)

/-- ITS FALSE NEIGHBOUR: 'it returns false'. Refute it at one input. -/
def transStaysWrong : ChangeSpec := { name := "transStays", fn := fun _ => fun
  | [d1, d2] => { results := [.lit (.bool false)], args := [d1, d2] }
  | _ => none }
def TransStaysWrongFalsely : Prop := transStaysRow.holds Try.pinned (OpenSpec.ofChange transStaysWrong)

/-- 'sorrellaw13.TransTurned': WHATEVER THE INPUT: true; the input reads as it did. -/
def transTurnedSpec : ChangeSpec := { name := "transTurned", fn := fun _ => fun
  | [d1, d2] => { results := [.lit (.bool true)], args := [d1, d2] }
  | _ => none }
def transTurnedRow : OpenClaim := { program := "yteefdmpaclnaiaa", sum := "77dc21d348828457626978d95ea9b40bebfe0376015283bf4578f083a75fd1c1", func := "sorrel/sorrellaw13.TransTurned", spec := "transTurned", inPlace := ["slices.overlaps[[]sorrel/api.Cell]"], unfollowed := true, recurses := true, apart := false }
def TransTurnedSaid : Prop := transTurnedRow.holds Try.pinned (OpenSpec.ofChange transTurnedSpec)

/-- ITS FALSE NEIGHBOUR: 'it returns false'. Refute it at one input. -/
def transTurnedWrong : ChangeSpec := { name := "transTurned", fn := fun _ => fun
  | [d1, d2] => { results := [.lit (.bool false)], args := [d1, d2] }
  | _ => none }
def TransTurnedWrongFalsely : Prop := transTurnedRow.holds Try.pinned (OpenSpec.ofChange transTurnedWrong)

/-- 'sorrellaw13.TransParts': WHATEVER THE INPUT: true; the input reads as it did. -/
def transPartsSpec : ChangeSpec := { name := "transParts", fn := fun _ => fun
  | [d1, d2, d3] => { results := [.lit (.bool true)], args := [d1, d2, d3] }
  | _ => none }
def transPartsRow : OpenClaim := { program := "yteefdmpaclnaiaa", sum := "77dc21d348828457626978d95ea9b40bebfe0376015283bf4578f083a75fd1c1", func := "sorrel/sorrellaw13.TransParts", spec := "transParts", inPlace := ["slices.overlaps[[]sorrel/api.Cell]"], unfollowed := true, recurses := true, apart := false }
def TransPartsSaid : Prop := transPartsRow.holds Try.pinned (OpenSpec.ofChange transPartsSpec)

/-- ITS FALSE NEIGHBOUR: 'it returns false'. Refute it at one input. -/
def transPartsWrong : ChangeSpec := { name := "transParts", fn := fun _ => fun
  | [d1, d2, d3] => { results := [.lit (.bool false)], args := [d1, d2, d3] }
  | _ => none }
def TransPartsWrongFalsely : Prop := transPartsRow.holds Try.pinned (OpenSpec.ofChange transPartsWrong)

/-- 'sorrellaw13.TransFull': WHATEVER THE INPUT: true; the input reads as it did. -/
def transFullSpec : ChangeSpec := { name := "transFull", fn := fun _ => fun
  | [d1, d2, d3] => { results := [.lit (.bool true)], args := [d1, d2, d3] }
  | _ => none }
def transFullRow : OpenClaim := { program := "yteefdmpaclnaiaa", sum := "77dc21d348828457626978d95ea9b40bebfe0376015283bf4578f083a75fd1c1", func := "sorrel/sorrellaw13.TransFull", spec := "transFull", inPlace := ["slices.overlaps[[]sorrel/api.Cell]"], unfollowed := true, recurses := true, apart := false }
def TransFullSaid : Prop := transFullRow.holds Try.pinned (OpenSpec.ofChange transFullSpec)

/-- ITS FALSE NEIGHBOUR: 'it returns false'. Refute it at one input. -/
def transFullWrong : ChangeSpec := { name := "transFull", fn := fun _ => fun
  | [d1, d2, d3] => { results := [.lit (.bool false)], args := [d1, d2, d3] }
  | _ => none }
def TransFullWrongFalsely : Prop := transFullRow.holds Try.pinned (OpenSpec.ofChange transFullWrong)

/-- 'sorrellaw13.TransCame': WHATEVER THE INPUT: true; the input reads as it did. -/
def transCameSpec : ChangeSpec := { name := "transCame", fn := fun _ => fun
  | [d1, d2] => { results := [.lit (.bool true)], args := [d1, d2] }
  | _ => none }
def transCameRow : OpenClaim := { program := "yteefdmpaclnaiaa", sum := "77dc21d348828457626978d95ea9b40bebfe0376015283bf4578f083a75fd1c1", func := "sorrel/sorrellaw13.TransCame", spec := "transCame", inPlace := ["slices.overlaps[[]sorrel/api.Cell]"], unfollowed := true, recurses := true, apart := false }
def TransCameSaid : Prop := transCameRow.holds Try.pinned (OpenSpec.ofChange transCameSpec)

/-- ITS FALSE NEIGHBOUR: 'it returns false'. Refute it at one input. -/
def transCameWrong : ChangeSpec := { name := "transCame", fn := fun _ => fun
  | [d1, d2] => { results := [.lit (.bool false)], args := [d1, d2] }
  | _ => none }
def TransCameWrongFalsely : Prop := transCameRow.holds Try.pinned (OpenSpec.ofChange transCameWrong)

/-- 'sorrellaw13.TransLast': WHATEVER THE INPUT: true; the input reads as it did. -/
def transLastSpec : ChangeSpec := { name := "transLast", fn := fun _ => fun
  | [d1, d2] => { results := [.lit (.bool true)], args := [d1, d2] }
  | _ => none }
def transLastRow : OpenClaim := { program := "yteefdmpaclnaiaa", sum := "77dc21d348828457626978d95ea9b40bebfe0376015283bf4578f083a75fd1c1", func := "sorrel/sorrellaw13.TransLast", spec := "transLast", inPlace := ["slices.overlaps[[]sorrel/api.Cell]"], unfollowed := true, recurses := true, apart := false }
def TransLastSaid : Prop := transLastRow.holds Try.pinned (OpenSpec.ofChange transLastSpec)

/-- ITS FALSE NEIGHBOUR: 'it returns false'. Refute it at one input. -/
def transLastWrong : ChangeSpec := { name := "transLast", fn := fun _ => fun
  | [d1, d2] => { results := [.lit (.bool false)], args := [d1, d2] }
  | _ => none }
def TransLastWrongFalsely : Prop := transLastRow.holds Try.pinned (OpenSpec.ofChange transLastWrong)

/- THE SECOND FORM. 'bulk': how many values and letters a reading holds, each counted each time it is reached (what is shared counts as often as it is met; a slice's spare places count too). A statement '..UptoSaid' is the law's where the arguments, and the package variables that the reading takes, are together of bulk at most 1048576: NARROWER than '..Said'. Prove '..Said' where nothing that the law and all that it calls make is longer than what came in: it says more and counts as full. Else prove '..UptoSaid'. A law counts once. -/
mutual
def uptoBulk {H : Type} : DataW H → Nat
  | .lit (.string bytes) => bytes.length + 1
  | .lit _ => 1
  | .nil => 1
  | .ptr d => uptoBulk d + 1
  | .slice elems spare => uptoBulkAll elems + uptoBulkAll spare + 1
  | .agg parts => uptoBulkAll parts + 1
  | .iface _ d => uptoBulk d + 1
  | .map entries => uptoBulkEntries entries + 1
  | .held _ => 1
def uptoBulkAll {H : Type} : List (DataW H) → Nat
  | [] => 0
  | d :: r => uptoBulk d + uptoBulkAll r
def uptoBulkEntries {H : Type} : List (Lit × DataW H) → Nat
  | [] => 0
  | x :: r => uptoBulkEntry x + uptoBulkEntries r
def uptoBulkEntry {H : Type} : Lit × DataW H → Nat
  | (.string bytes, d) => bytes.length + uptoBulk d + 1
  | (_, d) => uptoBulk d + 1
 end
def uptoSmall : (H : Type) → List (DataW H) → Bool := fun _ ds => decide (uptoBulkAll ds ≤ 1048576)
def OpenSpec.upto (s : _root_.Go.ChangeSpec) : _root_.Go.OpenSpec := { _root_.Go.OpenSpec.ofChange s with cond := some uptoSmall }

/-- 'sorrellaw13.TransTells', WHERE WHAT IT READS IS OF BULK AT MOST 1048576: true; the input reads as it did. -/
def transTellsUptoRow : OpenClaim := { program := "yteefdmpaclnaiaa", sum := "77dc21d348828457626978d95ea9b40bebfe0376015283bf4578f083a75fd1c1", func := "sorrel/sorrellaw13.TransTells", spec := "transTells", inPlace := ["slices.overlaps[[]sorrel/api.Cell]"], unfollowed := true, recurses := true, apart := false, narrowed := true }
def TransTellsUptoSaid : Prop := transTellsUptoRow.holds Try.pinned (OpenSpec.upto transTellsSpec)

/-- 'sorrellaw13.TransStays', WHERE WHAT IT READS IS OF BULK AT MOST 1048576: true; the input reads as it did. -/
def transStaysUptoRow : OpenClaim := { program := "yteefdmpaclnaiaa", sum := "77dc21d348828457626978d95ea9b40bebfe0376015283bf4578f083a75fd1c1", func := "sorrel/sorrellaw13.TransStays", spec := "transStays", inPlace := ["slices.overlaps[[]sorrel/api.Cell]"], unfollowed := true, recurses := true, apart := false, narrowed := true }
def TransStaysUptoSaid : Prop := transStaysUptoRow.holds Try.pinned (OpenSpec.upto transStaysSpec)

/-- 'sorrellaw13.TransTurned', WHERE WHAT IT READS IS OF BULK AT MOST 1048576: true; the input reads as it did. -/
def transTurnedUptoRow : OpenClaim := { program := "yteefdmpaclnaiaa", sum := "77dc21d348828457626978d95ea9b40bebfe0376015283bf4578f083a75fd1c1", func := "sorrel/sorrellaw13.TransTurned", spec := "transTurned", inPlace := ["slices.overlaps[[]sorrel/api.Cell]"], unfollowed := true, recurses := true, apart := false, narrowed := true }
def TransTurnedUptoSaid : Prop := transTurnedUptoRow.holds Try.pinned (OpenSpec.upto transTurnedSpec)

/-- 'sorrellaw13.TransParts', WHERE WHAT IT READS IS OF BULK AT MOST 1048576: true; the input reads as it did. -/
def transPartsUptoRow : OpenClaim := { program := "yteefdmpaclnaiaa", sum := "77dc21d348828457626978d95ea9b40bebfe0376015283bf4578f083a75fd1c1", func := "sorrel/sorrellaw13.TransParts", spec := "transParts", inPlace := ["slices.overlaps[[]sorrel/api.Cell]"], unfollowed := true, recurses := true, apart := false, narrowed := true }
def TransPartsUptoSaid : Prop := transPartsUptoRow.holds Try.pinned (OpenSpec.upto transPartsSpec)

/-- 'sorrellaw13.TransFull', WHERE WHAT IT READS IS OF BULK AT MOST 1048576: true; the input reads as it did. -/
def transFullUptoRow : OpenClaim := { program := "yteefdmpaclnaiaa", sum := "77dc21d348828457626978d95ea9b40bebfe0376015283bf4578f083a75fd1c1", func := "sorrel/sorrellaw13.TransFull", spec := "transFull", inPlace := ["slices.overlaps[[]sorrel/api.Cell]"], unfollowed := true, recurses := true, apart := false, narrowed := true }
def TransFullUptoSaid : Prop := transFullUptoRow.holds Try.pinned (OpenSpec.upto transFullSpec)

/-- 'sorrellaw13.TransCame', WHERE WHAT IT READS IS OF BULK AT MOST 1048576: true; the input reads as it did. -/
def transCameUptoRow : OpenClaim := { program := "yteefdmpaclnaiaa", sum := "77dc21d348828457626978d95ea9b40bebfe0376015283bf4578f083a75fd1c1", func := "sorrel/sorrellaw13.TransCame", spec := "transCame", inPlace := ["slices.overlaps[[]sorrel/api.Cell]"], unfollowed := true, recurses := true, apart := false, narrowed := true }
def TransCameUptoSaid : Prop := transCameUptoRow.holds Try.pinned (OpenSpec.upto transCameSpec)

/-- 'sorrellaw13.TransLast', WHERE WHAT IT READS IS OF BULK AT MOST 1048576: true; the input reads as it did. -/
def transLastUptoRow : OpenClaim := { program := "yteefdmpaclnaiaa", sum := "77dc21d348828457626978d95ea9b40bebfe0376015283bf4578f083a75fd1c1", func := "sorrel/sorrellaw13.TransLast", spec := "transLast", inPlace := ["slices.overlaps[[]sorrel/api.Cell]"], unfollowed := true, recurses := true, apart := false, narrowed := true }
def TransLastUptoSaid : Prop := transLastUptoRow.holds Try.pinned (OpenSpec.upto transLastSpec)

end Rows
end Go.Proofs.Yteefdmpaclnaiaa
