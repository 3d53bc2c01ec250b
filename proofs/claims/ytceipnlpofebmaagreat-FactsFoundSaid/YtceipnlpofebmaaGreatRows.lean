/-
  No cell of these rows narrows 'for every input' (looked for: loops, veiled, ifaces, maps, wideKeys, modest, calm, conditions, laid).
  DERIVED. THE GIVEN ROWS OF THIS SEAT. 6 by the template 'for every input the law returns true; each argument reads behind the call as it read before'; 0 by the template 'total and deterministic' (their statements: YtceipnlpofebmaaGreatTotals.lean).
  GIVEN WITH THE SEED: the statements are not yours to turn. If you find one false, say at which input.
  Laid BY PROGRAM, IN A SANDBOX (cutbox-rows.mjs): the forced cells as the released guide's own fill.sh prints them over the translation d7c6e88ddc827f85… (all of the seat's roots in one cut). By AI agents, Wed Nov 11 2026. No macro, syntax, notation, axiom, sorry.
-/
import Derived.Test.YtceipnlpofebmaaGreatChecked
import GoSem.Claim
import GoSem.ClaimJoined
import GoSem.ClaimMapViews
import Derived.JoinedTies
import Derived.KernelRfl
namespace Go.Proofs.YtceipnlpofebmaaGreat
/- THE CELL 'sum', in the pinned program and in every row, IS THE sha256 OF THE DUMP (.gsa) THAT YtceipnlpofebmaaGreatProg.lean LOADS. Nothing in Lean hashes anything: it is a label: what it is worth is what the hold of that sum in a sandbox is worth. -/
noncomputable def Tryz.pinned : Pinned := { name := "ytceipnlpofebmaagreat", sum := "d7c6e88ddc827f858e4453e27cf72bcb2b732d4cf240d6796753b3dba6664a37", checked := Tryz.checked }
namespace Rows
def none {H : Type} : Left H := { results := [], args := [] }

/-- 'sorrellaw12.FactsTells': WHATEVER THE INPUT: true; the input reads as it did. -/
def factsTellsSpec : ChangeSpec := { name := "factsTells", fn := fun _ => fun
  | [d1, d2, d3] => { results := [.lit (.bool true)], args := [d1, d2, d3] }
  | _ => none }
def factsTellsRow : OpenClaim := { program := "ytceipnlpofebmaagreat", sum := "d7c6e88ddc827f858e4453e27cf72bcb2b732d4cf240d6796753b3dba6664a37", func := "sorrel/sorrellaw12.FactsTells", spec := "factsTells", inPlace := ["slices.overlaps[[]sorrel/api.Cell]"], unfollowed := true, recurses := true, apart := false }
def FactsTellsSaid : Prop := factsTellsRow.holds Tryz.pinned (OpenSpec.ofChange factsTellsSpec)

/-- ITS FALSE NEIGHBOUR: 'it returns false'. Refute it at one input. -/
def factsTellsWrong : ChangeSpec := { name := "factsTells", fn := fun _ => fun
  | [d1, d2, d3] => { results := [.lit (.bool false)], args := [d1, d2, d3] }
  | _ => none }
def FactsTellsWrongFalsely : Prop := factsTellsRow.holds Tryz.pinned (OpenSpec.ofChange factsTellsWrong)

/-- 'sorrellaw12.FactsSet': WHATEVER THE INPUT: true; the input reads as it did. -/
def factsSetSpec : ChangeSpec := { name := "factsSet", fn := fun _ => fun
  | [d1, d2, d3] => { results := [.lit (.bool true)], args := [d1, d2, d3] }
  | _ => none }
def factsSetRow : OpenClaim := { program := "ytceipnlpofebmaagreat", sum := "d7c6e88ddc827f858e4453e27cf72bcb2b732d4cf240d6796753b3dba6664a37", func := "sorrel/sorrellaw12.FactsSet", spec := "factsSet", inPlace := ["slices.overlaps[[]sorrel/api.Cell]"], unfollowed := true, recurses := true, apart := false }
def FactsSetSaid : Prop := factsSetRow.holds Tryz.pinned (OpenSpec.ofChange factsSetSpec)

/-- ITS FALSE NEIGHBOUR: 'it returns false'. Refute it at one input. -/
def factsSetWrong : ChangeSpec := { name := "factsSet", fn := fun _ => fun
  | [d1, d2, d3] => { results := [.lit (.bool false)], args := [d1, d2, d3] }
  | _ => none }
def FactsSetWrongFalsely : Prop := factsSetRow.holds Tryz.pinned (OpenSpec.ofChange factsSetWrong)

/-- 'sorrellaw12.FactsFound': WHATEVER THE INPUT: true; the input reads as it did. -/
def factsFoundSpec : ChangeSpec := { name := "factsFound", fn := fun _ => fun
  | [d1, d2, d3] => { results := [.lit (.bool true)], args := [d1, d2, d3] }
  | _ => none }
def factsFoundRow : OpenClaim := { program := "ytceipnlpofebmaagreat", sum := "d7c6e88ddc827f858e4453e27cf72bcb2b732d4cf240d6796753b3dba6664a37", func := "sorrel/sorrellaw12.FactsFound", spec := "factsFound", inPlace := ["slices.overlaps[[]sorrel/api.Cell]"], unfollowed := true, recurses := true, apart := false }
def FactsFoundSaid : Prop := factsFoundRow.holds Tryz.pinned (OpenSpec.ofChange factsFoundSpec)

/-- ITS FALSE NEIGHBOUR: 'it returns false'. Refute it at one input. -/
def factsFoundWrong : ChangeSpec := { name := "factsFound", fn := fun _ => fun
  | [d1, d2, d3] => { results := [.lit (.bool false)], args := [d1, d2, d3] }
  | _ => none }
def FactsFoundWrongFalsely : Prop := factsFoundRow.holds Tryz.pinned (OpenSpec.ofChange factsFoundWrong)

/-- 'sorrellaw12.FactsAll': WHATEVER THE INPUT: true; the input reads as it did. -/
def factsAllSpec : ChangeSpec := { name := "factsAll", fn := fun _ => fun
  | [d1, d2, d3] => { results := [.lit (.bool true)], args := [d1, d2, d3] }
  | _ => none }
def factsAllRow : OpenClaim := { program := "ytceipnlpofebmaagreat", sum := "d7c6e88ddc827f858e4453e27cf72bcb2b732d4cf240d6796753b3dba6664a37", func := "sorrel/sorrellaw12.FactsAll", spec := "factsAll", inPlace := ["slices.overlaps[[]sorrel/api.Cell]"], unfollowed := true, recurses := true, apart := false }
def FactsAllSaid : Prop := factsAllRow.holds Tryz.pinned (OpenSpec.ofChange factsAllSpec)

/-- ITS FALSE NEIGHBOUR: 'it returns false'. Refute it at one input. -/
def factsAllWrong : ChangeSpec := { name := "factsAll", fn := fun _ => fun
  | [d1, d2, d3] => { results := [.lit (.bool false)], args := [d1, d2, d3] }
  | _ => none }
def FactsAllWrongFalsely : Prop := factsAllRow.holds Tryz.pinned (OpenSpec.ofChange factsAllWrong)

/-- 'sorrellaw12.FactsDiff': WHATEVER THE INPUT: true; the input reads as it did. -/
def factsDiffSpec : ChangeSpec := { name := "factsDiff", fn := fun _ => fun
  | [d1, d2] => { results := [.lit (.bool true)], args := [d1, d2] }
  | _ => none }
def factsDiffRow : OpenClaim := { program := "ytceipnlpofebmaagreat", sum := "d7c6e88ddc827f858e4453e27cf72bcb2b732d4cf240d6796753b3dba6664a37", func := "sorrel/sorrellaw12.FactsDiff", spec := "factsDiff", inPlace := ["slices.overlaps[[]sorrel/api.Cell]"], unfollowed := true, recurses := true, apart := false }
def FactsDiffSaid : Prop := factsDiffRow.holds Tryz.pinned (OpenSpec.ofChange factsDiffSpec)

/-- ITS FALSE NEIGHBOUR: 'it returns false'. Refute it at one input. -/
def factsDiffWrong : ChangeSpec := { name := "factsDiff", fn := fun _ => fun
  | [d1, d2] => { results := [.lit (.bool false)], args := [d1, d2] }
  | _ => none }
def FactsDiffWrongFalsely : Prop := factsDiffRow.holds Tryz.pinned (OpenSpec.ofChange factsDiffWrong)

/-- 'sorrellaw12.FactsBad': WHATEVER THE INPUT: true; the input reads as it did. -/
def factsBadSpec : ChangeSpec := { name := "factsBad", fn := fun _ => fun
  | [d1, d2] => { results := [.lit (.bool true)], args := [d1, d2] }
  | _ => none }
def factsBadRow : OpenClaim := { program := "ytceipnlpofebmaagreat", sum := "d7c6e88ddc827f858e4453e27cf72bcb2b732d4cf240d6796753b3dba6664a37", func := "sorrel/sorrellaw12.FactsBad", spec := "factsBad", inPlace := ["slices.overlaps[[]sorrel/api.Cell]"], unfollowed := true, recurses := true, apart := false }
def FactsBadSaid : Prop := factsBadRow.holds Tryz.pinned (OpenSpec.ofChange factsBadSpec)

/-- ITS FALSE NEIGHBOUR: 'it returns false'. Refute it at one input. -/
def factsBadWrong : ChangeSpec := { name := "factsBad", fn := fun _ => fun
  | [d1, d2] => { results := [.lit (.bool false)], args := [d1, d2] }
  | _ => none }
def FactsBadWrongFalsely : Prop := factsBadRow.holds Tryz.pinned (OpenSpec.ofChange factsBadWrong)

/- THE SECOND FORM. 'bulk': how many values and letters a reading holds, each counted each time it is reached (what is shared counts as often as it is met; a slice's spare places count too). A statement '..UptoSaid' is the law's where the arguments, and the package variables that the reading takes, are together of bulk at most 1048576: NARROWER than '..Said'. Prove '..Said' where nothing that the law and all that it calls make is longer than what came in: it says more and counts as full. Else prove '..UptoSaid'. A law counts once. -/
mutual
def uptoBulk {H : Type} : DataW H → Nat
  | .lit (.string bytes) => bytes.length + 1
  | .lit _ => 1
  | .nil => 1
  | .ptr d => uptoBulk d + 1
  | .slice elems spare => uptoBulkAll elems + uptoBulkAll spare + 1
  | .agg parts => uptoBulkAll parts + 1
  | .iface _ d => uptoBulk d + 1
  | .map entries => uptoBulkEntries entries + 1
  | .held _ => 1
def uptoBulkAll {H : Type} : List (DataW H) → Nat
  | [] => 0
  | d :: r => uptoBulk d + uptoBulkAll r
def uptoBulkEntries {H : Type} : List (Lit × DataW H) → Nat
  | [] => 0
  | x :: r => uptoBulkEntry x + uptoBulkEntries r
def uptoBulkEntry {H : Type} : Lit × DataW H → Nat
  | (.string bytes, d) => bytes.length + uptoBulk d + 1
  | (_, d) => uptoBulk d + 1
 end
def uptoSmall : (H : Type) → List (DataW H) → Bool := fun _ ds => decide (uptoBulkAll ds ≤ 1048576)
def OpenSpec.upto (s : _root_.Go.ChangeSpec) : _root_.Go.OpenSpec := { _root_.Go.OpenSpec.ofChange s with cond := some uptoSmall }

/-- 'sorrellaw12.FactsTells', WHERE WHAT IT READS IS OF BULK AT MOST 1048576: true; the input reads as it did. -/
def factsTellsUptoRow : OpenClaim := { program := "ytceipnlpofebmaagreat", sum := "d7c6e88ddc827f858e4453e27cf72bcb2b732d4cf240d6796753b3dba6664a37", func := "sorrel/sorrellaw12.FactsTells", spec := "factsTells", inPlace := ["slices.overlaps[[]sorrel/api.Cell]"], unfollowed := true, recurses := true, apart := false, narrowed := true }
def FactsTellsUptoSaid : Prop := factsTellsUptoRow.holds Tryz.pinned (OpenSpec.upto factsTellsSpec)

/-- 'sorrellaw12.FactsSet', WHERE WHAT IT READS IS OF BULK AT MOST 1048576: true; the input reads as it did. -/
def factsSetUptoRow : OpenClaim := { program := "ytceipnlpofebmaagreat", sum := "d7c6e88ddc827f858e4453e27cf72bcb2b732d4cf240d6796753b3dba6664a37", func := "sorrel/sorrellaw12.FactsSet", spec := "factsSet", inPlace := ["slices.overlaps[[]sorrel/api.Cell]"], unfollowed := true, recurses := true, apart := false, narrowed := true }
def FactsSetUptoSaid : Prop := factsSetUptoRow.holds Tryz.pinned (OpenSpec.upto factsSetSpec)

/-- 'sorrellaw12.FactsFound', WHERE WHAT IT READS IS OF BULK AT MOST 1048576: true; the input reads as it did. -/
def factsFoundUptoRow : OpenClaim := { program := "ytceipnlpofebmaagreat", sum := "d7c6e88ddc827f858e4453e27cf72bcb2b732d4cf240d6796753b3dba6664a37", func := "sorrel/sorrellaw12.FactsFound", spec := "factsFound", inPlace := ["slices.overlaps[[]sorrel/api.Cell]"], unfollowed := true, recurses := true, apart := false, narrowed := true }
def FactsFoundUptoSaid : Prop := factsFoundUptoRow.holds Tryz.pinned (OpenSpec.upto factsFoundSpec)

/-- 'sorrellaw12.FactsAll', WHERE WHAT IT READS IS OF BULK AT MOST 1048576: true; the input reads as it did. -/
def factsAllUptoRow : OpenClaim := { program := "ytceipnlpofebmaagreat", sum := "d7c6e88ddc827f858e4453e27cf72bcb2b732d4cf240d6796753b3dba6664a37", func := "sorrel/sorrellaw12.FactsAll", spec := "factsAll", inPlace := ["slices.overlaps[[]sorrel/api.Cell]"], unfollowed := true, recurses := true, apart := false, narrowed := true }
def FactsAllUptoSaid : Prop := factsAllUptoRow.holds Tryz.pinned (OpenSpec.upto factsAllSpec)

/-- 'sorrellaw12.FactsDiff', WHERE WHAT IT READS IS OF BULK AT MOST 1048576: true; the input reads as it did. -/
def factsDiffUptoRow : OpenClaim := { program := "ytceipnlpofebmaagreat", sum := "d7c6e88ddc827f858e4453e27cf72bcb2b732d4cf240d6796753b3dba6664a37", func := "sorrel/sorrellaw12.FactsDiff", spec := "factsDiff", inPlace := ["slices.overlaps[[]sorrel/api.Cell]"], unfollowed := true, recurses := true, apart := false, narrowed := true }
def FactsDiffUptoSaid : Prop := factsDiffUptoRow.holds Tryz.pinned (OpenSpec.upto factsDiffSpec)

/-- 'sorrellaw12.FactsBad', WHERE WHAT IT READS IS OF BULK AT MOST 1048576: true; the input reads as it did. -/
def factsBadUptoRow : OpenClaim := { program := "ytceipnlpofebmaagreat", sum := "d7c6e88ddc827f858e4453e27cf72bcb2b732d4cf240d6796753b3dba6664a37", func := "sorrel/sorrellaw12.FactsBad", spec := "factsBad", inPlace := ["slices.overlaps[[]sorrel/api.Cell]"], unfollowed := true, recurses := true, apart := false, narrowed := true }
def FactsBadUptoSaid : Prop := factsBadUptoRow.holds Tryz.pinned (OpenSpec.upto factsBadSpec)

end Rows
end Go.Proofs.YtceipnlpofebmaaGreat
