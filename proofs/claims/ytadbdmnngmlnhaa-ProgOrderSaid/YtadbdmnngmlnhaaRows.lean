/-
  No cell of these rows narrows 'for every input' (looked for: loops, veiled, ifaces, maps, wideKeys, modest, calm, conditions, laid).
  DERIVED. THE GIVEN ROWS OF THIS SEAT. 8 by the template 'for every input the law returns true; each argument reads behind the call as it read before'; 0 by the template 'total and deterministic' (their statements: YtadbdmnngmlnhaaTotals.lean).
  GIVEN WITH THE SEED: the statements are not yours to turn. If you find one false, say at which input.
  Laid BY PROGRAM, IN A SANDBOX (cutbox-rows.mjs): the forced cells as the released guide's own fill.sh prints them over the translation 192c83764015336b… (all of the seat's roots in one cut). By AI agents, Wed Nov 11 2026. No macro, syntax, notation, axiom, sorry.
-/
import Derived.Test.YtadbdmnngmlnhaaChecked
import GoSem.Claim
import GoSem.ClaimJoined
import GoSem.ClaimMapViews
import Derived.JoinedTies
import Derived.KernelRfl
namespace Go.Proofs.Ytadbdmnngmlnhaa
/- THE CELL 'sum', in the pinned program and in every row, IS THE sha256 OF THE DUMP (.gsa) THAT YtadbdmnngmlnhaaProg.lean LOADS. Nothing in Lean hashes anything: it is a label: what it is worth is what the hold of that sum in a sandbox is worth. -/
noncomputable def Try.pinned : Pinned := { name := "ytadbdmnngmlnhaa", sum := "192c83764015336b8c27269eb7d46443de041ff5003dbcad4810b82d694d574d", checked := Try.checked }
namespace Rows
def none {H : Type} : Left H := { results := [], args := [] }

/-- 'sorrellaw07.ProgTells': WHATEVER THE INPUT: true; the input reads as it did. -/
def progTellsSpec : ChangeSpec := { name := "progTells", fn := fun _ => fun
  | [d1, d2] => { results := [.lit (.bool true)], args := [d1, d2] }
  | _ => none }
def progTellsRow : OpenClaim := { program := "ytadbdmnngmlnhaa", sum := "192c83764015336b8c27269eb7d46443de041ff5003dbcad4810b82d694d574d", func := "sorrel/sorrellaw07.ProgTells", spec := "progTells", unfollowed := true, recurses := true, apart := false }
def ProgTellsSaid : Prop := progTellsRow.holds Try.pinned (OpenSpec.ofChange progTellsSpec)

/-- ITS FALSE NEIGHBOUR: 'it returns false'. Refute it at one input. -/
def progTellsWrong : ChangeSpec := { name := "progTells", fn := fun _ => fun
  | [d1, d2] => { results := [.lit (.bool false)], args := [d1, d2] }
  | _ => none }
def ProgTellsWrongFalsely : Prop := progTellsRow.holds Try.pinned (OpenSpec.ofChange progTellsWrong)

/-- 'sorrellaw07.ProgFacts': WHATEVER THE INPUT: true; the input reads as it did. -/
def progFactsSpec : ChangeSpec := { name := "progFacts", fn := fun _ => fun
  | [d] => { results := [.lit (.bool true)], args := [d] }
  | _ => none }
def progFactsRow : OpenClaim := { program := "ytadbdmnngmlnhaa", sum := "192c83764015336b8c27269eb7d46443de041ff5003dbcad4810b82d694d574d", func := "sorrel/sorrellaw07.ProgFacts", spec := "progFacts", unfollowed := true, recurses := true, apart := false }
def ProgFactsSaid : Prop := progFactsRow.holds Try.pinned (OpenSpec.ofChange progFactsSpec)

/-- ITS FALSE NEIGHBOUR: 'it returns false'. Refute it at one input. -/
def progFactsWrong : ChangeSpec := { name := "progFacts", fn := fun _ => fun
  | [d] => { results := [.lit (.bool false)], args := [d] }
  | _ => none }
def ProgFactsWrongFalsely : Prop := progFactsRow.holds Try.pinned (OpenSpec.ofChange progFactsWrong)

/-- 'sorrellaw07.ProgCut': WHATEVER THE INPUT: true; the input reads as it did. -/
def progCutSpec : ChangeSpec := { name := "progCut", fn := fun _ => fun
  | [d1, d2, d3] => { results := [.lit (.bool true)], args := [d1, d2, d3] }
  | _ => none }
def progCutRow : OpenClaim := { program := "ytadbdmnngmlnhaa", sum := "192c83764015336b8c27269eb7d46443de041ff5003dbcad4810b82d694d574d", func := "sorrel/sorrellaw07.ProgCut", spec := "progCut", unfollowed := true, recurses := true, apart := false }
def ProgCutSaid : Prop := progCutRow.holds Try.pinned (OpenSpec.ofChange progCutSpec)

/-- ITS FALSE NEIGHBOUR: 'it returns false'. Refute it at one input. -/
def progCutWrong : ChangeSpec := { name := "progCut", fn := fun _ => fun
  | [d1, d2, d3] => { results := [.lit (.bool false)], args := [d1, d2, d3] }
  | _ => none }
def ProgCutWrongFalsely : Prop := progCutRow.holds Try.pinned (OpenSpec.ofChange progCutWrong)

/-- 'sorrellaw07.ProgNegs': WHATEVER THE INPUT: true; the input reads as it did. -/
def progNegsSpec : ChangeSpec := { name := "progNegs", fn := fun _ => fun
  | [d] => { results := [.lit (.bool true)], args := [d] }
  | _ => none }
def progNegsRow : OpenClaim := { program := "ytadbdmnngmlnhaa", sum := "192c83764015336b8c27269eb7d46443de041ff5003dbcad4810b82d694d574d", func := "sorrel/sorrellaw07.ProgNegs", spec := "progNegs", unfollowed := true, recurses := true, apart := false }
def ProgNegsSaid : Prop := progNegsRow.holds Try.pinned (OpenSpec.ofChange progNegsSpec)

/-- ITS FALSE NEIGHBOUR: 'it returns false'. Refute it at one input. -/
def progNegsWrong : ChangeSpec := { name := "progNegs", fn := fun _ => fun
  | [d] => { results := [.lit (.bool false)], args := [d] }
  | _ => none }
def ProgNegsWrongFalsely : Prop := progNegsRow.holds Try.pinned (OpenSpec.ofChange progNegsWrong)

/-- 'sorrellaw07.ProgOrder': WHATEVER THE INPUT: true; the input reads as it did. -/
def progOrderSpec : ChangeSpec := { name := "progOrder", fn := fun _ => fun
  | [d1, d2, d3] => { results := [.lit (.bool true)], args := [d1, d2, d3] }
  | _ => none }
def progOrderRow : OpenClaim := { program := "ytadbdmnngmlnhaa", sum := "192c83764015336b8c27269eb7d46443de041ff5003dbcad4810b82d694d574d", func := "sorrel/sorrellaw07.ProgOrder", spec := "progOrder", unfollowed := true, recurses := true, apart := false }
def ProgOrderSaid : Prop := progOrderRow.holds Try.pinned (OpenSpec.ofChange progOrderSpec)

/-- ITS FALSE NEIGHBOUR: 'it returns false'. Refute it at one input. -/
def progOrderWrong : ChangeSpec := { name := "progOrder", fn := fun _ => fun
  | [d1, d2, d3] => { results := [.lit (.bool false)], args := [d1, d2, d3] }
  | _ => none }
def ProgOrderWrongFalsely : Prop := progOrderRow.holds Try.pinned (OpenSpec.ofChange progOrderWrong)

/-- 'sorrellaw07.ProgOf': WHATEVER THE INPUT: true; the input reads as it did. -/
def progOfSpec : ChangeSpec := { name := "progOf", fn := fun _ => fun
  | [d] => { results := [.lit (.bool true)], args := [d] }
  | _ => none }
def progOfRow : OpenClaim := { program := "ytadbdmnngmlnhaa", sum := "192c83764015336b8c27269eb7d46443de041ff5003dbcad4810b82d694d574d", func := "sorrel/sorrellaw07.ProgOf", spec := "progOf", unfollowed := true, recurses := true, apart := false }
def ProgOfSaid : Prop := progOfRow.holds Try.pinned (OpenSpec.ofChange progOfSpec)

/-- ITS FALSE NEIGHBOUR: 'it returns false'. Refute it at one input. -/
def progOfWrong : ChangeSpec := { name := "progOf", fn := fun _ => fun
  | [d] => { results := [.lit (.bool false)], args := [d] }
  | _ => none }
def ProgOfWrongFalsely : Prop := progOfRow.holds Try.pinned (OpenSpec.ofChange progOfWrong)

/-- 'sorrellaw07.ProgLevels': WHATEVER THE INPUT: true; the input reads as it did. -/
def progLevelsSpec : ChangeSpec := { name := "progLevels", fn := fun _ => fun
  | [d] => { results := [.lit (.bool true)], args := [d] }
  | _ => none }
def progLevelsRow : OpenClaim := { program := "ytadbdmnngmlnhaa", sum := "192c83764015336b8c27269eb7d46443de041ff5003dbcad4810b82d694d574d", func := "sorrel/sorrellaw07.ProgLevels", spec := "progLevels", unfollowed := true, recurses := true, apart := false }
def ProgLevelsSaid : Prop := progLevelsRow.holds Try.pinned (OpenSpec.ofChange progLevelsSpec)

/-- ITS FALSE NEIGHBOUR: 'it returns false'. Refute it at one input. -/
def progLevelsWrong : ChangeSpec := { name := "progLevels", fn := fun _ => fun
  | [d] => { results := [.lit (.bool false)], args := [d] }
  | _ => none }
def ProgLevelsWrongFalsely : Prop := progLevelsRow.holds Try.pinned (OpenSpec.ofChange progLevelsWrong)

/-- 'sorrellaw07.ProgMore': WHATEVER THE INPUT: true; the input reads as it did. -/
def progMoreSpec : ChangeSpec := { name := "progMore", fn := fun _ => fun
  | [d1, d2] => { results := [.lit (.bool true)], args := [d1, d2] }
  | _ => none }
def progMoreRow : OpenClaim := { program := "ytadbdmnngmlnhaa", sum := "192c83764015336b8c27269eb7d46443de041ff5003dbcad4810b82d694d574d", func := "sorrel/sorrellaw07.ProgMore", spec := "progMore", unfollowed := true, recurses := true, apart := false }
def ProgMoreSaid : Prop := progMoreRow.holds Try.pinned (OpenSpec.ofChange progMoreSpec)

/-- ITS FALSE NEIGHBOUR: 'it returns false'. Refute it at one input. -/
def progMoreWrong : ChangeSpec := { name := "progMore", fn := fun _ => fun
  | [d1, d2] => { results := [.lit (.bool false)], args := [d1, d2] }
  | _ => none }
def ProgMoreWrongFalsely : Prop := progMoreRow.holds Try.pinned (OpenSpec.ofChange progMoreWrong)

/- THE SECOND FORM. 'bulk': how many values and letters a reading holds, each counted each time it is reached (what is shared counts as often as it is met; a slice's spare places count too). A statement '..UptoSaid' is the law's where the arguments, and the package variables that the reading takes, are together of bulk at most 1048576: NARROWER than '..Said'. Prove '..Said' where nothing that the law and all that it calls make is longer than what came in: it says more and counts as full. Else prove '..UptoSaid'. A law counts once. -/
mutual
def uptoBulk {H : Type} : DataW H → Nat
  | .lit (.string bytes) => bytes.length + 1
  | .lit _ => 1
  | .nil => 1
  | .ptr d => uptoBulk d + 1
  | .slice elems spare => uptoBulkAll elems + uptoBulkAll spare + 1
  | .agg parts => uptoBulkAll parts + 1
  | .iface _ d => uptoBulk d + 1
  | .map entries => uptoBulkEntries entries + 1
  | .held _ => 1
def uptoBulkAll {H : Type} : List (DataW H) → Nat
  | [] => 0
  | d :: r => uptoBulk d + uptoBulkAll r
def uptoBulkEntries {H : Type} : List (Lit × DataW H) → Nat
  | [] => 0
  | x :: r => uptoBulkEntry x + uptoBulkEntries r
def uptoBulkEntry {H : Type} : Lit × DataW H → Nat
  | (.string bytes, d) => bytes.length + uptoBulk d + 1
  | (_, d) => uptoBulk d + 1
 end
def uptoSmall : (H : Type) → List (DataW H) → Bool := fun _ ds => decide (uptoBulkAll ds ≤ 1048576)
def OpenSpec.upto (s : _root_.Go.ChangeSpec) : _root_.Go.OpenSpec := { _root_.Go.OpenSpec.ofChange s with cond := some uptoSmall }

/-- 'sorrellaw07.ProgTells', WHERE WHAT IT READS IS OF BULK AT MOST 1048576: true; the input reads as it did. -/
def progTellsUptoRow : OpenClaim := { program := "ytadbdmnngmlnhaa", sum := "192c83764015336b8c27269eb7d46443de041ff5003dbcad4810b82d694d574d", func := "sorrel/sorrellaw07.ProgTells", spec := "progTells", unfollowed := true, recurses := true, apart := false, narrowed := true }
def ProgTellsUptoSaid : Prop := progTellsUptoRow.holds Try.pinned (OpenSpec.upto progTellsSpec)

/-- 'sorrellaw07.ProgFacts', WHERE WHAT IT READS IS OF BULK AT MOST 1048576: true; the input reads as it did. -/
def progFactsUptoRow : OpenClaim := { program := "ytadbdmnngmlnhaa", sum := "192c83764015336b8c27269eb7d46443de041ff5003dbcad4810b82d694d574d", func := "sorrel/sorrellaw07.ProgFacts", spec := "progFacts", unfollowed := true, recurses := true, apart := false, narrowed := true }
def ProgFactsUptoSaid : Prop := progFactsUptoRow.holds Try.pinned (OpenSpec.upto progFactsSpec)

/-- 'sorrellaw07.ProgCut', WHERE WHAT IT READS IS OF BULK AT MOST 1048576: true; the input reads as it did. -/
def progCutUptoRow : OpenClaim := { program := "ytadbdmnngmlnhaa", sum := "192c83764015336b8c27269eb7d46443de041ff5003dbcad4810b82d694d574d", func := "sorrel/sorrellaw07.ProgCut", spec := "progCut", unfollowed := true, recurses := true, apart := false, narrowed := true }
def ProgCutUptoSaid : Prop := progCutUptoRow.holds Try.pinned (OpenSpec.upto progCutSpec)

/-- 'sorrellaw07.ProgNegs', WHERE WHAT IT READS IS OF BULK AT MOST 1048576: true; the input reads as it did. -/
def progNegsUptoRow : OpenClaim := { program := "ytadbdmnngmlnhaa", sum := "192c83764015336b8c27269eb7d46443de041ff5003dbcad4810b82d694d574d", func := "sorrel/sorrellaw07.ProgNegs", spec := "progNegs", unfollowed := true, recurses := true, apart := false, narrowed := true }
def ProgNegsUptoSaid : Prop := progNegsUptoRow.holds Try.pinned (OpenSpec.upto progNegsSpec)

/-- 'sorrellaw07.ProgOrder', WHERE WHAT IT READS IS OF BULK AT MOST 1048576: true; the input reads as it did. -/
def progOrderUptoRow : OpenClaim := { program := "ytadbdmnngmlnhaa", sum := "192c83764015336b8c27269eb7d46443de041ff5003dbcad4810b82d694d574d", func := "sorrel/sorrellaw07.ProgOrder", spec := "progOrder", unfollowed := true, recurses := true, apart := false, narrowed := true }
def ProgOrderUptoSaid : Prop := progOrderUptoRow.holds Try.pinned (OpenSpec.upto progOrderSpec)

/-- 'sorrellaw07.ProgOf', WHERE WHAT IT READS IS OF BULK AT MOST 1048576: true; the input reads as it did. -/
def progOfUptoRow : OpenClaim := { program := "ytadbdmnngmlnhaa", sum := "192c83764015336b8c27269eb7d46443de041ff5003dbcad4810b82d694d574d", func := "sorrel/sorrellaw07.ProgOf", spec := "progOf", unfollowed := true, recurses := true, apart := false, narrowed := true }
def ProgOfUptoSaid : Prop := progOfUptoRow.holds Try.pinned (OpenSpec.upto progOfSpec)

/-- 'sorrellaw07.ProgLevels', WHERE WHAT IT READS IS OF BULK AT MOST 1048576: true; the input reads as it did. -/
def progLevelsUptoRow : OpenClaim := { program := "ytadbdmnngmlnhaa", sum := "192c83764015336b8c27269eb7d46443de041ff5003dbcad4810b82d694d574d", func := "sorrel/sorrellaw07.ProgLevels", spec := "progLevels", unfollowed := true, recurses := true, apart := false, narrowed := true }
def ProgLevelsUptoSaid : Prop := progLevelsUptoRow.holds Try.pinned (OpenSpec.upto progLevelsSpec)

/-- 'sorrellaw07.ProgMore', WHERE WHAT IT READS IS OF BULK AT MOST 1048576: true; the input reads as it did. -/
def progMoreUptoRow : OpenClaim := { program := "ytadbdmnngmlnhaa", sum := "192c83764015336b8c27269eb7d46443de041ff5003dbcad4810b82d694d574d", func := "sorrel/sorrellaw07.ProgMore", spec := "progMore", unfollowed := true, recurses := true, apart := false, narrowed := true }
def ProgMoreUptoSaid : Prop := progMoreUptoRow.holds Try.pinned (OpenSpec.upto progMoreSpec)

end Rows
end Go.Proofs.Ytadbdmnngmlnhaa
