/-
  No cell of these rows narrows 'for every input' (looked for: loops, veiled, ifaces, maps, wideKeys, modest, calm, conditions, laid).
  DERIVED. THE GIVEN ROWS OF THIS SEAT. 7 by the template 'for every input the law returns true; each argument reads behind the call as it read before'; 0 by the template 'total and deterministic' (their statements: YtdbennmbbmoflaaTotals.lean).
  GIVEN WITH THE SEED: the statements are not yours to turn. If you find one false, say at which input.
  Laid BY PROGRAM, IN A SANDBOX (cutbox-rows.mjs): the forced cells as the released guide's own fill.sh prints them over the translation 65a70956d9a48f13… (all of the seat's roots in one cut). By AI agents, Wed Nov 11 2026. No macro, syntax, notation, axiom, sorry.
-/
import Derived.Test.YtdbennmbbmoflaaChecked
import GoSem.Claim
import GoSem.ClaimJoined
import GoSem.ClaimMapViews
import Derived.JoinedTies
import Derived.KernelRfl
namespace Go.Proofs.Ytdbennmbbmoflaa
/- THE CELL 'sum', in the pinned program and in every row, IS THE sha256 OF THE DUMP (.gsa) THAT YtdbennmbbmoflaaProg.lean LOADS. Nothing in Lean hashes anything: it is a label: what it is worth is what the hold of that sum in a sandbox is worth. -/
noncomputable def Try.pinned : Pinned := { name := "ytdbennmbbmoflaa", sum := "65a70956d9a48f13f96373f49836d3e86675179692bc6b466c732c6b0fec48ac", checked := Try.checked }
namespace Rows
def none {H : Type} : Left H := { results := [], args := [] }

/-- 'sorrellaw18.ResidTells': WHATEVER THE INPUT: true; the input reads as it did. -/
def residTellsSpec : ChangeSpec := { name := "residTells", fn := fun _ => fun
  | [d1, d2, d3] => { results := [.lit (.bool true)], args := [d1, d2, d3] }
  | _ => none }
def residTellsRow : OpenClaim := { program := "ytdbennmbbmoflaa", sum := "65a70956d9a48f13f96373f49836d3e86675179692bc6b466c732c6b0fec48ac", func := "sorrel/sorrellaw18.ResidTells", spec := "residTells", inPlace := ["slices.overlaps[sorrel/api.Rule]"], unfollowed := true, recurses := true, apart := false }
def ResidTellsSaid : Prop := residTellsRow.holds Try.pinned (OpenSpec.ofChange residTellsSpec)

/-- ITS FALSE NEIGHBOUR: 'it returns false'. Refute it at one input. -/
def residTellsWrong : ChangeSpec := { name := "residTells", fn := fun _ => fun
  | [d1, d2, d3] => { results := [.lit (.bool false)], args := [d1, d2, d3] }
  | _ => none }
def ResidTellsWrongFalsely : Prop := residTellsRow.holds Try.pinned (OpenSpec.ofChange residTellsWrong)

/-- 'sorrellaw18.ResidEnd': WHATEVER THE INPUT: true; the input reads as it did. -/
def residEndSpec : ChangeSpec := { name := "residEnd", fn := fun _ => fun
  | [d1, d2, d3] => { results := [.lit (.bool true)], args := [d1, d2, d3] }
  | _ => none }
def residEndRow : OpenClaim := { program := "ytdbennmbbmoflaa", sum := "65a70956d9a48f13f96373f49836d3e86675179692bc6b466c732c6b0fec48ac", func := "sorrel/sorrellaw18.ResidEnd", spec := "residEnd", inPlace := ["slices.overlaps[sorrel/api.Rule]"], unfollowed := true, recurses := true, apart := false }
def ResidEndSaid : Prop := residEndRow.holds Try.pinned (OpenSpec.ofChange residEndSpec)

/-- ITS FALSE NEIGHBOUR: 'it returns false'. Refute it at one input. -/
def residEndWrong : ChangeSpec := { name := "residEnd", fn := fun _ => fun
  | [d1, d2, d3] => { results := [.lit (.bool false)], args := [d1, d2, d3] }
  | _ => none }
def ResidEndWrongFalsely : Prop := residEndRow.holds Try.pinned (OpenSpec.ofChange residEndWrong)

/-- 'sorrellaw18.ResidModel': WHATEVER THE INPUT: true; the input reads as it did. -/
def residModelSpec : ChangeSpec := { name := "residModel", fn := fun _ => fun
  | [d1, d2, d3] => { results := [.lit (.bool true)], args := [d1, d2, d3] }
  | _ => none }
def residModelRow : OpenClaim := { program := "ytdbennmbbmoflaa", sum := "65a70956d9a48f13f96373f49836d3e86675179692bc6b466c732c6b0fec48ac", func := "sorrel/sorrellaw18.ResidModel", spec := "residModel", inPlace := ["slices.overlaps[sorrel/api.Rule]"], unfollowed := true, recurses := true, apart := false }
def ResidModelSaid : Prop := residModelRow.holds Try.pinned (OpenSpec.ofChange residModelSpec)

/-- ITS FALSE NEIGHBOUR: 'it returns false'. Refute it at one input. -/
def residModelWrong : ChangeSpec := { name := "residModel", fn := fun _ => fun
  | [d1, d2, d3] => { results := [.lit (.bool false)], args := [d1, d2, d3] }
  | _ => none }
def ResidModelWrongFalsely : Prop := residModelRow.holds Try.pinned (OpenSpec.ofChange residModelWrong)

/-- 'sorrellaw18.ResidSteps': WHATEVER THE INPUT: true; the input reads as it did. -/
def residStepsSpec : ChangeSpec := { name := "residSteps", fn := fun _ => fun
  | [d1, d2, d3] => { results := [.lit (.bool true)], args := [d1, d2, d3] }
  | _ => none }
def residStepsRow : OpenClaim := { program := "ytdbennmbbmoflaa", sum := "65a70956d9a48f13f96373f49836d3e86675179692bc6b466c732c6b0fec48ac", func := "sorrel/sorrellaw18.ResidSteps", spec := "residSteps", inPlace := ["slices.overlaps[sorrel/api.Rule]"], unfollowed := true, recurses := true, apart := false }
def ResidStepsSaid : Prop := residStepsRow.holds Try.pinned (OpenSpec.ofChange residStepsSpec)

/-- ITS FALSE NEIGHBOUR: 'it returns false'. Refute it at one input. -/
def residStepsWrong : ChangeSpec := { name := "residSteps", fn := fun _ => fun
  | [d1, d2, d3] => { results := [.lit (.bool false)], args := [d1, d2, d3] }
  | _ => none }
def ResidStepsWrongFalsely : Prop := residStepsRow.holds Try.pinned (OpenSpec.ofChange residStepsWrong)

/-- 'sorrellaw18.ResidLeft': WHATEVER THE INPUT: true; the input reads as it did. -/
def residLeftSpec : ChangeSpec := { name := "residLeft", fn := fun _ => fun
  | [d1, d2] => { results := [.lit (.bool true)], args := [d1, d2] }
  | _ => none }
def residLeftRow : OpenClaim := { program := "ytdbennmbbmoflaa", sum := "65a70956d9a48f13f96373f49836d3e86675179692bc6b466c732c6b0fec48ac", func := "sorrel/sorrellaw18.ResidLeft", spec := "residLeft", inPlace := ["slices.overlaps[sorrel/api.Rule]"], unfollowed := true, recurses := true, apart := false }
def ResidLeftSaid : Prop := residLeftRow.holds Try.pinned (OpenSpec.ofChange residLeftSpec)

/-- ITS FALSE NEIGHBOUR: 'it returns false'. Refute it at one input. -/
def residLeftWrong : ChangeSpec := { name := "residLeft", fn := fun _ => fun
  | [d1, d2] => { results := [.lit (.bool false)], args := [d1, d2] }
  | _ => none }
def ResidLeftWrongFalsely : Prop := residLeftRow.holds Try.pinned (OpenSpec.ofChange residLeftWrong)

/-- 'sorrellaw18.ResidPlain': WHATEVER THE INPUT: true; the input reads as it did. -/
def residPlainSpec : ChangeSpec := { name := "residPlain", fn := fun _ => fun
  | [d1, d2] => { results := [.lit (.bool true)], args := [d1, d2] }
  | _ => none }
def residPlainRow : OpenClaim := { program := "ytdbennmbbmoflaa", sum := "65a70956d9a48f13f96373f49836d3e86675179692bc6b466c732c6b0fec48ac", func := "sorrel/sorrellaw18.ResidPlain", spec := "residPlain", inPlace := ["slices.overlaps[sorrel/api.Rule]"], unfollowed := true, recurses := true, apart := false }
def ResidPlainSaid : Prop := residPlainRow.holds Try.pinned (OpenSpec.ofChange residPlainSpec)

/-- ITS FALSE NEIGHBOUR: 'it returns false'. Refute it at one input. -/
def residPlainWrong : ChangeSpec := { name := "residPlain", fn := fun _ => fun
  | [d1, d2] => { results := [.lit (.bool false)], args := [d1, d2] }
  | _ => none }
def ResidPlainWrongFalsely : Prop := residPlainRow.holds Try.pinned (OpenSpec.ofChange residPlainWrong)

/-- 'sorrellaw18.ResidFacts': WHATEVER THE INPUT: true; the input reads as it did. -/
def residFactsSpec : ChangeSpec := { name := "residFacts", fn := fun _ => fun
  | [d1, d2, d3] => { results := [.lit (.bool true)], args := [d1, d2, d3] }
  | _ => none }
def residFactsRow : OpenClaim := { program := "ytdbennmbbmoflaa", sum := "65a70956d9a48f13f96373f49836d3e86675179692bc6b466c732c6b0fec48ac", func := "sorrel/sorrellaw18.ResidFacts", spec := "residFacts", inPlace := ["slices.overlaps[sorrel/api.Rule]"], unfollowed := true, recurses := true, apart := false }
def ResidFactsSaid : Prop := residFactsRow.holds Try.pinned (OpenSpec.ofChange residFactsSpec)

/-- ITS FALSE NEIGHBOUR: 'it returns false'. Refute it at one input. -/
def residFactsWrong : ChangeSpec := { name := "residFacts", fn := fun _ => fun
  | [d1, d2, d3] => { results := [.lit (.bool false)], args := [d1, d2, d3] }
  | _ => none }
def ResidFactsWrongFalsely : Prop := residFactsRow.holds Try.pinned (OpenSpec.ofChange residFactsWrong)

/- THE SECOND FORM. 'bulk': how many values and letters a reading holds, each counted each time it is reached (what is shared counts as often as it is met; a slice's spare places count too). A statement '..UptoSaid' is the law's where the arguments, and the package variables that the reading takes, are together of bulk at most 1048576: NARROWER than '..Said'. Prove '..Said' where nothing that the law and all that it calls make is longer than what came in: it says more and counts as full. Else prove '..UptoSaid'. A law counts once. -/
mutual
def uptoBulk {H : Type} : DataW H → Nat
  | .lit (.string bytes) => bytes.length + 1
  | .lit _ => 1
  | .nil => 1
  | .ptr d => uptoBulk d + 1
  | .slice elems spare => uptoBulkAll elems + uptoBulkAll spare + 1
  | .agg parts => uptoBulkAll parts + 1
  | .iface _ d => uptoBulk d + 1
  | .map entries => uptoBulkEntries entries + 1
  | .held _ => 1
def uptoBulkAll {H : Type} : List (DataW H) → Nat
  | [] => 0
  | d :: r => uptoBulk d + uptoBulkAll r
def uptoBulkEntries {H : Type} : List (Lit × DataW H) → Nat
  | [] => 0
  | x :: r => uptoBulkEntry x + uptoBulkEntries r
def uptoBulkEntry {H : Type} : Lit × DataW H → Nat
  | (.string bytes, d) => bytes.length + uptoBulk d + 1
  | (_, d) => uptoBulk d + 1
 end
def uptoSmall : (H : Type) → List (DataW H) → Bool := fun _ ds => decide (uptoBulkAll ds ≤ 1048576)
def OpenSpec.upto (s : _root_.Go.ChangeSpec) : _root_.Go.OpenSpec := { _root_.Go.OpenSpec.ofChange s with cond := some uptoSmall }

/-- 'sorrellaw18.ResidTells', WHERE WHAT IT READS IS OF BULK AT MOST 1048576: true; the input reads as it did. -/
def residTellsUptoRow : OpenClaim := { program := "ytdbennmbbmoflaa", sum := "65a70956d9a48f13f96373f49836d3e86675179692bc6b466c732c6b0fec48ac", func := "sorrel/sorrellaw18.ResidTells", spec := "residTells", inPlace := ["slices.overlaps[sorrel/api.Rule]"], unfollowed := true, recurses := true, apart := false, narrowed := true }
def ResidTellsUptoSaid : Prop := residTellsUptoRow.holds Try.pinned (OpenSpec.upto residTellsSpec)

/-- 'sorrellaw18.ResidEnd', WHERE WHAT IT READS IS OF BULK AT MOST 1048576: true; the input reads as it did. -/
def residEndUptoRow : OpenClaim := { program := "ytdbennmbbmoflaa", sum := "65a70956d9a48f13f96373f49836d3e86675179692bc6b466c732c6b0fec48ac", func := "sorrel/sorrellaw18.ResidEnd", spec := "residEnd", inPlace := ["slices.overlaps[sorrel/api.Rule]"], unfollowed := true, recurses := true, apart := false, narrowed := true }
def ResidEndUptoSaid : Prop := residEndUptoRow.holds Try.pinned (OpenSpec.upto residEndSpec)

/-- 'sorrellaw18.ResidModel', WHERE WHAT IT READS IS OF BULK AT MOST 1048576: true; the input reads as it did. -/
def residModelUptoRow : OpenClaim := { program := "ytdbennmbbmoflaa", sum := "65a70956d9a48f13f96373f49836d3e86675179692bc6b466c732c6b0fec48ac", func := "sorrel/sorrellaw18.ResidModel", spec := "residModel", inPlace := ["slices.overlaps[sorrel/api.Rule]"], unfollowed := true, recurses := true, apart := false, narrowed := true }
def ResidModelUptoSaid : Prop := residModelUptoRow.holds Try.pinned (OpenSpec.upto residModelSpec)

/-- 'sorrellaw18.ResidSteps', WHERE WHAT IT READS IS OF BULK AT MOST 1048576: true; the input reads as it did. -/
def residStepsUptoRow : OpenClaim := { program := "ytdbennmbbmoflaa", sum := "65a70956d9a48f13f96373f49836d3e86675179692bc6b466c732c6b0fec48ac", func := "sorrel/sorrellaw18.ResidSteps", spec := "residSteps", inPlace := ["slices.overlaps[sorrel/api.Rule]"], unfollowed := true, recurses := true, apart := false, narrowed := true }
def ResidStepsUptoSaid : Prop := residStepsUptoRow.holds Try.pinned (OpenSpec.upto residStepsSpec)

/-- 'sorrellaw18.ResidLeft', WHERE WHAT IT READS IS OF BULK AT MOST 1048576: true; the input reads as it did. -/
def residLeftUptoRow : OpenClaim := { program := "ytdbennmbbmoflaa", sum := "65a70956d9a48f13f96373f49836d3e86675179692bc6b466c732c6b0fec48ac", func := "sorrel/sorrellaw18.ResidLeft", spec := "residLeft", inPlace := ["slices.overlaps[sorrel/api.Rule]"], unfollowed := true, recurses := true, apart := false, narrowed := true }
def ResidLeftUptoSaid : Prop := residLeftUptoRow.holds Try.pinned (OpenSpec.upto residLeftSpec)

/-- 'sorrellaw18.ResidPlain', WHERE WHAT IT READS IS OF BULK AT MOST 1048576: true; the input reads as it did. -/
def residPlainUptoRow : OpenClaim := { program := "ytdbennmbbmoflaa", sum := "65a70956d9a48f13f96373f49836d3e86675179692bc6b466c732c6b0fec48ac", func := "sorrel/sorrellaw18.ResidPlain", spec := "residPlain", inPlace := ["slices.overlaps[sorrel/api.Rule]"], unfollowed := true, recurses := true, apart := false, narrowed := true }
def ResidPlainUptoSaid : Prop := residPlainUptoRow.holds Try.pinned (OpenSpec.upto residPlainSpec)

/-- 'sorrellaw18.ResidFacts', WHERE WHAT IT READS IS OF BULK AT MOST 1048576: true; the input reads as it did. -/
def residFactsUptoRow : OpenClaim := { program := "ytdbennmbbmoflaa", sum := "65a70956d9a48f13f96373f49836d3e86675179692bc6b466c732c6b0fec48ac", func := "sorrel/sorrellaw18.ResidFacts", spec := "residFacts", inPlace := ["slices.overlaps[sorrel/api.Rule]"], unfollowed := true, recurses := true, apart := false, narrowed := true }
def ResidFactsUptoSaid : Prop := residFactsUptoRow.holds Try.pinned (OpenSpec.upto residFactsSpec)

end Rows
end Go.Proofs.Ytdbennmbbmoflaa
