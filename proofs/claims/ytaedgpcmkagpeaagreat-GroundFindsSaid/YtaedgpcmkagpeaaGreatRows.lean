/-
  No cell of these rows narrows 'for every input' (looked for: loops, veiled, ifaces, maps, wideKeys, modest, calm, conditions, laid).
  DERIVED. THE GIVEN ROWS OF THIS SEAT. 8 by the template 'for every input the law returns true; each argument reads behind the call as it read before'; 0 by the template 'total and deterministic' (their statements: YtaedgpcmkagpeaaGreatTotals.lean).
  GIVEN WITH THE SEED: the statements are not yours to turn. If you find one false, say at which input.
  Laid BY PROGRAM, IN A SANDBOX (cutbox-rows.mjs): the forced cells as the released guide's own fill.sh prints them over the translation 8b5b0743498d12ca… (all of the seat's roots in one cut). By AI agents, Wed Nov 11 2026. No macro, syntax, notation, axiom, sorry.
-/
import Derived.Test.YtaedgpcmkagpeaaGreatChecked
import GoSem.Claim
import GoSem.ClaimJoined
import GoSem.ClaimMapViews
import Derived.JoinedTies
import Derived.KernelRfl
namespace Go.Proofs.YtaedgpcmkagpeaaGreat
/- THE CELL 'sum', in the pinned program and in every row, IS THE sha256 OF THE DUMP (.gsa) THAT YtaedgpcmkagpeaaGreatProg.lean LOADS. Nothing in Lean hashes anything: it is a label: what it is worth is what the hold of that sum in a sandbox is worth. -/
noncomputable def Tryz.pinned : Pinned := { name := "ytaedgpcmkagpeaagreat", sum := "8b5b0743498d12caacc17b12beee8f5e72b2159f08534c085af7e02dcdc0f360", checked := Tryz.checked }
namespace Rows
def none {H : Type} : Left H := { results := [], args := [] }

/-- 'sorrellaw16.GroundTells': WHATEVER THE INPUT: true; the input reads as it did. -/
def groundTellsSpec : ChangeSpec := { name := "groundTells", fn := fun _ => fun
  | [d1, d2] => { results := [.lit (.bool true)], args := [d1, d2] }
  | _ => none }
def groundTellsRow : OpenClaim := { program := "ytaedgpcmkagpeaagreat", sum := "8b5b0743498d12caacc17b12beee8f5e72b2159f08534c085af7e02dcdc0f360", func := "sorrel/sorrellaw16.GroundTells", spec := "groundTells", unfollowed := true, recurses := true, apart := false }
def GroundTellsSaid : Prop := groundTellsRow.holds Tryz.pinned (OpenSpec.ofChange groundTellsSpec)

/-- ITS FALSE NEIGHBOUR: 'it returns false'. Refute it at one input. -/
def groundTellsWrong : ChangeSpec := { name := "groundTells", fn := fun _ => fun
  | [d1, d2] => { results := [.lit (.bool false)], args := [d1, d2] }
  | _ => none }
def GroundTellsWrongFalsely : Prop := groundTellsRow.holds Tryz.pinned (OpenSpec.ofChange groundTellsWrong)

/-- 'sorrellaw16.GroundAsks': WHATEVER THE INPUT: true; the input reads as it did. -/
def groundAsksSpec : ChangeSpec := { name := "groundAsks", fn := fun _ => fun
  | [d1, d2, d3] => { results := [.lit (.bool true)], args := [d1, d2, d3] }
  | _ => none }
def groundAsksRow : OpenClaim := { program := "ytaedgpcmkagpeaagreat", sum := "8b5b0743498d12caacc17b12beee8f5e72b2159f08534c085af7e02dcdc0f360", func := "sorrel/sorrellaw16.GroundAsks", spec := "groundAsks", unfollowed := true, recurses := true, apart := false }
def GroundAsksSaid : Prop := groundAsksRow.holds Tryz.pinned (OpenSpec.ofChange groundAsksSpec)

/-- ITS FALSE NEIGHBOUR: 'it returns false'. Refute it at one input. -/
def groundAsksWrong : ChangeSpec := { name := "groundAsks", fn := fun _ => fun
  | [d1, d2, d3] => { results := [.lit (.bool false)], args := [d1, d2, d3] }
  | _ => none }
def GroundAsksWrongFalsely : Prop := groundAsksRow.holds Tryz.pinned (OpenSpec.ofChange groundAsksWrong)

/-- 'sorrellaw16.GroundSets': WHATEVER THE INPUT: true; the input reads as it did. -/
def groundSetsSpec : ChangeSpec := { name := "groundSets", fn := fun _ => fun
  | [d1, d2] => { results := [.lit (.bool true)], args := [d1, d2] }
  | _ => none }
def groundSetsRow : OpenClaim := { program := "ytaedgpcmkagpeaagreat", sum := "8b5b0743498d12caacc17b12beee8f5e72b2159f08534c085af7e02dcdc0f360", func := "sorrel/sorrellaw16.GroundSets", spec := "groundSets", unfollowed := true, recurses := true, apart := false }
def GroundSetsSaid : Prop := groundSetsRow.holds Tryz.pinned (OpenSpec.ofChange groundSetsSpec)

/-- ITS FALSE NEIGHBOUR: 'it returns false'. Refute it at one input. -/
def groundSetsWrong : ChangeSpec := { name := "groundSets", fn := fun _ => fun
  | [d1, d2] => { results := [.lit (.bool false)], args := [d1, d2] }
  | _ => none }
def GroundSetsWrongFalsely : Prop := groundSetsRow.holds Tryz.pinned (OpenSpec.ofChange groundSetsWrong)

/-- 'sorrellaw16.GroundBack': WHATEVER THE INPUT: true; the input reads as it did. -/
def groundBackSpec : ChangeSpec := { name := "groundBack", fn := fun _ => fun
  | [d] => { results := [.lit (.bool true)], args := [d] }
  | _ => none }
def groundBackRow : OpenClaim := { program := "ytaedgpcmkagpeaagreat", sum := "8b5b0743498d12caacc17b12beee8f5e72b2159f08534c085af7e02dcdc0f360", func := "sorrel/sorrellaw16.GroundBack", spec := "groundBack", unfollowed := true, recurses := true, apart := false }
def GroundBackSaid : Prop := groundBackRow.holds Tryz.pinned (OpenSpec.ofChange groundBackSpec)

/-- ITS FALSE NEIGHBOUR: 'it returns false'. Refute it at one input. -/
def groundBackWrong : ChangeSpec := { name := "groundBack", fn := fun _ => fun
  | [d] => { results := [.lit (.bool false)], args := [d] }
  | _ => none }
def GroundBackWrongFalsely : Prop := groundBackRow.holds Tryz.pinned (OpenSpec.ofChange groundBackWrong)

/-- 'sorrellaw16.GroundFinds': WHATEVER THE INPUT: true; the input reads as it did. -/
def groundFindsSpec : ChangeSpec := { name := "groundFinds", fn := fun _ => fun
  | [d1, d2] => { results := [.lit (.bool true)], args := [d1, d2] }
  | _ => none }
def groundFindsRow : OpenClaim := { program := "ytaedgpcmkagpeaagreat", sum := "8b5b0743498d12caacc17b12beee8f5e72b2159f08534c085af7e02dcdc0f360", func := "sorrel/sorrellaw16.GroundFinds", spec := "groundFinds", unfollowed := true, recurses := true, apart := false }
def GroundFindsSaid : Prop := groundFindsRow.holds Tryz.pinned (OpenSpec.ofChange groundFindsSpec)

/-- ITS FALSE NEIGHBOUR: 'it returns false'. Refute it at one input. -/
def groundFindsWrong : ChangeSpec := { name := "groundFinds", fn := fun _ => fun
  | [d1, d2] => { results := [.lit (.bool false)], args := [d1, d2] }
  | _ => none }
def GroundFindsWrongFalsely : Prop := groundFindsRow.holds Tryz.pinned (OpenSpec.ofChange groundFindsWrong)

/-- 'sorrellaw16.GroundCut': WHATEVER THE INPUT: true; the input reads as it did. -/
def groundCutSpec : ChangeSpec := { name := "groundCut", fn := fun _ => fun
  | [d1, d2] => { results := [.lit (.bool true)], args := [d1, d2] }
  | _ => none }
def groundCutRow : OpenClaim := { program := "ytaedgpcmkagpeaagreat", sum := "8b5b0743498d12caacc17b12beee8f5e72b2159f08534c085af7e02dcdc0f360", func := "sorrel/sorrellaw16.GroundCut", spec := "groundCut", unfollowed := true, recurses := true, apart := false }
def GroundCutSaid : Prop := groundCutRow.holds Tryz.pinned (OpenSpec.ofChange groundCutSpec)

/-- ITS FALSE NEIGHBOUR: 'it returns false'. Refute it at one input. -/
def groundCutWrong : ChangeSpec := { name := "groundCut", fn := fun _ => fun
  | [d1, d2] => { results := [.lit (.bool false)], args := [d1, d2] }
  | _ => none }
def GroundCutWrongFalsely : Prop := groundCutRow.holds Tryz.pinned (OpenSpec.ofChange groundCutWrong)

/-- 'sorrellaw16.GroundLeans': WHATEVER THE INPUT: true; the input reads as it did. -/
def groundLeansSpec : ChangeSpec := { name := "groundLeans", fn := fun _ => fun
  | [d1, d2, d3] => { results := [.lit (.bool true)], args := [d1, d2, d3] }
  | _ => none }
def groundLeansRow : OpenClaim := { program := "ytaedgpcmkagpeaagreat", sum := "8b5b0743498d12caacc17b12beee8f5e72b2159f08534c085af7e02dcdc0f360", func := "sorrel/sorrellaw16.GroundLeans", spec := "groundLeans", unfollowed := true, recurses := true, apart := false }
def GroundLeansSaid : Prop := groundLeansRow.holds Tryz.pinned (OpenSpec.ofChange groundLeansSpec)

/-- ITS FALSE NEIGHBOUR: 'it returns false'. Refute it at one input. -/
def groundLeansWrong : ChangeSpec := { name := "groundLeans", fn := fun _ => fun
  | [d1, d2, d3] => { results := [.lit (.bool false)], args := [d1, d2, d3] }
  | _ => none }
def GroundLeansWrongFalsely : Prop := groundLeansRow.holds Tryz.pinned (OpenSpec.ofChange groundLeansWrong)

/-- 'sorrellaw16.GroundMore': WHATEVER THE INPUT: true; the input reads as it did. -/
def groundMoreSpec : ChangeSpec := { name := "groundMore", fn := fun _ => fun
  | [d1, d2] => { results := [.lit (.bool true)], args := [d1, d2] }
  | _ => none }
def groundMoreRow : OpenClaim := { program := "ytaedgpcmkagpeaagreat", sum := "8b5b0743498d12caacc17b12beee8f5e72b2159f08534c085af7e02dcdc0f360", func := "sorrel/sorrellaw16.GroundMore", spec := "groundMore", unfollowed := true, recurses := true, apart := false }
def GroundMoreSaid : Prop := groundMoreRow.holds Tryz.pinned (OpenSpec.ofChange groundMoreSpec)

/-- ITS FALSE NEIGHBOUR: 'it returns false'. Refute it at one input. -/
def groundMoreWrong : ChangeSpec := { name := "groundMore", fn := fun _ => fun
  | [d1, d2] => { results := [.lit (.bool false)], args := [d1, d2] }
  | _ => none }
def GroundMoreWrongFalsely : Prop := groundMoreRow.holds Tryz.pinned (OpenSpec.ofChange groundMoreWrong)

/- THE SECOND FORM. 'bulk': how many values and letters a reading holds, each counted each time it is reached (what is shared counts as often as it is met; a slice's spare places count too). A statement '..UptoSaid' is the law's where the arguments, and the package variables that the reading takes, are together of bulk at most 1048576: NARROWER than '..Said'. Prove '..Said' where nothing that the law and all that it calls make is longer than what came in: it says more and counts as full. Else prove '..UptoSaid'. A law counts once. -/
mutual
def uptoBulk {H : Type} : DataW H → Nat
  | .lit (.string bytes) => bytes.length + 1
  | .lit _ => 1
  | .nil => 1
  | .ptr d => uptoBulk d + 1
  | .slice elems spare => uptoBulkAll elems + uptoBulkAll spare + 1
  | .agg parts => uptoBulkAll parts + 1
  | .iface _ d => uptoBulk d + 1
  | .map entries => uptoBulkEntries entries + 1
  | .held _ => 1
def uptoBulkAll {H : Type} : List (DataW H) → Nat
  | [] => 0
  | d :: r => uptoBulk d + uptoBulkAll r
def uptoBulkEntries {H : Type} : List (Lit × DataW H) → Nat
  | [] => 0
  | x :: r => uptoBulkEntry x + uptoBulkEntries r
def uptoBulkEntry {H : Type} : Lit × DataW H → Nat
  | (.string bytes, d) => bytes.length + uptoBulk d + 1
  | (_, d) => uptoBulk d + 1
 end
def uptoSmall : (H : Type) → List (DataW H) → Bool := fun _ ds => decide (uptoBulkAll ds ≤ 1048576)
def OpenSpec.upto (s : _root_.Go.ChangeSpec) : _root_.Go.OpenSpec := { _root_.Go.OpenSpec.ofChange s with cond := some uptoSmall }

/-- 'sorrellaw16.GroundTells', WHERE WHAT IT READS IS OF BULK AT MOST 1048576: true; the input reads as it did. -/
def groundTellsUptoRow : OpenClaim := { program := "ytaedgpcmkagpeaagreat", sum := "8b5b0743498d12caacc17b12beee8f5e72b2159f08534c085af7e02dcdc0f360", func := "sorrel/sorrellaw16.GroundTells", spec := "groundTells", unfollowed := true, recurses := true, apart := false, narrowed := true }
def GroundTellsUptoSaid : Prop := groundTellsUptoRow.holds Tryz.pinned (OpenSpec.upto groundTellsSpec)

/-- 'sorrellaw16.GroundAsks', WHERE WHAT IT READS IS OF BULK AT MOST 1048576: true; the input reads as it did. -/
def groundAsksUptoRow : OpenClaim := { program := "ytaedgpcmkagpeaagreat", sum := "8b5b0743498d12caacc17b12beee8f5e72b2159f08534c085af7e02dcdc0f360", func := "sorrel/sorrellaw16.GroundAsks", spec := "groundAsks", unfollowed := true, recurses := true, apart := false, narrowed := true }
def GroundAsksUptoSaid : Prop := groundAsksUptoRow.holds Tryz.pinned (OpenSpec.upto groundAsksSpec)

/-- 'sorrellaw16.GroundSets', WHERE WHAT IT READS IS OF BULK AT MOST 1048576: true; the input reads as it did. -/
def groundSetsUptoRow : OpenClaim := { program := "ytaedgpcmkagpeaagreat", sum := "8b5b0743498d12caacc17b12beee8f5e72b2159f08534c085af7e02dcdc0f360", func := "sorrel/sorrellaw16.GroundSets", spec := "groundSets", unfollowed := true, recurses := true, apart := false, narrowed := true }
def GroundSetsUptoSaid : Prop := groundSetsUptoRow.holds Tryz.pinned (OpenSpec.upto groundSetsSpec)

/-- 'sorrellaw16.GroundBack', WHERE WHAT IT READS IS OF BULK AT MOST 1048576: true; the input reads as it did. -/
def groundBackUptoRow : OpenClaim := { program := "ytaedgpcmkagpeaagreat", sum := "8b5b0743498d12caacc17b12beee8f5e72b2159f08534c085af7e02dcdc0f360", func := "sorrel/sorrellaw16.GroundBack", spec := "groundBack", unfollowed := true, recurses := true, apart := false, narrowed := true }
def GroundBackUptoSaid : Prop := groundBackUptoRow.holds Tryz.pinned (OpenSpec.upto groundBackSpec)

/-- 'sorrellaw16.GroundFinds', WHERE WHAT IT READS IS OF BULK AT MOST 1048576: true; the input reads as it did. -/
def groundFindsUptoRow : OpenClaim := { program := "ytaedgpcmkagpeaagreat", sum := "8b5b0743498d12caacc17b12beee8f5e72b2159f08534c085af7e02dcdc0f360", func := "sorrel/sorrellaw16.GroundFinds", spec := "groundFinds", unfollowed := true, recurses := true, apart := false, narrowed := true }
def GroundFindsUptoSaid : Prop := groundFindsUptoRow.holds Tryz.pinned (OpenSpec.upto groundFindsSpec)

/-- 'sorrellaw16.GroundCut', WHERE WHAT IT READS IS OF BULK AT MOST 1048576: true; the input reads as it did. -/
def groundCutUptoRow : OpenClaim := { program := "ytaedgpcmkagpeaagreat", sum := "8b5b0743498d12caacc17b12beee8f5e72b2159f08534c085af7e02dcdc0f360", func := "sorrel/sorrellaw16.GroundCut", spec := "groundCut", unfollowed := true, recurses := true, apart := false, narrowed := true }
def GroundCutUptoSaid : Prop := groundCutUptoRow.holds Tryz.pinned (OpenSpec.upto groundCutSpec)

/-- 'sorrellaw16.GroundLeans', WHERE WHAT IT READS IS OF BULK AT MOST 1048576: true; the input reads as it did. -/
def groundLeansUptoRow : OpenClaim := { program := "ytaedgpcmkagpeaagreat", sum := "8b5b0743498d12caacc17b12beee8f5e72b2159f08534c085af7e02dcdc0f360", func := "sorrel/sorrellaw16.GroundLeans", spec := "groundLeans", unfollowed := true, recurses := true, apart := false, narrowed := true }
def GroundLeansUptoSaid : Prop := groundLeansUptoRow.holds Tryz.pinned (OpenSpec.upto groundLeansSpec)

/-- 'sorrellaw16.GroundMore', WHERE WHAT IT READS IS OF BULK AT MOST 1048576: true; the input reads as it did. -/
def groundMoreUptoRow : OpenClaim := { program := "ytaedgpcmkagpeaagreat", sum := "8b5b0743498d12caacc17b12beee8f5e72b2159f08534c085af7e02dcdc0f360", func := "sorrel/sorrellaw16.GroundMore", spec := "groundMore", unfollowed := true, recurses := true, apart := false, narrowed := true }
def GroundMoreUptoSaid : Prop := groundMoreUptoRow.holds Tryz.pinned (OpenSpec.upto groundMoreSpec)

end Rows
end Go.Proofs.YtaedgpcmkagpeaaGreat
