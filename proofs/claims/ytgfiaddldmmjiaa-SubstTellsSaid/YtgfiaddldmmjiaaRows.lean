/-
  No cell of these rows narrows 'for every input' (looked for: loops, veiled, ifaces, maps, wideKeys, modest, calm, conditions, laid).
  DERIVED. THE GIVEN ROWS OF THIS SEAT. 9 by the template 'for every input the law returns true; each argument reads behind the call as it read before'; 0 by the template 'total and deterministic' (their statements: YtgfiaddldmmjiaaTotals.lean).
  GIVEN WITH THE SEED: the statements are not yours to turn. If you find one false, say at which input.
  Laid BY PROGRAM, IN A SANDBOX (cutbox-rows.mjs): the forced cells as the released guide's own fill.sh prints them over the translation 72ed06577c459570… (all of the seat's roots in one cut). By AI agents, Wed Nov 11 2026. No macro, syntax, notation, axiom, sorry.
-/
import Derived.Test.YtgfiaddldmmjiaaChecked
import GoSem.Claim
import GoSem.ClaimJoined
import GoSem.ClaimMapViews
import Derived.JoinedTies
import Derived.KernelRfl
namespace Go.Proofs.Ytgfiaddldmmjiaa
/- THE CELL 'sum', in the pinned program and in every row, IS THE sha256 OF THE DUMP (.gsa) THAT YtgfiaddldmmjiaaProg.lean LOADS. Nothing in Lean hashes anything: it is a label: what it is worth is what the hold of that sum in a sandbox is worth. -/
noncomputable def Try.pinned : Pinned := { name := "ytgfiaddldmmjiaa", sum := "72ed06577c45957000b46325dc36f731f5a88980b492fabd4c4ec05354c4f9f5", checked := Try.checked }
namespace Rows
def none {H : Type} : Left H := { results := [], args := [] }

/-- 'sorrellaw02.SubstTells': WHATEVER THE INPUT: true; the input reads as it did. -/
def substTellsSpec : ChangeSpec := { name := "substTells", fn := fun _ => fun
  | [d1, d2, d3] => { results := [.lit (.bool true)], args := [d1, d2, d3] }
  | _ => none }
def substTellsRow : OpenClaim := { program := "ytgfiaddldmmjiaa", sum := "72ed06577c45957000b46325dc36f731f5a88980b492fabd4c4ec05354c4f9f5", func := "sorrel/sorrellaw02.SubstTells", spec := "substTells", unfollowed := true, recurses := true, apart := false }
def SubstTellsSaid : Prop := substTellsRow.holds Try.pinned (OpenSpec.ofChange substTellsSpec)

/-- ITS FALSE NEIGHBOUR: 'it returns false'. Refute it at one input. -/
def substTellsWrong : ChangeSpec := { name := "substTells", fn := fun _ => fun
  | [d1, d2, d3] => { results := [.lit (.bool false)], args := [d1, d2, d3] }
  | _ => none }
def SubstTellsWrongFalsely : Prop := substTellsRow.holds Try.pinned (OpenSpec.ofChange substTellsWrong)

/-- 'sorrellaw02.SubstCompose': WHATEVER THE INPUT: true; the input reads as it did. -/
def substComposeSpec : ChangeSpec := { name := "substCompose", fn := fun _ => fun
  | [d1, d2, d3] => { results := [.lit (.bool true)], args := [d1, d2, d3] }
  | _ => none }
def substComposeRow : OpenClaim := { program := "ytgfiaddldmmjiaa", sum := "72ed06577c45957000b46325dc36f731f5a88980b492fabd4c4ec05354c4f9f5", func := "sorrel/sorrellaw02.SubstCompose", spec := "substCompose", unfollowed := true, recurses := true, apart := false }
def SubstComposeSaid : Prop := substComposeRow.holds Try.pinned (OpenSpec.ofChange substComposeSpec)

/-- ITS FALSE NEIGHBOUR: 'it returns false'. Refute it at one input. -/
def substComposeWrong : ChangeSpec := { name := "substCompose", fn := fun _ => fun
  | [d1, d2, d3] => { results := [.lit (.bool false)], args := [d1, d2, d3] }
  | _ => none }
def SubstComposeWrongFalsely : Prop := substComposeRow.holds Try.pinned (OpenSpec.ofChange substComposeWrong)

/-- 'sorrellaw02.SubstThree': WHATEVER THE INPUT: true; the input reads as it did. -/
def substThreeSpec : ChangeSpec := { name := "substThree", fn := fun _ => fun
  | [d1, d2, d3] => { results := [.lit (.bool true)], args := [d1, d2, d3] }
  | _ => none }
def substThreeRow : OpenClaim := { program := "ytgfiaddldmmjiaa", sum := "72ed06577c45957000b46325dc36f731f5a88980b492fabd4c4ec05354c4f9f5", func := "sorrel/sorrellaw02.SubstThree", spec := "substThree", unfollowed := true, recurses := true, apart := false }
def SubstThreeSaid : Prop := substThreeRow.holds Try.pinned (OpenSpec.ofChange substThreeSpec)

/-- ITS FALSE NEIGHBOUR: 'it returns false'. Refute it at one input. -/
def substThreeWrong : ChangeSpec := { name := "substThree", fn := fun _ => fun
  | [d1, d2, d3] => { results := [.lit (.bool false)], args := [d1, d2, d3] }
  | _ => none }
def SubstThreeWrongFalsely : Prop := substThreeRow.holds Try.pinned (OpenSpec.ofChange substThreeWrong)

/-- 'sorrellaw02.SubstIdem': WHATEVER THE INPUT: true; the input reads as it did. -/
def substIdemSpec : ChangeSpec := { name := "substIdem", fn := fun _ => fun
  | [d1, d2] => { results := [.lit (.bool true)], args := [d1, d2] }
  | _ => none }
def substIdemRow : OpenClaim := { program := "ytgfiaddldmmjiaa", sum := "72ed06577c45957000b46325dc36f731f5a88980b492fabd4c4ec05354c4f9f5", func := "sorrel/sorrellaw02.SubstIdem", spec := "substIdem", unfollowed := true, recurses := true, apart := false }
def SubstIdemSaid : Prop := substIdemRow.holds Try.pinned (OpenSpec.ofChange substIdemSpec)

/-- ITS FALSE NEIGHBOUR: 'it returns false'. Refute it at one input. -/
def substIdemWrong : ChangeSpec := { name := "substIdem", fn := fun _ => fun
  | [d1, d2] => { results := [.lit (.bool false)], args := [d1, d2] }
  | _ => none }
def SubstIdemWrongFalsely : Prop := substIdemRow.holds Try.pinned (OpenSpec.ofChange substIdemWrong)

/-- 'sorrellaw02.SubstKeep': WHATEVER THE INPUT: true; the input reads as it did. -/
def substKeepSpec : ChangeSpec := { name := "substKeep", fn := fun _ => fun
  | [d1, d2] => { results := [.lit (.bool true)], args := [d1, d2] }
  | _ => none }
def substKeepRow : OpenClaim := { program := "ytgfiaddldmmjiaa", sum := "72ed06577c45957000b46325dc36f731f5a88980b492fabd4c4ec05354c4f9f5", func := "sorrel/sorrellaw02.SubstKeep", spec := "substKeep", unfollowed := true, recurses := true, apart := false }
def SubstKeepSaid : Prop := substKeepRow.holds Try.pinned (OpenSpec.ofChange substKeepSpec)

/-- ITS FALSE NEIGHBOUR: 'it returns false'. Refute it at one input. -/
def substKeepWrong : ChangeSpec := { name := "substKeep", fn := fun _ => fun
  | [d1, d2] => { results := [.lit (.bool false)], args := [d1, d2] }
  | _ => none }
def SubstKeepWrongFalsely : Prop := substKeepRow.holds Try.pinned (OpenSpec.ofChange substKeepWrong)

/-- 'sorrellaw02.SubstParts': WHATEVER THE INPUT: true; the input reads as it did. -/
def substPartsSpec : ChangeSpec := { name := "substParts", fn := fun _ => fun
  | [d1, d2] => { results := [.lit (.bool true)], args := [d1, d2] }
  | _ => none }
def substPartsRow : OpenClaim := { program := "ytgfiaddldmmjiaa", sum := "72ed06577c45957000b46325dc36f731f5a88980b492fabd4c4ec05354c4f9f5", func := "sorrel/sorrellaw02.SubstParts", spec := "substParts", unfollowed := true, recurses := true, apart := false }
def SubstPartsSaid : Prop := substPartsRow.holds Try.pinned (OpenSpec.ofChange substPartsSpec)

/-- ITS FALSE NEIGHBOUR: 'it returns false'. Refute it at one input. -/
def substPartsWrong : ChangeSpec := { name := "substParts", fn := fun _ => fun
  | [d1, d2] => { results := [.lit (.bool false)], args := [d1, d2] }
  | _ => none }
def SubstPartsWrongFalsely : Prop := substPartsRow.holds Try.pinned (OpenSpec.ofChange substPartsWrong)

/-- 'sorrellaw02.SubstVars': WHATEVER THE INPUT: true; the input reads as it did. -/
def substVarsSpec : ChangeSpec := { name := "substVars", fn := fun _ => fun
  | [d1, d2] => { results := [.lit (.bool true)], args := [d1, d2] }
  | _ => none }
def substVarsRow : OpenClaim := { program := "ytgfiaddldmmjiaa", sum := "72ed06577c45957000b46325dc36f731f5a88980b492fabd4c4ec05354c4f9f5", func := "sorrel/sorrellaw02.SubstVars", spec := "substVars", unfollowed := true, recurses := true, apart := false }
def SubstVarsSaid : Prop := substVarsRow.holds Try.pinned (OpenSpec.ofChange substVarsSpec)

/-- ITS FALSE NEIGHBOUR: 'it returns false'. Refute it at one input. -/
def substVarsWrong : ChangeSpec := { name := "substVars", fn := fun _ => fun
  | [d1, d2] => { results := [.lit (.bool false)], args := [d1, d2] }
  | _ => none }
def SubstVarsWrongFalsely : Prop := substVarsRow.holds Try.pinned (OpenSpec.ofChange substVarsWrong)

/-- 'sorrellaw02.SubstLong': WHATEVER THE INPUT: true; the input reads as it did. -/
def substLongSpec : ChangeSpec := { name := "substLong", fn := fun _ => fun
  | [d1, d2] => { results := [.lit (.bool true)], args := [d1, d2] }
  | _ => none }
def substLongRow : OpenClaim := { program := "ytgfiaddldmmjiaa", sum := "72ed06577c45957000b46325dc36f731f5a88980b492fabd4c4ec05354c4f9f5", func := "sorrel/sorrellaw02.SubstLong", spec := "substLong", unfollowed := true, recurses := true, apart := false }
def SubstLongSaid : Prop := substLongRow.holds Try.pinned (OpenSpec.ofChange substLongSpec)

/-- ITS FALSE NEIGHBOUR: 'it returns false'. Refute it at one input. -/
def substLongWrong : ChangeSpec := { name := "substLong", fn := fun _ => fun
  | [d1, d2] => { results := [.lit (.bool false)], args := [d1, d2] }
  | _ => none }
def SubstLongWrongFalsely : Prop := substLongRow.holds Try.pinned (OpenSpec.ofChange substLongWrong)

/-- 'sorrellaw02.SubstSwap': WHATEVER THE INPUT: true; the input reads as it did. -/
def substSwapSpec : ChangeSpec := { name := "substSwap", fn := fun _ => fun
  | [d1, d2, d3] => { results := [.lit (.bool true)], args := [d1, d2, d3] }
  | _ => none }
def substSwapRow : OpenClaim := { program := "ytgfiaddldmmjiaa", sum := "72ed06577c45957000b46325dc36f731f5a88980b492fabd4c4ec05354c4f9f5", func := "sorrel/sorrellaw02.SubstSwap", spec := "substSwap", unfollowed := true, recurses := true, apart := false }
def SubstSwapSaid : Prop := substSwapRow.holds Try.pinned (OpenSpec.ofChange substSwapSpec)

/-- ITS FALSE NEIGHBOUR: 'it returns false'. Refute it at one input. -/
def substSwapWrong : ChangeSpec := { name := "substSwap", fn := fun _ => fun
  | [d1, d2, d3] => { results := [.lit (.bool false)], args := [d1, d2, d3] }
  | _ => none }
def SubstSwapWrongFalsely : Prop := substSwapRow.holds Try.pinned (OpenSpec.ofChange substSwapWrong)

/- THE SECOND FORM. 'bulk': how many values and letters a reading holds, each counted each time it is reached (what is shared counts as often as it is met; a slice's spare places count too). A statement '..UptoSaid' is the law's where the arguments, and the package variables that the reading takes, are together of bulk at most 1048576: NARROWER than '..Said'. Prove '..Said' where nothing that the law and all that it calls make is longer than what came in: it says more and counts as full. Else prove '..UptoSaid'. A law counts once. -/
mutual
def uptoBulk {H : Type} : DataW H → Nat
  | .lit (.string bytes) => bytes.length + 1
  | .lit _ => 1
  | .nil => 1
  | .ptr d => uptoBulk d + 1
  | .slice elems spare => uptoBulkAll elems + uptoBulkAll spare + 1
  | .agg parts => uptoBulkAll parts + 1
  | .iface _ d => uptoBulk d + 1
  | .map entries => uptoBulkEntries entries + 1
  | .held _ => 1
def uptoBulkAll {H : Type} : List (DataW H) → Nat
  | [] => 0
  | d :: r => uptoBulk d + uptoBulkAll r
def uptoBulkEntries {H : Type} : List (Lit × DataW H) → Nat
  | [] => 0
  | x :: r => uptoBulkEntry x + uptoBulkEntries r
def uptoBulkEntry {H : Type} : Lit × DataW H → Nat
  | (.string bytes, d) => bytes.length + uptoBulk d + 1
  | (_, d) => uptoBulk d + 1
 end
def uptoSmall : (H : Type) → List (DataW H) → Bool := fun _ ds => decide (uptoBulkAll ds ≤ 1048576)
def OpenSpec.upto (s : _root_.Go.ChangeSpec) : _root_.Go.OpenSpec := { _root_.Go.OpenSpec.ofChange s with cond := some uptoSmall }

/-- 'sorrellaw02.SubstTells', WHERE WHAT IT READS IS OF BULK AT MOST 1048576: true; the input reads as it did. -/
def substTellsUptoRow : OpenClaim := { program := "ytgfiaddldmmjiaa", sum := "72ed06577c45957000b46325dc36f731f5a88980b492fabd4c4ec05354c4f9f5", func := "sorrel/sorrellaw02.SubstTells", spec := "substTells", unfollowed := true, recurses := true, apart := false, narrowed := true }
def SubstTellsUptoSaid : Prop := substTellsUptoRow.holds Try.pinned (OpenSpec.upto substTellsSpec)

/-- 'sorrellaw02.SubstCompose', WHERE WHAT IT READS IS OF BULK AT MOST 1048576: true; the input reads as it did. -/
def substComposeUptoRow : OpenClaim := { program := "ytgfiaddldmmjiaa", sum := "72ed06577c45957000b46325dc36f731f5a88980b492fabd4c4ec05354c4f9f5", func := "sorrel/sorrellaw02.SubstCompose", spec := "substCompose", unfollowed := true, recurses := true, apart := false, narrowed := true }
def SubstComposeUptoSaid : Prop := substComposeUptoRow.holds Try.pinned (OpenSpec.upto substComposeSpec)

/-- 'sorrellaw02.SubstThree', WHERE WHAT IT READS IS OF BULK AT MOST 1048576: true; the input reads as it did. -/
def substThreeUptoRow : OpenClaim := { program := "ytgfiaddldmmjiaa", sum := "72ed06577c45957000b46325dc36f731f5a88980b492fabd4c4ec05354c4f9f5", func := "sorrel/sorrellaw02.SubstThree", spec := "substThree", unfollowed := true, recurses := true, apart := false, narrowed := true }
def SubstThreeUptoSaid : Prop := substThreeUptoRow.holds Try.pinned (OpenSpec.upto substThreeSpec)

/-- 'sorrellaw02.SubstIdem', WHERE WHAT IT READS IS OF BULK AT MOST 1048576: true; the input reads as it did. -/
def substIdemUptoRow : OpenClaim := { program := "ytgfiaddldmmjiaa", sum := "72ed06577c45957000b46325dc36f731f5a88980b492fabd4c4ec05354c4f9f5", func := "sorrel/sorrellaw02.SubstIdem", spec := "substIdem", unfollowed := true, recurses := true, apart := false, narrowed := true }
def SubstIdemUptoSaid : Prop := substIdemUptoRow.holds Try.pinned (OpenSpec.upto substIdemSpec)

/-- 'sorrellaw02.SubstKeep', WHERE WHAT IT READS IS OF BULK AT MOST 1048576: true; the input reads as it did. -/
def substKeepUptoRow : OpenClaim := { program := "ytgfiaddldmmjiaa", sum := "72ed06577c45957000b46325dc36f731f5a88980b492fabd4c4ec05354c4f9f5", func := "sorrel/sorrellaw02.SubstKeep", spec := "substKeep", unfollowed := true, recurses := true, apart := false, narrowed := true }
def SubstKeepUptoSaid : Prop := substKeepUptoRow.holds Try.pinned (OpenSpec.upto substKeepSpec)

/-- 'sorrellaw02.SubstParts', WHERE WHAT IT READS IS OF BULK AT MOST 1048576: true; the input reads as it did. -/
def substPartsUptoRow : OpenClaim := { program := "ytgfiaddldmmjiaa", sum := "72ed06577c45957000b46325dc36f731f5a88980b492fabd4c4ec05354c4f9f5", func := "sorrel/sorrellaw02.SubstParts", spec := "substParts", unfollowed := true, recurses := true, apart := false, narrowed := true }
def SubstPartsUptoSaid : Prop := substPartsUptoRow.holds Try.pinned (OpenSpec.upto substPartsSpec)

/-- 'sorrellaw02.SubstVars', WHERE WHAT IT READS IS OF BULK AT MOST 1048576: true; the input reads as it did. -/
def substVarsUptoRow : OpenClaim := { program := "ytgfiaddldmmjiaa", sum := "72ed06577c45957000b46325dc36f731f5a88980b492fabd4c4ec05354c4f9f5", func := "sorrel/sorrellaw02.SubstVars", spec := "substVars", unfollowed := true, recurses := true, apart := false, narrowed := true }
def SubstVarsUptoSaid : Prop := substVarsUptoRow.holds Try.pinned (OpenSpec.upto substVarsSpec)

/-- 'sorrellaw02.SubstLong', WHERE WHAT IT READS IS OF BULK AT MOST 1048576: true; the input reads as it did. -/
def substLongUptoRow : OpenClaim := { program := "ytgfiaddldmmjiaa", sum := "72ed06577c45957000b46325dc36f731f5a88980b492fabd4c4ec05354c4f9f5", func := "sorrel/sorrellaw02.SubstLong", spec := "substLong", unfollowed := true, recurses := true, apart := false, narrowed := true }
def SubstLongUptoSaid : Prop := substLongUptoRow.holds Try.pinned (OpenSpec.upto substLongSpec)

/-- 'sorrellaw02.SubstSwap', WHERE WHAT IT READS IS OF BULK AT MOST 1048576: true; the input reads as it did. -/
def substSwapUptoRow : OpenClaim := { program := "ytgfiaddldmmjiaa", sum := "72ed06577c45957000b46325dc36f731f5a88980b492fabd4c4ec05354c4f9f5", func := "sorrel/sorrellaw02.SubstSwap", spec := "substSwap", unfollowed := true, recurses := true, apart := false, narrowed := true }
def SubstSwapUptoSaid : Prop := substSwapUptoRow.holds Try.pinned (OpenSpec.upto substSwapSpec)

end Rows
end Go.Proofs.Ytgfiaddldmmjiaa
