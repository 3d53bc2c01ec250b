/-
  No cell of these rows narrows 'for every input' (looked for: loops, veiled, ifaces, maps, wideKeys, modest, calm, conditions, laid).
  DERIVED. THE GIVEN ROWS OF THIS SEAT. 4 by the template 'for every input the law returns true; each argument reads behind the call as it read before'; 0 by the template 'total and deterministic' (their statements: YtckkjjiaecnciaaGreatTotals.lean).
  GIVEN WITH THE SEED: the statements are not yours to turn. If you find one false, say at which input.
  Laid BY PROGRAM, IN A SANDBOX (cutbox-rows.mjs): the forced cells as the released guide's own fill.sh prints them over the translation 6e6296caf991e617… (all of the seat's roots in one cut). By AI agents, Wed Nov 11 2026. No macro, syntax, notation, axiom, sorry.
-/
import Derived.Test.YtckkjjiaecnciaaGreatChecked
import GoSem.Claim
import GoSem.ClaimJoined
import GoSem.ClaimMapViews
import Derived.JoinedTies
import Derived.KernelRfl
namespace Go.Proofs.YtckkjjiaecnciaaGreat
/- THE CELL 'sum', in the pinned program and in every row, IS THE sha256 OF THE DUMP (.gsa) THAT YtckkjjiaecnciaaGreatProg.lean LOADS. Nothing in Lean hashes anything: it is a label: what it is worth is what the hold of that sum in a sandbox is worth. -/
noncomputable def Tryz.pinned : Pinned := { name := "ytckkjjiaecnciaagreat", sum := "6e6296caf991e617bc8e8fde4671c2433498d289144088d7f0f125aa972c0291", checked := Tryz.checked }
namespace Rows
def none {H : Type} : Left H := { results := [], args := [] }

/-- 'sorrellaw14.SpaceTells': WHATEVER THE INPUT: true; the input reads as it did. -/
def spaceTellsSpec : ChangeSpec := { name := "spaceTells", fn := fun _ => fun
  | [d1, d2, d3] => { results := [.lit (.bool true)], args := [d1, d2, d3] }
  | _ => none }
def spaceTellsRow : OpenClaim := { program := "ytckkjjiaecnciaagreat", sum := "6e6296caf991e617bc8e8fde4671c2433498d289144088d7f0f125aa972c0291", func := "sorrel/sorrellaw14.SpaceTells", spec := "spaceTells", unfollowed := true, recurses := true, apart := false }
def SpaceTellsSaid : Prop := spaceTellsRow.holds Tryz.pinned (OpenSpec.ofChange spaceTellsSpec)

/-- ITS FALSE NEIGHBOUR: 'it returns false'. Refute it at one input. -/
def spaceTellsWrong : ChangeSpec := { name := "spaceTells", fn := fun _ => fun
  | [d1, d2, d3] => { results := [.lit (.bool false)], args := [d1, d2, d3] }
  | _ => none }
def SpaceTellsWrongFalsely : Prop := spaceTellsRow.holds Tryz.pinned (OpenSpec.ofChange spaceTellsWrong)

/-- 'sorrellaw14.SpaceFinds': WHATEVER THE INPUT: true; the input reads as it did. -/
def spaceFindsSpec : ChangeSpec := { name := "spaceFinds", fn := fun _ => fun
  | [d1, d2] => { results := [.lit (.bool true)], args := [d1, d2] }
  | _ => none }
def spaceFindsRow : OpenClaim := { program := "ytckkjjiaecnciaagreat", sum := "6e6296caf991e617bc8e8fde4671c2433498d289144088d7f0f125aa972c0291", func := "sorrel/sorrellaw14.SpaceFinds", spec := "spaceFinds", unfollowed := true, recurses := true, apart := false }
def SpaceFindsSaid : Prop := spaceFindsRow.holds Tryz.pinned (OpenSpec.ofChange spaceFindsSpec)

/-- ITS FALSE NEIGHBOUR: 'it returns false'. Refute it at one input. -/
def spaceFindsWrong : ChangeSpec := { name := "spaceFinds", fn := fun _ => fun
  | [d1, d2] => { results := [.lit (.bool false)], args := [d1, d2] }
  | _ => none }
def SpaceFindsWrongFalsely : Prop := spaceFindsRow.holds Tryz.pinned (OpenSpec.ofChange spaceFindsWrong)

/-- 'sorrellaw14.SpaceOnce': WHATEVER THE INPUT: true; the input reads as it did. -/
def spaceOnceSpec : ChangeSpec := { name := "spaceOnce", fn := fun _ => fun
  | [d1, d2] => { results := [.lit (.bool true)], args := [d1, d2] }
  | _ => none }
def spaceOnceRow : OpenClaim := { program := "ytckkjjiaecnciaagreat", sum := "6e6296caf991e617bc8e8fde4671c2433498d289144088d7f0f125aa972c0291", func := "sorrel/sorrellaw14.SpaceOnce", spec := "spaceOnce", unfollowed := true, recurses := true, apart := false }
def SpaceOnceSaid : Prop := spaceOnceRow.holds Tryz.pinned (OpenSpec.ofChange spaceOnceSpec)

/-- ITS FALSE NEIGHBOUR: 'it returns false'. Refute it at one input. -/
def spaceOnceWrong : ChangeSpec := { name := "spaceOnce", fn := fun _ => fun
  | [d1, d2] => { results := [.lit (.bool false)], args := [d1, d2] }
  | _ => none }
def SpaceOnceWrongFalsely : Prop := spaceOnceRow.holds Tryz.pinned (OpenSpec.ofChange spaceOnceWrong)

/-- 'sorrellaw14.SpaceSort': WHATEVER THE INPUT: true; the input reads as it did. -/
def spaceSortSpec : ChangeSpec := { name := "spaceSort", fn := fun _ => fun
  | [d] => { results := [.lit (.bool true)], args := [d] }
  | _ => none }
def spaceSortRow : OpenClaim := { program := "ytckkjjiaecnciaagreat", sum := "6e6296caf991e617bc8e8fde4671c2433498d289144088d7f0f125aa972c0291", func := "sorrel/sorrellaw14.SpaceSort", spec := "spaceSort", unfollowed := true, recurses := true, apart := false }
def SpaceSortSaid : Prop := spaceSortRow.holds Tryz.pinned (OpenSpec.ofChange spaceSortSpec)

/-- ITS FALSE NEIGHBOUR: 'it returns false'. Refute it at one input. -/
def spaceSortWrong : ChangeSpec := { name := "spaceSort", fn := fun _ => fun
  | [d] => { results := [.lit (.bool false)], args := [d] }
  | _ => none }
def SpaceSortWrongFalsely : Prop := spaceSortRow.holds Tryz.pinned (OpenSpec.ofChange spaceSortWrong)

/- THE SECOND FORM. 'bulk': how many values and letters a reading holds, each counted each time it is reached (what is shared counts as often as it is met; a slice's spare places count too). A statement '..UptoSaid' is the law's where the arguments, and the package variables that the reading takes, are together of bulk at most 1048576: NARROWER than '..Said'. Prove '..Said' where nothing that the law and all that it calls make is longer than what came in: it says more and counts as full. Else prove '..UptoSaid'. A law counts once. -/
mutual
def uptoBulk {H : Type} : DataW H → Nat
  | .lit (.string bytes) => bytes.length + 1
  | .lit _ => 1
  | .nil => 1
  | .ptr d => uptoBulk d + 1
  | .slice elems spare => uptoBulkAll elems + uptoBulkAll spare + 1
  | .agg parts => uptoBulkAll parts + 1
  | .iface _ d => uptoBulk d + 1
  | .map entries => uptoBulkEntries entries + 1
  | .held _ => 1
def uptoBulkAll {H : Type} : List (DataW H) → Nat
  | [] => 0
  | d :: r => uptoBulk d + uptoBulkAll r
def uptoBulkEntries {H : Type} : List (Lit × DataW H) → Nat
  | [] => 0
  | x :: r => uptoBulkEntry x + uptoBulkEntries r
def uptoBulkEntry {H : Type} : Lit × DataW H → Nat
  | (.string bytes, d) => bytes.length + uptoBulk d + 1
  | (_, d) => uptoBulk d + 1
 end
def uptoSmall : (H : Type) → List (DataW H) → Bool := fun _ ds => decide (uptoBulkAll ds ≤ 1048576)
def OpenSpec.upto (s : _root_.Go.ChangeSpec) : _root_.Go.OpenSpec := { _root_.Go.OpenSpec.ofChange s with cond := some uptoSmall }

/-- 'sorrellaw14.SpaceTells', WHERE WHAT IT READS IS OF BULK AT MOST 1048576: true; the input reads as it did. -/
def spaceTellsUptoRow : OpenClaim := { program := "ytckkjjiaecnciaagreat", sum := "6e6296caf991e617bc8e8fde4671c2433498d289144088d7f0f125aa972c0291", func := "sorrel/sorrellaw14.SpaceTells", spec := "spaceTells", unfollowed := true, recurses := true, apart := false, narrowed := true }
def SpaceTellsUptoSaid : Prop := spaceTellsUptoRow.holds Tryz.pinned (OpenSpec.upto spaceTellsSpec)

/-- 'sorrellaw14.SpaceFinds', WHERE WHAT IT READS IS OF BULK AT MOST 1048576: true; the input reads as it did. -/
def spaceFindsUptoRow : OpenClaim := { program := "ytckkjjiaecnciaagreat", sum := "6e6296caf991e617bc8e8fde4671c2433498d289144088d7f0f125aa972c0291", func := "sorrel/sorrellaw14.SpaceFinds", spec := "spaceFinds", unfollowed := true, recurses := true, apart := false, narrowed := true }
def SpaceFindsUptoSaid : Prop := spaceFindsUptoRow.holds Tryz.pinned (OpenSpec.upto spaceFindsSpec)

/-- 'sorrellaw14.SpaceOnce', WHERE WHAT IT READS IS OF BULK AT MOST 1048576: true; the input reads as it did. -/
def spaceOnceUptoRow : OpenClaim := { program := "ytckkjjiaecnciaagreat", sum := "6e6296caf991e617bc8e8fde4671c2433498d289144088d7f0f125aa972c0291", func := "sorrel/sorrellaw14.SpaceOnce", spec := "spaceOnce", unfollowed := true, recurses := true, apart := false, narrowed := true }
def SpaceOnceUptoSaid : Prop := spaceOnceUptoRow.holds Tryz.pinned (OpenSpec.upto spaceOnceSpec)

/-- 'sorrellaw14.SpaceSort', WHERE WHAT IT READS IS OF BULK AT MOST 1048576: true; the input reads as it did. -/
def spaceSortUptoRow : OpenClaim := { program := "ytckkjjiaecnciaagreat", sum := "6e6296caf991e617bc8e8fde4671c2433498d289144088d7f0f125aa972c0291", func := "sorrel/sorrellaw14.SpaceSort", spec := "spaceSort", unfollowed := true, recurses := true, apart := false, narrowed := true }
def SpaceSortUptoSaid : Prop := spaceSortUptoRow.holds Tryz.pinned (OpenSpec.upto spaceSortSpec)

end Rows
end Go.Proofs.YtckkjjiaecnciaaGreat
