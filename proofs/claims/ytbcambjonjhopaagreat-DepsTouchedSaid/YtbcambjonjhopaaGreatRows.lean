/-
  No cell of these rows narrows 'for every input' (looked for: loops, veiled, ifaces, maps, wideKeys, modest, calm, conditions, laid).
  DERIVED. THE GIVEN ROWS OF THIS SEAT. 5 by the template 'for every input the law returns true; each argument reads behind the call as it read before'; 0 by the template 'total and deterministic' (their statements: YtbcambjonjhopaaGreatTotals.lean).
  GIVEN WITH THE SEED: the statements are not yours to turn. If you find one false, say at which input.
  Laid BY PROGRAM, IN A SANDBOX (cutbox-rows.mjs): the forced cells as the released guide's own fill.sh prints them over the translation 96b1fb46beed3860… (all of the seat's roots in one cut). By AI agents, Wed Nov 11 2026. No macro, syntax, notation, axiom, sorry.
-/
import Derived.Test.YtbcambjonjhopaaGreatChecked
import GoSem.Claim
import GoSem.ClaimJoined
import GoSem.ClaimMapViews
import Derived.JoinedTies
import Derived.KernelRfl
namespace Go.Proofs.YtbcambjonjhopaaGreat
/- THE CELL 'sum', in the pinned program and in every row, IS THE sha256 OF THE DUMP (.gsa) THAT YtbcambjonjhopaaGreatProg.lean LOADS. Nothing in Lean hashes anything: it is a label: what it is worth is what the hold of that sum in a sandbox is worth. -/
noncomputable def Tryz.pinned : Pinned := { name := "ytbcambjonjhopaagreat", sum := "96b1fb46beed38606b2836759e08307d8133e8df7e35dc829d3f14f7e2a6d4b8", checked := Tryz.checked }
namespace Rows
def none {H : Type} : Left H := { results := [], args := [] }

/-- 'sorrellaw23.DepsTells': WHATEVER THE INPUT: true; the input reads as it did. -/
def depsTellsSpec : ChangeSpec := { name := "depsTells", fn := fun _ => fun
  | [d1, d2, d3] => { results := [.lit (.bool true)], args := [d1, d2, d3] }
  | _ => none }
def depsTellsRow : OpenClaim := { program := "ytbcambjonjhopaagreat", sum := "96b1fb46beed38606b2836759e08307d8133e8df7e35dc829d3f14f7e2a6d4b8", func := "sorrel/sorrellaw23.DepsTells", spec := "depsTells", unfollowed := true, recurses := true, plainKeys := false, apart := false }
def DepsTellsSaid : Prop := depsTellsRow.holds Tryz.pinned (OpenSpec.ofChange depsTellsSpec)

/-- ITS FALSE NEIGHBOUR: 'it returns false'. Refute it at one input. -/
def depsTellsWrong : ChangeSpec := { name := "depsTells", fn := fun _ => fun
  | [d1, d2, d3] => { results := [.lit (.bool false)], args := [d1, d2, d3] }
  | _ => none }
def DepsTellsWrongFalsely : Prop := depsTellsRow.holds Tryz.pinned (OpenSpec.ofChange depsTellsWrong)

/-- 'sorrellaw23.DepsTouched': WHATEVER THE INPUT: true; the input reads as it did. -/
def depsTouchedSpec : ChangeSpec := { name := "depsTouched", fn := fun _ => fun
  | [d1, d2] => { results := [.lit (.bool true)], args := [d1, d2] }
  | _ => none }
def depsTouchedRow : OpenClaim := { program := "ytbcambjonjhopaagreat", sum := "96b1fb46beed38606b2836759e08307d8133e8df7e35dc829d3f14f7e2a6d4b8", func := "sorrel/sorrellaw23.DepsTouched", spec := "depsTouched", unfollowed := true, recurses := true, plainKeys := false, apart := false }
def DepsTouchedSaid : Prop := depsTouchedRow.holds Tryz.pinned (OpenSpec.ofChange depsTouchedSpec)

/-- ITS FALSE NEIGHBOUR: 'it returns false'. Refute it at one input. -/
def depsTouchedWrong : ChangeSpec := { name := "depsTouched", fn := fun _ => fun
  | [d1, d2] => { results := [.lit (.bool false)], args := [d1, d2] }
  | _ => none }
def DepsTouchedWrongFalsely : Prop := depsTouchedRow.holds Tryz.pinned (OpenSpec.ofChange depsTouchedWrong)

/-- 'sorrellaw23.DepsDirty': WHATEVER THE INPUT: true; the input reads as it did. -/
def depsDirtySpec : ChangeSpec := { name := "depsDirty", fn := fun _ => fun
  | [d1, d2] => { results := [.lit (.bool true)], args := [d1, d2] }
  | _ => none }
def depsDirtyRow : OpenClaim := { program := "ytbcambjonjhopaagreat", sum := "96b1fb46beed38606b2836759e08307d8133e8df7e35dc829d3f14f7e2a6d4b8", func := "sorrel/sorrellaw23.DepsDirty", spec := "depsDirty", unfollowed := true, recurses := true, plainKeys := false, apart := false }
def DepsDirtySaid : Prop := depsDirtyRow.holds Tryz.pinned (OpenSpec.ofChange depsDirtySpec)

/-- ITS FALSE NEIGHBOUR: 'it returns false'. Refute it at one input. -/
def depsDirtyWrong : ChangeSpec := { name := "depsDirty", fn := fun _ => fun
  | [d1, d2] => { results := [.lit (.bool false)], args := [d1, d2] }
  | _ => none }
def DepsDirtyWrongFalsely : Prop := depsDirtyRow.holds Tryz.pinned (OpenSpec.ofChange depsDirtyWrong)

/-- 'sorrellaw23.DepsSame': WHATEVER THE INPUT: true; the input reads as it did. -/
def depsSameSpec : ChangeSpec := { name := "depsSame", fn := fun _ => fun
  | [d1, d2] => { results := [.lit (.bool true)], args := [d1, d2] }
  | _ => none }
def depsSameRow : OpenClaim := { program := "ytbcambjonjhopaagreat", sum := "96b1fb46beed38606b2836759e08307d8133e8df7e35dc829d3f14f7e2a6d4b8", func := "sorrel/sorrellaw23.DepsSame", spec := "depsSame", unfollowed := true, recurses := true, plainKeys := false, apart := false }
def DepsSameSaid : Prop := depsSameRow.holds Tryz.pinned (OpenSpec.ofChange depsSameSpec)

/-- ITS FALSE NEIGHBOUR: 'it returns false'. Refute it at one input. -/
def depsSameWrong : ChangeSpec := { name := "depsSame", fn := fun _ => fun
  | [d1, d2] => { results := [.lit (.bool false)], args := [d1, d2] }
  | _ => none }
def DepsSameWrongFalsely : Prop := depsSameRow.holds Tryz.pinned (OpenSpec.ofChange depsSameWrong)

/-- 'sorrellaw23.DepsMore': WHATEVER THE INPUT: true; the input reads as it did. -/
def depsMoreSpec : ChangeSpec := { name := "depsMore", fn := fun _ => fun
  | [d1, d2, d3] => { results := [.lit (.bool true)], args := [d1, d2, d3] }
  | _ => none }
def depsMoreRow : OpenClaim := { program := "ytbcambjonjhopaagreat", sum := "96b1fb46beed38606b2836759e08307d8133e8df7e35dc829d3f14f7e2a6d4b8", func := "sorrel/sorrellaw23.DepsMore", spec := "depsMore", unfollowed := true, recurses := true, plainKeys := false, apart := false }
def DepsMoreSaid : Prop := depsMoreRow.holds Tryz.pinned (OpenSpec.ofChange depsMoreSpec)

/-- ITS FALSE NEIGHBOUR: 'it returns false'. Refute it at one input. -/
def depsMoreWrong : ChangeSpec := { name := "depsMore", fn := fun _ => fun
  | [d1, d2, d3] => { results := [.lit (.bool false)], args := [d1, d2, d3] }
  | _ => none }
def DepsMoreWrongFalsely : Prop := depsMoreRow.holds Tryz.pinned (OpenSpec.ofChange depsMoreWrong)

/- THE SECOND FORM. 'bulk': how many values and letters a reading holds, each counted each time it is reached (what is shared counts as often as it is met; a slice's spare places count too). A statement '..UptoSaid' is the law's where the arguments, and the package variables that the reading takes, are together of bulk at most 1048576: NARROWER than '..Said'. Prove '..Said' where nothing that the law and all that it calls make is longer than what came in: it says more and counts as full. Else prove '..UptoSaid'. A law counts once. -/
mutual
def uptoBulk {H : Type} : DataW H → Nat
  | .lit (.string bytes) => bytes.length + 1
  | .lit _ => 1
  | .nil => 1
  | .ptr d => uptoBulk d + 1
  | .slice elems spare => uptoBulkAll elems + uptoBulkAll spare + 1
  | .agg parts => uptoBulkAll parts + 1
  | .iface _ d => uptoBulk d + 1
  | .map entries => uptoBulkEntries entries + 1
  | .held _ => 1
def uptoBulkAll {H : Type} : List (DataW H) → Nat
  | [] => 0
  | d :: r => uptoBulk d + uptoBulkAll r
def uptoBulkEntries {H : Type} : List (Lit × DataW H) → Nat
  | [] => 0
  | x :: r => uptoBulkEntry x + uptoBulkEntries r
def uptoBulkEntry {H : Type} : Lit × DataW H → Nat
  | (.string bytes, d) => bytes.length + uptoBulk d + 1
  | (_, d) => uptoBulk d + 1
 end
def uptoSmall : (H : Type) → List (DataW H) → Bool := fun _ ds => decide (uptoBulkAll ds ≤ 1048576)
def OpenSpec.upto (s : _root_.Go.ChangeSpec) : _root_.Go.OpenSpec := { _root_.Go.OpenSpec.ofChange s with cond := some uptoSmall }

/-- 'sorrellaw23.DepsTells', WHERE WHAT IT READS IS OF BULK AT MOST 1048576: true; the input reads as it did. -/
def depsTellsUptoRow : OpenClaim := { program := "ytbcambjonjhopaagreat", sum := "96b1fb46beed38606b2836759e08307d8133e8df7e35dc829d3f14f7e2a6d4b8", func := "sorrel/sorrellaw23.DepsTells", spec := "depsTells", unfollowed := true, recurses := true, plainKeys := false, apart := false, narrowed := true }
def DepsTellsUptoSaid : Prop := depsTellsUptoRow.holds Tryz.pinned (OpenSpec.upto depsTellsSpec)

/-- 'sorrellaw23.DepsTouched', WHERE WHAT IT READS IS OF BULK AT MOST 1048576: true; the input reads as it did. -/
def depsTouchedUptoRow : OpenClaim := { program := "ytbcambjonjhopaagreat", sum := "96b1fb46beed38606b2836759e08307d8133e8df7e35dc829d3f14f7e2a6d4b8", func := "sorrel/sorrellaw23.DepsTouched", spec := "depsTouched", unfollowed := true, recurses := true, plainKeys := false, apart := false, narrowed := true }
def DepsTouchedUptoSaid : Prop := depsTouchedUptoRow.holds Tryz.pinned (OpenSpec.upto depsTouchedSpec)

/-- 'sorrellaw23.DepsDirty', WHERE WHAT IT READS IS OF BULK AT MOST 1048576: true; the input reads as it did. -/
def depsDirtyUptoRow : OpenClaim := { program := "ytbcambjonjhopaagreat", sum := "96b1fb46beed38606b2836759e08307d8133e8df7e35dc829d3f14f7e2a6d4b8", func := "sorrel/sorrellaw23.DepsDirty", spec := "depsDirty", unfollowed := true, recurses := true, plainKeys := false, apart := false, narrowed := true }
def DepsDirtyUptoSaid : Prop := depsDirtyUptoRow.holds Tryz.pinned (OpenSpec.upto depsDirtySpec)

/-- 'sorrellaw23.DepsSame', WHERE WHAT IT READS IS OF BULK AT MOST 1048576: true; the input reads as it did. -/
def depsSameUptoRow : OpenClaim := { program := "ytbcambjonjhopaagreat", sum := "96b1fb46beed38606b2836759e08307d8133e8df7e35dc829d3f14f7e2a6d4b8", func := "sorrel/sorrellaw23.DepsSame", spec := "depsSame", unfollowed := true, recurses := true, plainKeys := false, apart := false, narrowed := true }
def DepsSameUptoSaid : Prop := depsSameUptoRow.holds Tryz.pinned (OpenSpec.upto depsSameSpec)

/-- 'sorrellaw23.DepsMore', WHERE WHAT IT READS IS OF BULK AT MOST 1048576: true; the input reads as it did. -/
def depsMoreUptoRow : OpenClaim := { program := "ytbcambjonjhopaagreat", sum := "96b1fb46beed38606b2836759e08307d8133e8df7e35dc829d3f14f7e2a6d4b8", func := "sorrel/sorrellaw23.DepsMore", spec := "depsMore", unfollowed := true, recurses := true, plainKeys := false, apart := false, narrowed := true }
def DepsMoreUptoSaid : Prop := depsMoreUptoRow.holds Tryz.pinned (OpenSpec.upto depsMoreSpec)

end Rows
end Go.Proofs.YtbcambjonjhopaaGreat
