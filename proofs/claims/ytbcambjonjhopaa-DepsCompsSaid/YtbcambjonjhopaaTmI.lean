import Derived.Test.YtbcambjonjhopaaTmH
namespace Go.Proofs.Ytbcambjonjhopaa
open Go Go.RowKit
/-! ### less, Diff -/
def lessT (a b : List (List Cell)) : List (List Cell) := fltL (fun t => !decide (t ∈ b)) a


/-- Two rows, told together. -/
def Ret2 (P : Value → Value → World → Prop) (w : World) (e : Ending) (w' : World) : Prop := ∃ a b, e = .returned (.tuple #[a, b]) ∧ Below w.heap.size w w' ∧ P a b w'


/-! ### Drop -/
def dropT (t : List Cell) (l : List (List Cell)) : List (List Cell) := fltL (fun x => !decide (x = t)) l
def dropE (l : List (List Cell)) (t : List Cell) : Int := if factT t = true then (if t ∈ l then 0 else 3) else 120
def dropO (l : List (List Cell)) (t : List Cell) : List (List Cell) := if factT t = true ∧ t ∈ l then dropT t l else []
/-- A row and an error's number. -/
def RetE (P : Value → World → Prop) (n : Int) (w : World) (e : Ending) (w' : World) : Prop := ∃ o, e = .returned (.tuple #[o, .int .i64 n]) ∧ Below w.heap.size w w' ∧ P o w'


end Go.Proofs.Ytbcambjonjhopaa
