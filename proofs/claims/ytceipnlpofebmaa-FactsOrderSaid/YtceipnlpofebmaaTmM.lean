/-
  R12: Row.
-/
import Derived.Test.YtceipnlpofebmaaTmL
namespace Go.Proofs.Ytceipnlpofebmaa
open Go Go.RowKit

def rowM (l : List (List Cell)) (k : Nat) : List (List Cell) := (l.take k).foldl (fun o t => addO o (factM t)) []
theorem rowM_succ {l : List (List Cell)} {k : Nat} (hk : k < l.length) : rowM l (k + 1) = addO (rowM l k) (factM l[k]) := by
  unfold rowM
  rw [List.take_succ_eq_append_getElem hk, List.foldl_append]; rfl
def rowF (l : List (List Cell)) (most : Nat) : List (List Cell) := rowM l (min l.length (min most 512))


end Go.Proofs.Ytceipnlpofebmaa
