/-
  R03.Match: the document's walk.
-/
import Derived.Test.YtceipnlpofebmaaMtL
import Derived.Test.YtceipnlpofebmaaMtN
import Derived.Test.YtceipnlpofebmaaMtH
namespace Go.Proofs.Ytceipnlpofebmaa
open Go Go.RowKit

theorem matchB_yes {p t : List Cell} {s : List Bnd} (h : matchL p t [] = some s) : matchB p t = true := by unfold matchB; rw [h]; rfl
theorem matM_len {p t : List Cell} {k q : Nat} {s : List Bnd} (h : MatM p t k q s) {n : Int} {y : List Cell} (hb : bindS s n = some y) : 0 < y.length := (h.right n y hb).pos


end Go.Proofs.Ytceipnlpofebmaa
