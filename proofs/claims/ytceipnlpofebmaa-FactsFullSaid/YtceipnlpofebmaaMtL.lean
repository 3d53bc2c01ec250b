import Derived.Test.YtceipnlpofebmaaMtF
import Derived.Deep.Cut
import Derived.Deep.CutRange
import Derived.Deep.DeepCutAuto
namespace Go.Proofs.Ytceipnlpofebmaa
open Go Go.RowKit
/-- What is bound, as a slice; or nil. -/
def BoundP (S : Nat → Prop) (o : Option (List Cell)) (w : World) (e : Ending) (w' : World) : Prop :=
  w = w' ∧ ∃ u, e = .returned u ∧ match o with
    | none => u = .slice none 0 0
    | some y => Seq cellE S w u y
theorem bindS_at {s : List Bnd} {v : Int} {k : Nat} (hk : k < s.length) (he : s[k].var = v) (hno : ∀ i (h : i < s.length), i < k → s[i].var ≠ v) : bindS s v = some s[k].t := (placeS_at hk he hno).2
theorem bindS_none {s : List Bnd} {v : Int} (hno : ∀ i (h : i < s.length), s[i].var ≠ v) : bindS s v = none := (placeS_none hno).2

end Go.Proofs.Ytceipnlpofebmaa
