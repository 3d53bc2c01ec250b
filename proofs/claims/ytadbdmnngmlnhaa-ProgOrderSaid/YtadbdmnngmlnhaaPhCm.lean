/-
  Layer 7: what the walks over a row of clauses share.
-/
import Derived.Test.YtadbdmnngmlnhaaPhS
namespace Go.Proofs.Ytadbdmnngmlnhaa
open Go Go.RowKit

theorem great_len {l : List Cls} (h : greatC l = false) : l.length ≤ 70 := by
  unfold greatC at h
  simp only [Bool.or_eq_false_iff, decide_eq_false_iff_not] at h
  omega
theorem made_may {l : List Cls} : ∀ c ∈ madeL l, mayC c = true := fun c hc => by
  unfold madeL fltL at hc
  exact (List.mem_filter.1 hc).2
theorem made_len (l : List Cls) : (madeL l).length ≤ l.length := List.length_filter_le _ _
theorem preds_len {m : List Cls} (h : ∀ c ∈ m, mayC c = true) (hm : m.length ≤ 80) : (predsL m).length ≤ 1000 := by
  have h1 := setL_le (c := cmpP) (allP m)
  have h2 := allP_len h
  unfold predsL; omega
end Go.Proofs.Ytadbdmnngmlnhaa
