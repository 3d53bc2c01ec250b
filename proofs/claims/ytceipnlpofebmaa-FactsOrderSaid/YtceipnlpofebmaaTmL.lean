/-
  R12: Right, Row.
-/
import Derived.Test.YtceipnlpofebmaaTmK
import Derived.Test.YtceipnlpofebmaaRun
namespace Go.Proofs.Ytceipnlpofebmaa
open Go Go.RowKit

def okAt (l : List (List Cell)) (i : Nat) : Bool := match l[i]? with
  | none => true
  | some t => factT t && (i == 0 || match l[i - 1]? with
    | none => true
    | some s => decide (cmpR s t < 0))
def rowR (l : List (List Cell)) : Bool := decide (l.length ≤ 512) && (List.range l.length).all (okAt l)
theorem rowR_no {l : List (List Cell)} {k : Nat} (hk : k < l.length) (h : okAt l k = false) : rowR l = false := by
  unfold rowR
  have : (List.range l.length).all (okAt l) = false := by
    rw [List.all_eq_false]
    exact ⟨k, List.mem_range.2 hk, by simp [h]⟩
  rw [this]; simp
theorem rowR_yes {l : List (List Cell)} (hl : l.length ≤ 512) (h : ∀ k, k < l.length → okAt l k = true) : rowR l = true := by
  unfold rowR
  rw [decide_eq_true hl, Bool.true_and, List.all_eq_true]
  exact fun k hk => h k (List.mem_range.1 hk)
theorem okAt_zero {l : List (List Cell)} (h : 0 < l.length) : okAt l 0 = factT l[0] := by
  unfold okAt
  rw [List.getElem?_eq_getElem h]; simp
theorem okAt_succ {l : List (List Cell)} {k : Nat} (h : k + 1 < l.length) : okAt l (k + 1) = (factT l[k + 1] && decide (cmpR l[k] l[k + 1] < 0)) := by
  unfold okAt
  rw [List.getElem?_eq_getElem h]
  simp only [Nat.add_sub_cancel]
  rw [List.getElem?_eq_getElem (by omega)]
  have : (k + 1 == 0) = false := by simp
  rw [this, Bool.false_or]


end Go.Proofs.Ytceipnlpofebmaa
