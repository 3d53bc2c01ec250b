/-
  R12: Right, Row.
  R12: Row.
-/
import Derived.Test.YtbcambjonjhopaaTmK
import Derived.Test.YtbcambjonjhopaaRun
namespace Go.Proofs.Ytbcambjonjhopaa
section
open Go Go.RowKit

def okAt (l : List (List Cell)) (i : Nat) : Bool := match l[i]? with
  | none => true
  | some t => factT t && (i == 0 || match l[i - 1]? with
    | none => true
    | some s => decide (cmpR s t < 0))
def rowR (l : List (List Cell)) : Bool := decide (l.length ≤ 512) && (List.range l.length).all (okAt l)
theorem rowR_no {l : List (List Cell)} {k : Nat} (hk : k < l.length) (h : okAt l k = false) : rowR l = false := by
  unfold rowR
  have : (List.range l.length).all (okAt l) = false := by
    rw [List.all_eq_false]
    exact ⟨k, List.mem_range.2 hk, by simp [h]⟩
  rw [this]; simp
theorem rowR_yes {l : List (List Cell)} (hl : l.length ≤ 512) (h : ∀ k, k < l.length → okAt l k = true) : rowR l = true := by
  unfold rowR
  rw [decide_eq_true hl, Bool.true_and, List.all_eq_true]
  exact fun k hk => h k (List.mem_range.1 hk)
theorem okAt_zero {l : List (List Cell)} (h : 0 < l.length) : okAt l 0 = factT l[0] := by
  unfold okAt
  rw [List.getElem?_eq_getElem h]; simp
theorem okAt_succ {l : List (List Cell)} {k : Nat} (h : k + 1 < l.length) : okAt l (k + 1) = (factT l[k + 1] && decide (cmpR l[k] l[k + 1] < 0)) := by
  unfold okAt
  rw [List.getElem?_eq_getElem h]
  simp only [Nat.add_sub_cancel]
  rw [List.getElem?_eq_getElem (by omega)]
  have : (k + 1 == 0) = false := by simp
  rw [this, Bool.false_or]


end
section
open Go Go.RowKit

def rowM (l : List (List Cell)) (k : Nat) : List (List Cell) := (l.take k).foldl (fun o t => addO o (factM t)) []
theorem rowM_succ {l : List (List Cell)} {k : Nat} (hk : k < l.length) : rowM l (k + 1) = addO (rowM l k) (factM l[k]) := by
  unfold rowM
  rw [List.take_succ_eq_append_getElem hk, List.foldl_append]; rfl
def rowF (l : List (List Cell)) (most : Nat) : List (List Cell) := rowM l (min l.length (min most 512))


end
end Go.Proofs.Ytbcambjonjhopaa
