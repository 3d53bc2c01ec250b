/-
  R12: Add.
-/
import Derived.Test.YtbcambjonjhopaaTmI
namespace Go.Proofs.Ytbcambjonjhopaa
open Go Go.RowKit

def insT (t : List Cell) : List (List Cell) → List (List Cell)
  | [] => [t]
  | a :: l => if cmpR t a < 0 then t :: a :: l else a :: insT t l
def insStep (t : List Cell) (st : List (List Cell) × Bool) (a : List Cell) : List (List Cell) × Bool := if st.2 = false ∧ cmpR t a < 0 then (st.1 ++ [t] ++ [a], true) else (st.1 ++ [a], st.2)
def insTo (t : List Cell) (l : List (List Cell)) : List (List Cell) × Bool := l.foldl (insStep t) ([], false)
theorem insTo_snoc {t : List Cell} {l : List (List Cell)} {k : Nat} (hk : k < l.length) : insTo t (l.take (k + 1)) = insStep t (insTo t (l.take k)) l[k] := by
  unfold insTo
  rw [List.take_succ_eq_append_getElem hk, List.foldl_append]; rfl
theorem foldl_insStep (t : List Cell) : ∀ (l : List (List Cell)) (o : List (List Cell)), (l.foldl (insStep t) (o, true)) = (o ++ l, true)
  | [], o => by simp
  | a :: l, o => by
    rw [List.foldl_cons]
    show l.foldl (insStep t) (if _ then _ else (o ++ [a], true)) = _
    rw [if_neg (by simp), foldl_insStep t l]
    simp
theorem insT_eq (t : List Cell) (l : List (List Cell)) : insT t l = if (insTo t l).2 = true then (insTo t l).1 else (insTo t l).1 ++ [t] := by
  have key : ∀ (l o : List (List Cell)), o ++ insT t l = if (l.foldl (insStep t) (o, false)).2 = true then (l.foldl (insStep t) (o, false)).1 else (l.foldl (insStep t) (o, false)).1 ++ [t] := by
    intro l
    induction l with
    | nil => intro o; simp [insT]
    | cons a l ih =>
      intro o
      rw [List.foldl_cons]
      unfold insT
      by_cases h : cmpR t a < 0
      · have e : insStep t (o, false) a = (o ++ [t] ++ [a], true) := by unfold insStep; rw [if_pos ⟨rfl, h⟩]
        rw [if_pos h, e, foldl_insStep]
        simp
      · have e : insStep t (o, false) a = (o ++ [a], false) := by unfold insStep; rw [if_neg (fun h' => h h'.2)]
        rw [if_neg h, e, ← ih]
        simp
  have := key l []
  rw [List.nil_append] at this
  exact this
theorem insStep_len (t : List Cell) (st : List (List Cell) × Bool) (a : List Cell) (n : Nat) (h : st.1.length ≤ n + (if st.2 = true then 1 else 0)) : (insStep t st a).1.length ≤ n + 1 + (if (insStep t st a).2 = true then 1 else 0) := by
  unfold insStep
  split
  · rename_i hc
    rw [if_neg (by rw [hc.1]; simp)] at h
    simp; omega
  · simp; omega
theorem insTo_len (t : List Cell) (l : List (List Cell)) : (insTo t l).1.length ≤ l.length + 1 := by
  have key : ∀ (l : List (List Cell)) (st : List (List Cell) × Bool) (n : Nat), st.1.length ≤ n + (if st.2 = true then 1 else 0) → (l.foldl (insStep t) st).1.length ≤ n + l.length + 1 := by
    intro l
    induction l with
    | nil => intro st n h; simp only [List.foldl_nil, List.length_nil]; split at h <;> omega
    | cons a l ih =>
      intro st n h
      rw [List.foldl_cons]
      have := ih _ _ (insStep_len t st a n h)
      simp only [List.length_cons]
      omega
  have := key l ([], false) 0 (by simp)
  simpa [insTo] using this

def addE (l : List (List Cell)) (t : List Cell) : Int := if factT t = true then (if t ∈ l then 0 else if 512 ≤ l.length then 2 else 0) else 120
def addO (l : List (List Cell)) (t : List Cell) : List (List Cell) := if factT t = true then (if t ∈ l then l else if 512 ≤ l.length then [] else insT t l) else []


end Go.Proofs.Ytbcambjonjhopaa
