/-
  The program's terms: ground ones, parts, depth.
-/
import Derived.Test.YtgfiaddldmmjiaaTmP
namespace Go.Proofs.Ytgfiaddldmmjiaa
open Go Go.RowKit

def isVarC (c : Cell) : Bool := decide (c.kind = 1)




theorem endC_nil {n : Nat} {l : List Cell} (h : endC n l = some l.length) : n = 0 ↔ l = [] := by
  constructor
  · rintro rfl
    rw [endC_zero] at h
    exact List.eq_nil_of_length_eq_zero (by simpa using h.symm)
  · rintro rfl
    cases n with
    | zero => rfl
    | succ n => simp [endC] at h
theorem endC_rest {n : Nat} {l : List Cell} (h : endC (n + 1) l = some l.length) : ∃ m, endC 1 l = some m ∧ 1 ≤ m ∧ m ≤ l.length ∧ endC n (l.drop m) = some (l.drop m).length := by
  rw [Nat.add_comm, endC_add] at h
  obtain ⟨m, h1, h2⟩ := Option.bind_eq_some_iff.1 h
  obtain ⟨x, h3, h4⟩ := Option.map_eq_some_iff.1 h2
  have := endC_le h1
  exact ⟨m, h1, this.2, this.1, by rw [h3, List.length_drop]; congr 1; omega⟩



end Go.Proofs.Ytgfiaddldmmjiaa
