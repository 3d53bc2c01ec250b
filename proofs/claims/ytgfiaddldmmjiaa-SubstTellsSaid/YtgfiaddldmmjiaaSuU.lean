/-
  Layer 2: the walk of the laws: what they begin with.
-/
import Derived.Test.YtgfiaddldmmjiaaSuT
import Derived.Test.YtgfiaddldmmjiaaSuQ
import Derived.Test.YtgfiaddldmmjiaaSuE
namespace Go.Proofs.Ytgfiaddldmmjiaa
open Go Go.RowKit

/-- The beginning holds. -/
def HeadOK : Prop := ∀ {w : World}, Calls Try.prog 12 #[] w (RetV (.bool true) w)
theorem Drew.belowS {w w' : World} (h : Drew w w') : Below w.heap.size w w' := h.below _
theorem mayS_iff {s : List Bnd} {t : List Cell} (h : mayS s t = true) : RightS s ∧ RightT t ∧ (∀ x ∈ s, x.t.length ≤ 300) ∧ s.length ≤ 30 := by
  unfold mayS at h
  simp only [Bool.and_eq_true] at h
  obtain ⟨⟨⟨h1, h2⟩, h3⟩, h4⟩ := h
  unfold fewS at h2
  simp only [Bool.and_eq_true, List.all_eq_true, decide_eq_true_eq] at h2
  exact ⟨rightS_iff.1 h3, of_decide_eq_true h4, h2.1, h2.2⟩
end Go.Proofs.Ytgfiaddldmmjiaa
