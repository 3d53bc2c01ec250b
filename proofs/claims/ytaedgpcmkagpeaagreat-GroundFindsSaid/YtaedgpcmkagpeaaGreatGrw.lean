/-
  Worlds that only drew and made blocks: what slices.SortFunc wants of its comparator.
-/
import Derived.Test.YtaedgpcmkagpeaaGreatBaseC
import Derived.Sort.Grow
namespace Go.Proofs.YtaedgpcmkagpeaaGreat
open Go Go.RowKit

def GrowW (w w' : World) : Prop := ∃ q os, w' = Go.Sort.grow (w.drewN q) os
theorem GrowW.of {w w' : World} (h : Below w.heap.size w w') (hd : w.drawn ≤ w'.drawn) : GrowW w w' := by
  refine ⟨w'.drawn - w.drawn, w'.heap.extract w.heap.size w'.heap.size, ?_⟩
  obtain ⟨hp, tp, dr, os, ou⟩ := w'
  have h1 := h.os
  have h2 := h.tape
  have h3 := h.output
  have h4 := h.size
  have h5 := h.block
  simp only at h1 h2 h3 h4 h5 hd
  subst h1 h2 h3
  unfold Go.Sort.grow World.drewN
  simp only [World.mk.injEq, true_and]
  refine ⟨?_, (Nat.add_sub_of_le hd).symm, trivial⟩
  apply Array.ext_getElem?
  intro i
  rw [Array.getElem?_append]
  split
  · rename_i hi
    exact h5 i hi
  · rename_i hi
    rw [Array.getElem?_extract]
    split
    · rename_i h6
      congr 1
      omega
    · rename_i h6
      rw [Array.getElem?_eq_none (by omega)]
theorem GrowW.drawn {w w' : World} (h : GrowW w w') : w.drawn ≤ w'.drawn := by
  obtain ⟨q, os, rfl⟩ := h
  unfold Go.Sort.grow World.drewN
  simp
end Go.Proofs.YtaedgpcmkagpeaaGreat
