/-
  The program: the search in rows of terms; Has.
-/
import Derived.Test.YtbcambjonjhopaaTmS
import Derived.Deep.DeepCutAuto
namespace Go.Proofs.Ytbcambjonjhopaa
open Go Go.RowKit

def SortT (l : List (List Cell)) : Prop := l.Pairwise fun a b => cmpT a b < 0
def insAtT (x : List Cell) : List (List Cell) → Nat
  | [] => 0
  | y :: l => if cmpT y x < 0 then insAtT x l + 1 else 0
theorem insAtT_le (x : List Cell) : ∀ l, insAtT x l ≤ l.length
  | [] => Nat.le_refl _
  | y :: l => by
    have := insAtT_le x l
    unfold insAtT
    split
    · simp only [List.length_cons]; omega
    · exact Nat.zero_le _
theorem insAtT_lt (x : List Cell) : ∀ (l : List (List Cell)) (t : Nat) (_ : t < insAtT x l) (ht : t < l.length), cmpT l[t] x < 0
  | [], t, _, h => by simp at h
  | y :: l, t, h, ht => by
    unfold insAtT at h
    split at h
    · rename_i hy
      cases t with
      | zero => exact hy
      | succ t => exact insAtT_lt x l t (by omega) (by simpa using ht)
    · omega
theorem insAtT_at (x : List Cell) : ∀ (l : List (List Cell)) (h : insAtT x l < l.length), ¬ cmpT l[insAtT x l] x < 0
  | [], h => by simp at h
  | y :: l, h => by
    by_cases hy : cmpT y x < 0
    · have e : insAtT x (y :: l) = insAtT x l + 1 := by rw [insAtT, if_pos hy]
      simp only [e, List.getElem_cons_succ]
      exact insAtT_at x l (by rw [e] at h; simpa using h)
    · have e : insAtT x (y :: l) = 0 := by rw [insAtT, if_neg hy]
      simp only [e, List.getElem_cons_zero]
      exact hy
theorem cmpT_self (a : List Cell) : cmpT a a = 0 := cmpT_zero.2 rfl
theorem cmpT_asymm {a b : List Cell} (h : cmpT a b < 0) : ¬ cmpT b a < 0 := by rw [cmpT_neg a b]; omega
theorem sortT_lt {l : List (List Cell)} {x : List Cell} (hs : SortT l) {i j : Nat} (hij : i ≤ j) (hj : j < l.length) (h : cmpT l[j] x < 0) : cmpT (l[i]'(by omega)) x < 0 := by
  rcases Nat.lt_or_eq_of_le hij with h1 | h1
  · exact cmpT_trans (List.pairwise_iff_getElem.1 hs i j (by omega) hj h1) h
  · subst h1; exact h
theorem insAtT_eq {l : List (List Cell)} {x : List Cell} {i : Nat} (hi : i ≤ l.length) (h1 : ∀ t (ht : t < l.length), t < i → cmpT l[t] x < 0) (h2 : ∀ t (ht : t < l.length), i ≤ t → ¬ cmpT l[t] x < 0) : i = insAtT x l := by
  have hle := insAtT_le x l
  rcases Nat.lt_trichotomy i (insAtT x l) with h | h | h
  · exact absurd (insAtT_lt x l i h (by omega)) (h2 i (by omega) (Nat.le_refl _))
  · exact h
  · exact absurd (h1 _ (by omega) h) (insAtT_at x l (by omega))
theorem mem_insAtT {l : List (List Cell)} {x : List Cell} (hs : SortT l) : x ∈ l ↔ ∃ h : insAtT x l < l.length, cmpT l[insAtT x l] x = 0 := by
  constructor
  · intro h
    obtain ⟨j, hj, rfl⟩ := List.mem_iff_getElem.1 h
    have : j = insAtT l[j] l := by
      refine insAtT_eq (by omega) (fun t ht h => List.pairwise_iff_getElem.1 hs t j ht hj h) fun t ht h => ?_
      rcases Nat.lt_or_eq_of_le h with h1 | h1
      · exact cmpT_asymm (List.pairwise_iff_getElem.1 hs j t hj ht h1)
      · subst h1; rw [cmpT_self]; omega
    refine ⟨by omega, ?_⟩
    have h2 : l[insAtT l[j] l]'(by omega) = l[j] := by congr 1; exact this.symm
    rw [h2]; exact cmpT_self _
  · rintro ⟨h, h0⟩
    exact (cmpT_zero.1 h0) ▸ List.getElem_mem h




end Go.Proofs.Ytbcambjonjhopaa
