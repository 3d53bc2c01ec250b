/-
  Layer 12, FactsOrder in plain Lean: a row reached in whatever order is the same.
-/
import Derived.Test.YtceipnlpofebmaaMtR
namespace Go.Proofs.Ytceipnlpofebmaa
open Go

theorem rot_all {n k : Nat} (hk : k < n) {q : Nat} (hq : q < n) : ∃ j, j < n ∧ (j + k) % n = q := by
  by_cases h : k ≤ q
  · exact ⟨q - k, by omega, by rw [show q - k + k = q by omega, Nat.mod_eq_of_lt hq]⟩
  · refine ⟨q + n - k, by omega, ?_⟩
    rw [show q + n - k + k = q + n by omega, Nat.add_mod_right, Nat.mod_eq_of_lt hq]

/-- What was added so far. -/
def AddedM (M a : List (List Cell)) (ix : Nat → Nat) (i : Nat) : Prop := RowT a ∧ a.length ≤ i ∧ ∀ x, x ∈ a ↔ ∃ j, j < i ∧ M[ix j]? = some x
theorem addedM_zero (M : List (List Cell)) (ix : Nat → Nat) : AddedM M [] ix 0 := ⟨rowT_nil, Nat.le_refl _, fun x => ⟨fun h => by simp at h, fun ⟨j, h, _⟩ => by omega⟩⟩
theorem addedM_succ {M a : List (List Cell)} {ix : Nat → Nat} {i : Nat} {x : List Cell} (h : AddedM M a ix i) (hi : i < 500) (hx : M[ix i]? = some x) (hf : factT x = true) :
    AddedM M (addO a x) ix (i + 1) ∧ addE a x = 0 ∧ x ∈ addO a x := by
  obtain ⟨g1, g2, g3⟩ := addO_rowT' h.1 hf (by have := h.2.1; omega)
  have g4 := fun y => mem_addO (x := y) h.1 hf (by have := h.2.1; omega)
  refine ⟨⟨g1, by have := h.2.1; omega, fun y => ?_⟩, g3, (g4 x).2 (.inl rfl)⟩
  rw [g4, h.2.2]
  constructor
  · rintro (rfl | ⟨j, h1, h2⟩)
    · exact ⟨i, Nat.lt_succ_self _, hx⟩
    · exact ⟨j, by omega, h2⟩
  · rintro ⟨j, h1, h2⟩
    by_cases e : j = i
    · subst e; rw [hx] at h2; exact .inl (Option.some.inj h2).symm
    · exact .inr ⟨j, by omega, h2⟩
theorem addO_again {a : List (List Cell)} {x : List Cell} (hf : factT x = true) (hx : x ∈ a) : addO a x = a ∧ addE a x = 0 := by
  unfold addO addE; rw [if_pos hf, if_pos hx, if_pos hf, if_pos hx]; exact ⟨rfl, rfl⟩

theorem added_same {M a b : List (List Cell)} {k : Nat} (ha : AddedM M a (fun j => j) M.length) (hb : AddedM M b (fun j => (j + k) % M.length) M.length) (hk : k < M.length ∨ M.length = 0) : a = b := by
  refine sortT_ext ha.1.sort hb.1.sort fun x => ?_
  rw [ha.2.2, hb.2.2]
  constructor
  · rintro ⟨q, hq, hx⟩
    obtain ⟨j, hj, he⟩ := rot_all (show k < M.length by omega) hq
    exact ⟨j, hj, by show M[(j + k) % M.length]? = some x; rw [he]; exact hx⟩
  · rintro ⟨j, hj, hx⟩
    exact ⟨(j + k) % M.length, Nat.mod_lt _ (by omega), hx⟩

/-- What is left of A. -/
def DroppedM (M A a : List (List Cell)) (ix : Nat → Nat) (i : Nat) : Prop := RowT a ∧ ∀ x, x ∈ a ↔ x ∈ A ∧ ∀ j, j < i → M[ix j]? ≠ some x
theorem droppedM_zero {M A : List (List Cell)} (ix : Nat → Nat) (h : RowT A) : DroppedM M A A ix 0 := ⟨h, fun x => ⟨fun h => ⟨h, fun j hj => by omega⟩, fun h => h.1⟩⟩
theorem droppedM_yes {M A a : List (List Cell)} {ix : Nat → Nat} {i : Nat} {x : List Cell} (h : DroppedM M A a ix i) (hx : M[ix i]? = some x) (hf : factT x = true) (hm : x ∈ a) :
    DroppedM M A (dropO a x) ix (i + 1) ∧ dropE a x = 0 := by
  have g3 : dropE a x = 0 := by unfold dropE; rw [if_pos hf, if_pos hm]
  refine ⟨⟨dropO_rowT h.1 g3, fun y => ?_⟩, g3⟩
  rw [mem_dropO hf hm, h.2]
  constructor
  · rintro ⟨⟨h1, h2⟩, h3⟩
    refine ⟨h1, fun j hj e => ?_⟩
    by_cases he : j = i
    · subst he; rw [hx] at e; exact h3 (Option.some.inj e).symm
    · exact h2 j (by omega) e
  · rintro ⟨h1, h2⟩
    exact ⟨⟨h1, fun j hj => h2 j (by omega)⟩, fun e => h2 i (Nat.lt_succ_self _) (by rw [hx, e])⟩
theorem droppedM_no {M A a : List (List Cell)} {ix : Nat → Nat} {i : Nat} {x : List Cell} (h : DroppedM M A a ix i) (hx : M[ix i]? = some x) (hf : factT x = true) (hm : ¬ x ∈ a) :
    DroppedM M A a ix (i + 1) ∧ dropE a x = 3 ∧ dropO a x = [] := by
  refine ⟨⟨h.1, fun y => ?_⟩, by unfold dropE; rw [if_pos hf, if_neg hm], by unfold dropO; rw [if_neg fun h => hm h.2]⟩
  rw [h.2]
  constructor
  · rintro ⟨h1, h2⟩
    refine ⟨h1, fun j hj e => ?_⟩
    by_cases he : j = i
    · subst he; rw [hx] at e
      have := Option.some.inj e
      subst this
      exact hm ((h.2 _).2 ⟨h1, h2⟩)
    · exact h2 j (by omega) e
  · rintro ⟨h1, h2⟩
    exact ⟨h1, fun j hj => h2 j (by omega)⟩
theorem dropped_same {M A a b : List (List Cell)} {k : Nat} (ha : DroppedM M A a (fun j => j) k) (hb : DroppedM M A b (fun j => k - 1 - j) k) : a = b := by
  refine sortT_ext ha.1.sort hb.1.sort fun x => ?_
  rw [ha.2, hb.2]
  constructor
  · rintro ⟨h1, h2⟩
    exact ⟨h1, fun j hj => h2 (k - 1 - j) (by omega)⟩
  · rintro ⟨h1, h2⟩
    refine ⟨h1, fun j hj => ?_⟩
    have h3 : M[k - 1 - (k - 1 - j)]? ≠ some x := h2 (k - 1 - j) (by omega)
    rw [show k - 1 - (k - 1 - j) = j by omega] at h3
    exact h3
end Go.Proofs.Ytceipnlpofebmaa
