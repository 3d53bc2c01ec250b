/-
  R03.Atom; R12: facts, rows: Made, Fact, Has, Drop, less, Diff.
-/
import Derived.Test.YtbcambjonjhopaaTmG
namespace Go.Proofs.Ytbcambjonjhopaa
open Go Go.RowKit

/-! ### Atom -/
def atomT (most : Nat) (l : List Cell) : List Cell := if isFun (madeT most l) = true then madeT most l else [aC]
theorem aC_right : RightT [aC] := by decide +kernel
theorem atomT_right {most : Nat} (l : List Cell) (h : 1 ≤ most) (h2 : most ≤ 200) : RightT (atomT most l) ∧ (atomT most l).length ≤ most ∧ isFun (atomT most l) = true := by
  have := madeT_right l h h2
  unfold atomT
  split
  · rename_i hf; exact ⟨this.1, this.2, hf⟩
  · exact ⟨aC_right, h, by decide⟩

theorem aC_seq {w : World} {B : Nat} (h : w.heap[B]? = some (.cells #[.int .i64 3, .string ⟨#[97]⟩, .int .i64 0] 38 (0, 0))) :
    Seq cellE (fun b => b = B) w (.slice (some ⟨B, 0, none⟩) 1 1) [aC] := by
  refine Row.seq (T := 38) (vs := [.int .i64 3, .string ⟨#[97]⟩, .int .i64 0]) h rfl (Nat.le_refl _) (by simp [maxLen]) (by simp) rfl ?_
  intro k x hk
  have hk2 : k < 1 := by have := (List.getElem?_eq_some_iff.1 hk).1; simpa using this
  obtain rfl : k = 0 := by omega
  simp at hk; subst hk
  refine ⟨_, ⟨rfl, ⟨by decide, by decide⟩, ⟨by decide, by decide⟩, by decide⟩, ?_⟩
  intro j hj
  have : j < 3 := hj
  rcases (show j = 0 ∨ j = 1 ∨ j = 2 by omega) with rfl | rfl | rfl <;> rfl


/-! ### One cell of a row of one's own is written -/
theorem ownsRow_set {w : World} {base : Nat} {e : TypeId} {sz : Nat} {n cap g : Nat} {vs : List Value} (h : w.ownsRow base e sz (.slice (some ⟨g, 0, none⟩) n cap) n vs) {j : Nat} (_ : j < n * sz) (u : Value) :
    (w.setCell ⟨g, j, none⟩ u).ownsRow base e sz (.slice (some ⟨g, 0, none⟩) n cap) n (vs.set j u) := by
  obtain ⟨hl, ⟨h0, -⟩ | ⟨g', cap', cur, he, h0, h1, h2, h3, h4, h5⟩⟩ := h
  · simp at h0
  · simp only [Value.slice.injEq, Option.some.injEq, Addr.mk.injEq, true_and, and_true] at he
    obtain ⟨rfl, rfl⟩ := he
    refine ⟨by rw [List.length_set]; exact hl, .inr ⟨g, cap, cur.setIfInBounds j u, rfl, h0, ?_, h2, h3, by simpa using h4, ?_⟩⟩
    · have hlt : g < w.heap.size := by
        rcases Nat.lt_or_ge g w.heap.size with hlt | hge
        · exact hlt
        · rw [Array.getElem?_eq_none hge] at h1; simp at h1
      rw [Array.getElem?_eq_getElem hlt] at h1
      simp only [Option.some.injEq] at h1
      simp [World.setCell, Array.getElem?_modify, Array.getElem?_eq_getElem hlt, h1]
    · rw [Array.toList_setIfInBounds, List.take_set, h5]
theorem Own.setCell3 {S : Nat → Prop} {base : Nat} {e : TypeId} {w : World} {g cap : Nat} {xs : List Cell} (h : Own cellE S base e w (.slice (some ⟨g, 0, none⟩) xs.length cap) xs) {k : Nat} (hk : k < xs.length) {y : Cell} (h1 : IntOK y.kind) (h2 : IntOK y.n) (h3 : y.name.size ≤ 140737488355328) :
    Own cellE S base e (((w.setCell ⟨g, k * 3, none⟩ (.int .i64 y.kind)).setCell ⟨g, k * 3 + 1, none⟩ (.string y.name)).setCell ⟨g, k * 3 + 2, none⟩ (.int .i64 y.n)) (.slice (some ⟨g, 0, none⟩) xs.length cap) (xs.set k y) := by
  obtain ⟨vs, hv1, hv2⟩ := h
  have hl : vs.length = xs.length * 3 := hv1.1
  have e1 := ownsRow_set (ownsRow_set (ownsRow_set hv1 (j := k * 3) (by show k * 3 < xs.length * 3; omega) (.int .i64 y.kind)) (j := k * 3 + 1) (by show k * 3 + 1 < xs.length * 3; omega) (.string y.name)) (j := k * 3 + 2) (by show k * 3 + 2 < xs.length * 3; omega) (.int .i64 y.n)
  refine ⟨_, by rw [List.length_set]; exact e1, fun m x hx => ?_⟩
  by_cases hkm : k = m
  · subst hkm
    rw [List.getElem?_set_self hk] at hx
    simp only [Option.some.injEq] at hx
    subst hx
    refine ⟨_, ⟨rfl, h1, h2, h3⟩, fun j hj => ?_⟩
    have hj3 : j < 3 := hj
    show (((vs.set (k * 3) _).set (k * 3 + 1) _).set (k * 3 + 2) _)[k * 3 + j]? = _
    rcases (show j = 0 ∨ j = 1 ∨ j = 2 by omega) with rfl | rfl | rfl
    · rw [List.getElem?_set_ne (by omega), List.getElem?_set_ne (by omega), Nat.add_zero, List.getElem?_set_self (by omega)]; rfl
    · rw [List.getElem?_set_ne (by omega), List.getElem?_set_self (by simp; omega)]; rfl
    · rw [List.getElem?_set_self (by simp; omega)]; rfl
  · rw [List.getElem?_set_ne hkm] at hx
    obtain ⟨cs, h4, h5⟩ := hv2 m x hx
    refine ⟨cs, h4, fun j hj => ?_⟩
    have hj3 : j < 3 := hj
    have := h5 j hj
    show (((vs.set (k * 3) _).set (k * 3 + 1) _).set (k * 3 + 2) _)[m * 3 + j]? = _
    rw [List.getElem?_set_ne (by omega), List.getElem?_set_ne (by omega), List.getElem?_set_ne (by omega)]
    exact this


end Go.Proofs.Ytbcambjonjhopaa
