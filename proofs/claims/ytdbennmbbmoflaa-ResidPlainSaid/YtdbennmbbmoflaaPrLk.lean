/-
  Layer 18, the program: the three stores at the end of Do's first reading.
-/
import Derived.Test.YtdbennmbbmoflaaPrLj
namespace Go.Proofs.Ytdbennmbbmoflaa
open Go Go.RowKit

/-- All but one block is as it was. -/
def Only (B : Nat) (w w' : World) : Prop := ∀ b, b ≠ B → w'.heap[b]? = w.heap[b]?
theorem Only.set {B : Nat} {w w' : World} (h : Only B w w') (o : Nat) (v : Value) : Only B w (w'.setCell ⟨B, o, none⟩ v) := fun b hb =>
  (Below.heap_setCell w' ⟨B, o, none⟩ v b hb).trans (h b hb)
theorem Only.refl (B : Nat) (w : World) : Only B w w := fun _ _ => rfl

theorem row_types {T U : TypeId} {w : World} {B C : Nat} {vs us : List Value} (h : Row T w B vs) (h' : Row U w C us) (hTU : T ≠ U) : B ≠ C := by
  rintro rfl
  unfold Row at h h'
  rw [h] at h'
  simp only [Option.some.injEq, Obj.cells.injEq] at h'
  exact hTU h'.2.1

/-- The three blocks, a state beside them, the kinds. -/
structure At3 (W3 : World) (g : Prog) (kh B6 B7 B8 : Nat) (sv : Value) (l6 l7 l8 : List Value) (w : World) : Prop where
  bel : Below W3.heap.size W3 w
  st : StateV (fun b => b ≠ B6 ∧ b ≠ B7 ∧ b ≠ B8) w sv g
  kd : KindsAt w kh
  r6 : Row 57 w B6 l6
  r7 : Row 63 w B7 l7
  r8 : Row 46 w B8 l8
  lo6 : W3.heap.size ≤ B6
  lo7 : W3.heap.size ≤ B7
  lo8 : W3.heap.size ≤ B8

theorem kinds_only {w w' : World} {kh B : Nat} {T : TypeId} {vs : List Value} (h : KindsAt w kh) (hR : Row T w B vs) (h1 : T ≠ 86) (h2 : T ≠ 4) (ho : Only B w w') : KindsAt w' kh := fun j hj =>
  ⟨(h j hj).p.at (ho _ (row_types (h j hj).p hR (Ne.symm h1))), (h j hj).q.at (ho _ (row_types (h j hj).q hR (Ne.symm h2)))⟩

theorem RInv.at3 {W3 : World} {g : Prog} {j kh B6 B7 B8 : Nat} {t38 t39 t43 : Value} {w : World} (hl6 : W3.heap.size ≤ B6) (hl7 : W3.heap.size ≤ B7) (hl8 : W3.heap.size ≤ B8) {l6 l7 l8 : List Value}
    (h : RInv W3 g j true true true true true true t38 t39 t43 (.pointer (some ⟨B6, 0, none⟩)) (.pointer (some ⟨B7, 0, none⟩)) (.pointer (some ⟨B8, 0, none⟩)) w)
    (h6 : Row 57 w B6 l6) (h7 : Row 63 w B7 l7) (h8 : Row 46 w B8 l8) (hK : KindsAt w kh) : At3 W3 g kh B6 B7 B8 t38 l6 l7 l8 w := by
  refine ⟨h.bel, (h.st rfl).mono (fun b hb _ => ?_) (fun _ _ _ => rfl), hK, h6, h7, h8, hl6, hl7, hl8⟩
  exact ⟨fun e => hb.1 rfl (by rw [e]), fun e => hb.2.1 rfl (by rw [e]), fun e => hb.2.2 rfl (by rw [e])⟩

section
variable {W3 : World} {g : Prog} {kh B6 B7 B8 : Nat} {sv : Value} {l6 l7 l8 : List Value} {w : World}
theorem At3.set6 {x0 x1 x2 x3 x4 a b c d e : Value} (h : At3 W3 g kh B6 B7 B8 sv [x0, x1, x2, x3, x4] l7 l8 w) :
    At3 W3 g kh B6 B7 B8 sv [a, b, c, d, e] l7 l8 (((((w.setCell ⟨B6, 0, none⟩ a).setCell ⟨B6, 1, none⟩ b).setCell ⟨B6, 2, none⟩ c).setCell ⟨B6, 3, none⟩ d).setCell ⟨B6, 4, none⟩ e) := by
  have ho : Only B6 w (((((w.setCell ⟨B6, 0, none⟩ a).setCell ⟨B6, 1, none⟩ b).setCell ⟨B6, 2, none⟩ c).setCell ⟨B6, 3, none⟩ d).setCell ⟨B6, 4, none⟩ e) := (((((Only.refl B6 w).set 0 a).set 1 b).set 2 c).set 3 d).set 4 e
  have l6 := h.lo6
  refine ⟨((((h.bel.setCell (p := ⟨B6, 0, none⟩) l6 a).setCell (p := ⟨B6, 1, none⟩) l6 b).setCell (p := ⟨B6, 2, none⟩) l6 c).setCell (p := ⟨B6, 3, none⟩) l6 d).setCell (p := ⟨B6, 4, none⟩) l6 e,
    h.st.mono (fun b hb _ => hb) (fun b hb _ => ho b hb.1), kinds_only h.kd h.r6 (by decide) (by decide) ho, ((((h.r6.set 0 a).set 1 b).set 2 c).set 3 d).set 4 e,
    h.r7.at (ho _ (row_types h.r7 h.r6 (by decide))), h.r8.at (ho _ (row_types h.r8 h.r6 (by decide))), h.lo6, h.lo7, h.lo8⟩
theorem At3.set7 {x0 x1 x2 a b c : Value} (h : At3 W3 g kh B6 B7 B8 sv l6 [x0, x1, x2] l8 w) :
    At3 W3 g kh B6 B7 B8 sv l6 [a, b, c] l8 (((w.setCell ⟨B7, 0, none⟩ a).setCell ⟨B7, 1, none⟩ b).setCell ⟨B7, 2, none⟩ c) := by
  have ho : Only B7 w (((w.setCell ⟨B7, 0, none⟩ a).setCell ⟨B7, 1, none⟩ b).setCell ⟨B7, 2, none⟩ c) := (((Only.refl B7 w).set 0 a).set 1 b).set 2 c
  have l7 := h.lo7
  refine ⟨((h.bel.setCell (p := ⟨B7, 0, none⟩) l7 a).setCell (p := ⟨B7, 1, none⟩) l7 b).setCell (p := ⟨B7, 2, none⟩) l7 c,
    h.st.mono (fun b hb _ => hb) (fun b hb _ => ho b hb.2.1), kinds_only h.kd h.r7 (by decide) (by decide) ho, h.r6.at (ho _ (row_types h.r6 h.r7 (by decide))),
    ((h.r7.set 0 a).set 1 b).set 2 c, h.r8.at (ho _ (row_types h.r8 h.r7 (by decide))), h.lo6, h.lo7, h.lo8⟩
theorem At3.set8 {x0 x1 x2 a b c : Value} (h : At3 W3 g kh B6 B7 B8 sv l6 l7 [x0, x1, x2] w) :
    At3 W3 g kh B6 B7 B8 sv l6 l7 [a, b, c] (((w.setCell ⟨B8, 0, none⟩ a).setCell ⟨B8, 1, none⟩ b).setCell ⟨B8, 2, none⟩ c) := by
  have ho : Only B8 w (((w.setCell ⟨B8, 0, none⟩ a).setCell ⟨B8, 1, none⟩ b).setCell ⟨B8, 2, none⟩ c) := (((Only.refl B8 w).set 0 a).set 1 b).set 2 c
  have l8 := h.lo8
  refine ⟨((h.bel.setCell (p := ⟨B8, 0, none⟩) l8 a).setCell (p := ⟨B8, 1, none⟩) l8 b).setCell (p := ⟨B8, 2, none⟩) l8 c,
    h.st.mono (fun b hb _ => hb) (fun b hb _ => ho b hb.2.2), kinds_only h.kd h.r8 (by decide) (by decide) ho, h.r6.at (ho _ (row_types h.r6 h.r8 (by decide))),
    h.r7.at (ho _ (row_types h.r7 h.r8 (by decide))), ((h.r8.set 0 a).set 1 b).set 2 c, h.lo6, h.lo7, h.lo8⟩
end
end Go.Proofs.Ytdbennmbbmoflaa
