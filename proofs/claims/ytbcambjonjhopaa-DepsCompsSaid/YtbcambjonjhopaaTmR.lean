/-
  The program's terms: their order.
-/
import Derived.Test.YtbcambjonjhopaaTmQ
namespace Go.Proofs.Ytbcambjonjhopaa
open Go Go.RowKit

theorem isNaN_spec {w : World} {a : Int} : Calls Try.prog 84 #[.int .i64 a] w (PureV (.bool false) w) := by
  go_enter Try.func84, Try.ntmps84
  go_wp2
  go_ret
  exact ⟨rfl, rfl⟩





theorem seq3 {w : World} {B : Nat} {a b c : Int} (ha : IntOK a) (hb : IntOK b) (hc : IntOK c) (h0 : w.cell? ⟨B, 0, none⟩ = some (.int .i64 a)) (h1 : w.cell? ⟨B, 1, none⟩ = some (.int .i64 b)) (h2 : w.cell? ⟨B, 2, none⟩ = some (.int .i64 c)) :
    Seq intE (fun _ => True) w (.slice (some ⟨B, 0, none⟩) 3 3) [a, b, c] := by
  refine ⟨_, 3, rfl, Nat.le_refl _, by simp [maxLen], by simp, by simp, ?_⟩
  intro k x hx
  have hk := (List.getElem?_eq_some_iff.1 hx).1
  have hlt := World.block_lt_of_cell? w _ h0
  simp only [List.length_cons, List.length_nil] at hk
  rcases (show k = 0 ∨ k = 1 ∨ k = 2 by omega) with rfl | rfl | rfl
  all_goals
    simp at hx; subst hx
    refine ⟨B, 0, _, rfl, trivial, hlt, ⟨rfl, by assumption⟩, ?_⟩
    intro j hj
    obtain rfl : j = 0 := by have : j < 1 := hj; omega
    simpa [intE]

theorem cmpZ_ok (a b : Int) : IntOK (cmpZ a b) := by rcases cmpZ_val a b with h | h | h <;> (rw [h]; exact ⟨by omega, by omega⟩)
theorem cmpS_ok (a b : ByteArray) : IntOK (cmpS a b) := by rcases cmpS_val a b with h | h | h <;> (rw [h]; exact ⟨by omega, by omega⟩)


end Go.Proofs.Ytbcambjonjhopaa
