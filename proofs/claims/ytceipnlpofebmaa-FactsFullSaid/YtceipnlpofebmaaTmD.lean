/-
  R01: variables, ground terms, the order.
-/
import Derived.Test.YtceipnlpofebmaaTmC
namespace Go.Proofs.Ytceipnlpofebmaa
open Go Go.RowKit

theorem infoInt : (Try.prog.info? 3).map (fun i => (i.zero, i.size, i.bytes)) = some (some (.int .i64 0), 1, 8) := by kernel_rfl


/-! ### The order -/
theorem cmpR_step {a b : List Cell} {k : Nat} (hk : k < a.length) (hk' : k < b.length) : cmpR (a.drop k) (b.drop k) = if cmpC a[k] b[k] ≠ 0 then cmpC a[k] b[k] else cmpR (a.drop (k + 1)) (b.drop (k + 1)) := by
  rw [List.drop_eq_getElem_cons hk, List.drop_eq_getElem_cons hk']; rfl
theorem cmpR_end {a b : List Cell} {k : Nat} (hk : ¬ (k < a.length ∧ k < b.length)) : cmpR (a.drop k) (b.drop k) = 0 := by
  by_cases h : k < a.length
  · rw [List.drop_eq_nil_of_le (show b.length ≤ k by omega)]
    cases a.drop k <;> rfl
  · rw [List.drop_eq_nil_of_le (show a.length ≤ k by omega)]; rfl
theorem cmpZ_val (a b : Int) : cmpZ a b = -1 ∨ cmpZ a b = 0 ∨ cmpZ a b = 1 := by unfold cmpZ; split <;> (try split) <;> simp
theorem cmpS_val (a b : ByteArray) : cmpS a b = -1 ∨ cmpS a b = 0 ∨ cmpS a b = 1 := by unfold cmpS; split <;> (try split) <;> simp
theorem cmpC_val (x y : Cell) : cmpC x y = -1 ∨ cmpC x y = 0 ∨ cmpC x y = 1 := by
  unfold cmpC
  split
  · exact cmpZ_val _ _
  · split
    · exact cmpZ_val _ _
    · exact cmpS_val _ _
theorem cmpC_m1 {x y : Cell} (h : x.kind < y.kind ∨ (x.kind = y.kind ∧ (x.n < y.n ∨ (x.n = y.n ∧ Op.bytesLess x.name.toList y.name.toList = true)))) : cmpC x y = -1 := by
  have h1 := cmpC_lt.2 h
  have h2 := cmpC_val x y
  omega
theorem cmpC_p1 {x y : Cell} (hne : x ≠ y) (h : ¬ (x.kind < y.kind ∨ (x.kind = y.kind ∧ (x.n < y.n ∨ (x.n = y.n ∧ Op.bytesLess x.name.toList y.name.toList = true))))) : cmpC x y = 1 := by
  have h1 : ¬ cmpC x y < 0 := fun e => h (cmpC_lt.1 e)
  have h2 := cmpC_val x y
  have h3 : ¬ cmpC x y = 0 := fun e => hne (cmpC_zero.1 e)
  omega


end Go.Proofs.Ytceipnlpofebmaa
