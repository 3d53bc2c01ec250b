/-
  The program: the order of terms; facts.
-/
import Derived.Test.YtbcambjonjhopaaTmR
namespace Go.Proofs.Ytbcambjonjhopaa
open Go Go.RowKit

theorem cmpT_step {a b : List Cell} {k : Nat} (hk : k < a.length) (hk' : k < b.length) : cmpT (a.drop k) (b.drop k) = if cmpC a[k] b[k] ≠ 0 then cmpC a[k] b[k] else cmpT (a.drop (k + 1)) (b.drop (k + 1)) := by
  rw [List.drop_eq_getElem_cons hk, List.drop_eq_getElem_cons hk']; rfl
theorem cmpT_end1 {a b : List Cell} {k : Nat} (hk : k < a.length) (hb : b.length ≤ k) : cmpT (a.drop k) (b.drop k) = 1 := by
  rw [List.drop_eq_getElem_cons hk, List.drop_eq_nil_of_le hb]; rfl
theorem cmpT_end2 {a b : List Cell} : a.length < b.length → cmpT (a.drop a.length) (b.drop a.length) = -1 := fun h => by
  rw [List.drop_eq_nil_of_le (Nat.le_refl _), List.drop_eq_getElem_cons h]; rfl
theorem cmpT_end3 {a b : List Cell} : ¬ a.length < b.length → cmpT (a.drop a.length) (b.drop a.length) = 0 := fun h => by
  rw [List.drop_eq_nil_of_le (Nat.le_refl _), List.drop_eq_nil_of_le (by omega)]; rfl




end Go.Proofs.Ytbcambjonjhopaa
