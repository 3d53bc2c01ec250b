/-
  Layer 2, the laws' beginning: v; a slice of one variable.
-/
import Derived.Test.YtgfiaddldmmjiaaSuU
import Derived.Test.YtgfiaddldmmjiaaFlatE
namespace Go.Proofs.Ytgfiaddldmmjiaa
open Go Go.RowKit

theorem vP_spec {n : Int} {w : World} : Calls Try.prog 27 #[.int .i64 n] w fun e w' => e = .returned (.agg #[.int .i64 1, .string ⟨#[]⟩, .int .i64 n]) ∧ w' = w.alloc (.cells #[.int .i64 1, .string ⟨#[]⟩, .int .i64 n] 41) := by
  go_enter Try.func27, Try.ntmps27
  go_wp2_with fail
  refine bodyPost_ret (v := .agg #[.int .i64 1, .string ⟨#[]⟩, .int .i64 n]) (by simp [results, Try.results27, go_sem]) rfl ⟨rfl, rfl⟩
/-- A slice of one variable. -/
theorem seqV {S : Nat → Prop} {w : World} {B : Nat} {n : Int} (hS : S B) (h : Row 41 w B [.int .i64 1, .string ⟨#[]⟩, .int .i64 n]) (hn : IntOK n) : Seq cellE S w (.slice (some ⟨B, 0, none⟩) 1 1) [vT n] := by
  refine h.seq rfl (by simp) (by simp [maxLen]) (by simp) hS fun k x hx => ?_
  obtain rfl : k = 0 := by have := (List.getElem?_eq_some_iff.1 hx).1; simp at this; omega
  simp at hx; subst hx
  exact ⟨[.int .i64 1, .string ⟨#[]⟩, .int .i64 n], ⟨rfl, show IntOK 1 from ⟨by decide, by decide⟩, hn, show (⟨#[]⟩ : ByteArray).size ≤ _ by decide⟩, fun j hj => by simp⟩
/-- A slice of two bindings. -/
theorem seq2B {S : Nat → Prop} {w : World} {B : Nat} {n k : Int} {v u : Value} {t x : List Cell} (hS : S B) (h : Row 44 w B [.int .i64 n, v, .int .i64 k, u]) (hn : IntOK n) (hk : IntOK k) (hv : Seq cellE S w v t) (hu : Seq cellE S w u x) : Seq bindE S w (.slice (some ⟨B, 0, none⟩) 2 2) [⟨n, t⟩, ⟨k, x⟩] := by
  refine h.seq rfl (by simp) (by simp [maxLen]) (by simp) hS fun i y hy => ?_
  have hi := (List.getElem?_eq_some_iff.1 hy).1
  simp at hi
  rcases (show i = 0 ∨ i = 1 by omega) with rfl | rfl
  · simp at hy; subst hy
    refine ⟨[.int .i64 n, v], ⟨v, rfl, hn, hv⟩, fun j hj => ?_⟩
    have hj' : j < 2 := hj
    rcases (show j = 0 ∨ j = 1 by omega) with rfl | rfl <;> rfl
  · simp at hy; subst hy
    refine ⟨[.int .i64 k, u], ⟨u, rfl, hk, hu⟩, fun j hj => ?_⟩
    have hj' : j < 2 := hj
    rcases (show j = 0 ∨ j = 1 by omega) with rfl | rfl <;> rfl
end Go.Proofs.Ytgfiaddldmmjiaa
