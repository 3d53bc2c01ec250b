/-
  R03: rising.
-/
import Derived.Test.YtceipnlpofebmaaMtF
import Derived.Deep.Cut
import Derived.BigQuiet
import Derived.Deep.CutRange
import Derived.Deep.DeepCutAuto
namespace Go.Proofs.Ytceipnlpofebmaa
open Go Go.RowKit

/-! ### rising -/
theorem own_intF {S : Nat → Prop} {base : Nat} {e : TypeId} {w : World} {v : Value} {xs : List Int} (h : Own intE S base e w v xs) : Own intE (fun _ => False) base e w v xs := by
  obtain ⟨vs, h1, h2⟩ := h
  refine ⟨vs, h1, fun k x hx => ?_⟩
  obtain ⟨cs, ⟨rfl, h3⟩, h4⟩ := h2 k x hx
  exact ⟨_, ⟨rfl, h3⟩, h4⟩
theorem wp_at {P : Program} {c : Code} {Q : Exit → Act → World → Prop} {a : Act} {w0 w : World} (hd : Drew w0 w) (h : ∀ W, Drew w0 W → c.wp P Q a W) : c.wp P Q a w := h w hd
theorem infoIntM2 : (Try.prog.info? 3).map (fun i => (i.zero, i.size, i.bytes)) = some (some (.int .i64 0), 1, 8) := by kernel_rfl

end Go.Proofs.Ytceipnlpofebmaa
