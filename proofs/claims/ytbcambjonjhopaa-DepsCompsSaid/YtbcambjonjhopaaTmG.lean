/-
  R03: Made and Atom, walked.
-/
import Derived.Test.YtbcambjonjhopaaTmF
import Derived.Deep.Cut
import Derived.Deep.DeepCutAuto
import Derived.Deep.RegionHeld3
namespace Go.Proofs.Ytbcambjonjhopaa
open Go Go.RowKit

theorem infoCell : (Try.prog.info? 38).map (fun i => (i.zero, i.size, i.bytes)) = some (some (.agg #[.int .i64 0, .string ⟨#[]⟩, .int .i64 0]), 3, 32) := by kernel_rfl

section
variable {P : Program} {ops : Array Oper} {rest : List Oper} {o : Oper} {a : Act} {Q : Exit → Act → World → Prop}
theorem wpList_app_cell {S : Nat → Prop} {w wm : World} (hgd : o.guard = none) (s x : Operand) (t : TypeId)
    (ho : o.op = .call { callee := .builtin .append, args := #[s, x], argTypes := #[t, t] })
    {base : Nat} {e : TypeId} (ht : P.underlying t = some (.slice e)) (hi : (P.info? e).map (fun i => (i.zero, i.size, i.bytes)) = some (some (.agg #[.int .i64 0, .string ⟨#[]⟩, .int .i64 0]), 3, 32))
    {v : Value} {xs : List Cell} (hs : a.eval s = v) (hown : Own cellE S base e wm v xs) {B c : Nat} (hx : a.eval x = .slice (some ⟨B, 0, none⟩) 1 c)
    (hbw : Below wm.heap.size wm w) {y : Cell} (h1 : IntOK y.kind) (h2 : IntOK y.n) (h3 : y.name.size ≤ 140737488355328)
    (hc0 : w.cell? ⟨B, 0, none⟩ = some (.int .i64 y.kind)) (hc1 : w.cell? ⟨B, 1, none⟩ = some (.string y.name)) (hc2 : w.cell? ⟨B, 2, none⟩ = some (.int .i64 y.n)) (hbytes : xs.length ≤ 1000000000000) (hbase : base ≤ wm.heap.size)
    (h : ∀ ao cap w', Own cellE S base e w' (.slice ao (xs.length + 1) cap) (xs ++ [y]) → Kept base wm w w' v (.slice ao (xs.length + 1) cap) → wpList P ops Q rest (a.put o.dst (.slice ao (xs.length + 1) cap)) w') : wpList P ops Q (o :: rest) a w :=
  wpList_app1 (E := cellE) (Sy := fun _ => False) (y := y) (cs := [.int .i64 y.kind, .string y.name, .int .i64 y.n]) hgd s x t ho ht hi rfl hs hown hbw _ _ hx ⟨rfl, h1, h2, h3⟩ (fun _ h => h.elim)
    (by
      intro j hj
      have h3 : j < 3 := hj
      rcases (show j = 0 ∨ j = 1 ∨ j = 2 by omega) with rfl | rfl | rfl
      · exact hc0
      · exact hc1
      · exact hc2) (by omega) (by simp only [maxLen]; omega) hbase
    fun ao cap w' h1 h2 h3 h4 => h ao cap w' h1 (Kept.of h2 h3 hbw hbase h4)
end

theorem nameM_len (s : ByteArray) : (nameM s).size = 1 := by unfold nameM; split <;> (try split) <;> rfl
theorem pickC_bnd (l : List Cell) (most i need : Nat) : IntOK (pickC l most i need).kind ∧ IntOK (pickC l most i need).n ∧ (pickC l most i need).name.size ≤ 1 := by
  have ha : IntOK aC.kind ∧ IntOK aC.n ∧ aC.name.size ≤ 1 := ⟨⟨by decide, by decide⟩, ⟨by decide, by decide⟩, by decide⟩
  unfold pickC
  cases l[i]? with
  | none => exact ha
  | some c =>
    simp only
    split
    · exact ⟨⟨by simp, by simp⟩, ⟨by show _ ≤ c.n % 8; omega, by show c.n % 8 ≤ _; omega⟩, by show (⟨#[]⟩ : ByteArray).size ≤ 1; decide⟩
    · split
      · exact ⟨⟨by simp, by simp⟩, ⟨by show _ ≤ c.n % 4; omega, by show c.n % 4 ≤ _; omega⟩, by show (⟨#[]⟩ : ByteArray).size ≤ 1; decide⟩
      · split
        · exact ⟨⟨by simp, by simp⟩, ⟨by show _ ≤ c.n % 4; omega, by show c.n % 4 ≤ _; omega⟩, by simp [nameM_len]⟩
        · exact ha


end Go.Proofs.Ytbcambjonjhopaa
