/-
  Layer 23: results as they come in.
-/
import Derived.Test.YtckkjjiaecnciaaGreatLiftR
import Derived.Test.YtckkjjiaecnciaaGreatDpB
namespace Go.Proofs.YtckkjjiaecnciaaGreat
open Go Go.RowKit Go.Deep Go.ChangeShapes Go.WideShapes Go.ChangeAt

section
variable {H : Type} {enc : TypeId × Value → H} {W : World}
set_option maxRecDepth 100000 in
theorem tabs_of_trod {fuel : Nat} {v : Value} {x : DataW H × List MemPlace} (h : DataW.trod enc Tryz.prog W 0 (fun _ => true) true fuel 22 [v] = some x) (hw : ∀ m ∈ x.1.weights Tryz.prog 22, m ≤ reachBytes) :
    ∃ l, Seq tabE (fun b => b < W.heap.size) W v l := by
  refine seq_of_trod tabE Tryz.underlying22 (by kernel_rfl) (by rw [show Tryz.prog.bytesOf 43 = 48 by kernel_rfl]; omega) (fun n cs x hl h hw => ?_) h hw
  obtain ⟨f0, f1, hgs, h0, h1⟩ : ∃ f0 f1 : Field, Tryz.prog.underlying 43 = some (.struct #[f0, f1]) ∧ (f0.type = 23 ∧ f0.offset = 0) ∧ (f1.type = 41 ∧ f1.offset = 1) := ⟨_, _, Tryz.underlying43, ⟨rfl, rfl⟩, ⟨rfl, rfl⟩⟩
  obtain ⟨y0, y1, m, rfl, hlen, g0, g1⟩ := trod_struct2 hgs h
  rw [h0.1, h0.2, show Tryz.prog.cellsOf 23 = 1 by kernel_rfl] at g0
  rw [h1.1, h1.2, show Tryz.prog.cellsOf 41 = 1 by kernel_rfl] at g1
  match cs, hl with
  | [a, d], _ =>
    simp only [List.drop_zero, List.take_succ_cons, List.take_zero, List.drop_succ_cons] at g0 g1
    simp only [DataW.weights, hgs, DataW.weightsEach, List.map_cons, List.map_nil, List.mem_append, h0.1, h1.1] at hw
    obtain ⟨l, hl⟩ := cells_of_trod cellTys Tryz.underlying23 g0 fun k hk => hw k (.inl hk)
    obtain ⟨l2, hl2⟩ := rows_of_trod cellTys Tryz.underlying23 Tryz.underlying41 (by kernel_rfl) (by rw [show Tryz.prog.bytesOf 23 = 24 by kernel_rfl]; omega) g1 fun k hk => hw k (.inr (.inl hk))
    exact ⟨⟨l, l2⟩, a, d, rfl, hl, hl2⟩


end
end Go.Proofs.YtckkjjiaecnciaaGreat
