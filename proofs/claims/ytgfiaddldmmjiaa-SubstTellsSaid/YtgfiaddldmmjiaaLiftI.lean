/-
  A struct of a term and of variables, as it comes in.
-/
import Derived.Test.YtgfiaddldmmjiaaLiftS
namespace Go.Proofs.Ytgfiaddldmmjiaa
open Go Go.RowKit Go.Deep Go.ChangeShapes Go.WideShapes Go.ChangeAt

section
variable {H : Type} {enc : TypeId × Value → H} {P : Program} {w : World} {base : Nat} {held : Bool}
theorem into_of_trod {t a b c i s : TypeId} (hc : CellTys P c i s) (ha : P.underlying a = some (.slice c)) (hb : P.underlying b = some (.slice i)) (hby : 0 < P.bytesOf i) (hsa : P.cellsOf a = 1) (hsb : P.cellsOf b = 1)
    (ht : ∃ f0 f1 : Field, P.underlying t = some (.struct #[f0, f1]) ∧ (f0.type = a ∧ f0.offset = 0) ∧ (f1.type = b ∧ f1.offset = 1)) (hst : P.cellsOf t = 2)
    {fuel : Nat} {cs : List Value} {x : DataW H × List MemPlace} (h : DataW.trod enc P w base (fun _ => true) held fuel t cs = some x) (hw : ∀ m ∈ x.1.weights P t, m ≤ reachBytes) :
    ∃ z y t l, cs = [z, y] ∧ Seq cellE (fun b => b < w.heap.size) w z t ∧ Seq intE (fun b => b < w.heap.size) w y l := by
  obtain ⟨f0, f1, hts, h0, h1⟩ := ht
  obtain ⟨xs, m, -, rfl, hxl, hlen, hf⟩ := DataW.trod_struct hts h
  match xs, hlen with
  | [y0, y1], _ =>
    have g0 := by simpa using hf 0 f0 rfl
    have g1 := by simpa using hf 1 f1 rfl
    rw [h0.1, h0.2, hsa] at g0
    rw [h1.1, h1.2, hsb] at g1
    rw [hst] at hxl
    match cs, hxl with
    | [p0, p1], _ =>
      simp only [List.drop_zero, List.take_succ_cons, List.take_zero, List.drop_succ_cons] at g0 g1
      simp only [DataW.weights, hts, DataW.weightsEach, List.map_cons, List.map_nil, List.mem_append, h0.1, h1.1] at hw
      obtain ⟨t, hT⟩ := cells_of_trod hc ha g0 fun k hk => hw k (.inl hk)
      obtain ⟨l, hL⟩ := ints_of_trod hb hc.int hc.ci hby g1 fun k hk => hw k (.inr (.inl hk))
      exact ⟨p0, p1, t, l, rfl, hT, hL⟩
end

set_option maxRecDepth 100000 in
/-- A term and variables that have come in. -/
theorem into_read {H : Type} {enc : TypeId × Value → H} {W : World} {b0 : Nat} {v0 : Value} {d0 : DataW H} {p0 : List MemPlace} (hv : Value.okWide Try.prog W .any b0 26 v0) (h0 : DataW.Trod enc Try.prog W 0 (fun _ => true) true 26 v0 d0 p0)
    (hw : ∀ m ∈ d0.weights Try.prog 26, m ≤ reachBytes) : ∃ z y t l, v0 = .agg #[z, y] ∧ Seq cellE (fun b => b < W.heap.size) W z t ∧ Seq intE (fun b => b < W.heap.size) W y l := by
  obtain ⟨cs, rfl, hcs⟩ := okWide_struct Try.underlying26 hv
  obtain ⟨fuel, hf⟩ := h0
  have hf' : DataW.trod enc Try.prog W 0 (fun _ => true) true fuel 26 cs.toList = some (d0, p0) := by simpa [Value.cells] using hf
  obtain ⟨z, y, t, l, h, hz, hy⟩ := into_of_trod cellTys Try.underlying23 Try.underlying24 (by rw [show Try.prog.bytesOf 3 = 8 by kernel_rfl]; omega) (by kernel_rfl) (by kernel_rfl)
    ⟨_, _, Try.underlying26, ⟨rfl, rfl⟩, ⟨rfl, rfl⟩⟩ (by kernel_rfl) hf' hw
  refine ⟨z, y, t, l, ?_, hz, hy⟩
  rw [← h]
end Go.Proofs.Ytgfiaddldmmjiaa
