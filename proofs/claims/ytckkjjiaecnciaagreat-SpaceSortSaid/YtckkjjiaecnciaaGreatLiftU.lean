/-
  Layer 14: tables, and answers of tables, as they come in.
-/
import Derived.Test.YtckkjjiaecnciaaGreatLiftD
namespace Go.Proofs.YtckkjjiaecnciaaGreat
open Go Go.RowKit Go.Deep Go.ChangeShapes Go.WideShapes Go.ChangeAt

theorem tabs_read {H : Type} {enc : TypeId × Value → H} {W : World} {a0 : Option Addr} {len0 cap0 : Nat} {d0 : DataW H} {p0 : List MemPlace} (h0 : DataW.Trod enc Tryz.prog W 0 (fun _ => true) true 22 (.slice a0 len0 cap0) d0 p0)
    (hw : ∀ m ∈ d0.weights Tryz.prog 22, m ≤ reachBytes) : ∃ l, Seq tabE (fun b => b < W.heap.size) W (.slice a0 len0 cap0) l := by
  obtain ⟨fuel, hf⟩ := h0
  have hf' : DataW.trod enc Tryz.prog W 0 (fun _ => true) true fuel 22 [.slice a0 len0 cap0] = some (d0, p0) := by simpa [Value.cells] using hf
  exact tabs_of_trod hf' hw

set_option maxRecDepth 100000 in
/-- An answer of a table that has come in. -/
theorem put_read {H : Type} {enc : TypeId × Value → H} {W : World} {b0 : Nat} {v0 : Value} {d0 : DataW H} {p0 : List MemPlace} (hv : Value.okWide Tryz.prog W .any b0 25 v0) (h0 : DataW.Trod enc Tryz.prog W 0 (fun _ => true) true 25 v0 d0 p0)
    (hw : ∀ m ∈ d0.weights Tryz.prog 25, m ≤ reachBytes) : ∃ n t ta tc, v0 = .agg #[.int .i64 n, .slice ta t.length tc] ∧ IntOK n ∧ Seq cellE (fun b => b < W.heap.size) W (.slice ta t.length tc) t := by
  obtain ⟨cs, rfl, hcs⟩ := okWide_struct Tryz.underlying25 hv
  obtain ⟨fuel, hf⟩ := h0
  have hf' : DataW.trod enc Tryz.prog W 0 (fun _ => true) true fuel 25 cs.toList = some (d0, p0) := by simpa [Value.cells] using hf
  obtain ⟨f0, f1, hgs, h0, h1⟩ : ∃ f0 f1 : Field, Tryz.prog.underlying 25 = some (.struct #[f0, f1]) ∧ (f0.type = 3 ∧ f0.offset = 0) ∧ (f1.type = 23 ∧ f1.offset = 1) := ⟨_, _, Tryz.underlying25, ⟨rfl, rfl⟩, ⟨rfl, rfl⟩⟩
  obtain ⟨y0, y1, m, hd, hlen, g0, g1⟩ := trod_struct2 hgs hf'
  rw [h0.1, h0.2, show Tryz.prog.cellsOf 3 = 1 by kernel_rfl] at g0
  rw [h1.1, h1.2, show Tryz.prog.cellsOf 23 = 1 by kernel_rfl] at g1
  have hl : cs.toList.length = 2 := by rw [hlen]; kernel_rfl
  obtain ⟨l, rfl⟩ : ∃ l : List Value, cs = l.toArray := ⟨cs.toList, by simp⟩
  simp only at hl g0 g1
  match l, hl with
  | [a, b], _ =>
    simp only [List.drop_zero, List.take_succ_cons, List.take_zero, List.drop_succ_cons] at g0 g1
    simp only [Prod.mk.injEq] at hd
    obtain ⟨rfl, -⟩ := hd
    simp only [DataW.weights, hgs, DataW.weightsEach, List.map_cons, List.map_nil, List.mem_append, h0.1, h1.1] at hw
    obtain ⟨n, hn, -, hwf⟩ := DataW.trod_int Tryz.underlying3 g0
    simp only [List.cons.injEq, and_true] at hn
    subst hn
    have hb := bounds_i64 hwf
    obtain ⟨t, ht⟩ := cells_of_trod cellTys Tryz.underlying23 g1 fun k hk => hw k (.inr (.inl hk))
    obtain ⟨ta, tc, rfl, -⟩ := id ht
    exact ⟨n, t, ta, tc, rfl, by unfold IntOK; omega, ht⟩
end Go.Proofs.YtckkjjiaecnciaaGreat
