/-
  Layer 23: results as they come in.
-/
import Derived.Test.YtbcambjonjhopaaLiftR
import Derived.Test.YtbcambjonjhopaaDpB
namespace Go.Proofs.Ytbcambjonjhopaa
open Go Go.RowKit Go.Deep Go.ChangeShapes Go.WideShapes Go.ChangeAt

section
variable {H : Type} {enc : TypeId × Value → H} {W : World}
set_option maxRecDepth 100000 in
theorem tabs_of_trod {fuel : Nat} {v : Value} {x : DataW H × List MemPlace} (h : DataW.trod enc Try.prog W 0 (fun _ => true) true fuel 22 [v] = some x) (hw : ∀ m ∈ x.1.weights Try.prog 22, m ≤ reachBytes) :
    ∃ l, Seq tabE (fun b => b < W.heap.size) W v l := by
  refine seq_of_trod tabE Try.underlying22 (by kernel_rfl) (by rw [show Try.prog.bytesOf 43 = 48 by kernel_rfl]; omega) (fun n cs x hl h hw => ?_) h hw
  obtain ⟨f0, f1, hgs, h0, h1⟩ : ∃ f0 f1 : Field, Try.prog.underlying 43 = some (.struct #[f0, f1]) ∧ (f0.type = 39 ∧ f0.offset = 0) ∧ (f1.type = 41 ∧ f1.offset = 1) := ⟨_, _, Try.underlying43, ⟨rfl, rfl⟩, ⟨rfl, rfl⟩⟩
  obtain ⟨y0, y1, m, rfl, hlen, g0, g1⟩ := trod_struct2 hgs h
  rw [h0.1, h0.2, show Try.prog.cellsOf 39 = 1 by kernel_rfl] at g0
  rw [h1.1, h1.2, show Try.prog.cellsOf 41 = 1 by kernel_rfl] at g1
  match cs, hl with
  | [a, d], _ =>
    simp only [List.drop_zero, List.take_succ_cons, List.take_zero, List.drop_succ_cons] at g0 g1
    simp only [DataW.weights, hgs, DataW.weightsEach, List.map_cons, List.map_nil, List.mem_append, h0.1, h1.1] at hw
    obtain ⟨l, hl⟩ := cells_of_trod cellTys Try.underlying39 g0 fun k hk => hw k (.inl hk)
    obtain ⟨l2, hl2⟩ := rows_of_trod cellTys Try.underlying39 Try.underlying41 (by kernel_rfl) (by rw [show Try.prog.bytesOf 39 = 24 by kernel_rfl]; omega) g1 fun k hk => hw k (.inr (.inl hk))
    exact ⟨⟨l, l2⟩, a, d, rfl, hl, hl2⟩
set_option maxRecDepth 100000 in
theorem edges_of_trod {fuel : Nat} {v : Value} {x : DataW H × List MemPlace} (h : DataW.trod enc Try.prog W 0 (fun _ => true) true fuel 24 [v] = some x) (hw : ∀ m ∈ x.1.weights Try.prog 24, m ≤ reachBytes) :
    ∃ l, Seq edgE (fun b => b < W.heap.size) W v l := by
  refine seq_of_trod edgE Try.underlying24 (by kernel_rfl) (by rw [show Try.prog.bytesOf 35 = 16 by kernel_rfl]; omega) (fun n cs x hl h _ => ?_) h hw
  obtain ⟨xs, m', -, hd, hcl, hxl, hx⟩ := DataW.trod_array Try.underlying35 h
  rw [show Try.prog.cellsOf 3 = 1 by kernel_rfl] at hx
  have hxs : xs.length = 2 := hxl
  match xs, hxs with
  | [z0, z1], _ =>
    have e0 := hx 0 (by omega)
    have e1 := hx 1 (by omega)
    match cs, hl with
    | [a, b], _ =>
      simp only [Nat.zero_mul, Nat.one_mul, List.drop_zero, List.take_succ_cons, List.take_zero, List.drop_succ_cons, List.getElem?_cons_zero, List.getElem?_cons_succ] at e0 e1
      obtain ⟨k, hk, -, hwf⟩ := DataW.trod_int Try.underlying3 e0
      obtain ⟨n, hn, -, hwn⟩ := DataW.trod_int Try.underlying3 e1
      simp only [List.cons.injEq, and_true] at hk hn
      subst hk hn
      have hb := bounds_i64 hwf
      have hn := bounds_i64 hwn
      exact ⟨(k, n), rfl, by unfold IntOK; omega, by unfold IntOK; omega⟩
set_option maxRecDepth 100000 in
/-- A result that has come in. -/
theorem res_read {b0 : Nat} {v0 : Value} {d0 : DataW H} {p0 : List MemPlace} (hv : Value.okWide Try.prog W .any b0 26 v0) (h0 : DataW.Trod enc Try.prog W 0 (fun _ => true) true 26 v0 d0 p0)
    (hw : ∀ m ∈ d0.weights Try.prog 26, m ≤ reachBytes) : ∃ r, ResV (fun b => b < W.heap.size) W v0 r := by
  obtain ⟨cs, rfl, hcs⟩ := okWide_struct Try.underlying26 hv
  obtain ⟨fuel, hf⟩ := h0
  have hf' : DataW.trod enc Try.prog W 0 (fun _ => true) true fuel 26 cs.toList = some (d0, p0) := by simpa [Value.cells] using hf
  obtain ⟨f0, f1, f2, hgs, h0, h1, h2⟩ : ∃ f0 f1 f2 : Field, Try.prog.underlying 26 = some (.struct #[f0, f1, f2]) ∧ (f0.type = 22 ∧ f0.offset = 0) ∧ (f1.type = 23 ∧ f1.offset = 1) ∧ (f2.type = 24 ∧ f2.offset = 2) := ⟨_, _, _, Try.underlying26, ⟨rfl, rfl⟩, ⟨rfl, rfl⟩, ⟨rfl, rfl⟩⟩
  obtain ⟨y0, y1, y2, m, hd, hlen, g0, g1, g2⟩ := trod_struct3 hgs hf'
  rw [h0.1, h0.2, show Try.prog.cellsOf 22 = 1 by kernel_rfl] at g0
  rw [h1.1, h1.2, show Try.prog.cellsOf 23 = 1 by kernel_rfl] at g1
  rw [h2.1, h2.2, show Try.prog.cellsOf 24 = 1 by kernel_rfl] at g2
  have hl : cs.toList.length = 3 := by rw [hlen]; kernel_rfl
  obtain ⟨l, rfl⟩ : ∃ l : List Value, cs = l.toArray := ⟨cs.toList, by simp⟩
  simp only at hl g0 g1 g2
  match l, hl with
  | [a, b, c], _ =>
    simp only [List.drop_zero, List.take_succ_cons, List.take_zero, List.drop_succ_cons] at g0 g1 g2
    simp only [Prod.mk.injEq] at hd
    obtain ⟨rfl, -⟩ := hd
    simp only [DataW.weights, hgs, DataW.weightsEach, List.map_cons, List.map_nil, List.mem_append, h0.1, h1.1, h2.1] at hw
    obtain ⟨l0, hl0⟩ := tabs_of_trod g0 fun k hk => hw k (.inl hk)
    obtain ⟨l2, hl2⟩ := edges_of_trod g2 fun k hk => hw k (.inr (.inr (.inl hk)))
    obtain ⟨ia, il, ic, rfl⟩ : ∃ ia il ic, b = .slice ia il ic := by
      rcases open_slice Try.underlying23 g1 with ⟨hcs, -⟩ | ⟨a, len, cap, m, n, D, Pl, hcs, -⟩
      · simp only [List.cons.injEq, and_true] at hcs
        exact ⟨_, _, _, hcs⟩
      · simp only [List.cons.injEq, and_true] at hcs
        exact ⟨_, _, _, hcs⟩
    obtain ⟨ta, tc, rfl, -⟩ := id hl0
    obtain ⟨ea, ec, rfl, -⟩ := id hl2
    exact ⟨⟨l0, l2⟩, ta, tc, ia, il, ic, ea, ec, rfl, hl0, hl2⟩
end
end Go.Proofs.Ytbcambjonjhopaa
