/-
  The seat's closed facts that each lift asks; the arguments that several laws share (terms, changes).
-/
import Derived.Test.YteefdmpaclnaiaaOpenT
namespace Go.Proofs.Yteefdmpaclnaiaa
open Go Go.RowKit Go.ChangeShapes Go.WideShapes Go.ChangeAt

theorem own : ownKnob Try.prog.godebug = none := by kernel_rfl
theorem laidOut : laidOutB Try.prog = true := by kernel_rfl

theorem weights_of {H : Type} {P : Program} {ts : List TypeId} {ds : List (DataW H)} (h : (DataW.weightsEach P ts ds).all (· ≤ reachBytes) = true) {j : Nat} {t : TypeId} {d : DataW H} (ht : ts[j]? = some t) (hd : ds[j]? = some d) : ∀ m ∈ d.weights P t, m ≤ reachBytes := fun m hm => by
  simpa using List.all_eq_true.1 h m (DataW.weights_mem_each ht hd m hm)

theorem cellTys : CellTys Try.prog 57 3 9 where
  st := ⟨_, _, _, Try.underlying57, ⟨rfl, rfl⟩, ⟨rfl, rfl⟩, ⟨rfl, rfl⟩⟩
  int := Try.underlying3
  str := Try.underlying9
  ci := by kernel_rfl
  cs := by kernel_rfl
  cc := by kernel_rfl
  by0 := by rw [show Try.prog.bytesOf 57 = 32 by kernel_rfl]; omega

set_option maxRecDepth 100000 in
/-- Rows of terms that have come in. -/
theorem rows_in {H : Type} {enc : TypeId × Value → H} {W : World} {a0 : Option Addr} {len0 cap0 : Nat} {d0 : DataW H} {p0 : List MemPlace} (h0 : DataW.Trod enc Try.prog W 0 (fun _ => true) true 22 (.slice a0 len0 cap0) d0 p0)
    (hw : ∀ m ∈ d0.weights Try.prog 22, m ≤ reachBytes) : ∃ l, Seq (seqE cellE) (fun b => b < W.heap.size) W (.slice a0 len0 cap0) l := by
  have hby : 0 < Try.prog.bytesOf 30 := by rw [show Try.prog.bytesOf 30 = 24 by kernel_rfl]; omega
  obtain ⟨fuel, hf⟩ := h0
  have hf' : DataW.trod enc Try.prog W 0 (fun _ => true) true fuel 22 [.slice a0 len0 cap0] = some (d0, p0) := by simpa [Value.cells] using hf
  exact rows_of_trod cellTys Try.underlying30 Try.underlying22 (by kernel_rfl) hby hf' hw
theorem chgTys : ChgTys Try.prog 32 4 30 where
  st := ⟨_, _, Try.underlying32, ⟨rfl, rfl⟩, ⟨rfl, rfl⟩⟩
  bool := Try.underlying4
  sb := by kernel_rfl
  se := by kernel_rfl
  sg := by kernel_rfl
  by0 := by rw [show Try.prog.bytesOf 32 = 32 by kernel_rfl]; omega

set_option maxRecDepth 100000 in
/-- Changes that have come in. -/
theorem changes_in {H : Type} {enc : TypeId × Value → H} {W : World} {a0 : Option Addr} {len0 cap0 : Nat} {d0 : DataW H} {p0 : List MemPlace} (h0 : DataW.Trod enc Try.prog W 0 (fun _ => true) true 23 (.slice a0 len0 cap0) d0 p0)
    (hw : ∀ m ∈ d0.weights Try.prog 23, m ≤ reachBytes) : ∃ l, Seq changeE (fun b => b < W.heap.size) W (.slice a0 len0 cap0) l := by
  obtain ⟨fuel, hf⟩ := h0
  have hf' : DataW.trod enc Try.prog W 0 (fun _ => true) true fuel 23 [.slice a0 len0 cap0] = some (d0, p0) := by simpa [Value.cells] using hf
  exact changes_of_trod cellTys Try.underlying30 chgTys Try.underlying23 hf' hw

set_option maxRecDepth 100000 in
/-- Acts that have come in. -/
theorem acts_in {H : Type} {enc : TypeId × Value → H} {W : World} {a0 : Option Addr} {len0 cap0 : Nat} {d0 : DataW H} {p0 : List MemPlace} (h0 : DataW.Trod enc Try.prog W 0 (fun _ => true) true 26 (.slice a0 len0 cap0) d0 p0)
    (hw : ∀ m ∈ d0.weights Try.prog 26, m ≤ reachBytes) : ∃ l, Seq actE (fun b => b < W.heap.size) W (.slice a0 len0 cap0) l := by
  obtain ⟨fuel, hf⟩ := h0
  have hf' : DataW.trod enc Try.prog W 0 (fun _ => true) true fuel 26 [.slice a0 len0 cap0] = some (d0, p0) := by simpa [Value.cells] using hf
  exact acts_of_trod cellTys Try.underlying30 chgTys Try.underlying26 ⟨_, _, Try.underlying34, ⟨rfl, rfl⟩, ⟨rfl, rfl⟩⟩ Try.underlying5 (by kernel_rfl) (by kernel_rfl) (by rw [show Try.prog.bytesOf 34 = 40 by kernel_rfl]; omega) hf' hw

set_option maxRecDepth 100000 in
/-- A base that has come in. -/
theorem base_in {H : Type} {enc : TypeId × Value → H} {W : World} {b0 : Nat} {v0 : Value} {d0 : DataW H} {p0 : List MemPlace} (hv : Value.okWide Try.prog W .any b0 25 v0) (h0 : DataW.Trod enc Try.prog W 0 (fun _ => true) true 25 v0 d0 p0)
    (hw : ∀ m ∈ d0.weights Try.prog 25, m ≤ reachBytes) : ∃ b, BasV (fun b => b < W.heap.size) W v0 b := by
  obtain ⟨cs, rfl, hcs⟩ := okWide_struct Try.underlying25 hv
  obtain ⟨fuel, hf⟩ := h0
  have hf' : DataW.trod enc Try.prog W 0 (fun _ => true) true fuel 25 cs.toList = some (d0, p0) := by simpa [Value.cells] using hf
  obtain ⟨b, hb⟩ := base_of_trod cellTys Try.underlying30 chgTys (by kernel_rfl) (by rw [show Try.prog.bytesOf 30 = 24 by kernel_rfl]; omega) Try.underlying22 Try.underlying23 (by kernel_rfl) (by kernel_rfl)
    ⟨_, _, _, _, Try.underlying25, ⟨rfl, rfl⟩, ⟨rfl, rfl⟩, ⟨rfl, rfl⟩, ⟨rfl, rfl⟩⟩ (by kernel_rfl) hf' hw
  exact ⟨b, by simpa using hb⟩
end Go.Proofs.Yteefdmpaclnaiaa
