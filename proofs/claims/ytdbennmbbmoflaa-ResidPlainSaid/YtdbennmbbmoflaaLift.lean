/-
  The seat's closed facts that each lift asks; the arguments that several laws share.
-/
import Derived.Test.YtdbennmbbmoflaaOpen
namespace Go.Proofs.Ytdbennmbbmoflaa
open Go Go.RowKit Go.ChangeShapes Go.WideShapes Go.ChangeAt

theorem own : ownKnob Try.prog.godebug = none := by kernel_rfl
theorem laidOut : laidOutB Try.prog = true := by kernel_rfl

theorem weights_of {H : Type} {P : Program} {ts : List TypeId} {ds : List (DataW H)} (h : (DataW.weightsEach P ts ds).all (· ≤ reachBytes) = true) {j : Nat} {t : TypeId} {d : DataW H} (ht : ts[j]? = some t) (hd : ds[j]? = some d) : ∀ m ∈ d.weights P t, m ≤ reachBytes := fun m hm => by
  simpa using List.all_eq_true.1 h m (DataW.weights_mem_each ht hd m hm)

/-- A slice of rules that has come in. -/
theorem rules_in {H : Type} {enc : TypeId × Value → H} {W : World} {a0 : Option Addr} {len0 cap0 : Nat} {d0 : DataW H} {p0 : List MemPlace} (h0 : DataW.Trod enc Try.prog W 0 (fun _ => true) true 22 (.slice a0 len0 cap0) d0 p0)
    (hw : ∀ m ∈ d0.weights Try.prog 22, m ≤ reachBytes) : ∃ l, Seq ruleE (fun b => b < W.heap.size) W (.slice a0 len0 cap0) l := by
  have hby : 0 < Try.prog.bytesOf 3 := by rw [show Try.prog.bytesOf 3 = 8 by kernel_rfl]; omega
  have hbr : 0 < Try.prog.bytesOf 46 := by rw [show Try.prog.bytesOf 46 = 56 by kernel_rfl]; omega
  obtain ⟨fuel, hf⟩ := h0
  have hf' : DataW.trod enc Try.prog W 0 (fun _ => true) true fuel 22 [.slice a0 len0 cap0] = some (d0, p0) := by simpa [Value.cells] using hf
  exact rules_of_trod (s := 24) (i := 3) Try.underlying22 (by kernel_rfl) hbr Try.underlying46 ⟨rfl, rfl⟩ ⟨rfl, rfl⟩ ⟨rfl, rfl⟩ Try.underlying24 Try.underlying3 (by kernel_rfl) (by kernel_rfl) hby hf' hw
/-- A slice of numbers that has come in. -/
theorem ints_in {H : Type} {enc : TypeId × Value → H} {W : World} {a0 : Option Addr} {len0 cap0 : Nat} {d0 : DataW H} {p0 : List MemPlace} (h0 : DataW.Trod enc Try.prog W 0 (fun _ => true) true 24 (.slice a0 len0 cap0) d0 p0)
    (hw : ∀ m ∈ d0.weights Try.prog 24, m ≤ reachBytes) : ∃ l, Seq intE (fun b => b < W.heap.size) W (.slice a0 len0 cap0) l := by
  have hby : 0 < Try.prog.bytesOf 3 := by rw [show Try.prog.bytesOf 3 = 8 by kernel_rfl]; omega
  obtain ⟨fuel, hf⟩ := h0
  have hf' : DataW.trod enc Try.prog W 0 (fun _ => true) true fuel 24 [.slice a0 len0 cap0] = some (d0, p0) := by simpa [Value.cells] using hf
  exact ints_of_trod Try.underlying24 Try.underlying3 (by kernel_rfl) hby hf' hw
end Go.Proofs.Ytdbennmbbmoflaa
