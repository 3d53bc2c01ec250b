/-
  Layer 23's laws: what holds of what is asked; the walk of DepsTells.
-/
import Derived.Test.YtbcambjonjhopaaDpT
import Derived.Test.YtbcambjonjhopaaTmM
namespace Go.Proofs.Ytbcambjonjhopaa
open Go Go.RowKit

theorem insT_sub {t : List Cell} : ∀ {l : List (List Cell)} {x : List Cell}, x ∈ insT t l → x ∈ l ∨ x = t
  | [], x, h => by unfold insT at h; simp at h; exact .inr h
  | a :: l, x, h => by
    unfold insT at h
    split at h
    · rcases List.mem_cons.1 h with h | h
      · exact .inr h
      · exact .inl h
    · rcases List.mem_cons.1 h with h | h
      · exact .inl (by rw [h]; exact List.mem_cons_self ..)
      · rcases insT_sub h with h | h
        · exact .inl (List.mem_cons_of_mem _ h)
        · exact .inr h
theorem insT_len (t : List Cell) : ∀ l : List (List Cell), (insT t l).length ≤ l.length + 1
  | [] => by unfold insT; simp
  | a :: l => by
    unfold insT
    split
    · simp
    · have := insT_len t l; simp; omega
theorem addO_sub {l : List (List Cell)} {t x : List Cell} (h : x ∈ addO l t) : x ∈ l ∨ (x = t ∧ factT t = true) := by
  unfold addO at h
  split at h
  case isTrue hf =>
    split at h
    · exact .inl h
    · split at h
      · cases h
      · rcases insT_sub h with h | h
        · exact .inl h
        · exact .inr ⟨h, hf⟩
  case isFalse => cases h
theorem addO_len (l : List (List Cell)) (t : List Cell) : (addO l t).length ≤ l.length + 1 := by
  unfold addO
  split
  · split
    · omega
    · split
      · simp
      · exact insT_len t l
  · simp
theorem rowM_fact (l : List (List Cell)) : ∀ k, k ≤ l.length → (∀ t ∈ rowM l k, factT t = true) ∧ (rowM l k).length ≤ k := by
  intro k
  induction k with
  | zero => intro _; exact ⟨fun t h => by simp [rowM] at h, by simp [rowM]⟩
  | succ k ih =>
    intro hk
    obtain ⟨h1, h2⟩ := ih (by omega)
    rw [rowM_succ (by omega)]
    refine ⟨fun t ht => ?_, ?_⟩
    · rcases addO_sub ht with h | ⟨rfl, h⟩
      · exact h1 t h
      · exact h
    · have := addO_len (rowM l k) (factM l[k])
      omega
theorem rowF_chg (l : List (List Cell)) : ChgOK (rowF l 20) := by
  unfold rowF
  obtain ⟨h1, h2⟩ := rowM_fact l (min l.length (min 20 512)) (by omega)
  exact ⟨by omega, fun t ht => (factT_parts (h1 t ht)).1⟩
theorem rowF_len20 (l : List (List Cell)) : (rowF l 20).length ≤ 20 := by
  unfold rowF
  obtain ⟨h1, h2⟩ := rowM_fact l (min l.length (min 20 512)) (by omega)
  omega
theorem ret_quiet {f : Nat} {args : Array Value} {w : World} {b : Bool} (h : Calls Try.prog f args w (QuietV (.bool b) w)) (hb : b = true) : Calls Try.prog f args w (RetV (.bool true) w) := h.mono fun _ _ ⟨h1, h2⟩ => ⟨by rw [h1, hb], h2.belowS⟩
/-- What is so where a result is not too great. -/
structure AskR (r : Res) : Prop where
  ok : ResOK r
  rt : ∀ t ∈ r.tabs, RightT t.call
  len : r.tabs.length ≤ 30
theorem ask_of {r : Res} (h : greatB r = false) : AskR r := by
  have hg := great_good h
  exact ⟨⟨by have := hg.len; omega, by have := hg.lkn; omega, fun t ht => by have := (hg.call t ht).2.1; omega, hg.rng⟩, fun t ht => (hg.call t ht).1, hg.len⟩


end Go.Proofs.Ytbcambjonjhopaa
