/-
  R23: Comps.
-/
import Derived.Test.YtbcambjonjhopaaDpJ
import Derived.Test.YtbcambjonjhopaaAppG
import Derived.Test.YtbcambjonjhopaaRun
namespace Go.Proofs.Ytbcambjonjhopaa
open Go Go.RowKit

def sliceLen : Value → Nat
  | .slice _ n _ => n
  | _ => 0
theorem infoInts : (Try.prog.info? 31).map (fun i => (i.zero, i.size, i.bytes)) = some (some (.slice none 0 0), 1, 24) := by kernel_rfl
/-- The components, the lowest first. -/
def cmpsL (r : Res) : List (List Nat) := compsL (edgL r) r.tabs.length
theorem compL_pos {L : List (Nat × Nat)} {n i : Nat} (g : GrL L n) (hi : i < n) : 0 < (compL L n i).length := List.length_pos_of_mem (g.self hi)
theorem compsF_some {L : List (Nat × Nat)} {n f i : Nat} {told : List Nat} (h : nextO L n told = some i) : compsF L n (f + 1) told = compL L n i :: compsF L n f (told ++ compL L n i) := by
  show (match nextO L n told with | none => [] | some i => compL L n i :: compsF L n f (told ++ compL L n i)) = _
  rw [h]
theorem compsF_none {L : List (Nat × Nat)} {n f : Nat} {told : List Nat} (h : nextO L n told = none) : compsF L n f told = [] := by
  cases f with
  | zero => rfl
  | succ f =>
    show (match nextO L n told with | none => [] | some i => compL L n i :: compsF L n f (told ++ compL L n i)) = _
    rw [h]
theorem nextO_of {L : List (Nat × Nat)} {n i : Nat} {told : List Nat} (hi : i < n) (h : readyB L n told i = true) (hno : ∀ j, j < i → readyB L n told j = false) : nextO L n told = some i := by
  unfold nextO
  rw [List.find?_range_eq_some]
  exact ⟨h, List.mem_range.2 hi, fun j hj => by rw [hno j hj]; rfl⟩
theorem nextO_no {L : List (Nat × Nat)} {n : Nat} {told : List Nat} (hno : ∀ j, j < n → readyB L n told j = false) : nextO L n told = none := by
  unfold nextO
  rw [List.find?_eq_none]
  intro x hx
  rw [hno x (List.mem_range.1 hx)]; simp
/-- How far the look at one has come. -/
def rdyTo (r : Res) (told : List Nat) (i k : Nat) : Bool := !decide ((i : Int) ∈ natsZ told) && ((natsZ (reaL r i)).take k).all fun x => decide (x ∈ natsZ told ++ natsZ (cmpoL r i))
theorem rdyTo_zero (r : Res) (told : List Nat) (i : Nat) : rdyTo r told i 0 = !decide ((i : Int) ∈ natsZ told) := by unfold rdyTo; simp
theorem rdyTo_succ {r : Res} {told : List Nat} {i k : Nat} (h : k < (natsZ (reaL r i)).length) : rdyTo r told i (k + 1) = (rdyTo r told i k && decide ((natsZ (reaL r i))[k] ∈ natsZ told ++ natsZ (cmpoL r i))) := by
  unfold rdyTo
  rw [List.take_succ_eq_append_getElem h, List.all_append, Bool.and_assoc]
  simp
theorem rdyTo_all {r : Res} {told : List Nat} {i k : Nat} (h : (natsZ (reaL r i)).length ≤ k) : rdyTo r told i k = readyB (edgL r) r.tabs.length told i := by
  unfold rdyTo readyB
  rw [List.take_of_length_le h]
  have h1 : decide ((i : Int) ∈ natsZ told) = told.contains i := by
    rw [Bool.eq_iff_iff, decide_eq_true_eq, natsZ_mem, List.contains_eq_mem, decide_eq_true_eq]
  rw [h1]
  congr 1
  unfold reaL
  rw [Bool.eq_iff_iff, List.all_eq_true, List.all_eq_true]
  have hap : natsZ told ++ natsZ (cmpoL r i) = natsZ (told ++ compL (edgL r) r.tabs.length i) := by unfold natsZ cmpoL; rw [List.map_append]
  rw [hap]
  constructor
  · intro h x hx
    have := h (x : Int) (natsZ_mem.2 hx)
    rw [decide_eq_true_eq, natsZ_mem] at this
    rw [List.contains_eq_mem, decide_eq_true_eq]; exact this
  · intro h x hx
    unfold natsZ at hx
    obtain ⟨y, hy, rfl⟩ := List.mem_map.1 hx
    rw [decide_eq_true_eq, natsZ_mem]
    have := h y hy
    rw [List.contains_eq_mem, decide_eq_true_eq] at this; exact this
theorem rdyTo_step {r : Res} {told : List Nat} {i m : Nat} {x : Int} (h : (natsZ (reaL r i))[m]? = some x) : rdyTo r told i (m + 1) = (rdyTo r told i m && decide (x ∈ natsZ told ++ natsZ (cmpoL r i))) := by
  obtain ⟨h1, rfl⟩ := List.getElem?_eq_some_iff.1 h
  exact rdyTo_succ h1
theorem rdyTo_no {r : Res} {told : List Nat} {i k : Nat} (h : rdyTo r told i k = false) : readyB (edgL r) r.tabs.length told i = false := by
  rw [← rdyTo_all (k := (natsZ (reaL r i)).length) (Nat.le_refl _)]
  unfold rdyTo at h ⊢
  rw [Bool.and_eq_false_iff] at h ⊢
  rcases h with h | h
  · exact .inl h
  · right
    rw [List.all_eq_false] at h ⊢
    obtain ⟨x, hx, hn⟩ := h
    exact ⟨x, by rw [List.take_length]; exact List.mem_of_mem_take hx, hn⟩
/-- How far the look for the next one has come. -/
def nxtOK (r : Res) (told : List Nat) (i : Nat) (at' : Int) : Prop :=
  (at' = -1 ∧ ∀ j, j < i → readyB (edgL r) r.tabs.length told j = false) ∨ ∃ a : Nat, at' = (a : Int) ∧ nextO (edgL r) r.tabs.length told = some a ∧ i = a + 1

theorem nxtOK_no {r : Res} {tl : List Nat} {k : Nat} (h : nxtOK r tl k (-1)) (hr : readyB (edgL r) r.tabs.length tl k = false) : nxtOK r tl (k + 1) (-1) := by
  rcases h with ⟨-, h⟩ | ⟨a, h, -⟩
  · refine .inl ⟨rfl, fun j hj => ?_⟩
    by_cases e : j = k
    · subst e; exact hr
    · exact h j (by omega)
  · omega
theorem nxtOK_yes {r : Res} {tl : List Nat} {k : Nat} (h : nxtOK r tl k (-1)) (hk : k < r.tabs.length) (hr : readyB (edgL r) r.tabs.length tl k = true) : nxtOK r tl (k + 1) (k : Int) := by
  rcases h with ⟨-, h⟩ | ⟨a, h, -⟩
  · exact .inr ⟨k, rfl, nextO_of hk hr h, rfl⟩
  · omega


end Go.Proofs.Ytbcambjonjhopaa
