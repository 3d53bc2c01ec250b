/-
  Layer 18, plain facts: the laws' programs are right, and stay so.
-/
import Derived.Test.YtdbennmbbmoflaaResP
import Derived.Test.YtdbennmbbmoflaaRgB
namespace Go.Proofs.Ytdbennmbbmoflaa
open Go Go.RowKit

theorem rise_sub {n : Nat} {l m : List Int} (h : RiseL n l) (hs : m.Sublist l) : RiseL n m := ⟨fun x hx => h.1 x (hs.subset hx), h.2.sublist hs⟩
theorem rise_without {n : Nat} {l m : List Int} (h : RiseL n l) : RiseL n (withoutL l m) := rise_sub h List.filter_sublist

/-- All rules' rows rise. -/
def RiseP (n : Nat) (g : Prog) : Prop := ∀ r ∈ g.rules, (0 ≤ r.head ∧ r.head < (n : Int)) ∧ RiseL n r.pos ∧ RiseL n r.neg

theorem rise_more {n : Nat} {kind : Int} {r : Rule} {l : List Int} (h : (0 ≤ r.head ∧ r.head < (n : Int)) ∧ RiseL n r.pos ∧ RiseL n r.neg) : ∀ q ∈ moreL kind r l, (0 ≤ q.head ∧ q.head < (n : Int)) ∧ RiseL n q.pos ∧ RiseL n q.neg := by
  intro q hq
  unfold moreL at hq
  split at hq
  · rw [List.mem_singleton] at hq; subst hq; exact ⟨h.1, h.2.1, rise_without h.2.2⟩
  · split at hq
    · rw [List.mem_singleton] at hq; subst hq; exact ⟨h.1, rise_without h.2.1, h.2.2⟩
    · simp at hq
theorem rise_do {n : Nat} {g : Prog} (h : RiseP n g) {s : Int × Int} (hs : s ∈ canL g) : RiseP n (doL g s).1 := by
  obtain ⟨j, k, hk, hj, rfl, hg⟩ := mem_canL.1 hs
  rw [doL_can hj hk hg]
  intro r hr
  have hr := rulesL_mem hr
  rw [List.mem_append, List.mem_append] at hr
  rcases hr with (h1 | h1) | h1
  · exact h r (List.mem_of_mem_take h1)
  · exact h r (List.mem_of_mem_drop h1)
  · exact rise_more (h _ (List.getElem_mem hk)) r h1
theorem rise_reduce {n : Nat} {g : Prog} (h : RiseP n g) (o : List Int) : RiseP n (reduceL g o) := reduceGo_keeps (P := RiseP n) o (fun _ _ h hs => rise_do h hs) _ _ _ h

/-! ### The laws' programs -/
theorem setTo_rise (l : List Int) (n : Nat) : ∀ k, k ≤ n → (∀ x ∈ setTo l n k, 0 ≤ x ∧ x < (k : Int)) ∧ (setTo l n k).Pairwise (· < ·) := by
  intro k _
  unfold setTo
  refine ⟨fun x hx => ?_, ?_⟩
  · obtain ⟨i, hi, rfl⟩ := List.mem_map.1 hx
    have := List.mem_range.1 (List.mem_filter.1 hi).1
    omega
  · rw [List.pairwise_map]
    exact (List.Pairwise.sublist List.filter_sublist List.pairwise_lt_range).imp fun h => by omega
theorem setL_rise (l : List Int) (n : Nat) : RiseL n (setL l n) := setTo_rise l n n (Nat.le_refl _)
theorem madeL_rise (l : List Rule) (n : Nat) : RiseP (manyN n) (madeL l n) := by
  intro r hr
  have h1 : r ∈ rulesM (manyN n) l (min l.length 24) := rulesL_mem hr
  unfold rulesM at h1
  obtain ⟨q, -, rfl⟩ := List.mem_map.1 h1
  refine ⟨⟨by show (0 : Int) ≤ ((maskN q.head % manyN n : Nat) : Int); omega, ?_⟩, setL_rise _ _, setL_rise _ _⟩
  show ((maskN q.head % manyN n : Nat) : Int) < (manyN n : Int)
  have := Nat.mod_lt (maskN q.head) (manyN_pos n).1
  omega
end Go.Proofs.Ytdbennmbbmoflaa
