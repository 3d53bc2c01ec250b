/-
  A region that draws its order, by an invariant: one proof for each operation, none for each order.
-/
import Derived.OrdersHeld
import Derived.Deep.RegionHeld3
namespace Go.Proofs.Ytgfiaddldmmjiaa
open Go

/-- How many operations have not come up. -/
def unlisted (ops : Array Oper) (listed : Array Bool) : List Nat := (List.range ops.size).filter fun i => !listed.getD i true

theorem ready_unlisted {md : Region.Mode} {ops : Array Oper} {listed : Array Bool} {i : Nat} (h : i ∈ Region.ready md ops listed) : i ∈ unlisted ops listed := by
  unfold Region.ready at h
  unfold unlisted
  rw [List.mem_filter] at h ⊢
  refine ⟨h.1, ?_⟩
  have := h.2
  rw [Bool.and_eq_true] at this
  exact this.1

theorem filter_len_lt {p q : Nat → Bool} : ∀ {l : List Nat} {i : Nat}, i ∈ l → p i = true → q i = false → (∀ j, q j = true → p j = true) → (l.filter q).length < (l.filter p).length := by
  intro l
  induction l with
  | nil => intro i hi; cases hi
  | cons x l ih =>
    intro i hi hp hq hm
    have hle : ∀ l : List Nat, (l.filter q).length ≤ (l.filter p).length := by
      intro l
      induction l with
      | nil => simp
      | cons y l ih =>
        by_cases hy : q y = true
        · rw [List.filter_cons_of_pos hy, List.filter_cons_of_pos (hm y hy), List.length_cons, List.length_cons]; omega
        · rw [List.filter_cons_of_neg hy]
          by_cases hy' : p y = true
          · rw [List.filter_cons_of_pos hy', List.length_cons]; omega
          · rw [List.filter_cons_of_neg hy']; exact ih
    rcases List.mem_cons.1 hi with rfl | hi
    · rw [List.filter_cons_of_pos hp, List.filter_cons_of_neg (by rw [hq]; decide), List.length_cons]
      have := hle l
      omega
    · have h1 := ih hi hp hq hm
      by_cases hy : q x = true
      · rw [List.filter_cons_of_pos hy, List.filter_cons_of_pos (hm x hy), List.length_cons, List.length_cons]; omega
      · rw [List.filter_cons_of_neg hy]
        by_cases hy' : p x = true
        · rw [List.filter_cons_of_pos hy', List.length_cons]; omega
        · rw [List.filter_cons_of_neg hy']; exact h1

theorem unlisted_less {ops : Array Oper} {listed : Array Bool} {i : Nat} (h : i ∈ unlisted ops listed) : (unlisted ops (listed.setIfInBounds i true)).length < (unlisted ops listed).length := by
  unfold unlisted at *
  rw [List.mem_filter] at h
  refine filter_len_lt h.1 h.2 ?_ ?_
  · by_cases hi : i < listed.size
    · simp [hi]
    · have := h.2
      simp [Array.getElem?_eq_none (Nat.le_of_not_lt hi)] at this
  · intro j hj
    by_cases hji : i = j
    · subst hji; exact h.2
    · rw [getD_set_ne true hji] at hj; exact hj

/-- **By an invariant**: of what has come up, of the frame, of the world. -/
theorem wpAnyH_inv {P : Program} {md : Region.Mode} {ops : Array Oper} {Q : Exit → Act → World → Prop} {S : World → Prop} {Inv : Array Bool → Act → World → Prop}
    (hS : ∀ listed a w, Inv listed a w → S w)
    (hs : ∀ listed a w, Inv listed a w → ∀ i, i ∈ Region.ready md ops listed → wpOp P ops Q i (Inv (listed.setIfInBounds i true)) a w)
    (he : ∀ listed a w, Inv listed a w → Region.ready md ops listed = [] → Q .normal a w) :
    ∀ (fuel : Nat) (listed : Array Bool) (a : Act) (w : World), (unlisted ops listed).length ≤ fuel → Inv listed a w → wpAnyH P md ops Q S fuel listed a w := by
  intro fuel
  induction fuel with
  | zero =>
    intro listed a w hf hI
    have h0 : Region.ready md ops listed = [] := by
      rw [List.eq_nil_iff_forall_not_mem]
      intro i hi
      have := List.length_pos_of_mem (ready_unlisted hi)
      omega
    exact ⟨h0, he _ _ _ hI h0⟩
  | succ fuel ih =>
    intro listed a w hf hI
    refine ⟨he _ _ _ hI, fun i hi => ?_⟩
    refine wpOp_mono (fun a' w' hI' => ⟨hS _ _ _ hI', ih _ _ _ ?_ hI'⟩) (hs _ _ _ hI i hi)
    have := unlisted_less (ready_unlisted hi)
    omega

/-- One operation that is carried out. -/
theorem wpOp_run {P : Program} {ops : Array Oper} {Q : Exit → Act → World → Prop} {i : Nat} {o : Oper} {K : Act → World → Prop} {a : Act} {w : World} (ho : ops[i]? = some o)
    (hw : Region.wanted o (yielded ops a.tmps) = true) (h : o.wp P a w K Q) : wpOp P ops Q i K a w := by
  unfold wpOp
  simp only [ho, hw, if_true]
  exact .inl h
end Go.Proofs.Ytgfiaddldmmjiaa
