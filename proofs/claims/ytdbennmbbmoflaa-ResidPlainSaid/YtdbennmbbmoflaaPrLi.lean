/-
  Layer 18, the program: Do's first reading (two calls, one index, three new blocks), by an invariant.
-/
import Derived.Test.YtdbennmbbmoflaaPrK
import Derived.Test.YtdbennmbbmoflaaInv
namespace Go.Proofs.Ytdbennmbbmoflaa
open Go Go.RowKit

theorem wpAnyH_until {P : Program} {md : Region.Mode} {ops : Array Oper} {Q : Exit → Act → World → Prop} {S : World → Prop} {Inv : Array Bool → Act → World → Prop}
    (hS : ∀ listed a w, Inv listed a w → S w)
    (hs : ∀ listed a w, Inv listed a w → (∀ fuel, (unlisted ops listed).length ≤ fuel → wpAnyH P md ops Q S fuel listed a w) ∨
      (Region.ready md ops listed ≠ [] ∧ ∀ i, i ∈ Region.ready md ops listed → wpOp P ops Q i (Inv (listed.setIfInBounds i true)) a w)) :
    ∀ (fuel : Nat) (listed : Array Bool) (a : Act) (w : World), (unlisted ops listed).length ≤ fuel → Inv listed a w → wpAnyH P md ops Q S fuel listed a w := by
  intro fuel
  induction fuel with
  | zero =>
    intro listed a w hf hI
    rcases hs _ _ _ hI with h | ⟨h, -⟩
    · exact h _ hf
    · obtain ⟨i, hi⟩ := List.exists_mem_of_ne_nil _ h
      have := List.length_pos_of_mem (ready_unlisted hi)
      omega
  | succ fuel ih =>
    intro listed a w hf hI
    rcases hs _ _ _ hI with h | ⟨h, h1⟩
    · exact h _ hf
    · refine ⟨fun h0 => absurd h0 h, fun i hi => ?_⟩
      refine wpOp_mono (fun a' w' hI' => ⟨hS _ _ _ hI', ih _ _ _ ?_ hI'⟩) (h1 i hi)
      have := unlisted_less (ready_unlisted hi)
      omega

def flagsL (l k x a b c : Bool) : Array Bool := #[true, l, k, true, true, true, x, true, true, true, true, true, true, a, b, c, false, false, false]
def imp (a b : Bool) : Bool := !a || b
def readyOK (ops : Array Oper) : Bool :=
  [false, true].all fun l => [false, true].all fun k => [false, true].all fun x => [false, true].all fun a => [false, true].all fun b => [false, true].all fun c =>
    imp (imp k l && imp x k && !(l && k && a && b && c))
      (!(Region.ready .any ops (flagsL l k x a b c)).isEmpty && (Region.ready .any ops (flagsL l k x a b c)).all fun i =>
        (i == 1 && !l) || (i == 2 && l && !k) || (i == 6 && k && !x) || (i == 13 && !a) || (i == 14 && !b) || (i == 15 && !c))

theorem readyOK_spec {ops : Array Oper} (h : readyOK ops = true) {l k x a b c : Bool} (hk : k = true → l = true) (hx : x = true → k = true) (hn : (l && k && a && b && c) = false) :
    Region.ready .any ops (flagsL l k x a b c) ≠ [] ∧ ∀ i, i ∈ Region.ready .any ops (flagsL l k x a b c) →
      (i = 1 ∧ l = false) ∨ (i = 2 ∧ l = true ∧ k = false) ∨ (i = 6 ∧ k = true ∧ x = false) ∨ (i = 13 ∧ a = false) ∨ (i = 14 ∧ b = false) ∨ (i = 15 ∧ c = false) := by
  unfold readyOK at h
  have hm : ∀ b : Bool, b ∈ [false, true] := by decide
  have h1 := List.all_eq_true.1 (List.all_eq_true.1 (List.all_eq_true.1 (List.all_eq_true.1 (List.all_eq_true.1 (List.all_eq_true.1 h l (hm l)) k (hm k)) x (hm x)) a (hm a)) b (hm b)) c (hm c)
  have h2 : (imp k l && imp x k && !(l && k && a && b && c)) = true := by
    rw [hn]
    revert hk hx
    cases l <;> cases k <;> cases x <;> simp [imp]
  rw [h2] at h1
  simp only [imp, Bool.not_true, Bool.false_or, Bool.and_eq_true, List.all_eq_true] at h1
  refine ⟨fun h0 => ?_, fun i hi => ?_⟩
  · rw [h0] at h1; exact absurd h1.1 (by simp)
  · have := h1.2 i hi
    simp only [Bool.or_eq_true, Bool.and_eq_true, beq_iff_eq, Bool.not_eq_true'] at this
    rcases this with ((((h | h) | h) | h) | h) | h
    · exact .inl h
    · exact .inr (.inl ⟨h.1.1, h.1.2, h.2⟩)
    · exact .inr (.inr (.inl ⟨h.1.1, h.1.2, h.2⟩))
    · exact .inr (.inr (.inr (.inl h)))
    · exact .inr (.inr (.inr (.inr (.inl h))))
    · exact .inr (.inr (.inr (.inr (.inr h))))

/-- Two calls one behind the other, an index into what the second gives, three new blocks: in whatever order. -/
theorem region_2i3 {P : Program} {ops : Array Oper} {Q : Exit → Act → World → Prop} {S : World → Prop} (I : Bool → Bool → Bool → Bool → Bool → Bool → Act → World → Prop)
    (hr : readyOK ops = true)
    (hS : ∀ l k x a b c A w, I l k x a b c A w → S w)
    (h1 : ∀ a b c A w, I false false false a b c A w → wpOp P ops Q 1 (I true false false a b c) A w)
    (h2 : ∀ a b c A w, I true false false a b c A w → wpOp P ops Q 2 (I true true false a b c) A w)
    (h6 : ∀ a b c A w, I true true false a b c A w → wpOp P ops Q 6 (I true true true a b c) A w)
    (h13 : ∀ l k x b c A w, I l k x false b c A w → wpOp P ops Q 13 (I l k x true b c) A w)
    (h14 : ∀ l k x a c A w, I l k x a false c A w → wpOp P ops Q 14 (I l k x a true c) A w)
    (h15 : ∀ l k x a b A w, I l k x a b false A w → wpOp P ops Q 15 (I l k x a b true) A w)
    (hend : ∀ x A w, I true true x true true true A w → ∀ fuel, (unlisted ops (flagsL true true x true true true)).length ≤ fuel → wpAnyH P .any ops Q S fuel (flagsL true true x true true true) A w)
    {A : Act} {w : World} (h0 : I false false false false false false A w) {fuel : Nat} {listed : Array Bool} (hl : listed = flagsL false false false false false false) (hf : (unlisted ops (flagsL false false false false false false)).length ≤ fuel) :
    wpAnyH P .any ops Q S fuel listed A w := by
  subst hl
  refine wpAnyH_until (Inv := fun listed A w => ∃ l k x a b c, listed = flagsL l k x a b c ∧ (k = true → l = true) ∧ (x = true → k = true) ∧ I l k x a b c A w)
    (fun listed A w ⟨l, k, x, a, b, c, _, _, _, h⟩ => hS _ _ _ _ _ _ _ _ h) ?_ fuel _ A w hf ⟨false, false, false, false, false, false, rfl, by simp, by simp, h0⟩
  rintro listed A w ⟨l, k, x, a, b, c, rfl, hk, hx, h⟩
  cases hn : (l && k && a && b && c)
  · right
    obtain ⟨hne, hm⟩ := readyOK_spec hr hk hx hn
    refine ⟨hne, fun i hi => ?_⟩
    rcases hm i hi with ⟨rfl, rfl⟩ | ⟨rfl, rfl, rfl⟩ | ⟨rfl, rfl, rfl⟩ | ⟨rfl, rfl⟩ | ⟨rfl, rfl⟩ | ⟨rfl, rfl⟩
    · have e1 : k = false := by cases k <;> simp_all
      have e2 : x = false := by cases x <;> simp_all
      subst e1 e2
      exact wpOp_mono (fun A w h => ⟨_, _, _, _, _, _, rfl, by simp, by simp, h⟩) (h1 _ _ _ _ _ h)
    · have e2 : x = false := by cases x <;> simp_all
      subst e2
      exact wpOp_mono (fun A w h => ⟨_, _, _, _, _, _, rfl, by simp, by simp, h⟩) (h2 _ _ _ _ _ h)
    · have e1 : l = true := hk rfl
      subst e1
      exact wpOp_mono (fun A w h => ⟨_, _, _, _, _, _, rfl, by simp, by simp, h⟩) (h6 _ _ _ _ _ h)
    · exact wpOp_mono (fun A w h => ⟨_, _, _, _, _, _, rfl, hk, hx, h⟩) (h13 _ _ _ _ _ _ _ h)
    · exact wpOp_mono (fun A w h => ⟨_, _, _, _, _, _, rfl, hk, hx, h⟩) (h14 _ _ _ _ _ _ _ h)
    · exact wpOp_mono (fun A w h => ⟨_, _, _, _, _, _, rfl, hk, hx, h⟩) (h15 _ _ _ _ _ _ _ h)
  · left
    simp only [Bool.and_eq_true] at hn
    obtain ⟨⟨⟨⟨rfl, rfl⟩, rfl⟩, rfl⟩, rfl⟩ := hn
    exact hend _ _ _ h
end Go.Proofs.Ytdbennmbbmoflaa
