/-
  Layer 12, FactsAll in plain Lean: a call name(X0..) finds the facts whose first cell is the call's.
  Layer 12: FactsAll's call: a row of one's own of one cell, whose name is set afterwards.
-/
import Derived.Test.YtceipnlpofebmaaGreatMtR
namespace Go.Proofs.YtceipnlpofebmaaGreat
section
open Go

/-- The variables X j .. X (j + m - 1). -/
def varsFrom (j m : Nat) : List Cell := (List.range' j m).map fun i : Nat => vT (i : Int)
theorem varsFrom_succ (j m : Nat) : varsFrom j (m + 1) = vT (j : Int) :: varsFrom (j + 1) m := by
  unfold varsFrom; rw [List.range'_succ]; rfl
theorem varsFrom_snoc (j m : Nat) : varsFrom j (m + 1) = varsFrom j m ++ [vT ((j + m : Nat) : Int)] := by
  unfold varsFrom; rw [List.range'_concat, List.map_append]; simp

theorem endC_sub {m : Nat} {t : List Cell} (h : endC (m + 1) t = some t.length) : t ≠ [] ∧ endC m (t.drop (subN t)) = some (t.drop (subN t)).length := by
  refine ⟨fun e => by rw [e] at h; simp [endC] at h, ?_⟩
  rw [show m + 1 = 1 + m by omega, endC_add] at h
  cases h3 : endC 1 t with
  | none => rw [h3] at h; simp at h
  | some k =>
    have hs : subN t = k := by unfold subN; rw [h3]; rfl
    rw [h3] at h
    simp only [Option.bind_some, Option.map_eq_some_iff] at h
    obtain ⟨i, h4, h5⟩ := h
    rw [hs, h4, List.length_drop]
    congr 1; omega

theorem bindS_snoc_ne {s : List Bnd} {b : Bnd} {n : Int} (h : bindS s n = none) (hn : b.var ≠ n) : bindS (s ++ [b]) n = none := by
  unfold bindS at h ⊢
  rw [Option.map_eq_none_iff] at h ⊢
  rw [List.find?_append, h]
  simp [hn]

theorem matchL_vars : ∀ {m j : Nat} {t : List Cell} {s : List Bnd}, (∀ i : Nat, j ≤ i → bindS s (i : Int) = none) → endC m t = some t.length → ∃ s', matchL (varsFrom j m) t s = some s'
  | 0, j, t, s, _, _ => ⟨s, by unfold varsFrom; simp [matchL]⟩
  | m + 1, j, t, s, hs, ht => by
    obtain ⟨hne, h2⟩ := endC_sub ht
    rw [varsFrom_succ]
    match t, hne with
    | d :: t, _ =>
      rw [matchL_new (c := vT (j : Int)) rfl (hs j (Nat.le_refl _))]
      refine matchL_vars (fun i hi => bindS_snoc_ne (hs i (by omega)) ?_) h2
      show (j : Int) ≠ (i : Int)
      omega

/-- A call all of whose arguments are unlike variables fits the facts of its predicate, and no other one. -/
theorem matchB_all {H c : Cell} {n : Nat} {t : List Cell} (hk : H.kind ≠ 1) (hn : arity H = n) (ht : RightT (c :: t)) : matchB (H :: varsFrom 0 n) (c :: t) = decide (c = H) := by
  unfold matchB
  rw [matchL_fun hk]
  by_cases he : H = c
  · subst he
    rw [if_pos rfl, decide_eq_true rfl]
    have h1 := ht.2
    rw [endC_one] at h1
    split at h1
    · obtain ⟨k, h2, h3⟩ := Option.map_eq_some_iff.1 h1
      rw [List.length_cons] at h3
      obtain ⟨s', h4⟩ := matchL_vars (j := 0) (s := []) (t := t) (m := n) (fun i _ => by simp [bindS]) (by rw [← hn, h2]; congr 1; omega)
      rw [h4]; rfl
    · cases h1
  · rw [if_neg he, decide_eq_false fun e => he e.symm]; rfl
end
section
open Go Go.RowKit

theorem Own.lit1T {S : Nat → Prop} {base : Nat} {w : World} {y : Cell} (h1 : IntOK y.kind) (h2 : IntOK y.n) (h3 : y.name.size ≤ 140737488355328) (hb : base ≤ w.heap.size) :
    Own cellE S base 44 (w.alloc (.cells #[.int .i64 y.kind, .string y.name, .int .i64 y.n] 44)) (.slice (some ⟨w.heap.size, 0, none⟩) 1 1) [y] := by
  refine ⟨[.int .i64 y.kind, .string y.name, .int .i64 y.n], ⟨by simp [cellE], .inr ⟨w.heap.size, 1, #[.int .i64 y.kind, .string y.name, .int .i64 y.n], rfl, hb, heap_alloc_new w _, Nat.le_refl _, by simp [maxLen], by simp [cellE], by simp [cellE]⟩⟩, fun k x hx => ?_⟩
  obtain rfl : k = 0 := by have := (List.getElem?_eq_some_iff.1 hx).1; simp at this; omega
  simp at hx; subst hx
  exact ⟨_, ⟨rfl, h1, h2, h3⟩, fun j hj => by simp [cellE]⟩

theorem Own.name1 {S : Nat → Prop} {base : Nat} {e : TypeId} {w : World} {g cap : Nat} {y : Cell} {q : ByteArray} (h : Own cellE S base e w (.slice (some ⟨g, 0, none⟩) 1 cap) [y]) (hq : q.size ≤ 140737488355328) :
    Own cellE S base e (w.setCell ⟨g, 1, none⟩ (.string q)) (.slice (some ⟨g, 0, none⟩) 1 cap) [⟨y.kind, q, y.n⟩] := by
  obtain ⟨vs, hv1, hv2⟩ := h
  have hl : vs.length = 3 := hv1.1
  have e1 := ownsRow_set hv1 (j := 1) (by show 1 < 1 * 3; omega) (.string q)
  refine ⟨_, e1, fun k x hx => ?_⟩
  obtain rfl : k = 0 := by have := (List.getElem?_eq_some_iff.1 hx).1; simp at this; omega
  simp at hx; subst hx
  obtain ⟨cs, ⟨rfl, g1, g2, g3⟩, hcs⟩ := hv2 0 y rfl
  have c0 := hcs 0 (by show 0 < 3; omega)
  have c2 := hcs 2 (by show 2 < 3; omega)
  match vs, hl with
  | [a, b, c], _ =>
    simp [cellE] at c0 c2
    subst c0 c2
    refine ⟨_, ⟨rfl, g1, g2, hq⟩, fun j hj => ?_⟩
    have hj' : j < 3 := hj
    match j, hj' with
    | 0, _ => rfl
    | 1, _ => rfl
    | 2, _ => rfl

theorem u8_and1 (n : Nat) (hn : n < 256) : bits .and .u8 (n : Int) 1 = ((n % 2 : Nat) : Int) := by
  have h : ∀ x : Fin 256, bits .and .u8 ((x.val : Nat) : Int) 1 = ((x.val % 2 : Nat) : Int) := by decide +kernel
  exact h ⟨n, hn⟩
end
end Go.Proofs.YtceipnlpofebmaaGreat
