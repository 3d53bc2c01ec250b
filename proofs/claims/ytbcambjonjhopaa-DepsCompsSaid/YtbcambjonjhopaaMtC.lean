/-
  Plain: right terms, right bindings, what is put in (as in layer 2).
-/
import Derived.Test.YtbcambjonjhopaaMtB
namespace Go.Proofs.Ytbcambjonjhopaa
open Go Go.RowKit

def ownB (b : Bnd) : Bool := isV b.var b.t

theorem bindS_of_mem {a : List Bnd} (hne : VarsNe a) {x : Bnd} (hx : x ∈ a) : bindS a x.var = some x.t := by
  obtain ⟨k, hk, rfl⟩ := List.mem_iff_getElem.1 hx
  refine (placeS_at hk rfl fun i hi hlt e => ?_).2
  exact List.pairwise_iff_getElem.1 hne i k hi hk hlt e

theorem lookS_bound {s : List Bnd} {c : Cell} {t : List Cell} (h1 : c.kind = 1) (h2 : bindS s c.n = some t) : lookS s c = t := by
  unfold lookS; rw [if_pos h1, h2]; rfl

theorem lookS_free {s : List Bnd} {c : Cell} (h : c.kind ≠ 1 ∨ bindS s c.n = none) : lookS s c = [c] := by
  unfold lookS
  split
  · rcases h with h | h
    · contradiction
    · rw [h]; rfl
  · rfl

def vT (n : Int) : Cell := ⟨1, ⟨#[]⟩, n⟩

theorem endC_cells : ∀ {l : List Cell} {k m : Nat}, endC k l = some m → ∀ c ∈ l.take m, cellOK c = true
  | l, 0, m, h => by rw [endC_zero] at h; simp at h; subst h; simp
  | [], k + 1, m, h => by simp [endC] at h
  | c :: l, k + 1, m, h => by
    rw [endC_succ] at h
    split at h
    · rename_i hc
      obtain ⟨m', h1, rfl⟩ := Option.map_eq_some_iff.1 h
      intro x hx
      rw [List.take_succ_cons, List.mem_cons] at hx
      rcases hx with rfl | hx
      · exact hc
      · exact endC_cells h1 x hx
    · cases h

theorem RightT.cells {t : List Cell} (h : RightT t) : ∀ c ∈ t, cellOK c = true := fun c hc => endC_cells h.2 c (by rw [List.take_length]; exact hc)

theorem cell_var {c : Cell} (h : cellOK c = true) (hk : c.kind = 1) : c = vT c.n := by
  unfold cellOK at h
  rw [if_pos hk] at h
  simp only [Bool.and_eq_true, decide_eq_true_eq] at h
  obtain ⟨k, nm, n⟩ := c
  have hn : nm = ⟨#[]⟩ := by
    obtain ⟨d⟩ := nm
    have : d.size = 0 := h.1.1
    rw [Array.eq_empty_of_size_eq_zero this]
  subst hn
  have hk' : k = 1 := hk
  subst hk'
  rfl

theorem vT_ok {n : Int} (h : 0 ≤ n ∧ n ≤ 999) : cellOK (vT n) = true := by
  unfold cellOK vT
  rw [if_pos rfl, decide_eq_true h.1, decide_eq_true h.2]; rfl

theorem vT_right {n : Int} (h : 0 ≤ n ∧ n ≤ 999) : RightT [vT n] := by
  refine ⟨by simp, ?_⟩
  rw [endC_one, if_pos (vT_ok h)]
  rfl

theorem cell_n {c : Cell} (h : cellOK c = true) (hk : c.kind = 1) : 0 ≤ c.n ∧ c.n ≤ 999 := by
  unfold cellOK at h
  rw [if_pos hk] at h
  simp only [Bool.and_eq_true, decide_eq_true_eq] at h
  exact ⟨h.1.2, h.2⟩

/-- Right bindings. -/
structure RightS (s : List Bnd) : Prop where
  inc : s.Pairwise fun a b => a.var < b.var
  var : ∀ x ∈ s, 0 ≤ x.var ∧ x.var ≤ 999
  term : ∀ x ∈ s, RightT x.t
  own : ∀ x ∈ s, ownB x = false

theorem rightAt_iff : ∀ {s : List Bnd} {last : Int}, -1 ≤ last → (rightAt last s = true ↔ RightS s ∧ ∀ x ∈ s, last < x.var)
  | [], last, _ => ⟨fun _ => ⟨⟨List.Pairwise.nil, by simp, by simp, by simp⟩, by simp⟩, fun _ => rfl⟩
  | b :: s, last, hl => by
    have hc : rightAt last (b :: s) = (okS last b && rightAt b.var s) := rfl
    have ho : okS last b = true ↔ last < b.var ∧ b.var ≤ 999 ∧ RightT b.t ∧ ownB b = false := by
      unfold okS ownB rightT
      simp only [Bool.and_eq_true, decide_eq_true_eq, Bool.not_eq_true']
      constructor
      · rintro ⟨⟨⟨h1, h2⟩, h3⟩, h4⟩; exact ⟨h1, h2, h3, h4⟩
      · rintro ⟨h1, h2, h3, h4⟩; exact ⟨⟨⟨h1, h2⟩, h3⟩, h4⟩
    rw [hc, Bool.and_eq_true, ho]
    constructor
    · rintro ⟨⟨h1, h2, h3, h4⟩, h5⟩
      obtain ⟨r, hr⟩ := (rightAt_iff (by omega)).1 h5
      refine ⟨⟨List.pairwise_cons.2 ⟨hr, r.inc⟩, ?_, ?_, ?_⟩, ?_⟩ <;> intro x hx <;> rcases List.mem_cons.1 hx with rfl | hx
      · exact ⟨by omega, h2⟩
      · exact r.var x hx
      · exact h3
      · exact r.term x hx
      · exact h4
      · exact r.own x hx
      · exact h1
      · have := hr x hx; omega
    · rintro ⟨r, hr⟩
      have hv := r.var b (by simp)
      have hi := List.pairwise_cons.1 r.inc
      refine ⟨⟨hr b (by simp), hv.2, r.term b (by simp), r.own b (by simp)⟩, (rightAt_iff (by omega)).2 ⟨⟨hi.2, fun x hx => r.var x (by simp [hx]), fun x hx => r.term x (by simp [hx]), fun x hx => r.own x (by simp [hx])⟩, hi.1⟩⟩

theorem rightS_iff {s : List Bnd} : rightS s = true ↔ RightS s := by
  unfold rightS
  rw [rightAt_iff (Int.le_refl _)]
  exact ⟨fun h => h.1, fun h => ⟨h, fun x hx => by have := h.var x hx; omega⟩⟩

theorem RightS.ne {s : List Bnd} (h : RightS s) : VarsNe s := h.inc.imp fun h => by omega

theorem RightS.bind {s : List Bnd} (h : RightS s) {n : Int} {t : List Cell} (hb : bindS s n = some t) : RightT t ∧ isV n t = false ∧ 0 ≤ n ∧ n ≤ 999 := by
  obtain ⟨b, hb1, rfl, rfl⟩ := bindS_mem hb
  exact ⟨h.term b hb1, h.own b hb1, h.var b hb1⟩

theorem bindS_in {s : List Bnd} (h : RightS s) {x : Bnd} (hx : x ∈ s) : bindS s x.var = some x.t := bindS_of_mem h.ne hx

theorem putT_cons (s : List Bnd) (c : Cell) (t : List Cell) : putT s (c :: t) = lookS s c ++ putT s t := rfl

theorem putT_app (s : List Bnd) (t u : List Cell) : putT s (t ++ u) = putT s t ++ putT s u := by unfold putT; rw [List.flatMap_append]

theorem putT_nil (t : List Cell) : putT [] t = t := by
  induction t with
  | nil => rfl
  | cons c t ih =>
    rw [putT_cons, ih]
    have : lookS [] c = [c] := lookS_free (.inr (by simp [bindS]))
    rw [this]; rfl

theorem lookS_pos {s : List Bnd} (hs : RightS s) (c : Cell) : 1 ≤ (lookS s c).length := by
  by_cases hk : c.kind = 1
  · cases hb : bindS s c.n with
    | some t => rw [lookS_bound hk hb]; exact (hs.bind hb).1.pos
    | none => rw [lookS_free (.inr hb)]; simp
  · rw [lookS_free (.inl hk)]; simp

theorem putT_ge {s : List Bnd} (hs : RightS s) (t : List Cell) : t.length ≤ (putT s t).length := by
  induction t with
  | nil => simp
  | cons c t ih =>
    have := lookS_pos hs c
    rw [putT_cons, List.length_append, List.length_cons]; omega

theorem putT_fix {s : List Bnd} (hs : RightS s) : ∀ {t : List Cell}, putT s t = t → ∀ c ∈ t, lookS s c = [c]
  | [], _ => by simp
  | c :: t, h => by
    rw [putT_cons] at h
    have h1 := lookS_pos hs c
    have h2 := putT_ge hs t
    have h3 := congrArg List.length h
    rw [List.length_append, List.length_cons] at h3
    have h4 : (lookS s c).length = 1 := by omega
    have h5 : lookS s c = [c] ∧ putT s t = t := by
      obtain ⟨d, hd⟩ := List.length_eq_one_iff.1 h4
      rw [hd] at h ⊢
      simp only [List.cons_append, List.nil_append, List.cons.injEq] at h
      exact ⟨by rw [h.1], h.2⟩
    intro x hx
    rcases List.mem_cons.1 hx with rfl | hx
    · exact h5.1
    · exact putT_fix hs h5.2 x hx

/-- Terms stay terms. -/
theorem endC_put {s : List Bnd} (hs : RightS s) : ∀ {l : List Cell} {k m : Nat}, endC k l = some m → endC k (putT s l) = some (putT s (l.take m)).length
  | l, 0, m, h => by rw [endC_zero] at h ⊢; simp at h; subst h; rfl
  | [], k + 1, m, h => by simp [endC] at h
  | c :: l, k + 1, m, h => by
    rw [endC_succ] at h
    split at h
    · rename_i hc
      obtain ⟨m', h1, rfl⟩ := Option.map_eq_some_iff.1 h
      have ih := endC_put hs h1
      rw [putT_cons, List.take_succ_cons, putT_cons]
      by_cases hk : c.kind = 1
      · have ha : arity c = 0 := by unfold arity; rw [if_neg (by omega)]
        rw [ha, Nat.add_zero] at ih
        cases hb : bindS s c.n with
        | some tb =>
          rw [lookS_bound hk hb]
          have hr := (hs.bind hb).1
          have h2 : endC 1 (tb ++ putT s l) = some tb.length := by
            have := endC_append hr.2 (putT s l)
            rwa [List.take_length] at this
          rw [Nat.add_comm k 1, endC_add, h2, Option.bind_some, List.drop_left' rfl, ih]
          simp
        | none =>
          rw [lookS_free (.inr hb)]
          show endC (k + 1) (c :: putT s l) = _
          rw [endC_succ, if_pos hc, ha, Nat.add_zero, ih]
          simp [Nat.add_comm]
      · rw [lookS_free (.inl hk)]
        show endC (k + 1) (c :: putT s l) = _
        rw [endC_succ, if_pos hc, ih]
        simp [Nat.add_comm]
    · cases h

theorem put_right {s : List Bnd} (hs : RightS s) {t : List Cell} (ht : RightT t) (hl : (putT s t).length ≤ 200) : RightT (putT s t) := by
  refine ⟨hl, ?_⟩
  have := endC_put hs ht.2
  rwa [List.take_length] at this

theorem appO_some {s : List Bnd} {t x : List Cell} (h : appO s t = some x) : x = putT s t ∧ (putT s t).length ≤ 200 := by
  unfold appO at h
  split at h
  · simp only [Option.some.injEq] at h; exact ⟨h.symm, by assumption⟩
  · cases h

theorem appO_none {s : List Bnd} {t : List Cell} : appO s t = none ↔ 200 < (putT s t).length := by
  unfold appO
  split
  · simp; assumption
  · simp; omega

theorem appO_yes {s : List Bnd} {t : List Cell} (h : (putT s t).length ≤ 200) : appO s t = some (putT s t) := if_pos h

theorem isV_var {n : Int} {t : List Cell} (ht : RightT t) (h : isV n t = true) : t = [vT n] := by
  match t, h with
  | [c], h =>
    rw [isV_one] at h
    simp only [Bool.and_eq_true, decide_eq_true_eq] at h
    have := cell_var (ht.cells c (by simp)) h.1
    rw [h.2] at this
    rw [this]
end Go.Proofs.Ytbcambjonjhopaa
