/-
  unify.Match: the program's walk.
-/
import Derived.Test.YtckkjjiaecnciaaGreatMtE
import Derived.Test.YtckkjjiaecnciaaGreatMtF
import Derived.Test.YtckkjjiaecnciaaGreatMtG
import Derived.Test.YtckkjjiaecnciaaGreatTmU
import Derived.Test.YtckkjjiaecnciaaGreatMtJ
import Derived.Deep.RegionHeld3
namespace Go.Proofs.YtckkjjiaecnciaaGreat
open Go Go.RowKit

/-- What a match tells: each variable in order, but those that are bound q themselves. -/
def outL (s : List Bnd) (ns : List Int) : List Bnd := (ns.map fun n => (⟨n, (bindS s n).getD []⟩ : Bnd)).filter fun b => !isV b.var b.t
theorem outL_len (s : List Bnd) (ns : List Int) : (outL s ns).length ≤ ns.length := by
  unfold outL; exact Nat.le_trans (List.length_filter_le _ _) (by simp)
theorem outL_yes {s : List Bnd} {ns : List Int} {k : Nat} (hk : k < ns.length) {x : List Cell} (hx : bindS s ns[k] = some x) (h : isV ns[k] x = false) : outL s (ns.take (k + 1)) = outL s (ns.take k) ++ [⟨ns[k], x⟩] := by
  unfold outL
  rw [List.take_succ_eq_append_getElem hk, List.map_append, List.filter_append]; simp [hx, h]
theorem outL_no {s : List Bnd} {ns : List Int} {k : Nat} (hk : k < ns.length) {x : List Cell} (hx : bindS s ns[k] = some x) (h : isV ns[k] x = true) : outL s (ns.take (k + 1)) = outL s (ns.take k) := by
  unfold outL
  rw [List.take_succ_eq_append_getElem hk, List.map_append, List.filter_append]; simp [hx, h]
theorem isV_head {n : Int} {c : Cell} {l : List Cell} (h : RightT (c :: l)) : isV n (c :: l) = (decide (c.kind = 1) && decide (c.n = n)) := by
  obtain ⟨c', l', e, h1, h2⟩ := h.cons
  simp only [List.cons.injEq] at e
  obtain ⟨rfl, rfl⟩ := e
  by_cases hk : c.kind = 1
  · have ha : arity c = 0 := by unfold arity; rw [if_neg (by omega)]
    rw [ha, endC_zero] at h2
    have : l = [] := List.eq_nil_of_length_eq_zero (by simpa using h2.symm)
    subst this
    rfl
  · rw [decide_eq_false hk, Bool.false_and]
    cases l with
    | nil => rw [isV_one, decide_eq_false hk]; rfl
    | cons d l => rfl

/-- How far the pattern has come. -/
structure MatM (p t : List Cell) (k q : Nat) (s : List Bnd) : Prop where
  whole : Whole (t.drop q)
  tale : matchL p t [] = matchL (p.drop k) (t.drop q) s
  vars : ∀ j (hj : j < p.length), j < k → p[j].kind = 1 → ∃ y, bindS s p[j].n = some y
  right : ∀ n y, bindS s n = some y → RightT y
theorem matM_zero {p t : List Cell} (ht : RightT t) : MatM p t 0 0 [] :=
  ⟨by rw [List.drop_zero]; exact ht.whole, by rw [List.drop_zero, List.drop_zero], fun _ _ h => absurd h (Nat.not_lt_zero _), fun n y h => by simp [bindS] at h⟩
theorem matM_end {p t : List Cell} {k : Nat} {s : List Bnd} (hk : k < p.length) (h : MatM p t k t.length s) : matchB p t = false := by
  unfold matchB
  rw [h.tale, List.drop_eq_getElem_cons hk, List.drop_length, matchL]; rfl
theorem drop_consE {t : List Cell} {q : Nat} (ht : q < t.length) : t.drop q = t[q] :: t.drop (q + 1) := List.drop_eq_getElem_cons ht
theorem matM_fun {p t : List Cell} {k q : Nat} {s : List Bnd} (hk : k < p.length) (ht : q < t.length) (h : MatM p t k q s) (hc : p[k].kind ≠ 1) (he : p[k] = t[q]) : MatM p t (k + 1) (q + 1) s := by
  have hw := h.whole
  have htl := h.tale
  rw [drop_consE ht] at hw htl
  rw [List.drop_eq_getElem_cons hk, matchL_fun hc, if_pos he] at htl
  refine ⟨hw.tail.1, htl, fun j hj hjk hv => ?_, h.right⟩
  by_cases e : j = k
  · subst e; exact absurd hv hc
  · exact h.vars j hj (by omega) hv
theorem matM_clash {p t : List Cell} {k q : Nat} {s : List Bnd} (hk : k < p.length) (ht : q < t.length) (h : MatM p t k q s) (hc : p[k].kind ≠ 1) (he : p[k] ≠ t[q]) : matchB p t = false := by
  have htl := h.tale
  rw [drop_consE ht, List.drop_eq_getElem_cons hk, matchL_fun hc, if_neg he] at htl
  unfold matchB; rw [htl]; rfl
/-- Where the subterm ends. -/
def endM (t : List Cell) (q : Nat) : Nat := q + subN (t.drop q)
theorem matM_sub {p t : List Cell} {k q : Nat} {s : List Bnd} (ht : q < t.length) (h : MatM p t k q s) :
    endO t q = some (endM t q) ∧ q < endM t q ∧ endM t q ≤ t.length ∧ RightT ((t.take (endM t q)).drop q) ∧ (t.drop q).take (subN (t.drop q)) = (t.take (endM t q)).drop q := by
  obtain ⟨h1, h2, h3, h4, -⟩ := h.whole.sub (by intro e; have := congrArg List.length e; simp at this; omega)
  have e : (t.drop q).take (subN (t.drop q)) = (t.take (endM t q)).drop q := by
    unfold endM
    rw [List.drop_take]; congr 1; omega
  rw [List.length_drop] at h3
  refine ⟨by unfold endO; rw [h1]; rfl, by unfold endM; omega, by unfold endM; omega, by rw [← e]; exact h4, e⟩
theorem matM_drop {p t : List Cell} {k q : Nat} {s : List Bnd} (ht : q < t.length) (h : MatM p t k q s) : Whole (t.drop (endM t q)) ∧ (t.drop q).drop (subN (t.drop q)) = t.drop (endM t q) := by
  obtain ⟨-, -, -, -, h5⟩ := h.whole.sub (by intro e; have := congrArg List.length e; simp at this; omega)
  have e : (t.drop q).drop (subN (t.drop q)) = t.drop (endM t q) := by rw [List.drop_drop]; rfl
  exact ⟨by rw [← e]; exact h5, e⟩
theorem matM_old {p t y : List Cell} {k q : Nat} {s : List Bnd} (hk : k < p.length) (ht : q < t.length) (h : MatM p t k q s) (hc : p[k].kind = 1) (hb : bindS s p[k].n = some y) (he : y = (t.take (endM t q)).drop q) : MatM p t (k + 1) (endM t q) s := by
  have hs := matM_sub ht h
  obtain ⟨hd1, hd2⟩ := matM_drop ht h
  have htl := h.tale
  have e5 := hs.2.2.2.2
  rw [drop_consE ht] at htl e5 hd2
  rw [List.drop_eq_getElem_cons hk, matchL_old hc hb, if_pos (he.trans e5.symm), hd2] at htl
  refine ⟨hd1, htl, fun j hj hjk hv => ?_, h.right⟩
  by_cases e : j = k
  · subst e; exact ⟨y, hb⟩
  · exact h.vars j hj (by omega) hv
theorem matM_differ {p t y : List Cell} {k q : Nat} {s : List Bnd} (hk : k < p.length) (ht : q < t.length) (h : MatM p t k q s) (hc : p[k].kind = 1) (hb : bindS s p[k].n = some y) (he : y ≠ (t.take (endM t q)).drop q) : matchB p t = false := by
  have e5 := (matM_sub ht h).2.2.2.2
  have htl := h.tale
  rw [drop_consE ht] at htl e5
  rw [List.drop_eq_getElem_cons hk, matchL_old hc hb, if_neg (fun e => he (e.trans e5))] at htl
  unfold matchB; rw [htl]; rfl
theorem matM_new {p t : List Cell} {k q : Nat} {s : List Bnd} (hk : k < p.length) (ht : q < t.length) (h : MatM p t k q s) (hc : p[k].kind = 1) (hb : bindS s p[k].n = none) : MatM p t (k + 1) (endM t q) (s ++ [⟨p[k].n, (t.take (endM t q)).drop q⟩]) := by
  have hs := matM_sub ht h
  obtain ⟨hd1, hd2⟩ := matM_drop ht h
  have htl := h.tale
  have e5 := hs.2.2.2.2
  rw [drop_consE ht] at htl e5 hd2
  rw [List.drop_eq_getElem_cons hk, matchL_new hc hb, e5, hd2] at htl
  refine ⟨hd1, htl, fun j hj hjk hv => ?_, fun n y hy => ?_⟩
  · rw [bindS_snoc1]
    by_cases e : j = k
    · subst e; rw [hb]; simp
    · obtain ⟨y, hy⟩ := h.vars j hj (by omega) hv
      exact ⟨y, by rw [hy]; rfl⟩
  · rw [bindS_snoc1] at hy
    cases hn : bindS s n with
    | some z => rw [hn] at hy; simp at hy; exact h.right n y (by rw [hn, hy])
    | none =>
      rw [hn, Option.none_or] at hy
      split at hy
      · simp only [Option.some.injEq] at hy; rw [← hy]; exact hs.2.2.2.1
      · cases hy
theorem matM_done {p t : List Cell} {q : Nat} {s : List Bnd} (h : MatM p t p.length q s) : matchL p t [] = some s := by
  rw [h.tale, List.drop_length, matchL]
end Go.Proofs.YtckkjjiaecnciaaGreat
