/-
  A region that draws its order and ends with an operation that waits for all others (the store of an assignment): the others with a held fact, then that one.
-/
import Derived.Test.YtaedgpcmkagpeaaGreatRun
namespace Go.Proofs.YtaedgpcmkagpeaaGreat
open Go

/-- The post ahead of the last operation. -/
def QLast (P : Program) (s : Oper) (Q : Exit → Act → World → Prop) : Exit → Act → World → Prop
  | .normal, a, w => s.wp P a w (fun a' w' => Q .normal a' w') Q
  | e, a, w => Q e a w
def lastOK (md : Region.Mode) (l : List Oper) (s : Oper) : Bool :=
  s.guard.isNone && (List.range l.length).all (fun j => s.after.any fun e => Region.binds md e && e.on == j) && s.after.all (fun e => decide (e.on < l.length)) &&
  (List.range l.length).all fun i => match l[i]? with
    | some o => (match o.guard with | none => true | some (j, _) => decide (j < l.length)) && o.after.all fun e => decide (e.on < i)
    | none => true

theorem upon_Q {P : Program} {s o : Oper} {Q : Exit → Act → World → Prop} {a : Act} {K K' : Act → World → Prop} {r : Result Next} (hK : ∀ a w, K a w → K' a w)
    (h : o.upon P a K (QLast P s Q) r) : o.upon P a K' Q r := by
  have hL : LetsOut (QLast P s Q) → LetsOut Q := fun h => h
  cases r with
  | ok n w =>
    cases n with
    | value v => exact hK _ _ h
    | skip => exact hK _ _ h
    | defer d => exact hK _ _ h
    | enter f args =>
      refine Calls.mono (h : Calls P f args w _) ?_
      intro e w' h
      cases e with
      | returned v => exact hK _ _ h
      | panicked c => exact h
      | outgrown => exact hL h
    | row r args => exact Rows.mono (h : Rows P r args w _) fun v w' h => hK _ _ h
    | _ => exact (h : False).elim
  | halt x w =>
    cases x with
    | panic v => exact h
    | _ => exact (h : False).elim
theorem wp_Q {P : Program} {s o : Oper} {Q : Exit → Act → World → Prop} {a : Act} {w : World} {K K' : Act → World → Prop} (hK : ∀ a w, K a w → K' a w)
    (h : o.wp P a w K (QLast P s Q)) : o.wp P a w K' Q := upon_Q hK h

section
variable {P : Program} {md : Region.Mode} {l : List Oper} {s : Oper} {Q : Exit → Act → World → Prop} {S : World → Prop}
theorem ready_iff {ops : Array Oper} {listed : Array Bool} {i : Nat} : i ∈ Region.ready md ops listed ↔ ∃ o, ops[i]? = some o ∧ listed.getD i true = false ∧ ∀ e ∈ o.after, Region.binds md e = true → listed.getD e.on false = true := by
  unfold Region.ready
  rw [List.mem_filter, List.mem_range, Bool.and_eq_true]
  constructor
  · rintro ⟨h1, h2, h3⟩
    rw [Array.getElem?_eq_getElem h1, Option.map_some, Option.getD_some, Array.all_eq_true_iff_forall_mem] at h3
    refine ⟨_, Array.getElem?_eq_getElem h1, by simpa using h2, fun e he hb => ?_⟩
    have := h3 e he
    rw [hb] at this; simpa using this
  · rintro ⟨o, h1, h2, h3⟩
    have hlt := (Array.getElem?_eq_some_iff.1 h1).1
    refine ⟨hlt, by rw [h2]; rfl, ?_⟩
    rw [h1, Option.map_some, Option.getD_some, Array.all_eq_true_iff_forall_mem]
    intro e he
    cases hb : Region.binds md e with
    | false => rfl
    | true => rw [h3 e he hb]; rfl
theorem getD_push {L : Array Bool} {b d : Bool} {i : Nat} (hi : i < L.size) : (L.push b).getD i d = L.getD i d := by
  simp [Array.getD, hi, Nat.lt_succ_of_lt hi, Array.getElem_push_lt]
theorem getD_last {L : Array Bool} {b d : Bool} : (L.push b).getD L.size d = b := by
  simp [Array.getD]
theorem getD_any {L : Array Bool} {c d : Bool} {i : Nat} (hi : i < L.size) : L.getD i c = L.getD i d := by
  simp [Array.getD, hi]
structure LastW (md : Region.Mode) (l : List Oper) (s : Oper) : Prop where
  sg : s.guard = none
  all : ∀ j, j < l.length → ∃ e ∈ s.after, Region.binds md e = true ∧ e.on = j
  on : ∀ e ∈ s.after, e.on < l.length
  guard : ∀ (i : Nat) (o : Oper) (j : Nat) (b : Bool), l[i]? = some o → o.guard = some (j, b) → j < l.length
  after : ∀ (i : Nat) (o : Oper), l[i]? = some o → ∀ e ∈ o.after, e.on < i
theorem lastW (h : lastOK md l s = true) : LastW md l s := by
  unfold lastOK at h
  simp only [Bool.and_eq_true, List.all_eq_true, List.mem_range] at h
  obtain ⟨⟨⟨h1, h2⟩, h3⟩, h4⟩ := h
  refine ⟨by simpa using h1, fun j hj => ?_, fun e he => ?_, fun i o j b hi hg => ?_, fun i o hi e he => ?_⟩
  · have := h2 j hj
    rw [Array.any_eq_true] at this
    obtain ⟨k, hk, h5⟩ := this
    rw [Bool.and_eq_true, beq_iff_eq] at h5
    exact ⟨_, Array.getElem_mem hk, h5.1, h5.2⟩
  · rw [Array.all_eq_true_iff_forall_mem] at h3
    simpa using h3 e he
  · have := h4 i (List.getElem?_eq_some_iff.1 hi).1
    rw [hi] at this
    simp only [Bool.and_eq_true, hg] at this
    simpa using this.1
  · have := h4 i (List.getElem?_eq_some_iff.1 hi).1
    rw [hi] at this
    simp only [Bool.and_eq_true] at this
    have h5 := this.2
    rw [Array.all_eq_true_iff_forall_mem] at h5
    simpa using h5 e he
theorem ops_at {i : Nat} (hi : i < l.length) : (l ++ [s]).toArray[i]? = l.toArray[i]? := by
  simp [List.getElem?_append_left hi]
theorem ops_last : (l ++ [s]).toArray[l.length]? = some s := by simp
theorem ready_old (h : LastW md l s) {L : Array Bool} (hL : L.size = l.length) {b : Bool} {i : Nat} (hi : i < l.length) : i ∈ Region.ready md (l ++ [s]).toArray (L.push b) ↔ i ∈ Region.ready md l.toArray L := by
  rw [ready_iff, ready_iff, ops_at hi]
  constructor
  · rintro ⟨o, h1, h2, h3⟩
    have hio : l[i]? = some o := by simpa using h1
    refine ⟨o, h1, by rw [← getD_push (b := b) (by omega)]; exact h2, fun e he hb => ?_⟩
    have := h.after i o hio e he
    rw [← getD_push (b := b) (by omega)]; exact h3 e he hb
  · rintro ⟨o, h1, h2, h3⟩
    have hio : l[i]? = some o := by simpa using h1
    refine ⟨o, h1, by rw [getD_push (by omega)]; exact h2, fun e he hb => ?_⟩
    have := h.after i o hio e he
    rw [getD_push (by omega)]; exact h3 e he hb
/-- None may come up: all have. -/
theorem all_up (h : LastW md l s) {L : Array Bool} (hL : L.size = l.length) (hr : Region.ready md l.toArray L = []) : ∀ i, i < l.length → L.getD i false = true := by
  intro i
  induction i using Nat.strongRecOn with
  | _ i ih =>
    intro hi
    cases hc : L.getD i false with
    | true => rfl
    | false =>
      exfalso
      have : i ∈ Region.ready md l.toArray L := ready_iff.2 ⟨l[i], by simp, by rw [getD_any (d := false) (by omega)]; exact hc, fun e he _ => by
        have h1 := h.after i l[i] (List.getElem?_eq_getElem hi) e he
        exact ih e.on h1 (by omega)⟩
      rw [hr] at this; simp at this
theorem last_up (h : LastW md l s) {L : Array Bool} (hL : L.size = l.length) {b : Bool} : l.length ∈ Region.ready md (l ++ [s]).toArray (L.push b) ↔ b = false ∧ ∀ i, i < l.length → L.getD i false = true := by
  rw [ready_iff]
  constructor
  · rintro ⟨o, h1, h2, h3⟩
    rw [ops_last, Option.some.injEq] at h1
    subst h1
    refine ⟨by rw [← hL, getD_last] at h2; exact h2, fun i hi => ?_⟩
    obtain ⟨e, he, hb, rfl⟩ := h.all i hi
    rw [← getD_push (b := b) (by omega)]; exact h3 e he hb
  · rintro ⟨rfl, h1⟩
    exact ⟨s, ops_last, by rw [← hL, getD_last], fun e he _ => by
      have := h.on e he
      rw [getD_push (by omega)]; exact h1 _ this⟩
theorem ready_lt {ops : Array Oper} {L : Array Bool} {i : Nat} (h : i ∈ Region.ready md ops L) : i < ops.size := by
  obtain ⟨o, h1, -⟩ := ready_iff.1 h
  exact (Array.getElem?_eq_some_iff.1 h1).1
theorem ready_none (_ : LastW md l s) {L : Array Bool} (hL : L.size = l.length) (hu : ∀ i, i < l.length → L.getD i false = true) : Region.ready md l.toArray L = [] := by
  rw [List.eq_nil_iff_forall_not_mem]
  intro i hi
  have hlt := ready_lt hi
  obtain ⟨o, h1, h2, -⟩ := ready_iff.1 hi
  have h3 := hu i (by simpa using hlt)
  rw [getD_any (d := true) (by rw [hL]; simpa using hlt), h2] at h3
  cases h3
theorem push_last {L : Array Bool} (hL : L.size = l.length) {b c : Bool} : (L.push b).setIfInBounds l.length c = L.push c := by
  apply Array.ext_getElem?
  intro i
  rw [Array.getElem?_setIfInBounds, Array.getElem?_push, Array.getElem?_push]
  by_cases hi : l.length = i
  · subst hi
    rw [if_pos rfl, if_pos (by rw [Array.size_push]; omega), if_pos hL.symm]
  · rw [if_neg hi]
    by_cases h2 : i = L.size
    · omega
    · rw [if_neg h2, if_neg h2]
theorem push_old {L : Array Bool} {b c : Bool} {i : Nat} (hi : i < L.size) : (L.push b).setIfInBounds i c = (L.setIfInBounds i c).push b := by
  apply Array.ext_getElem?
  intro j
  rw [Array.getElem?_setIfInBounds, Array.getElem?_push, Array.getElem?_push, Array.getElem?_setIfInBounds, Array.size_setIfInBounds, Array.size_push]
  by_cases h1 : i = j
  · subst h1
    rw [if_pos rfl, if_pos (by omega), if_neg (by omega), if_pos rfl, if_pos hi]
  · rw [if_neg h1, if_neg h1]
theorem yielded_old {t : Array Value} {j : Nat} (hj : j < l.length) : yielded (l ++ [s]).toArray t j = yielded l.toArray t j := by
  unfold yielded
  rw [ops_at hj]
theorem wanted_old (h : LastW md l s) {t : Array Value} {i : Nat} {o : Oper} (ho : l[i]? = some o) : Region.wanted o (yielded (l ++ [s]).toArray t) = Region.wanted o (yielded l.toArray t) := by
  unfold Region.wanted
  cases hg : o.guard with
  | none => rfl
  | some p =>
    obtain ⟨j, b⟩ := p
    simp only
    rw [yielded_old (h.guard i o j b ho hg)]

/-- **The others with a held fact, then the last one.** -/
theorem wpAnyH_last (h : LastW md l s) : ∀ (fuel : Nat) (L : Array Bool) (a : Act) (w : World), L.size = l.length → wpAnyH P md l.toArray (QLast P s Q) S fuel L a w →
    wpAnyH P md (l ++ [s]).toArray Q (fun _ => True) (fuel + 1) (L.push false) a w := by
  have fin : ∀ (fuel : Nat) (L : Array Bool) (a : Act) (w : World), L.size = l.length → (∀ i, i < l.length → L.getD i false = true) → QLast P s Q .normal a w →
      wpOp P (l ++ [s]).toArray Q l.length (fun a' w' => True ∧ wpAnyH P md (l ++ [s]).toArray Q (fun _ => True) fuel ((L.push false).setIfInBounds l.length true) a' w') a w := by
    intro fuel L a w hL hu hq
    unfold wpOp
    rw [ops_last]
    have hwt : Region.wanted s (yielded (l ++ [s]).toArray a.tmps) = true := by unfold Region.wanted; rw [h.sg]
    simp only [hwt, if_true]
    refine .inl (Oper.wp_mono (fun a' w' hq' => ⟨trivial, ?_⟩) (hq : s.wp P a w _ Q))
    rw [push_last hL]
    have hnone : Region.ready md (l ++ [s]).toArray (L.push true) = [] := by
      rw [List.eq_nil_iff_forall_not_mem]
      intro i hi
      have hlt := ready_lt hi
      rw [List.size_toArray, List.length_append, List.length_cons, List.length_nil] at hlt
      by_cases hil : i < l.length
      · rw [ready_old h hL hil, ready_none h hL hu] at hi
        simp at hi
      · have : i = l.length := by omega
        subst this
        have := ((last_up h hL).1 hi).1
        cases this
    cases fuel with
    | zero => exact ⟨hnone, hq'⟩
    | succ fuel => exact ⟨fun _ => hq', fun i hi => by rw [hnone] at hi; simp at hi⟩
  have noend : ∀ (L : Array Bool), L.size = l.length → Region.ready md (l ++ [s]).toArray (L.push false) ≠ [] := by
    intro L hL hr
    have h1 : Region.ready md l.toArray L = [] := by
      rw [List.eq_nil_iff_forall_not_mem]
      intro i hi
      have hlt := ready_lt hi
      have := (ready_old h hL (b := false) (by simpa using hlt)).2 hi
      rw [hr] at this; simp at this
    have := (last_up h hL (b := false)).2 ⟨rfl, all_up h hL h1⟩
    rw [hr] at this; simp at this
  intro fuel
  induction fuel with
  | zero =>
    intro L a w hL hw
    obtain ⟨h0, hq⟩ := hw
    refine ⟨fun hr => absurd hr (noend L hL), fun i hi => ?_⟩
    have hlt := ready_lt hi
    rw [List.size_toArray, List.length_append, List.length_cons, List.length_nil] at hlt
    by_cases hil : i < l.length
    · rw [ready_old h hL hil, h0] at hi
      simp at hi
    · have : i = l.length := by omega
      subst this
      exact fin 0 L a w hL (all_up h hL h0) hq
  | succ fuel ih =>
    intro L a w hL hw
    obtain ⟨h0, hw⟩ := hw
    refine ⟨fun hr => absurd hr (noend L hL), fun i hi => ?_⟩
    have hlt := ready_lt hi
    rw [List.size_toArray, List.length_append, List.length_cons, List.length_nil] at hlt
    by_cases hil : i < l.length
    · have hi2 := (ready_old h hL hil).1 hi
      have h1 := hw i hi2
      have hcont : ∀ a' w', S w' ∧ wpAnyH P md l.toArray (QLast P s Q) S fuel (L.setIfInBounds i true) a' w' →
          True ∧ wpAnyH P md (l ++ [s]).toArray Q (fun _ => True) (fuel + 1) ((L.push false).setIfInBounds i true) a' w' := fun a' w' h2 => by
        refine ⟨trivial, ?_⟩
        rw [push_old (by omega)]
        exact ih _ _ _ (by rw [Array.size_setIfInBounds]; exact hL) h2.2
      unfold wpOp at h1 ⊢
      rw [ops_at hil]
      have hio : l.toArray[i]? = some l[i] := by simp
      rw [hio] at h1 ⊢
      simp only at h1 ⊢
      rw [wanted_old h (List.getElem?_eq_getElem hil)]
      split
      · rename_i hwt
        rw [if_pos hwt] at h1
        rcases h1 with h1 | ⟨h1, h2⟩
        · exact .inl (wp_Q hcont h1)
        · exact .inr ⟨h1, h2⟩
      · rename_i hwt
        rw [if_neg hwt] at h1
        exact hcont _ _ h1
    · have : i = l.length := by omega
      subst this
      have hu := ((last_up h hL).1 hi).2
      exact fin (fuel + 1) L a w hL hu (h0 (ready_none h hL hu))

/-- A region's walk: the others with S, then the last. -/
theorem wp_region_last {id : Nat} {ops : List Oper} {a : Act} {w : World} (hm : P.follows .mixedOrders = true) (hl : lastOK .any ops.dropLast s = true) (hs : ops = ops.dropLast ++ [s]) (hS : S w.drew)
    (h : S w.drew → wpAnyH P .any ops.dropLast.toArray (QLast P s Q) S ops.dropLast.length (Array.replicate ops.dropLast.length false) a w.drew) : (Code.region id ops.toArray true).wp P Q a w := by
  refine wp_region_held_drew (S := fun _ => True) hm trivial fun _ => ?_
  have h1 := wpAnyH_last (lastW hl) _ _ _ _ (by simp) (h hS)
  rw [← hs] at h1
  have e1 : ops.toArray.size = ops.dropLast.length + 1 := by
    conv => lhs; rw [hs]
    simp
  rw [e1]
  have e2 : (Array.replicate ops.dropLast.length false).push false = Array.replicate (ops.dropLast.length + 1) false := by
    rw [← Array.replicate_succ]
  rw [e2] at h1
  exact h1
end
end Go.Proofs.YtaedgpcmkagpeaaGreat
