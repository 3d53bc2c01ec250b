/-
  Layer 7 in plain Lean: safe clauses: alone, cut, with more, without negations.
-/
import Derived.Test.YtadbdmnngmlnhaaPgF
namespace Go.Proofs.Ytadbdmnngmlnhaa
open Go

theorem withinI_iff {a b : List Int} : withinI a b = true ↔ ∀ v ∈ a, v ∈ b := by
  unfold withinI; rw [List.all_eq_true]; simp
theorem safeB_mem : ∀ {l : List Lit} {bound r : List Int}, safeB bound l = some r → ∀ v, v ∈ r ↔ v ∈ bound ∨ ∃ b ∈ l, v ∈ varsL b.t
  | [], bound, r, h, v => by
    unfold safeB at h; cases h; simp
  | b :: l, bound, r, h, v => by
    unfold safeB at h
    split at h
    · cases h
    · rw [safeB_mem h v, List.mem_append]
      constructor
      · rintro ((h1 | h1) | ⟨x, hx, h1⟩)
        · exact .inl h1
        · exact .inr ⟨b, List.mem_cons_self, h1⟩
        · exact .inr ⟨x, List.mem_cons_of_mem _ hx, h1⟩
      · rintro (h1 | ⟨x, hx, h1⟩)
        · exact .inl (.inl h1)
        · rcases List.mem_cons.1 hx with rfl | hx
          · exact .inl (.inr h1)
          · exact .inr ⟨x, hx, h1⟩
/-- More bound: still safe. -/
theorem safeB_more : ∀ {l : List Lit} {bound more r : List Int}, (∀ v ∈ bound, v ∈ more) → safeB bound l = some r → ∃ r', safeB more l = some r' ∧ ∀ v ∈ r, v ∈ r'
  | [], bound, more, r, hm, h => by unfold safeB at h; cases h; exact ⟨more, rfl, hm⟩
  | b :: l, bound, more, r, hm, h => by
    unfold safeB at h ⊢
    split at h
    · cases h
    · rename_i hc
      have hc' : ¬ (b.neg && !withinI (varsL b.t) more) = true := fun e => hc (by
        simp only [Bool.and_eq_true, Bool.not_eq_true'] at e ⊢
        refine ⟨e.1, ?_⟩
        cases hw : withinI (varsL b.t) bound with
        | false => rfl
        | true =>
          have : withinI (varsL b.t) more = true := withinI_iff.2 fun v hv => hm v (withinI_iff.1 hw v hv)
          rw [this] at e; cases e.2)
      rw [if_neg hc']
      exact safeB_more (fun v hv => by rcases List.mem_append.1 hv with hv | hv <;> simp [hm, hv]) h
theorem safeB_cons (b : Lit) (l : List Lit) (bound : List Int) : safeB bound (b :: l) = if (b.neg && !withinI (varsL b.t) bound) = true then none else safeB (bound ++ varsL b.t) l := rfl
theorem safeB_append : ∀ {l m : List Lit} {bound : List Int}, safeB bound (l ++ m) = (safeB bound l).bind fun r => safeB r m
  | [], m, bound => rfl
  | b :: l, m, bound => by
    rw [List.cons_append, safeB_cons, safeB_cons]
    split
    · rfl
    · exact safeB_append
theorem safeC_iff {c : Cls} : safeC c = true ↔ mayC c = true ∧ ∃ r, safeB [] c.body = some r ∧ withinI (varsL c.head) r = true := by
  unfold safeC
  rw [Bool.and_eq_true]
  constructor
  · rintro ⟨h1, h2⟩
    refine ⟨h1, ?_⟩
    cases hb : safeB [] c.body with
    | none => rw [hb] at h2; cases h2
    | some r => rw [hb] at h2; exact ⟨r, rfl, h2⟩
  · rintro ⟨h1, r, h2, h3⟩
    exact ⟨h1, by rw [h2]; exact h3⟩
/-- A safe clause's head has no variable that its literals have not. -/
theorem safe_vars {c : Cls} (h : safeC c = true) : ∀ v ∈ varsL c.head, ∃ b ∈ c.body, v ∈ varsL b.t := fun v hv => by
  obtain ⟨-, r, h2, h3⟩ := safeC_iff.1 h
  rcases (safeB_mem h2 v).1 (withinI_iff.1 h3 v hv) with h4 | h4
  · simp at h4
  · exact h4
theorem mayC_iff {c : Cls} : mayC c = true ↔ (∀ b ∈ c.body, atomB b.t = true) ∧ atomB c.head = true ∧ c.body.length ≤ 8 := by
  unfold mayC
  simp only [Bool.and_eq_true, decide_eq_true_eq, List.all_eq_true]
  exact ⟨fun h => ⟨h.1.1, h.1.2, h.2⟩, fun h => ⟨⟨h.1, h.2.1⟩, h.2.2⟩⟩
/-- A beginning of a safe clause, with a head without variables. -/
theorem safe_take {c : Cls} (h : safeC c = true) (k : Nat) {g : List Cell} (hg : atomB g = true) (hv : varsL g = []) : safeC ⟨g, c.body.take k⟩ = true := by
  obtain ⟨h1, r, h2, h3⟩ := safeC_iff.1 h
  obtain ⟨m1, m2, m3⟩ := mayC_iff.1 h1
  refine safeC_iff.2 ⟨mayC_iff.2 ⟨fun b hb => m1 b (List.mem_of_mem_take hb), hg, by show (c.body.take k).length ≤ 8; rw [List.length_take]; omega⟩, ?_⟩
  rw [← List.take_append_drop k c.body, safeB_append] at h2
  cases hb : safeB [] (c.body.take k) with
  | none => rw [hb] at h2; cases h2
  | some r' => exact ⟨r', rfl, by show withinI (varsL g) r' = true; rw [hv]; rfl⟩
/-- With a positive literal ahead it is safe just if there is room. -/
theorem safe_ahead {c : Cls} (h : safeC c = true) {t : List Cell} (ht : atomB t = true) : safeC ⟨c.head, ⟨false, t⟩ :: c.body⟩ = decide (c.body.length < 8) := by
  obtain ⟨h1, r, h2, h3⟩ := safeC_iff.1 h
  obtain ⟨m1, m2, m3⟩ := mayC_iff.1 h1
  by_cases hl : c.body.length < 8
  · rw [decide_eq_true hl]
    obtain ⟨r', g1, g2⟩ := safeB_more (more := [] ++ varsL t) (fun v hv => by simp at hv) h2
    refine safeC_iff.2 ⟨mayC_iff.2 ⟨fun b hb => ?_, m2, by show c.body.length + 1 ≤ 8; omega⟩, r', ?_, withinI_iff.2 fun v hv => g2 v (withinI_iff.1 h3 v hv)⟩
    · rcases List.mem_cons.1 hb with rfl | hb
      · exact ht
      · exact m1 b hb
    · show safeB [] (⟨false, t⟩ :: c.body) = some r'
      rw [safeB_cons, if_neg (by simp)]; exact g1
  · rw [decide_eq_false hl]
    cases hs : safeC ⟨c.head, ⟨false, t⟩ :: c.body⟩ with
    | false => rfl
    | true =>
      have := (mayC_iff.1 (safeC_iff.1 hs).1).2.2
      have : c.body.length + 1 ≤ 8 := this
      omega
/-- And behind. -/
theorem safe_behind {c : Cls} (h : safeC c = true) {t : List Cell} (ht : atomB t = true) : safeC ⟨c.head, c.body ++ [⟨false, t⟩]⟩ = decide (c.body.length < 8) := by
  obtain ⟨h1, r, h2, h3⟩ := safeC_iff.1 h
  obtain ⟨m1, m2, m3⟩ := mayC_iff.1 h1
  by_cases hl : c.body.length < 8
  · rw [decide_eq_true hl]
    refine safeC_iff.2 ⟨mayC_iff.2 ⟨fun b hb => ?_, m2, by show (c.body ++ [_]).length ≤ 8; simp; omega⟩, r ++ varsL t, ?_, withinI_iff.2 fun v hv => List.mem_append_left _ (withinI_iff.1 h3 v hv)⟩
    · rcases List.mem_append.1 hb with hb | hb
      · exact m1 b hb
      · rw [List.mem_singleton] at hb; subst hb; exact ht
    · show safeB [] (c.body ++ [⟨false, t⟩]) = _
      rw [safeB_append, h2]; rfl
  · rw [decide_eq_false hl]
    cases hs : safeC ⟨c.head, c.body ++ [⟨false, t⟩]⟩ with
    | false => rfl
    | true =>
      have h5 : (c.body ++ [(⟨false, t⟩ : Lit)]).length ≤ 8 := (mayC_iff.1 (safeC_iff.1 hs).1).2.2
      simp at h5
      omega
theorem safeB_plain : ∀ (l : List Lit) (bound : List Int), (∀ b ∈ l, b.neg = false) → ∃ r, safeB bound l = some r ∧ ∀ v, v ∈ r ↔ v ∈ bound ∨ ∃ b ∈ l, v ∈ varsL b.t
  | [], bound, _ => ⟨bound, rfl, fun v => by simp⟩
  | b :: l, bound, h => by
    obtain ⟨r, h1, -⟩ := safeB_plain l (bound ++ varsL b.t) fun x hx => h x (List.mem_cons_of_mem _ hx)
    have h2 : safeB bound (b :: l) = some r := by rw [safeB_cons, h b List.mem_cons_self, if_neg (by simp)]; exact h1
    exact ⟨r, h2, safeB_mem h2⟩
/-- The same literals, none negative, in whatever order: safe, if it was. -/
theorem safe_plain {c : Cls} (h : safeC c = true) {l : List Lit} (hn : ∀ b ∈ l, b.neg = false) (hl : l.length = c.body.length) (hm : ∀ t, (∃ b ∈ l, b.t = t) ↔ ∃ b ∈ c.body, b.t = t) : safeC ⟨c.head, l⟩ = true := by
  obtain ⟨h1, r, h2, h3⟩ := safeC_iff.1 h
  obtain ⟨m1, m2, m3⟩ := mayC_iff.1 h1
  obtain ⟨r', g1, g2⟩ := safeB_plain l [] hn
  refine safeC_iff.2 ⟨mayC_iff.2 ⟨fun b hb => ?_, m2, by show l.length ≤ 8; omega⟩, r', g1, withinI_iff.2 fun v hv => (g2 v).2 ?_⟩
  · obtain ⟨x, hx, e⟩ := (hm b.t).1 ⟨b, hb, rfl⟩
    rw [← e]; exact m1 x hx
  · rcases (safeB_mem h2 v).1 (withinI_iff.1 h3 v hv) with h4 | ⟨x, hx, h4⟩
    · exact .inl h4
    · obtain ⟨y, hy, e⟩ := (hm x.t).2 ⟨x, hx, rfl⟩
      exact .inr ⟨y, hy, by rw [e]; exact h4⟩
/-- A negative literal behind with a variable that no other one has. -/
theorem safe_odd {c : Cls} {t : List Cell} {v : Int} (hv : v ∈ varsL t) (hno : ∀ b ∈ c.body, ¬ v ∈ varsL b.t) : safeC ⟨c.head, c.body ++ [⟨true, t⟩]⟩ = false := by
  cases hs : safeC ⟨c.head, c.body ++ [⟨true, t⟩]⟩ with
  | false => rfl
  | true =>
    obtain ⟨-, r, h2, -⟩ := safeC_iff.1 hs
    have h3 : safeB [] (c.body ++ [⟨true, t⟩]) = some r := h2
    rw [safeB_append] at h3
    cases hb : safeB [] c.body with
    | none => rw [hb] at h3; cases h3
    | some q =>
      rw [hb] at h3
      have h4 : safeB q [⟨true, t⟩] = some r := h3
      rw [safeB_cons] at h4
      have hw : withinI (varsL t) q = false := by
        cases hw : withinI (varsL t) q with
        | false => rfl
        | true =>
          rcases (safeB_mem hb v).1 (withinI_iff.1 hw v hv) with h5 | ⟨x, hx, h5⟩
          · simp at h5
          · exact absurd h5 (hno x hx)
      rw [if_pos (by simp [hw])] at h4
      cases h4
/-- A clause without body. -/
theorem safe_alone {g : List Cell} (hg : atomB g = true) : safeC ⟨g, []⟩ = groundT g := by
  rw [varsL_ground, Bool.eq_iff_iff, decide_eq_true_iff, safeC_iff]
  constructor
  · rintro ⟨-, r, h1, h2⟩
    have h3 : ([] : List Int) = r := Option.some.inj h1
    subst h3
    cases hv : varsL g with
    | nil => rfl
    | cons v l =>
      have h4 : withinI (varsL g) [] = true := h2
      rw [hv] at h4
      have := withinI_iff.1 h4 v List.mem_cons_self
      simp at this
  · intro h
    have hv : varsL g = [] := List.eq_nil_of_length_eq_zero h
    exact ⟨mayC_iff.2 ⟨fun b hb => by simp at hb, hg, by simp⟩, [], rfl, by show withinI (varsL g) [] = true; rw [hv]; rfl⟩
end Go.Proofs.Ytadbdmnngmlnhaa
