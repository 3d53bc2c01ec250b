/-
  Layer 23 in plain Lean: what a table leads to, by sweeps over the links; components; which one is told next.
  What a search leaves: all that one leads to, each met once. In plain Lean.
-/
import Derived.Test.YtckkjjiaecnciaaGreatBase
namespace Go.Proofs.YtckkjjiaecnciaaGreat
section
/-- What one leads to, itself among them. -/
inductive Rea (L : List (Nat × Nat)) (i : Nat) : Nat → Prop
  | refl : Rea L i i
  | step {j k : Nat} : Rea L i j → (j, k) ∈ L → Rea L i k
theorem Rea.trans {L : List (Nat × Nat)} {i j k : Nat} (h : Rea L i j) (h2 : Rea L j k) : Rea L i k := by
  induction h2 with
  | refl => exact h
  | step _ hm ih => exact ih.step hm
theorem Rea.one {L : List (Nat × Nat)} {i j : Nat} (h : (i, j) ∈ L) : Rea L i j := Rea.refl.step h
theorem Rea.lt {L : List (Nat × Nat)} {n i j : Nat} (hL : ∀ e ∈ L, e.1 < n ∧ e.2 < n) (hi : i < n) (h : Rea L i j) : j < n := by
  cases h with
  | refl => exact hi
  | step _ hm => exact (hL _ hm).2

/-- A set as marks. -/
def mkB (s : List Bool) (j : Nat) : Bool := s[j]?.getD false
theorem mkB_set {s : List Bool} {b j : Nat} (hb : b < s.length) : mkB (s.set b true) j = (decide (j = b) || mkB s j) := by
  unfold mkB
  rw [List.getElem?_set]
  by_cases e : b = j
  · subst e; simp [hb]
  · have e2 : ¬ j = b := fun h => e h.symm
    simp [e, e2]
theorem mkB_rep (n j : Nat) : mkB (List.replicate n false) j = false := by
  unfold mkB
  rw [List.getElem?_replicate]
  split <;> rfl
theorem mkB_lt {s : List Bool} {j : Nat} (h : mkB s j = true) : j < s.length := by
  rcases Nat.lt_or_ge j s.length with h1 | h1
  · exact h1
  · unfold mkB at h; rw [List.getElem?_eq_none h1] at h; cases h
theorem mkB_get {s : List Bool} {j : Nat} (h : j < s.length) : s[j] = mkB s j := by
  unfold mkB; rw [List.getElem?_eq_getElem h]; rfl
def sw1 (s : List Bool) (e : Nat × Nat) : List Bool := if mkB s e.1 = true then s.set e.2 true else s
def sweep1 (L : List (Nat × Nat)) (s : List Bool) : List Bool := L.foldl sw1 s
def sweepN (L : List (Nat × Nat)) : Nat → List Bool → List Bool
  | 0, s => s
  | m + 1, s => sweep1 L (sweepN L m s)
theorem sw1_len (s : List Bool) (e : Nat × Nat) : (sw1 s e).length = s.length := by
  unfold sw1; split <;> simp
theorem sweep1_len (L : List (Nat × Nat)) (s : List Bool) : (sweep1 L s).length = s.length := by
  unfold sweep1
  induction L generalizing s with
  | nil => rfl
  | cons e L ih => rw [List.foldl_cons, ih, sw1_len]
theorem sweepN_len (L : List (Nat × Nat)) (m : Nat) (s : List Bool) : (sweepN L m s).length = s.length := by
  induction m with
  | zero => rfl
  | succ m ih => exact (sweep1_len L _).trans ih
theorem sw1_le {s : List Bool} {e : Nat × Nat} {j : Nat} (h : mkB s j = true) : mkB (sw1 s e) j = true := by
  unfold sw1
  split
  · rcases Nat.lt_or_ge e.2 s.length with h1 | h1
    · rw [mkB_set h1, h]; simp
    · rw [List.set_eq_of_length_le h1]; exact h
  · exact h
theorem sweep1_le {L : List (Nat × Nat)} {s : List Bool} {j : Nat} (h : mkB s j = true) : mkB (sweep1 L s) j = true := by
  unfold sweep1
  induction L generalizing s with
  | nil => exact h
  | cons e L ih => rw [List.foldl_cons]; exact ih (sw1_le h)
theorem sweepN_le {L : List (Nat × Nat)} {s : List Bool} {m j : Nat} (h : mkB s j = true) : mkB (sweepN L m s) j = true := by
  induction m with
  | zero => exact h
  | succ m ih => exact sweep1_le ih
/-- More marks, and not the same: more in number. -/
theorem cnt_le : ∀ {s t : List Bool}, s.length = t.length → (∀ j, mkB s j = true → mkB t j = true) → s.count true ≤ t.count true ∧ (s.count true = t.count true → s = t)
  | [], [], _, _ => ⟨Nat.le_refl _, fun _ => rfl⟩
  | a :: s, b :: t, hl, h => by
    obtain ⟨h1, h2⟩ := cnt_le (s := s) (t := t) (by simpa using hl) fun j hj => h (j + 1) hj
    have h0 : a = true → b = true := fun e => by have := h 0 (by simp [mkB, e]); simpa [mkB] using this
    cases a <;> cases b
    · simp only [List.count_cons]; exact ⟨by simpa using h1, fun e => by rw [h2 (by simpa using e)]⟩
    · simp only [List.count_cons]
      refine ⟨by simp; omega, fun e => ?_⟩
      simp at e; omega
    · simp at h0
    · simp only [List.count_cons]
      refine ⟨by simp; omega, fun e => ?_⟩
      rw [h2 (by simp at e; omega)]
/-- What a sweep that changes nothing leaves is closed. -/
theorem sweep1_fix {L : List (Nat × Nat)} {s : List Bool} (hL : ∀ e ∈ L, e.2 < s.length) (h : sweep1 L s = s) : ∀ e ∈ L, mkB s e.1 = true → mkB s e.2 = true := by
  have key : ∀ (K : List (Nat × Nat)) (t : List Bool), t.length = s.length → (∀ e ∈ K, e.2 < s.length) → (∀ j, mkB s j = true → mkB t j = true) → ∀ e ∈ K, mkB s e.1 = true → mkB (K.foldl sw1 t) e.2 = true := by
    intro K
    induction K with
    | nil => intro t _ _ _ e he; cases he
    | cons a K ih =>
      intro t htl hK hst e he hm
      rw [List.foldl_cons]
      rcases List.mem_cons.1 he with rfl | he
      · have h1 : mkB (sw1 t e) e.2 = true := by
          unfold sw1
          rw [if_pos (hst _ hm), mkB_set (by rw [htl]; exact hK e (List.mem_cons_self ..))]
          simp
        exact sweep1_le (L := K) h1
      · exact ih (sw1 t a) ((sw1_len t a).trans htl) (fun e he => hK e (List.mem_cons_of_mem _ he)) (fun j hj => sw1_le (hst j hj)) e he hm
  intro e he hm
  have := key L s rfl hL (fun _ h => h) e he hm
  rw [show L.foldl sw1 s = s from h] at this
  exact this
theorem sw1_sound {L : List (Nat × Nat)} {i : Nat} {s : List Bool} {e : Nat × Nat} (he : e ∈ L) (h : ∀ j, mkB s j = true → Rea L i j) : ∀ j, mkB (sw1 s e) j = true → Rea L i j := by
  intro j hj
  unfold sw1 at hj
  split at hj
  case isTrue hm =>
    rcases Nat.lt_or_ge e.2 s.length with h1 | h1
    · rw [mkB_set h1, Bool.or_eq_true, decide_eq_true_eq] at hj
      rcases hj with rfl | hj
      · exact (h _ hm).step he
      · exact h j hj
    · rw [List.set_eq_of_length_le h1] at hj; exact h j hj
  case isFalse => exact h j hj
theorem sweep1_sound {L : List (Nat × Nat)} {i : Nat} {s : List Bool} (h : ∀ j, mkB s j = true → Rea L i j) : ∀ j, mkB (sweep1 L s) j = true → Rea L i j := by
  have key : ∀ (K : List (Nat × Nat)), (∀ e ∈ K, e ∈ L) → ∀ t, (∀ j, mkB t j = true → Rea L i j) → ∀ j, mkB (K.foldl sw1 t) j = true → Rea L i j := by
    intro K
    induction K with
    | nil => intro _ t ht; exact ht
    | cons a K ih => intro hK t ht; rw [List.foldl_cons]; exact ih (fun e he => hK e (List.mem_cons_of_mem _ he)) _ (sw1_sound (hK a (List.mem_cons_self ..)) ht)
  exact key L (fun _ h => h) s h
def reachS (L : List (Nat × Nat)) (n i : Nat) : List Bool := sweepN L n ((List.replicate n false).set i true)
def reB (L : List (Nat × Nat)) (n i j : Nat) : Bool := mkB (reachS L n i) j
theorem reachS_len (L : List (Nat × Nat)) (n i : Nat) : (reachS L n i).length = n := by
  unfold reachS; rw [sweepN_len]; simp
theorem reB_iff {L : List (Nat × Nat)} {n i j : Nat} (hL : ∀ e ∈ L, e.1 < n ∧ e.2 < n) (hi : i < n) : reB L n i j = true ↔ Rea L i j := by
  obtain ⟨s, hs⟩ : ∃ s, s = (List.replicate n false).set i true := ⟨_, rfl⟩
  have hsl : s.length = n := by rw [hs]; simp
  have hsi : ∀ j, mkB s j = true ↔ j = i := fun j => by rw [hs, mkB_set (by simpa using hi), mkB_rep]; simp
  have hr : reachS L n i = sweepN L n s := by rw [hs]; rfl
  unfold reB
  rw [hr]
  constructor
  · have : ∀ m, ∀ j, mkB (sweepN L m s) j = true → Rea L i j := by
      intro m
      induction m with
      | zero => intro j hj; rw [(hsi j).1 hj]; exact .refl
      | succ m ih => exact sweep1_sound ih
    exact this n j
  · have hfix : sweep1 L (sweepN L n s) = sweepN L n s := by
      have key : ∀ m, sweep1 L (sweepN L m s) = sweepN L m s ∨ m + 1 ≤ (sweepN L m s).count true := by
        intro m
        induction m with
        | zero =>
          refine .inr ?_
          have : 0 < s.count true := List.count_pos_iff.2 (by
            have h1 := mkB_lt ((hsi i).2 rfl)
            have h2 := mkB_get h1
            rw [(hsi i).2 rfl] at h2
            rw [← h2]; exact List.getElem_mem h1)
          exact this
        | succ m ih =>
          have hle := cnt_le (s := sweepN L m s) (t := sweepN L (m + 1) s) (sweep1_len L _).symm fun j hj => sweep1_le hj
          by_cases he : sweepN L m s = sweepN L (m + 1) s
          · exact .inl (by rw [← he]; exact he.symm)
          · rcases ih with ih | ih
            · exact absurd ih.symm he
            · refine .inr ?_
              have : (sweepN L m s).count true ≠ (sweepN L (m + 1) s).count true := fun e => he (hle.2 e)
              omega
      rcases key n with h | h
      · exact h
      · have h2 := List.count_le_length (a := true) (l := sweepN L n s)
        rw [sweepN_len, hsl] at h2
        omega
    have hcl := sweep1_fix (L := L) (s := sweepN L n s) (fun e he => by rw [sweepN_len, hsl]; exact (hL e he).2) hfix
    intro h
    induction h with
    | refl => exact sweepN_le ((hsi i).2 rfl)
    | step _ hm ih => exact hcl _ hm ih
theorem reB_lt {L : List (Nat × Nat)} {n i j : Nat} (h : reB L n i j = true) : j < n := by
  have := mkB_lt h; rwa [reachS_len] at this
/-- What one leads to, rising. -/
def reachL (L : List (Nat × Nat)) (n i : Nat) : List Nat := (List.range n).filter (reB L n i)
theorem mem_reachL {L : List (Nat × Nat)} {n i j : Nat} : j ∈ reachL L n i ↔ reB L n i j = true := by
  unfold reachL
  rw [List.mem_filter, List.mem_range]
  exact ⟨fun h => h.2, fun h => ⟨reB_lt h, h⟩⟩

/-- The component of one. -/
def compL (L : List (Nat × Nat)) (n i : Nat) : List Nat := (List.range n).filter fun j => reB L n i j && reB L n j i
theorem mem_compL {L : List (Nat × Nat)} {n i j : Nat} : j ∈ compL L n i ↔ reB L n i j = true ∧ reB L n j i = true := by
  unfold compL
  rw [List.mem_filter, List.mem_range, Bool.and_eq_true]
  exact ⟨fun h => h.2, fun h => ⟨reB_lt h.1, h⟩⟩
theorem compL_reach {L : List (Nat × Nat)} {n i : Nat} : (reachL L n i).filter (fun j => reB L n j i) = compL L n i := by
  unfold reachL compL
  rw [List.filter_filter]
  congr 1
  funext j
  exact Bool.and_comm _ _
structure GrL (L : List (Nat × Nat)) (n : Nat) : Prop where
  rng : ∀ e ∈ L, e.1 < n ∧ e.2 < n
theorem GrL.re {L : List (Nat × Nat)} {n : Nat} (g : GrL L n) {i j : Nat} (hi : i < n) : reB L n i j = true ↔ Rea L i j := reB_iff g.rng hi
theorem GrL.refl {L : List (Nat × Nat)} {n : Nat} (g : GrL L n) {i : Nat} (hi : i < n) : reB L n i i = true := (g.re hi).2 .refl
theorem GrL.trans {L : List (Nat × Nat)} {n : Nat} (g : GrL L n) {i j k : Nat} (hi : i < n) (h : reB L n i j = true) (h2 : reB L n j k = true) : reB L n i k = true :=
  (g.re hi).2 (((g.re hi).1 h).trans ((g.re (reB_lt h)).1 h2))
theorem GrL.self {L : List (Nat × Nat)} {n : Nat} (g : GrL L n) {i : Nat} (hi : i < n) : i ∈ compL L n i := mem_compL.2 ⟨g.refl hi, g.refl hi⟩
theorem compL_lt {L : List (Nat × Nat)} {n i j : Nat} (h : j ∈ compL L n i) : j < n := reB_lt (mem_compL.1 h).1
theorem GrL.eq {L : List (Nat × Nat)} {n : Nat} (g : GrL L n) {i j : Nat} (hi : i < n) (h : j ∈ compL L n i) : compL L n j = compL L n i := by
  obtain ⟨h1, h2⟩ := mem_compL.1 h
  have hj := reB_lt h1
  unfold compL
  apply List.filter_congr
  intro k hk
  rw [List.mem_range] at hk
  rw [Bool.eq_iff_iff, Bool.and_eq_true, Bool.and_eq_true]
  exact ⟨fun ⟨a, b⟩ => ⟨g.trans hi h1 a, g.trans hk b h2⟩, fun ⟨a, b⟩ => ⟨g.trans hj h2 a, g.trans hk b h1⟩⟩

/-- May one be told now? -/
def readyB (L : List (Nat × Nat)) (n : Nat) (told : List Nat) (i : Nat) : Bool := !told.contains i && (reachL L n i).all fun k => (told ++ compL L n i).contains k
theorem readyB_iff {L : List (Nat × Nat)} {n : Nat} {told : List Nat} {i : Nat} : readyB L n told i = true ↔ i ∉ told ∧ ∀ k, reB L n i k = true → k ∈ told ∨ reB L n k i = true := by
  unfold readyB
  rw [Bool.and_eq_true, Bool.not_eq_true', List.all_eq_true]
  simp only [List.contains_eq_mem, decide_eq_false_iff_not, decide_eq_true_eq, List.mem_append, mem_reachL, mem_compL]
  exact ⟨fun ⟨a, b⟩ => ⟨a, fun k hk => (b k hk).imp id (·.2)⟩, fun ⟨a, b⟩ => ⟨a, fun k hk => (b k hk).imp id fun h => ⟨hk, h⟩⟩⟩
def nextO (L : List (Nat × Nat)) (n : Nat) (told : List Nat) : Option Nat := (List.range n).find? (readyB L n told)
def compsF (L : List (Nat × Nat)) (n : Nat) : Nat → List Nat → List (List Nat)
  | 0, _ => []
  | f + 1, told => match nextO L n told with
    | none => []
    | some i => compL L n i :: compsF L n f (told ++ compL L n i)
/-- What is told: some components, each once. -/
structure Told (L : List (Nat × Nat)) (n : Nat) (told : List Nat) : Prop where
  lt : ∀ j ∈ told, j < n
  nd : told.Nodup
  cl : ∀ i ∈ told, ∀ j ∈ compL L n i, j ∈ told
theorem told_nil (L : List (Nat × Nat)) (n : Nat) : Told L n [] := ⟨fun _ h => absurd h List.not_mem_nil, List.nodup_nil, fun _ h => absurd h List.not_mem_nil⟩
theorem nodup_sub {α : Type} [DecidableEq α] : ∀ {l m : List α}, l.Nodup → (∀ x ∈ l, x ∈ m) → l.length ≤ m.length
  | [], _, _, _ => Nat.zero_le _
  | a :: l, m, hn, h => by
    rw [List.nodup_cons] at hn
    have ha := h a (List.mem_cons_self ..)
    have := nodup_sub (m := m.erase a) hn.2 fun x hx => (List.mem_erase_of_ne (fun e => hn.1 (by rw [← e]; exact hx))).2 (h x (List.mem_cons_of_mem _ hx))
    rw [List.length_erase_of_mem ha] at this
    have := List.length_pos_of_mem ha
    simp only [List.length_cons]
    omega
theorem compL_nodup (L : List (Nat × Nat)) (n i : Nat) : (compL L n i).Nodup := List.nodup_range.filter _
theorem Told.more {L : List (Nat × Nat)} {n : Nat} (g : GrL L n) {told : List Nat} (h : Told L n told) {i : Nat} (hi : i < n) (hn : i ∉ told) : Told L n (told ++ compL L n i) := by
  refine ⟨fun j hj => ?_, ?_, fun j hj k hk => ?_⟩
  · rcases List.mem_append.1 hj with hj | hj
    · exact h.lt j hj
    · exact compL_lt hj
  · rw [List.nodup_append]
    refine ⟨h.nd, compL_nodup L n i, fun a ha b hb e => ?_⟩
    subst e
    refine hn (h.cl a ha i ?_)
    rw [g.eq hi hb]
    exact g.self hi
  · rcases List.mem_append.1 hj with hj | hj
    · exact List.mem_append_left _ (h.cl j hj k hk)
    · rw [g.eq hi hj] at hk
      exact List.mem_append_right _ hk
/-- There is always one that may be told. -/
theorem GrL.next {L : List (Nat × Nat)} {n : Nat} (g : GrL L n) {told : List Nat} {i : Nat} (hi : i < n) (hn : i ∉ told) : ∃ j, j < n ∧ readyB L n told j = true := by
  have key : ∀ m i, i < n → i ∉ told → (reachL L n i).length ≤ m → ∃ j, j < n ∧ readyB L n told j = true := by
    intro m
    induction m with
    | zero =>
      intro i hi _ hm
      have := mem_reachL.2 (g.refl hi)
      rw [List.length_eq_zero_iff.1 (Nat.le_zero.1 hm)] at this
      cases this
    | succ m ih =>
      intro i hi hn hm
      by_cases h : readyB L n told i = true
      · exact ⟨i, hi, h⟩
      · rw [readyB_iff] at h
        have : ∃ k, reB L n i k = true ∧ k ∉ told ∧ ¬ reB L n k i = true := by
          apply Classical.byContradiction
          intro hc
          refine h ⟨hn, fun k hk => Classical.byContradiction fun hk2 => hc ⟨k, hk, fun h => hk2 (.inl h), fun h => hk2 (.inr h)⟩⟩
        obtain ⟨k, h1, h2, h3⟩ := this
        have hk := reB_lt h1
        refine ih k hk h2 ?_
        have hsub : ∀ x ∈ reachL L n k, x ∈ (reachL L n i).erase i := fun x hx => by
          have hx := mem_reachL.1 hx
          have hne : x ≠ i := fun e => h3 (by rw [← e]; exact hx)
          exact (List.mem_erase_of_ne hne).2 (mem_reachL.2 (g.trans hi h1 hx))
        have hnd : (reachL L n k).Nodup := List.nodup_range.filter _
        have hlen := nodup_sub hnd hsub
        rw [List.length_erase_of_mem (mem_reachL.2 (g.refl hi))] at hlen
        omega
  exact key _ i hi hn (Nat.le_refl _)
theorem nextO_some {L : List (Nat × Nat)} {n : Nat} {told : List Nat} {i : Nat} (h : nextO L n told = some i) : i < n ∧ readyB L n told i = true ∧ ∀ j, j < i → readyB L n told j = false := by
  unfold nextO at h
  have h1 := List.mem_of_find?_eq_some h
  have h2 := List.find?_some h
  refine ⟨List.mem_range.1 h1, h2, fun j hj => ?_⟩
  rw [List.find?_range_eq_some] at h
  simpa using h.2.2 j hj
theorem nextO_none {L : List (Nat × Nat)} {n : Nat} {told : List Nat} (h : nextO L n told = none) : ∀ i, i < n → readyB L n told i = false := by
  unfold nextO at h
  intro i hi
  have := List.find?_eq_none.1 h i (List.mem_range.2 hi)
  simpa using this
theorem GrL.none {L : List (Nat × Nat)} {n : Nat} (g : GrL L n) {told : List Nat} (h : nextO L n told = none) : ∀ i, i < n → i ∈ told := by
  intro i hi
  apply Classical.byContradiction
  intro hn
  obtain ⟨j, hj, h2⟩ := g.next hi hn
  rw [nextO_none h j hj] at h2
  cases h2
/-- All is told just if so many are told as there are. -/
theorem Told.full {L : List (Nat × Nat)} {n : Nat} {told : List Nat} (h : Told L n told) (hl : n ≤ told.length) : ∀ i, i < n → i ∈ told := by
  intro i hi
  apply Classical.byContradiction
  intro hn
  have := nodup_sub h.nd (m := (List.range n).erase i) fun x hx => (List.mem_erase_of_ne (fun e => hn (by rw [← e]; exact hx))).2 (List.mem_range.2 (h.lt x hx))
  rw [List.length_erase_of_mem (List.mem_range.2 hi), List.length_range] at this
  omega
theorem told_not_full {n : Nat} {told : List Nat} (hl : told.length < n) : ∃ i, i < n ∧ i ∉ told := by
  apply Classical.byContradiction
  intro hn
  have := nodup_sub (l := List.range n) (m := told) List.nodup_range fun x hx => Classical.byContradiction fun h => hn ⟨x, List.mem_range.1 hx, h⟩
  rw [List.length_range] at this
  omega
theorem Told.len {L : List (Nat × Nat)} {n : Nat} {told : List Nat} (h : Told L n told) : told.length ≤ n := by
  have := nodup_sub h.nd (m := List.range n) fun x hx => List.mem_range.2 (h.lt x hx)
  rwa [List.length_range] at this
theorem Told.none {L : List (Nat × Nat)} {n : Nat} {told : List Nat} (h : Told L n told) (hl : n ≤ told.length) : nextO L n told = none := by
  unfold nextO
  rw [List.find?_eq_none]
  intro i hi hr
  exact (readyB_iff.1 hr).1 (h.full hl i (List.mem_range.1 hi))
theorem Told.some {L : List (Nat × Nat)} {n : Nat} (g : GrL L n) {told : List Nat} (hl : told.length < n) : ∃ i, nextO L n told = some i := by
  cases h : nextO L n told with
  | some i => exact ⟨i, rfl⟩
  | none =>
    obtain ⟨i, hi, hn⟩ := told_not_full hl
    exact absurd (g.none h i hi) hn
/-- What components are. -/
structure CompsOK (L : List (Nat × Nat)) (n : Nat) (told : List Nat) (C : List (List Nat)) : Prop where
  all : ∀ i, i < n → i ∈ told ∨ ∃ c ∈ C, i ∈ c
  of : ∀ c ∈ C, ∃ i, i < n ∧ i ∉ told ∧ c = compL L n i
  nd : (told ++ C.flatten).Nodup
  ord : ∀ a (h : a < C.length), ∀ i ∈ C[a], ∀ k, reB L n i k = true → k ∈ told ∨ ∃ b, ∃ hb : b < C.length, b ≤ a ∧ k ∈ C[b]
theorem comps_ok {L : List (Nat × Nat)} {n : Nat} (g : GrL L n) : ∀ {f : Nat} {told : List Nat}, Told L n told → n < told.length + f → CompsOK L n told (compsF L n f told)
  | 0, told, h, hf => absurd h.len (by omega)
  | f + 1, told, h, hf => by
    unfold compsF
    cases hx : nextO L n told with
    | none => exact ⟨fun i hi => .inl (g.none hx i hi), fun c hc => absurd hc List.not_mem_nil, by simpa using h.nd, fun a ha => absurd ha (Nat.not_lt_zero _)⟩
    | some i =>
      obtain ⟨hi, hr, -⟩ := nextO_some hx
      rw [readyB_iff] at hr
      have h' := h.more g hi hr.1
      have hlen : told.length + 1 ≤ (told ++ compL L n i).length := by
        have := List.length_pos_of_mem (g.self hi)
        simp only [List.length_append]; omega
      have ih := comps_ok g (f := f) h' (by omega)
      dsimp only
      refine ⟨fun j hj => ?_, fun c hc => ?_, ?_, fun a ha j hj k hk => ?_⟩
      · rcases ih.all j hj with h1 | ⟨c, h1, h2⟩
        · rcases List.mem_append.1 h1 with h1 | h1
          · exact .inl h1
          · exact .inr ⟨_, List.mem_cons_self .., h1⟩
        · exact .inr ⟨c, List.mem_cons_of_mem _ h1, h2⟩
      · rcases List.mem_cons.1 hc with rfl | hc
        · exact ⟨i, hi, hr.1, rfl⟩
        · obtain ⟨j, h1, h2, h3⟩ := ih.of c hc
          exact ⟨j, h1, fun h => h2 (List.mem_append_left _ h), h3⟩
      · have := ih.nd
        rw [List.append_assoc] at this
        simpa using this
      · cases a with
        | zero =>
          simp only [List.getElem_cons_zero] at hj
          have hj' := mem_compL.1 hj
          rcases hr.2 k (g.trans hi hj'.1 hk) with h1 | h1
          · exact .inl h1
          · exact .inr ⟨0, by simp, Nat.le_refl _, by simp only [List.getElem_cons_zero]; exact mem_compL.2 ⟨g.trans hi hj'.1 hk, h1⟩⟩
        | succ a =>
          simp only [List.getElem_cons_succ] at hj
          rcases ih.ord a (by simpa using ha) j hj k hk with h1 | ⟨b, hb, h1, h2⟩
          · rcases List.mem_append.1 h1 with h1 | h1
            · exact .inl h1
            · exact .inr ⟨0, by simp, Nat.zero_le _, by simpa using h1⟩
          · exact .inr ⟨b + 1, by simp; exact hb, by omega, by simpa using h2⟩
/-- The components, the lowest first. -/
def compsL (L : List (Nat × Nat)) (n : Nat) : List (List Nat) := compsF L n (n + 1) []
theorem comps_all {L : List (Nat × Nat)} {n : Nat} (g : GrL L n) : CompsOK L n [] (compsL L n) := comps_ok g (told_nil L n) (by simp)
/-- The place of a component that has a number. -/
theorem comps_one {L : List (Nat × Nat)} {n : Nat} {told : List Nat} {C : List (List Nat)} (h : CompsOK L n told C) {a b i : Nat} (ha : a < C.length) (hb : b < C.length) (h1 : i ∈ C[a]) (h2 : i ∈ C[b]) : a = b := by
  have hp : ∀ {C : List (List Nat)}, C.flatten.Nodup → ∀ {a b : Nat} (ha : a < C.length) (hb : b < C.length), i ∈ C[a] → i ∈ C[b] → a = b := by
    intro C
    induction C with
    | nil => intro _ a b ha; simp at ha
    | cons c C ih =>
      intro hn a b ha hb h1 h2
      rw [List.flatten_cons, List.nodup_append] at hn
      cases a with
      | zero =>
        cases b with
        | zero => rfl
        | succ b => exact absurd rfl (hn.2.2 i (by simpa using h1) i (List.mem_flatten.2 ⟨_, List.getElem_mem (by simpa using hb : b < C.length), by simpa using h2⟩))
      | succ a =>
        cases b with
        | zero => exact absurd rfl (hn.2.2 i (by simpa using h2) i (List.mem_flatten.2 ⟨_, List.getElem_mem (by simpa using ha : a < C.length), by simpa using h1⟩))
        | succ b => exact congrArg (· + 1) (ih hn.2.1 (a := a) (b := b) (by simpa using ha) (by simpa using hb) (by simpa using h1) (by simpa using h2))
  exact hp (List.nodup_append.1 h.nd).2.1 ha hb h1 h2
theorem comps_len {L : List (Nat × Nat)} {n : Nat} {C : List (List Nat)} (h : CompsOK L n [] C) : C.flatten.length = n := by
  have hnd : C.flatten.Nodup := by simpa using h.nd
  have h1 := nodup_sub hnd (m := List.range n) fun x hx => by
    obtain ⟨c, hc, hx⟩ := List.mem_flatten.1 hx
    obtain ⟨i, -, -, rfl⟩ := h.of c hc
    exact List.mem_range.2 (compL_lt hx)
  have h2 := nodup_sub (l := List.range n) (m := C.flatten) List.nodup_range fun x hx => by
    rcases h.all x (List.mem_range.1 hx) with h | ⟨c, hc, hx⟩
    · cases h
    · exact List.mem_flatten.2 ⟨c, hc, hx⟩
  have h3 : (List.range n).length = n := List.length_range
  omega
end
section
/-- What one leads to, itself among them. -/
inductive Pth (E : Nat → Nat → Prop) (n : Nat) : Nat → Prop
  | refl : Pth E n n
  | step {a b : Nat} : Pth E n a → E a b → Pth E n b
theorem Pth.trans {E : Nat → Nat → Prop} {a b c : Nat} (h : Pth E a b) (h2 : Pth E b c) : Pth E a c := by
  induction h2 with
  | refl => exact h
  | step _ e ih => exact ih.step e
theorem Pth.one {E : Nat → Nat → Prop} {a b : Nat} (h : E a b) : Pth E a b := Pth.refl.step h
theorem Pth.closed {E : Nat → Nat → Prop} {P : Nat → Prop} (hc : ∀ x y, P x → E x y → P y) {a b : Nat} (h : Pth E a b) (ha : P a) : P b := by
  induction h with
  | refl => exact ha
  | step _ e ih => exact hc _ _ ih e
theorem Pth.head {E : Nat → Nat → Prop} {a b : Nat} (h : Pth E a b) : a = b ∨ ∃ c, E a c ∧ Pth E c b := by
  induction h with
  | refl => exact .inl rfl
  | step _ e ih =>
    rcases ih with rfl | ⟨c, h1, h2⟩
    · exact .inr ⟨_, e, .refl⟩
    · exact .inr ⟨c, h1, h2.step e⟩
theorem Pth.rev {E : Nat → Nat → Prop} {a b : Nat} (h : Pth E a b) : Pth (fun x y => E y x) b a := by
  induction h with
  | refl => exact .refl
  | step _ e ih => exact (Pth.one (E := fun x y => E y x) e).trans ih
theorem Pth.imp {E F : Nat → Nat → Prop} (hF : ∀ x y, E x y → F x y) {a b : Nat} (h : Pth E a b) : Pth F a b := by
  induction h with
  | refl => exact .refl
  | step _ e ih => exact ih.step (hF _ _ e)

/-- A visit of n: from those that were met to those that are met then. -/
structure Vis (E : Nat → Nat → Prop) (n : Nat) (s t : List Nat) : Prop where
  ext : ∃ u, t = s ++ u
  nd : t.Nodup
  hit : n ∈ t
  snd : ∀ x ∈ t, x ∈ s ∨ Pth E n x
  cl : ∀ x ∈ t, x ∈ s ∨ ∀ y, E x y → y ∈ t
/-- A visit under way: those of D are done. -/
structure VisTo (E : Nat → Nat → Prop) (n : Nat) (D : Nat → Prop) (s t : List Nat) : Prop where
  ext : ∃ u, t = s ++ n :: u
  nd : t.Nodup
  snd : ∀ x ∈ t, x ∈ s ∨ Pth E n x
  cl : ∀ x ∈ t, x ∈ s ∨ x = n ∨ ∀ y, E x y → y ∈ t
  don : ∀ y, D y → y ∈ t
theorem Vis.old {E : Nat → Nat → Prop} {n : Nat} {s : List Nat} (hn : s.Nodup) (h : n ∈ s) : Vis E n s s := ⟨⟨[], by simp⟩, hn, h, fun _ h => .inl h, fun _ h => .inl h⟩
theorem Vis.le {E : Nat → Nat → Prop} {n : Nat} {s t : List Nat} (h : Vis E n s t) {x : Nat} (hx : x ∈ s) : x ∈ t := by
  obtain ⟨u, rfl⟩ := h.ext; exact List.mem_append_left _ hx
theorem VisTo.start {E : Nat → Nat → Prop} {n : Nat} {s : List Nat} (hn : s.Nodup) (h : n ∉ s) : VisTo E n (fun _ => False) s (s ++ [n]) :=
  ⟨⟨[], rfl⟩, by rw [List.nodup_append]; exact ⟨hn, by simp, fun a ha b hb e => by simp at hb; subst hb; subst e; exact h ha⟩,
   fun x hx => by
    rcases List.mem_append.1 hx with h | h
    · exact .inl h
    · simp at h; subst h; exact .inr .refl,
   fun x hx => by
    rcases List.mem_append.1 hx with h | h
    · exact .inl h
    · simp at h; exact .inr (.inl h), fun _ h => h.elim⟩
theorem VisTo.step {E : Nat → Nat → Prop} {n y : Nat} {D : Nat → Prop} {s t t' : List Nat} (h : VisTo E n D s t) (he : E n y) (hv : Vis E y t t') : VisTo E n (fun z => D z ∨ z = y) s t' := by
  obtain ⟨u, hu⟩ := h.ext
  obtain ⟨u', hu'⟩ := hv.ext
  refine ⟨⟨u ++ u', by rw [hu', hu]; simp⟩, hv.nd, fun x hx => ?_, fun x hx => ?_, fun z hz => ?_⟩
  · rcases hv.snd x hx with h1 | h1
    · exact h.snd x h1
    · exact .inr ((Pth.one he).trans h1)
  · rcases hv.cl x hx with h1 | h1
    · rcases h.cl x h1 with h2 | h2 | h2
      · exact .inl h2
      · exact .inr (.inl h2)
      · exact .inr (.inr fun y hy => hv.le (h2 y hy))
    · exact .inr (.inr h1)
  · rcases hz with hz | rfl
    · exact hv.le (h.don z hz)
    · exact hv.hit
theorem VisTo.skip {E : Nat → Nat → Prop} {n : Nat} {D D' : Nat → Prop} {s t : List Nat} (h : VisTo E n D s t) (hD : ∀ z, D' z → D z) : VisTo E n D' s t := ⟨h.ext, h.nd, h.snd, h.cl, fun z hz => h.don z (hD z hz)⟩
theorem VisTo.fin {E : Nat → Nat → Prop} {n : Nat} {D : Nat → Prop} {s t : List Nat} (h : VisTo E n D s t) (hD : ∀ y, E n y → D y) : Vis E n s t := by
  obtain ⟨u, hu⟩ := h.ext
  refine ⟨⟨n :: u, hu⟩, h.nd, by rw [hu]; simp, h.snd, fun x hx => ?_⟩
  rcases h.cl x hx with h1 | rfl | h1
  · exact .inl h1
  · exact .inr fun y hy => h.don y (hD y hy)
  · exact .inr h1
theorem VisTo.len {E : Nat → Nat → Prop} {n : Nat} {D : Nat → Prop} {s t : List Nat} (h : VisTo E n D s t) : s.length + 1 ≤ t.length := by
  obtain ⟨u, hu⟩ := h.ext
  rw [hu]; simp

/-- All that some lead to. -/
structure Clo (E : Nat → Nat → Prop) (R : Nat → Prop) (s : List Nat) : Prop where
  nd : s.Nodup
  has : ∀ x, R x → x ∈ s
  snd : ∀ x ∈ s, ∃ r, R r ∧ Pth E r x
  cl : ∀ x ∈ s, ∀ y, E x y → y ∈ s
theorem Clo.nil (E : Nat → Nat → Prop) : Clo E (fun _ => False) [] := ⟨List.nodup_nil, fun _ h => h.elim, fun _ h => absurd h List.not_mem_nil, fun _ h => absurd h List.not_mem_nil⟩
theorem Clo.add {E : Nat → Nat → Prop} {R : Nat → Prop} {n : Nat} {s t : List Nat} (h : Clo E R s) (hv : Vis E n s t) : Clo E (fun z => R z ∨ z = n) t := by
  refine ⟨hv.nd, fun x hx => ?_, fun x hx => ?_, fun x hx y hy => ?_⟩
  · rcases hx with hx | rfl
    · exact hv.le (h.has x hx)
    · exact hv.hit
  · rcases hv.snd x hx with h1 | h1
    · obtain ⟨r, hr, hp⟩ := h.snd x h1
      exact ⟨r, .inl hr, hp⟩
    · exact ⟨n, .inr rfl, h1⟩
  · rcases hv.cl x hx with h1 | h1
    · exact hv.le (h.cl x h1 y hy)
    · exact h1 y hy
theorem Clo.iff {E : Nat → Nat → Prop} {R : Nat → Prop} {s : List Nat} (h : Clo E R s) {x : Nat} : x ∈ s ↔ ∃ r, R r ∧ Pth E r x :=
  ⟨h.snd x, fun ⟨r, hr, hp⟩ => hp.closed (P := fun x => x ∈ s) (fun x y hx e => h.cl x hx y e) (h.has r hr)⟩
theorem Clo.same {E : Nat → Nat → Prop} {R R' : Nat → Prop} {s : List Nat} (h : Clo E R s) (hR : ∀ x, R x ↔ R' x) : Clo E R' s := by
  have : R = R' := funext fun x => propext (hR x)
  rw [← this]; exact h
theorem nodup_lt {s : List Nat} {N : Nat} (hn : s.Nodup) (hl : ∀ x ∈ s, x < N) : s.length ≤ N := by
  have key : ∀ (N : Nat) (s : List Nat), s.Nodup → (∀ x ∈ s, x < N) → s.length ≤ N := by
    intro N
    induction N with
    | zero =>
      intro s _ h
      cases s with
      | nil => simp
      | cons a _ => exact absurd (h a (List.mem_cons_self ..)) (Nat.not_lt_zero _)
    | succ N ih =>
      intro s hn h
      by_cases hN : N ∈ s
      · have h1 := ih (s.erase N) (hn.erase N) fun x hx => by
          have h2 := h x (List.mem_of_mem_erase hx)
          have h3 : x ≠ N := fun e => by subst e; exact (List.Nodup.not_mem_erase hn) hx
          omega
        rw [List.length_erase_of_mem hN] at h1
        omega
      · have h1 := ih s hn fun x hx => by
          have h2 := h x hx
          have h3 : x ≠ N := fun e => by subst e; exact hN hx
          omega
        omega
  exact key N s hn hl
end
end Go.Proofs.YtckkjjiaecnciaaGreat
