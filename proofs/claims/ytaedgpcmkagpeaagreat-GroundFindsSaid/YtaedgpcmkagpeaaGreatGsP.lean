/-
  Layer 16 in plain Lean: the program of instances is right, however they are told; a right program is that of its rules' instances.
-/
import Derived.Test.YtaedgpcmkagpeaaGreatGsB
namespace Go.Proofs.YtaedgpcmkagpeaaGreat
open Go

/-! ### The program of instances -/
theorem mem_allT {l : List Ins} {t : List Cell} : t ∈ allT l ↔ ∃ i ∈ l, t ∈ termsI i := List.mem_flatMap
theorem mem_fromA {l : List Ins} {t : List Cell} : t ∈ (fromT l).atoms ↔ ∃ i ∈ l, t ∈ termsI i := by
  show t ∈ setL cmpT (allT l) ↔ _
  rw [mem_setL cmpT_ok, mem_allT]
theorem mem_fromR {l : List Ins} {r : Rule} : r ∈ (fromT l).rules ↔ ∃ i ∈ l, ruleT (fromT l).atoms i = r := by
  show r ∈ setL cmpU _ ↔ _
  rw [mem_setL cmpU_ok, List.mem_map]
  rfl
theorem mem_places {A l : List (List Cell)} {x : Int} : x ∈ placesT A l ↔ ∃ t ∈ l, posT A t = x := by
  unfold placesT
  rw [mem_setL cmpZ_cmp, List.mem_map]
theorem posT_in {A : List (List Cell)} {t : List Cell} (h : t ∈ A) : 0 ≤ posT A t ∧ posT A t < A.length := by
  obtain ⟨h1, h2⟩ := posT_yes h; omega
theorem terms_head (i : Ins) : i.head ∈ termsI i := by simp [termsI]
theorem terms_pos {i : Ins} {t : List Cell} (h : t ∈ i.pos) : t ∈ termsI i := by simp [termsI, h]
theorem terms_neg {i : Ins} {t : List Cell} (h : t ∈ i.neg) : t ∈ termsI i := by simp [termsI, h]
theorem places_ok {A l : List (List Cell)} (h : ∀ t ∈ l, t ∈ A) : (∀ x ∈ placesT A l, 0 ≤ x ∧ x < A.length) ∧ Srt cmpZ (placesT A l) :=
  ⟨fun x hx => by obtain ⟨t, ht, rfl⟩ := mem_places.1 hx; exact posT_in (h t ht), setL_srt cmpZ_cmp _⟩
theorem right_from {l : List Ins} (h : ∀ i ∈ l, ∀ t ∈ termsI i, atomG t = true) : RightG (fromT l) := by
  refine ⟨fun t ht => ?_, setL_srt cmpT_ok _, fun r hr => ?_, fun r hr => ?_, fun r hr => ?_, setL_srt cmpU_ok _⟩
  · obtain ⟨i, hi, hit⟩ := mem_fromA.1 ht; exact h i hi t hit
  · obtain ⟨i, hi, rfl⟩ := mem_fromR.1 hr
    exact posT_in (mem_fromA.2 ⟨i, hi, terms_head i⟩)
  · obtain ⟨i, hi, rfl⟩ := mem_fromR.1 hr
    exact places_ok fun t ht => mem_fromA.2 ⟨i, hi, terms_pos ht⟩
  · obtain ⟨i, hi, rfl⟩ := mem_fromR.1 hr
    exact places_ok fun t ht => mem_fromA.2 ⟨i, hi, terms_neg ht⟩
theorem from_len (l : List Ins) : (fromT l).rules.length ≤ l.length := by
  have := setL_le (c := cmpU) (l.map (ruleT (setL cmpT (allT l))))
  rw [List.length_map] at this; exact this
/-- The same but for the order and number of literals. -/
def Like (i j : Ins) : Prop := i.head = j.head ∧ (∀ t, t ∈ i.pos ↔ t ∈ j.pos) ∧ ∀ t, t ∈ i.neg ↔ t ∈ j.neg
theorem places_ext {A l m : List (List Cell)} (h : ∀ t, t ∈ l ↔ t ∈ m) : placesT A l = placesT A m := by
  refine srt_ext cmpZ_cmp (setL_srt cmpZ_cmp _) (setL_srt cmpZ_cmp _) fun x => ?_
  show x ∈ placesT A l ↔ x ∈ placesT A m
  rw [mem_places, mem_places]
  constructor <;> (rintro ⟨t, ht, e⟩; exact ⟨t, by first | exact (h t).1 ht | exact (h t).2 ht, e⟩)
theorem Like.rule {A : List (List Cell)} {i j : Ins} (h : Like i j) : ruleT A i = ruleT A j := by
  unfold ruleT; rw [h.1, places_ext h.2.1, places_ext h.2.2]
theorem Like.terms {i j : Ins} (h : Like i j) {t : List Cell} : t ∈ termsI i ↔ t ∈ termsI j := by
  unfold termsI; rw [List.mem_cons, List.mem_cons, List.mem_append, List.mem_append, h.1, h.2.1, h.2.2]
theorem Like.symm {i j : Ins} (h : Like i j) : Like j i := ⟨h.1.symm, fun t => (h.2.1 t).symm, fun t => (h.2.2 t).symm⟩
theorem from_ext {l m : List Ins} (h1 : ∀ i ∈ l, ∃ j ∈ m, Like i j) (h2 : ∀ j ∈ m, ∃ i ∈ l, Like j i) : fromT l = fromT m := by
  have hA : setL cmpT (allT l) = setL cmpT (allT m) := setL_ext cmpT_ok fun t => by
    rw [mem_allT, mem_allT]
    constructor
    · rintro ⟨i, hi, ht⟩
      obtain ⟨j, hj, hl⟩ := h1 i hi
      exact ⟨j, hj, hl.terms.1 ht⟩
    · rintro ⟨j, hj, ht⟩
      obtain ⟨i, hi, hl⟩ := h2 j hj
      exact ⟨i, hi, hl.terms.1 ht⟩
  unfold fromT
  rw [hA]
  congr 1
  refine setL_ext cmpU_ok fun r => ?_
  rw [List.mem_map, List.mem_map]
  constructor
  · rintro ⟨i, hi, rfl⟩
    obtain ⟨j, hj, hl⟩ := h1 i hi
    exact ⟨j, hj, hl.rule.symm⟩
  · rintro ⟨j, hj, rfl⟩
    obtain ⟨i, hi, hl⟩ := h2 j hj
    exact ⟨i, hi, hl.rule.symm⟩

/-! ### A right program is that of its rules -/
theorem pos_atoms {A : List (List Cell)} (hA : Srt cmpT A) {l : List Int} (h : ∀ x ∈ l, 0 ≤ x ∧ x < A.length) (hs : Srt cmpZ l) : placesT A (l.map fun k => A[k.toNat]?.getD []) = l := by
  unfold placesT
  rw [List.map_map]
  have : l.map (posT A ∘ fun k => A[k.toNat]?.getD []) = l := by
    conv => rhs; rw [← List.map_id l]
    refine List.map_congr_left fun x hx => ?_
    obtain ⟨h1, h2⟩ := h x hx
    have hk : x.toNat < A.length := by omega
    simp only [Function.comp_apply, List.getElem?_eq_getElem hk, Option.getD_some, id]
    rw [posT_at hA hk]; omega
  rw [this, setL_of_srt cmpZ_cmp hs]
theorem rule_inst {g : Prog} (h : RightG g) {r : Rule} (hr : r ∈ g.rules) : ruleT g.atoms (instG g r) = r := by
  unfold ruleT instG
  obtain ⟨h1, h2⟩ := h.head r hr
  have hk : r.head.toNat < g.atoms.length := by omega
  simp only [List.getElem?_eq_getElem hk, Option.getD_some]
  rw [pos_atoms h.srt (h.pos r hr).1 (h.pos r hr).2, pos_atoms h.srt (h.neg r hr).1 (h.neg r hr).2, posT_at h.srt hk]
  cases r; simp at h1 h2 ⊢; omega
def Uses (r : Rule) (k : Nat) : Prop := r.head = (k : Int) ∨ (k : Int) ∈ r.pos ∨ (k : Int) ∈ r.neg
theorem mem_inst {g : Prog} (h : RightG g) {r : Rule} (hr : r ∈ g.rules) {t : List Cell} : t ∈ termsI (instG g r) ↔ ∃ k, ∃ hk : k < g.atoms.length, Uses r k ∧ g.atoms[k] = t := by
  have key : ∀ l : List Int, (∀ x ∈ l, 0 ≤ x ∧ x < g.atoms.length) → (t ∈ l.map (fun k => g.atoms[k.toNat]?.getD []) ↔ ∃ k, ∃ hk : k < g.atoms.length, (k : Int) ∈ l ∧ g.atoms[k] = t) := by
    intro l hl
    rw [List.mem_map]
    constructor
    · rintro ⟨x, hx, e⟩
      obtain ⟨h1, h2⟩ := hl x hx
      have hk : x.toNat < g.atoms.length := by omega
      rw [List.getElem?_eq_getElem hk, Option.getD_some] at e
      exact ⟨x.toNat, hk, by rw [Int.toNat_of_nonneg h1]; exact hx, e⟩
    · rintro ⟨k, hk, hx, e⟩
      exact ⟨k, hx, by simp [List.getElem?_eq_getElem hk, e]⟩
  unfold termsI instG Uses
  rw [List.mem_cons, List.mem_append, key _ (h.pos r hr).1, key _ (h.neg r hr).1]
  obtain ⟨h1, h2⟩ := h.head r hr
  have hk : r.head.toNat < g.atoms.length := by omega
  rw [List.getElem?_eq_getElem hk, Option.getD_some]
  constructor
  · rintro (e | ⟨k, hk, e1, e2⟩ | ⟨k, hk, e1, e2⟩)
    · exact ⟨_, hk, .inl (by omega), e.symm⟩
    · exact ⟨k, hk, .inr (.inl e1), e2⟩
    · exact ⟨k, hk, .inr (.inr e1), e2⟩
  · rintro ⟨k, hk', e | e | e, e2⟩
    · left; rw [← e2]; congr 1; omega
    · exact .inr (.inl ⟨k, hk', e, e2⟩)
    · exact .inr (.inr ⟨k, hk', e, e2⟩)
theorem from_back {g : Prog} (h : RightG g) (hu : ∀ k, k < g.atoms.length → ∃ r ∈ g.rules, Uses r k) : fromT (g.rules.map (instG g)) = g := by
  have hA : setL cmpT (allT (g.rules.map (instG g))) = g.atoms := by
    rw [← setL_of_srt cmpT_ok h.srt]
    refine setL_ext cmpT_ok fun t => ?_
    rw [mem_allT]
    constructor
    · rintro ⟨i, hi, ht⟩
      obtain ⟨r, hr, rfl⟩ := List.mem_map.1 hi
      obtain ⟨k, hk, -, e⟩ := (mem_inst h hr).1 ht
      rw [← e]
      exact List.getElem_mem hk
    · intro ht
      obtain ⟨k, hk, rfl⟩ := List.mem_iff_getElem.1 ht
      obtain ⟨r, hr, hrk⟩ := hu k hk
      exact ⟨_, List.mem_map.2 ⟨r, hr, rfl⟩, (mem_inst h hr).2 ⟨k, hk, hrk, rfl⟩⟩
  unfold fromT
  rw [hA, List.map_map]
  have : g.rules.map (ruleT g.atoms ∘ instG g) = g.rules := by
    conv => rhs; rw [← List.map_id g.rules]
    exact List.map_congr_left fun r hr => rule_inst h hr
  rw [this, setL_of_srt cmpU_ok h.rsrt]

/-! ### The instances of the rules; more instances -/
theorem getA {A : List (List Cell)} {k : Nat} (hk : k < A.length) : A[k]?.getD [] = A[k] := by rw [List.getElem?_eq_getElem hk]; rfl
theorem places_inst {A : List (List Cell)} (hA : Srt cmpT A) {l : List (List Cell)} (h : ∀ t ∈ l, t ∈ A) : (placesT A l).map (fun k => A[k.toNat]?.getD []) = setL cmpT l := by
  obtain ⟨h1, h2⟩ := places_ok h
  refine srt_ext cmpT_ok ?_ (setL_srt cmpT_ok _) fun t => ?_
  · unfold Srt
    rw [List.pairwise_map]
    refine List.Pairwise.imp_of_mem (fun {a b} ha hb hab => ?_) h2
    obtain ⟨p1, p2⟩ := h1 a ha
    obtain ⟨p3, p4⟩ := h1 b hb
    have hab := cmpZ_lt.1 hab
    rw [getA (by omega : a.toNat < A.length), getA (by omega : b.toNat < A.length)]
    exact List.pairwise_iff_getElem.1 hA _ _ _ _ (by omega)
  · rw [mem_setL cmpT_ok, List.mem_map]
    constructor
    · rintro ⟨x, hx, e⟩
      obtain ⟨u, hu, rfl⟩ := mem_places.1 hx
      obtain ⟨hk, e2⟩ := posT_get (posT_in (h u hu)).1
      rw [getA hk, e2] at e
      rw [← e]; exact hu
    · intro ht
      obtain ⟨hk, e2⟩ := posT_get (posT_in (h t ht)).1
      exact ⟨_, mem_places.2 ⟨t, ht, rfl⟩, by rw [getA hk, e2]⟩
theorem inst_rule {A : List (List Cell)} {R : List Rule} (hA : Srt cmpT A) {i : Ins} (h : ∀ t ∈ termsI i, t ∈ A) : instG ⟨A, R⟩ (ruleT A i) = ⟨i.head, setL cmpT i.pos, setL cmpT i.neg⟩ := by
  unfold instG ruleT
  simp only
  rw [places_inst hA fun t ht => h t (terms_pos ht), places_inst hA fun t ht => h t (terms_neg ht)]
  obtain ⟨hk, e2⟩ := posT_get (posT_in (h _ (terms_head i))).1
  rw [getA hk, e2]
theorem from_inst {l : List Ins} {i : Ins} (hi : i ∈ l) : instG (fromT l) (ruleT (fromT l).atoms i) = ⟨i.head, setL cmpT i.pos, setL cmpT i.neg⟩ :=
  inst_rule (setL_srt cmpT_ok _) fun _ ht => mem_fromA.2 ⟨i, hi, ht⟩
theorem from_more {l m : List Ins} (h : ∀ i ∈ l, i ∈ m) :
    (∀ t ∈ (fromT l).atoms, t ∈ (fromT m).atoms) ∧ ∀ r ∈ (fromT l).rules, ∃ s ∈ (fromT m).rules, instG (fromT l) r = instG (fromT m) s := by
  refine ⟨fun t ht => ?_, fun r hr => ?_⟩
  · obtain ⟨i, hi, hit⟩ := mem_fromA.1 ht
    exact mem_fromA.2 ⟨i, h i hi, hit⟩
  · obtain ⟨i, hi, rfl⟩ := mem_fromR.1 hr
    exact ⟨_, mem_fromR.2 ⟨i, h i hi, rfl⟩, by rw [from_inst hi, from_inst (h i hi)]⟩

/-! ### Atoms found, their rules -/
theorem posT_nonneg {A : List (List Cell)} {t : List Cell} : 0 ≤ posT A t ↔ t ∈ A := by
  by_cases h : t ∈ A
  · have := (posT_yes h).1; simp only [h, iff_true]; omega
  · rw [posT_no h]; simp [h]
def sumOf (g : Prog) (k : Nat) : Nat := ((List.range k).map fun i : Nat => (ofR g (i : Int)).length).sum
theorem ofR_empty {g : Prog} {a : Int} (h : ∀ r ∈ g.rules, r.head ≠ a) : ofR g a = [] := by
  rw [List.eq_nil_iff_forall_not_mem]
  intro x hx
  obtain ⟨-, h1, h2⟩ := mem_ofR.1 hx
  exact h _ (List.getElem_mem h1) h2
theorem ofR_count (g : Prog) (a : Int) : (ofR g a).length = g.rules.countP fun r => decide (r.head = a) := by
  have key : ∀ (l : List Rule) (k : Nat), k ≤ l.length → (ofR ⟨[], l.take k⟩ a).length = (l.take k).countP fun r => decide (r.head = a) := by
    intro l k
    induction k with
    | zero => intro _; rfl
    | succ k ih =>
      intro hk
      rw [ofR_snoc l [] a k hk, List.length_append, ih (by omega), List.take_succ_eq_append_getElem hk, List.countP_append]
      congr 1
      by_cases h : l[k].head = a <;> simp [h]
  have := key g.rules g.rules.length (Nat.le_refl _)
  rw [List.take_length] at this
  rw [← this]; rfl
theorem sum_count (l : List Rule) : ∀ k : Nat, ((List.range k).map fun i : Nat => l.countP fun r => decide (r.head = (i : Int))).sum = l.countP fun r => decide (0 ≤ r.head ∧ r.head < (k : Int))
  | 0 => by
    simp only [List.range_zero, List.map_nil, List.sum_nil]
    symm
    rw [List.countP_eq_zero]
    intro r _; simp
  | k + 1 => by
    rw [List.range_succ, List.map_append, List.sum_append, sum_count l k]
    simp only [List.map_cons, List.map_nil, List.sum_cons, List.sum_nil, Nat.add_zero]
    induction l with
    | nil => rfl
    | cons r l ih =>
      simp only [List.countP_cons, decide_eq_true_eq]
      rw [← ih]
      split <;> split <;> split <;> omega
theorem sumOf_all {g : Prog} (h : ∀ r ∈ g.rules, 0 ≤ r.head ∧ r.head < g.atoms.length) : sumOf g g.atoms.length = g.rules.length := by
  unfold sumOf
  simp only [ofR_count]
  rw [sum_count, List.countP_eq_length]
  intro r hr
  simpa using h r hr
theorem sumOf_succ (g : Prog) (k : Nat) : sumOf g (k + 1) = sumOf g k + (ofR g (k : Int)).length := by
  unfold sumOf
  rw [List.range_succ, List.map_append, List.sum_append]; simp
end Go.Proofs.YtaedgpcmkagpeaaGreat
