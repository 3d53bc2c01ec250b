/-
  Layer 16 in plain Lean: orders, rows that rise, sets; compacting in place.
-/
import Derived.Test.YtckkjjiaecnciaaGreatTmD
import Derived.Test.YtckkjjiaecnciaaGreatTmE
namespace Go.Proofs.YtckkjjiaecnciaaGreat
open Go

/-- An order by a comparison. -/
structure Cmp {α : Type} (c : α → α → Int) : Prop where
  zero : ∀ {a b}, c a b = 0 ↔ a = b
  neg : ∀ a b, c b a = - c a b
  trans : ∀ {a b d}, c a b < 0 → c b d < 0 → c a d < 0
section
variable {α : Type} {c : α → α → Int}
theorem Cmp.irr (hc : Cmp c) (a : α) : c a a = 0 := hc.zero.2 rfl
theorem Cmp.total (hc : Cmp c) (a b : α) : c a b < 0 ∨ a = b ∨ c b a < 0 := by
  by_cases h : c a b = 0
  · exact .inr (.inl (hc.zero.1 h))
  · have := hc.neg a b; omega
theorem Cmp.le_trans (hc : Cmp c) {a b d : α} (h1 : c a b ≤ 0) (h2 : c b d ≤ 0) : c a d ≤ 0 := by
  by_cases e1 : c a b = 0
  · rw [hc.zero.1 e1]; exact h2
  · by_cases e2 : c b d = 0
    · rw [← hc.zero.1 e2]; exact h1
    · have := hc.trans (a := a) (b := b) (d := d) (by omega) (by omega); omega
/-- Rising, none twice. -/
def Srt (c : α → α → Int) (l : List α) : Prop := l.Pairwise fun a b => c a b < 0
theorem Srt.nodup (hc : Cmp c) {l : List α} (h : Srt c l) : l.Nodup := h.imp fun {a b} h e => by subst e; rw [hc.irr] at h; omega
theorem srt_ext (hc : Cmp c) : ∀ {l m : List α}, Srt c l → Srt c m → (∀ x, x ∈ l ↔ x ∈ m) → l = m
  | [], [], _, _, _ => rfl
  | [], b :: m, _, _, h => by have := (h b).2 List.mem_cons_self; simp at this
  | a :: l, [], _, _, h => by have := (h a).1 List.mem_cons_self; simp at this
  | a :: l, b :: m, hl, hm, h => by
    obtain ⟨h1, h2⟩ := List.pairwise_cons.1 hl
    obtain ⟨h3, h4⟩ := List.pairwise_cons.1 hm
    have hab : a = b := by
      rcases List.mem_cons.1 ((h a).1 List.mem_cons_self) with e | e
      · exact e
      · rcases List.mem_cons.1 ((h b).2 List.mem_cons_self) with e' | e'
        · exact e'.symm
        · have := h1 _ e'; have := h3 _ e; have := hc.neg a b; omega
    subst hab
    congr 1
    refine srt_ext hc h2 h4 fun x => ?_
    constructor
    · intro hx
      rcases List.mem_cons.1 ((h x).1 (List.mem_cons_of_mem _ hx)) with rfl | e
      · have := h1 _ hx; rw [hc.irr] at this; omega
      · exact e
    · intro hx
      rcases List.mem_cons.1 ((h x).2 (List.mem_cons_of_mem _ hx)) with rfl | e
      · have := h3 _ hx; rw [hc.irr] at this; omega
      · exact e

/-- One more, in its place, once. -/
def insC (c : α → α → Int) (x : α) : List α → List α
  | [] => [x]
  | y :: l => if c y x < 0 then y :: insC c x l else if c y x = 0 then y :: l else x :: y :: l
theorem mem_insC (hc : Cmp c) {x y : α} : ∀ {l : List α}, y ∈ insC c x l ↔ y = x ∨ y ∈ l
  | [] => by simp [insC]
  | z :: l => by
    unfold insC
    split
    · rw [List.mem_cons, mem_insC hc, List.mem_cons]
      constructor <;> (intro h; rcases h with h | h | h <;> simp [h])
    · split
      · rename_i h; rw [hc.zero.1 h]; simp
      · simp
theorem srt_insC (hc : Cmp c) {x : α} : ∀ {l : List α}, Srt c l → Srt c (insC c x l)
  | [], _ => List.pairwise_singleton _ _
  | z :: l, h => by
    obtain ⟨h1, h2⟩ := List.pairwise_cons.1 h
    unfold insC
    split
    · rename_i hz
      refine List.pairwise_cons.2 ⟨fun y hy => ?_, srt_insC hc h2⟩
      rcases (mem_insC hc).1 hy with rfl | hy
      · exact hz
      · exact h1 y hy
    · split
      · exact h
      · rename_i hz hz0
        have hxz : c x z < 0 := by have := hc.neg z x; omega
        refine List.pairwise_cons.2 ⟨fun y hy => ?_, h⟩
        rcases List.mem_cons.1 hy with rfl | hy
        · exact hxz
        · exact hc.trans hxz (h1 y hy)
/-- All things of a row, rising, each once. -/
def setL (c : α → α → Int) (l : List α) : List α := l.foldl (fun s x => insC c x s) []
theorem setL_snoc (l : List α) (x : α) : setL c (l ++ [x]) = insC c x (setL c l) := by unfold setL; rw [List.foldl_append]; rfl
theorem foldl_ins (hc : Cmp c) : ∀ (l s : List α), Srt c s → Srt c (l.foldl (fun s x => insC c x s) s) ∧ ∀ y, y ∈ l.foldl (fun s x => insC c x s) s ↔ y ∈ s ∨ y ∈ l
  | [], s, h => ⟨h, fun y => by simp⟩
  | x :: l, s, h => by
    obtain ⟨h1, h2⟩ := foldl_ins hc l (insC c x s) (srt_insC hc h)
    refine ⟨h1, fun y => ?_⟩
    rw [List.foldl_cons, h2, mem_insC hc, List.mem_cons]
    constructor
    · rintro ((h | h) | h) <;> simp [h]
    · rintro (h | h | h) <;> simp [h]
theorem setL_srt (hc : Cmp c) (l : List α) : Srt c (setL c l) := (foldl_ins hc l [] List.Pairwise.nil).1
theorem mem_setL (hc : Cmp c) {l : List α} {x : α} : x ∈ setL c l ↔ x ∈ l := by
  unfold setL; rw [(foldl_ins hc l [] List.Pairwise.nil).2]; simp
theorem setL_of_srt (hc : Cmp c) {l : List α} (h : Srt c l) : setL c l = l := srt_ext hc (setL_srt hc l) h fun _ => mem_setL hc
theorem setL_ext (hc : Cmp c) {l m : List α} (h : ∀ x, x ∈ l ↔ x ∈ m) : setL c l = setL c m := srt_ext hc (setL_srt hc l) (setL_srt hc m) fun x => by rw [mem_setL hc, mem_setL hc, h]
theorem insC_len (x : α) : ∀ l : List α, (insC c x l).length ≤ l.length + 1
  | [] => Nat.le_refl _
  | y :: l => by
    unfold insC
    split
    · have := insC_len x l; simp; omega
    · split <;> simp
theorem setL_len : ∀ (l s : List α), (l.foldl (fun s x => insC c x s) s).length ≤ l.length + s.length
  | [], s => by simp
  | x :: l, s => by
    have h1 := setL_len l (insC c x s)
    have h2 := insC_len (c := c) x s
    rw [List.foldl_cons, List.length_cons]; omega
theorem setL_le (l : List α) : (setL c l).length ≤ l.length := by have := setL_len (c := c) l []; simpa [setL] using this

/-- What compacting leaves: of like ones side by side one. -/
def cptL [DecidableEq α] : List α → List α
  | [] => []
  | [a] => [a]
  | a :: b :: l => if a = b then cptL (b :: l) else a :: cptL (b :: l)
theorem mem_cptL [DecidableEq α] {x : α} : ∀ {l : List α}, x ∈ cptL l ↔ x ∈ l
  | [] => by simp [cptL]
  | [a] => by simp [cptL]
  | a :: b :: l => by
    unfold cptL
    split
    · rename_i e; subst e; rw [mem_cptL]; simp
    · rw [List.mem_cons, mem_cptL, List.mem_cons (a := x) (b := a)]
theorem cptL_srt [DecidableEq α] (hc : Cmp c) : ∀ {l : List α}, l.Pairwise (fun a b => c a b ≤ 0) → Srt c (cptL l)
  | [], _ => List.Pairwise.nil
  | [a], _ => List.pairwise_singleton _ _
  | a :: b :: l, h => by
    obtain ⟨h1, h2⟩ := List.pairwise_cons.1 h
    unfold cptL
    split
    · exact cptL_srt hc h2
    · rename_i hne
      refine List.pairwise_cons.2 ⟨fun y hy => ?_, cptL_srt hc h2⟩
      have hab : c a b < 0 := by
        have := h1 b List.mem_cons_self
        have : c a b ≠ 0 := fun e => hne (hc.zero.1 e)
        omega
      have hy' := mem_cptL.1 hy
      rcases List.mem_cons.1 hy' with rfl | hy'
      · exact hab
      · have := (List.pairwise_cons.1 h2).1 y hy'
        by_cases e : c b y = 0
        · rw [← hc.zero.1 e]; exact hab
        · exact hc.trans hab (by omega)
/-- Sorted and compacted. -/
theorem cpt_set [DecidableEq α] (hc : Cmp c) {l l' : List α} (hp : l'.Perm l) (hs : l'.Pairwise (fun a b => c a b ≤ 0)) : cptL l' = setL c l :=
  srt_ext hc (cptL_srt hc hs) (setL_srt hc l) fun x => by rw [mem_cptL, mem_setL hc, hp.mem_iff]

/-- Where one stands in a rising row, or would. -/
def lowC (c : α → α → Int) (x : α) (l : List α) : Nat := (l.takeWhile fun y => decide (c y x < 0)).length
theorem lowC_le (x : α) (l : List α) : lowC c x l ≤ l.length := (List.takeWhile_sublist _).length_le
theorem lowC_lt (hc : Cmp c) {x : α} : ∀ {l : List α}, Srt c l → ∀ (k : Nat) (hk : k < l.length), k < lowC c x l ↔ c l[k] x < 0
  | [], _, k, hk => by simp at hk
  | y :: l, h, k, hk => by
    obtain ⟨h1, h2⟩ := List.pairwise_cons.1 h
    unfold lowC
    rw [List.takeWhile_cons]
    by_cases hy : c y x < 0
    · rw [if_pos (by simpa using hy), List.length_cons]
      cases k with
      | zero => simp [hy]
      | succ k =>
        have := lowC_lt hc (x := x) h2 k (by simpa using hk)
        unfold lowC at this
        simp only [List.getElem_cons_succ]
        rw [← this]; omega
    · rw [if_neg (by simpa using hy)]
      simp only [List.length_nil, Nat.not_lt_zero, false_iff]
      cases k with
      | zero => exact hy
      | succ k =>
        intro h3
        have h4 : c y (l[k]'(by simpa using hk)) < 0 := h1 _ (List.getElem_mem _)
        exact hy (hc.trans h4 h3)
theorem lowC_at (hc : Cmp c) {l : List α} (h : Srt c l) {k : Nat} (hk : k < l.length) : lowC c l[k] l = k := by
  have h1 := lowC_lt hc (x := l[k]) h
  have h2 : ¬ k < lowC c l[k] l := fun h3 => by have := (h1 k hk).1 h3; rw [hc.irr] at this; omega
  by_cases h3 : lowC c l[k] l < k
  · have h4 : ¬ c l[lowC c l[k] l] l[k] < 0 := fun e => by
      have := (h1 (lowC c l[k] l) (by omega)).2 e
      omega
    exact absurd (List.pairwise_iff_getElem.1 h _ _ _ hk h3) h4
  · omega
theorem lowC_mem (hc : Cmp c) {l : List α} (h : Srt c l) {x : α} (hx : x ∈ l) : ∃ hk : lowC c x l < l.length, l[lowC c x l] = x := by
  obtain ⟨k, hk, rfl⟩ := List.mem_iff_getElem.1 hx
  have := lowC_at hc h hk
  exact ⟨by omega, by congr 1⟩
theorem lowC_uniq (hc : Cmp c) {l : List α} (h : Srt c l) {x : α} {k : Nat} (hk : k ≤ l.length) (h1 : ∀ i (hi : i < l.length), i < k → c l[i] x < 0) (h2 : ∀ i (hi : i < l.length), k ≤ i → ¬ c l[i] x < 0) : k = lowC c x l := by
  have h3 := lowC_lt hc (x := x) h
  have h4 := lowC_le (c := c) x l
  rcases Nat.lt_trichotomy k (lowC c x l) with h5 | h5 | h5
  · exact absurd ((h3 k (by omega)).1 h5) (h2 k (by omega) (Nat.le_refl _))
  · exact h5
  · have := (h3 (lowC c x l) (by omega)).2 (h1 _ (by omega) h5); omega
end
theorem cmpZ_cmp : Cmp cmpZ := ⟨cmpZ_zero, cmpZ_neg, fun {a b d} h1 h2 => by rw [cmpZ_lt] at *; omega⟩
/-- One order ahead of another one. -/
theorem cmp_then {α β γ : Type} {c : β → β → Int} {d : γ → γ → Int} (hc : Cmp c) (hd : Cmp d) (f : α → β) (g : α → γ) (hfg : ∀ {a b : α}, f a = f b → g a = g b → a = b) :
    Cmp fun a b : α => if c (f a) (f b) ≠ 0 then c (f a) (f b) else d (g a) (g b) := by
  refine ⟨fun {a b} => ?_, fun a b => ?_, fun {a b e} h1 h2 => ?_⟩
  · constructor
    · intro h
      by_cases e : c (f a) (f b) = 0
      · rw [if_neg (by simp [e])] at h
        exact hfg (hc.zero.1 e) (hd.zero.1 h)
      · rw [if_pos e] at h; exact absurd h e
    · rintro rfl
      rw [if_neg (by simp [hc.irr])]; exact hd.irr _
  · have h1 := hc.neg (f a) (f b)
    have h2 := hd.neg (g a) (g b)
    by_cases e : c (f a) (f b) = 0
    · have e' : c (f b) (f a) = 0 := by omega
      rw [if_neg (by simp [e']), if_neg (by simp [e])]; exact h2
    · rw [if_pos (by omega), if_pos e]; exact h1
  · by_cases e1 : c (f a) (f b) = 0
    · rw [if_neg (by simp [e1])] at h1
      have f1 := hc.zero.1 e1
      simp only [f1] at h1 ⊢
      by_cases e2 : c (f b) (f e) = 0
      · rw [if_neg (by simp [e2])] at h2 ⊢
        exact hd.trans h1 h2
      · rw [if_pos e2] at h2 ⊢; exact h2
    · rw [if_pos e1] at h1
      by_cases e2 : c (f b) (f e) = 0
      · rw [← hc.zero.1 e2, if_pos e1]; exact h1
      · rw [if_pos e2] at h2
        have := hc.trans h1 h2
        rw [if_pos (by omega)]; exact this
theorem cmpS_cmp : Cmp cmpS := ⟨cmpS_zero, cmpS_neg, fun {a b d} h1 h2 => by rw [cmpS_lt] at *; exact bytes_trans h1 h2⟩
/-! ### Compacting -/
section
variable {α : Type} [DecidableEq α]
theorem cptL_cons {x y : α} {l : List α} : cptL (x :: y :: l) = if x = y then cptL (y :: l) else x :: cptL (y :: l) := rfl
theorem cptL_snoc2 (a b : α) : ∀ m : List α, cptL (m ++ [a, b]) = if a = b then cptL (m ++ [a]) else cptL (m ++ [a]) ++ [b]
  | [] => by
    show cptL [a, b] = _
    rw [cptL_cons]
    split
    · rename_i h; subst h; rfl
    · rfl
  | [x] => by
    show cptL (x :: a :: [b]) = if a = b then cptL (x :: a :: []) else cptL (x :: a :: []) ++ [b]
    by_cases h1 : x = a
    · subst h1
      rw [cptL_cons, if_pos rfl, cptL_cons, cptL_cons, if_pos rfl]
      by_cases h2 : x = b
      · subst h2; rw [if_pos rfl, if_pos rfl]
      · rw [if_neg h2, if_neg h2]; rfl
    · rw [cptL_cons, if_neg h1, cptL_cons, cptL_cons, if_neg h1]
      by_cases h2 : a = b
      · subst h2; rw [if_pos rfl, if_pos rfl]
      · rw [if_neg h2, if_neg h2]; rfl
  | x :: y :: m => by
    have h := cptL_snoc2 a b (y :: m)
    rw [List.cons_append, List.cons_append] at h
    show cptL (x :: y :: (m ++ [a, b])) = if a = b then cptL (x :: y :: (m ++ [a])) else cptL (x :: y :: (m ++ [a])) ++ [b]
    rw [cptL_cons, cptL_cons, h]
    by_cases h1 : x = y
    · rw [if_pos h1, if_pos h1]
    · rw [if_neg h1, if_neg h1]
      by_cases h2 : a = b
      · rw [if_pos h2, if_pos h2]
      · rw [if_neg h2, if_neg h2]; rfl
omit [DecidableEq α] in
theorem take_two {l : List α} {k : Nat} (hk : k + 1 < l.length) : l.take (k + 2) = l.take k ++ [l[k], l[k + 1]] := by
  rw [List.take_succ_eq_append_getElem hk, List.take_succ_eq_append_getElem (show k < l.length by omega), List.append_assoc]; rfl
theorem cptL_take {l : List α} {k : Nat} (hk : k + 1 < l.length) : cptL (l.take (k + 2)) = if l[k] = l[k + 1] then cptL (l.take (k + 1)) else cptL (l.take (k + 1)) ++ [l[k + 1]] := by
  rw [take_two hk, cptL_snoc2, ← List.take_succ_eq_append_getElem (show k < l.length by omega)]
theorem cptL_len : ∀ l : List α, (cptL l).length ≤ l.length
  | [] => Nat.le_refl _
  | [a] => Nat.le_refl _
  | a :: b :: l => by
    have h := cptL_len (b :: l)
    rw [cptL_cons]
    split
    · rw [List.length_cons]; omega
    · rw [List.length_cons]
      show _ ≤ (b :: l).length + 1
      omega
/-- The row when k have been read. -/
def cpC (l : List α) (k : Nat) : List α := cptL (l.take k) ++ l.drop (cptL (l.take k)).length
/-- How many are written. -/
def cpN (l : List α) (k : Nat) : Nat := (cptL (l.take k)).length
theorem cpN_le (l : List α) (k : Nat) : cpN l k ≤ k ∧ cpN l k ≤ l.length := by
  have h := cptL_len (l.take k)
  rw [List.length_take] at h
  unfold cpN
  omega
theorem cpC_len (l : List α) (k : Nat) : (cpC l k).length = l.length := by
  have h := (cpN_le l k).2
  unfold cpN at h
  unfold cpC
  rw [List.length_append, List.length_drop]; omega
theorem cpC_get {l : List α} {k j : Nat} (hj : j < l.length) (hN : cpN l k ≤ j) : (cpC l k)[j]'(by rw [cpC_len]; exact hj) = l[j] := by
  unfold cpC
  unfold cpN at hN
  rw [List.getElem_append_right hN, List.getElem_drop]
  congr 1; omega
theorem cpC_low {l : List α} {k : Nat} (h : cptL (l.take k) = l.take k) : cpC l k = l := by
  unfold cpC
  rw [h]
  by_cases hk : k ≤ l.length
  · rw [List.length_take, Nat.min_eq_left hk, List.take_append_drop]
  · rw [List.take_of_length_le (by omega)]; simp
theorem cpN_low {l : List α} {k : Nat} (h : cptL (l.take k) = l.take k) (hk : k ≤ l.length) : cpN l k = k := by
  unfold cpN; rw [h, List.length_take]; omega
theorem cp_same {l : List α} {k : Nat} (hk : k + 1 < l.length) (h : l[k] = l[k + 1]) : cpC l (k + 2) = cpC l (k + 1) ∧ cpN l (k + 2) = cpN l (k + 1) := by
  unfold cpC cpN
  rw [cptL_take hk, if_pos h]
  exact ⟨rfl, rfl⟩
theorem cp_new {l : List α} {k : Nat} (hk : k + 1 < l.length) (h : l[k] ≠ l[k + 1]) : cpC l (k + 2) = (cpC l (k + 1)).set (cpN l (k + 1)) l[k + 1] ∧ cpN l (k + 2) = cpN l (k + 1) + 1 := by
  have hN := (cpN_le l (k + 1)).1
  unfold cpC
  unfold cpN at *
  rw [cptL_take hk, if_neg h, List.length_append, List.length_singleton]
  refine ⟨?_, rfl⟩
  rw [List.set_append_right _ _ (Nat.le_refl _), Nat.sub_self, List.append_assoc]
  congr 1
  rw [List.drop_eq_getElem_cons (show (cptL (l.take (k + 1))).length < l.length by omega), List.set_cons_zero]
  rfl
theorem cp_end (l : List α) : (cpC l l.length).take (cpN l l.length) = cptL l := by
  unfold cpC cpN
  rw [List.take_of_length_le (Nat.le_refl _), List.take_left]
theorem cp_one {l : List α} (h : l.length < 2) : cptL l = l := by
  match l, h with
  | [], _ => rfl
  | [a], _ => rfl
theorem cp_next {l : List α} {k : Nat} (hk : k + 1 < l.length) (h : cptL (l.take (k + 1)) = l.take (k + 1)) (hne : l[k] ≠ l[k + 1]) : cptL (l.take (k + 2)) = l.take (k + 2) := by
  rw [cptL_take hk, if_neg hne, h, ← List.take_succ_eq_append_getElem hk]
end
end Go.Proofs.YtckkjjiaecnciaaGreat
