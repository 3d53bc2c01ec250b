/-
  Layer 7 in plain Lean: levels of predicates. Links, what asks for a level, the least levels, and the negation that goes round.
  Rows in an order, each thing once, in plain Lean: what sorting and compacting leaves, and putting in one by one.
  Layer 7: predicates, links, literals and clauses, in plain Lean and in memory.
  Layer 7 in plain Lean: what one leads to, in any number of steps, by sweeps over the links.
-/
import Derived.Test.YtadbdmnngmlnhaaBase
import Derived.Test.YtadbdmnngmlnhaaTmA
import Derived.Test.YtadbdmnngmlnhaaTmE
import Derived.Test.YtadbdmnngmlnhaaVarP
namespace Go.Proofs.Ytadbdmnngmlnhaa
section
open Go

/-- A link: from, to, whether it is a negation. -/
structure Lnk where
  fr : Nat
  to : Nat
  neg : Bool
deriving DecidableEq

def Lnk.w (k : Lnk) : Nat := if k.neg then 1 else 0
def lv (m : List Nat) (i : Nat) : Nat := m.getD i 0
theorem lv_get {m : List Nat} {i : Nat} (h : i < m.length) : lv m i = m[i] := by unfold lv; simp [h]
theorem lv_set {m : List Nat} {i j v : Nat} (h : i < m.length) : lv (m.set i v) j = if i = j then v else lv m j := by
  unfold lv
  rw [List.getD_eq_getElem?_getD, List.getD_eq_getElem?_getD, List.getElem?_set]
  split
  · rename_i e; subst e; simp
  · rfl
theorem lv_ext {m x : List Nat} (hl : m.length = x.length) (h : ∀ i, i < m.length → lv m i = lv x i) : m = x := by
  refine List.ext_getElem hl fun i h1 h2 => ?_
  have := h i h1
  rwa [lv_get h1, lv_get h2] at this

/-- Levels that ask for nothing more. -/
def Sol (K : List Lnk) (m : List Nat) : Prop := ∀ k ∈ K, lv m k.to + k.w ≤ lv m k.fr
/-- From which one leads so far up. -/
inductive Wit (K : List Lnk) : Nat → Nat → Prop
  | zero (i : Nat) : Wit K 0 i
  | step {v : Nat} {k : Lnk} (h : k ∈ K) (hw : Wit K v k.to) : Wit K (v + k.w) k.fr
inductive Rch (K : List Lnk) : Nat → Nat → Prop
  | refl (i : Nat) : Rch K i i
  | step {j : Nat} {k : Lnk} (h : k ∈ K) (hw : Rch K k.to j) : Rch K k.fr j
theorem Rch.trans {K : List Lnk} {a b c : Nat} (h : Rch K a b) (h2 : Rch K b c) : Rch K a c := by
  induction h with
  | refl => exact h2
  | step hk _ ih => exact .step hk (ih h2)
theorem Rch.one {K : List Lnk} {k : Lnk} (h : k ∈ K) : Rch K k.fr k.to := .step h (.refl _)
def Round (K : List Lnk) : Prop := ∃ k ∈ K, k.neg = true ∧ Rch K k.to k.fr

theorem sol_rch {K : List Lnk} {m : List Nat} (h : Sol K m) {a b : Nat} (hr : Rch K a b) : lv m b ≤ lv m a := by
  induction hr with
  | refl => exact Nat.le_refl _
  | step hk _ ih => have := h _ hk; omega
theorem sol_not_round {K : List Lnk} {m : List Nat} (h : Sol K m) : ¬ Round K := by
  rintro ⟨k, hk, hn, hr⟩
  have h1 := h k hk
  have h2 := sol_rch h hr
  have : k.w = 1 := by unfold Lnk.w; rw [hn]; rfl
  omega
theorem wit_le {K : List Lnk} {m : List Nat} (h : Sol K m) {v i : Nat} (hw : Wit K v i) : v ≤ lv m i := by
  induction hw with
  | zero => exact Nat.zero_le _
  | step hk _ ih => have := h _ hk; omega

/-! ### So far up as there are predicates: a negation goes round -/
def Chn (K : List Lnk) : Nat → List Lnk → Prop
  | _, [] => True
  | i, k :: L => k ∈ K ∧ k.neg = true ∧ Rch K i k.fr ∧ Chn K k.to L
theorem chn_pre {K : List Lnk} {i j : Nat} (h : Rch K i j) : ∀ {L : List Lnk}, Chn K j L → Chn K i L
  | [], _ => trivial
  | _ :: _, h2 => ⟨h2.1, h2.2.1, h.trans h2.2.2.1, h2.2.2.2⟩
theorem wit_chn {K : List Lnk} {v i : Nat} (hw : Wit K v i) : ∃ L, L.length = v ∧ Chn K i L := by
  induction hw with
  | zero => exact ⟨[], rfl, trivial⟩
  | @step v k hk _ ih =>
    obtain ⟨L, h1, h2⟩ := ih
    cases hn : k.neg with
    | false => exact ⟨L, by rw [h1]; simp [Lnk.w, hn], chn_pre (.one hk) h2⟩
    | true => exact ⟨k :: L, by rw [List.length_cons, h1]; simp [Lnk.w, hn], hk, hn, .refl _, h2⟩
theorem chn_mem {K : List Lnk} : ∀ {L : List Lnk} {i : Nat}, Chn K i L → ∀ b ∈ L, Rch K i b.fr
  | k :: L, i, h, b, hb => by
    rcases List.mem_cons.1 hb with rfl | hb
    · exact h.2.2.1
    · exact (h.2.2.1.trans (.one h.1)).trans (chn_mem h.2.2.2 b hb)
theorem chn_sub {K : List Lnk} : ∀ {L : List Lnk} {i : Nat}, Chn K i L → ∀ b ∈ L, b ∈ K
  | k :: L, i, h, b, hb => by
    rcases List.mem_cons.1 hb with rfl | hb
    · exact h.1
    · exact chn_sub h.2.2.2 b hb
theorem chn_dup {K : List Lnk} : ∀ {L : List Lnk} {i : Nat}, Chn K i L → ¬ (L.map (·.fr)).Nodup → Round K
  | [], _, _, hd => absurd List.nodup_nil hd
  | a :: L, i, h, hd => by
    rw [List.map_cons, List.nodup_cons] at hd
    by_cases hm : a.fr ∈ L.map (·.fr)
    · obtain ⟨b, hb, he⟩ := List.mem_map.1 hm
      exact ⟨a, h.1, h.2.1, by rw [← he]; exact chn_mem h.2.2.2 b hb⟩
    · exact chn_dup h.2.2.2 fun hn => hd ⟨hm, hn⟩
theorem nodup_lt : ∀ {n : Nat} {l : List Nat}, l.Nodup → (∀ x ∈ l, x < n) → l.length ≤ n
  | 0, l, _, h => by cases l with | nil => exact Nat.le_refl _ | cons x l => exact absurd (h x List.mem_cons_self) (Nat.not_lt_zero _)
  | n + 1, l, hn, h => by
    by_cases hm : n ∈ l
    · have h1 := nodup_lt (n := n) (hn.erase n) fun x hx => by
        have h2 := (hn.mem_erase_iff).1 hx
        have := h x h2.2
        have := h2.1
        omega
      rw [List.length_erase_of_mem hm] at h1
      omega
    · have := nodup_lt (n := n) hn fun x hx => by
        have := h x hx
        have : x ≠ n := fun e => hm (e ▸ hx)
        omega
      omega
theorem wit_round {K : List Lnk} {n : Nat} (hK : ∀ k ∈ K, k.fr < n) {v i : Nat} (hw : Wit K v i) (hv : n < v) : Round K := by
  obtain ⟨L, h1, h2⟩ := wit_chn hw
  refine chn_dup h2 fun hn => ?_
  have := nodup_lt hn fun x hx => by
    obtain ⟨b, hb, rfl⟩ := List.mem_map.1 hx
    exact hK b (chn_sub h2 b hb)
  rw [List.length_map] at this
  omega

/-! ### The least levels -/
def LevM (K : List Lnk) (n : Nat) (m : List Nat) : Prop := m.length = n ∧ Sol K m ∧ ∀ i, i < n → Wit K (lv m i) i
theorem levM_le {K : List Lnk} {n : Nat} {m x : List Nat} (h : LevM K n m) (hx : Sol K x) {i : Nat} (hi : i < n) : lv m i ≤ lv x i := wit_le hx (h.2.2 i hi)
theorem levM_ext {K : List Lnk} {n : Nat} {m x : List Nat} (h : LevM K n m) (hx : LevM K n x) : m = x :=
  lv_ext (h.1.trans hx.1.symm) fun i hi => by
    have h1 := levM_le h hx.2.1 (i := i) (by have := h.1; omega)
    have h2 := levM_le hx h.2.1 (i := i) (by have := h.1; omega)
    omega
theorem levM_asked {K : List Lnk} {n : Nat} {m : List Nat} (h : LevM K n m) {i : Nat} (hi : i < n) (h0 : 0 < lv m i) : ∃ k ∈ K, k.fr = i ∧ lv m i = lv m k.to + k.w := by
  have hw := h.2.2 i hi
  generalize he : lv m i = u at hw h0
  cases hw with
  | zero => omega
  | @step v k hk hv =>
    refine ⟨k, hk, rfl, ?_⟩
    have h1 := h.2.1 k hk
    have h2 := wit_le h.2.1 hv
    omega

/-! ### One step of raising -/
/-- So high as asked, from what another row holds. -/
def bump (s a : List Nat) (k : Lnk) : List Nat := a.set k.fr (max (lv a k.fr) (lv s k.to + k.w))
theorem bump_len (s a : List Nat) (k : Lnk) : (bump s a k).length = a.length := by simp [bump]
theorem bump_ge {s a : List Nat} {k : Lnk} (h : k.fr < a.length) (i : Nat) : lv a i ≤ lv (bump s a k) i := by
  unfold bump; rw [lv_set h]; split
  · rename_i e; subst e; omega
  · exact Nat.le_refl _
theorem bump_asks {s a : List Nat} {k : Lnk} (h : k.fr < a.length) : lv s k.to + k.w ≤ lv (bump s a k) k.fr := by
  unfold bump; rw [lv_set h, if_pos rfl]; omega
theorem bump_wit {K : List Lnk} {s a : List Nat} {k : Lnk} (hk : k ∈ K) (h : k.fr < a.length) (hs : Wit K (lv s k.to) k.to) (ha : ∀ i, i < a.length → Wit K (lv a i) i) : ∀ i, i < (bump s a k).length → Wit K (lv (bump s a k) i) i := fun i hi => by
  rw [bump_len] at hi
  unfold bump
  rw [lv_set h]
  split
  · rename_i e; subst e
    rcases Nat.le_total (lv a k.fr) (lv s k.to + k.w) with hle | hle
    · rw [Nat.max_eq_right hle]; exact .step hk hs
    · rw [Nat.max_eq_left hle]; exact ha _ hi
  · exact ha i hi
theorem bump_id {s a : List Nat} {k : Lnk} (h : lv s k.to + k.w ≤ lv a k.fr) (hk : k.fr < a.length) : bump s a k = a := by
  refine lv_ext (bump_len s a k) fun i hi => ?_
  unfold bump; rw [lv_set hk]; split
  · rename_i e; subst e; omega
  · rfl

/-- The program's raising: each link sees what those ahead of it did. -/
def raiseP (K : List Lnk) (m : List Nat) : List Nat := K.foldl (fun a k => bump a a k) m
/-- The document's: each sees what was there. -/
def raiseD (K : List Lnk) (m : List Nat) : List Nat := K.foldl (fun a k => bump m a k) m

theorem foldP_all {K : List Lnk} {n : Nat} (hK : ∀ k ∈ K, k.fr < n ∧ k.to < n) : ∀ (L : List Lnk) (a : List Nat), (∀ k ∈ L, k ∈ K) → a.length = n →
    (L.foldl (fun a k => bump a a k) a).length = n ∧ (∀ i, lv a i ≤ lv (L.foldl (fun a k => bump a a k) a) i) ∧
    ((∀ i, i < n → Wit K (lv a i) i) → ∀ i, i < n → Wit K (lv (L.foldl (fun a k => bump a a k) a) i) i) ∧
    (L.foldl (fun a k => bump a a k) a = a → ∀ k ∈ L, lv a k.to + k.w ≤ lv a k.fr)
  | [], a, _, hl => ⟨hl, fun _ => Nat.le_refl _, fun h => h, fun _ k hk => by simp at hk⟩
  | k :: L, a, hL, hl => by
    have hk := hK k (hL k List.mem_cons_self)
    obtain ⟨h1, h2, h3, h4⟩ := foldP_all hK L (bump a a k) (fun x hx => hL x (List.mem_cons_of_mem _ hx)) (by rw [bump_len, hl])
    rw [List.foldl_cons]
    have hge := fun i => bump_ge (s := a) (a := a) (k := k) (by omega) i
    refine ⟨h1, fun i => Nat.le_trans (hge i) (h2 i), fun hw => h3 fun i hi => bump_wit (hL k List.mem_cons_self) (by omega) (hw _ hk.2) (fun j hj => hw j (by omega)) i (by rw [bump_len]; omega), fun he => ?_⟩
    have e1 : bump a a k = a := lv_ext (bump_len _ _ _) fun i hi => Nat.le_antisymm (by have := h2 i; rw [he] at this; exact this) (hge i)
    rw [e1] at he h4
    intro x hx
    rcases List.mem_cons.1 hx with rfl | hx
    · have := bump_asks (s := a) (a := a) (k := x) (by omega); rw [e1] at this; exact this
    · exact h4 he x hx
theorem foldP_id {K : List Lnk} {a : List Nat} (hK : ∀ k ∈ K, k.fr < a.length) (hs : Sol K a) : ∀ L : List Lnk, (∀ k ∈ L, k ∈ K) → L.foldl (fun a k => bump a a k) a = a
  | [], _ => rfl
  | k :: L, hL => by
    have hk := hL k List.mem_cons_self
    rw [List.foldl_cons, bump_id (hs k hk) (hK k hk)]
    exact foldP_id hK hs L fun x hx => hL x (List.mem_cons_of_mem _ hx)
theorem raiseP_all {K : List Lnk} {n : Nat} (hK : ∀ k ∈ K, k.fr < n ∧ k.to < n) {m : List Nat} (hl : m.length = n) :
    (raiseP K m).length = n ∧ (∀ i, lv m i ≤ lv (raiseP K m) i) ∧ ((∀ i, i < n → Wit K (lv m i) i) → ∀ i, i < n → Wit K (lv (raiseP K m) i) i) ∧ (raiseP K m = m ↔ Sol K m) := by
  obtain ⟨h1, h2, h3, h4⟩ := foldP_all hK K m (fun _ h => h) hl
  exact ⟨h1, h2, h3, h4, fun hs => foldP_id (fun k hk => by have := (hK k hk).1; omega) hs K fun _ h => h⟩

theorem foldD_all {K : List Lnk} {n : Nat} (hK : ∀ k ∈ K, k.fr < n ∧ k.to < n) {m : List Nat} (hm : m.length = n) : ∀ (L : List Lnk) (a : List Nat), (∀ k ∈ L, k ∈ K) → a.length = n → (∀ i, lv m i ≤ lv a i) →
    (L.foldl (fun a k => bump m a k) a).length = n ∧ (∀ i, lv a i ≤ lv (L.foldl (fun a k => bump m a k) a) i) ∧
    ((∀ i, i < n → Wit K (lv m i) i) → (∀ i, i < n → Wit K (lv a i) i) → ∀ i, i < n → Wit K (lv (L.foldl (fun a k => bump m a k) a) i) i) ∧
    (∀ k ∈ L, lv m k.to + k.w ≤ lv (L.foldl (fun a k => bump m a k) a) k.fr)
  | [], a, _, hl, _ => ⟨hl, fun _ => Nat.le_refl _, fun _ h => h, fun k hk => by simp at hk⟩
  | k :: L, a, hL, hl, hge0 => by
    have hk := hK k (hL k List.mem_cons_self)
    have hge := fun i => bump_ge (s := m) (a := a) (k := k) (by omega) i
    obtain ⟨h1, h2, h3, h4⟩ := foldD_all hK hm L (bump m a k) (fun x hx => hL x (List.mem_cons_of_mem _ hx)) (by rw [bump_len, hl]) (fun i => Nat.le_trans (hge0 i) (hge i))
    rw [List.foldl_cons]
    refine ⟨h1, fun i => Nat.le_trans (hge i) (h2 i), fun hw ha => h3 hw fun i hi => bump_wit (hL k List.mem_cons_self) (by omega) (hw _ hk.2) (fun j hj => ha j (by omega)) i (by rw [bump_len]; omega), fun x hx => ?_⟩
    rcases List.mem_cons.1 hx with rfl | hx
    · exact Nat.le_trans (bump_asks (s := m) (a := a) (k := x) (by omega)) (h2 _)
    · exact h4 x hx
theorem foldD_id {K : List Lnk} {a : List Nat} (hK : ∀ k ∈ K, k.fr < a.length) (hs : Sol K a) : ∀ L : List Lnk, (∀ k ∈ L, k ∈ K) → L.foldl (fun x k => bump a x k) a = a
  | [], _ => rfl
  | k :: L, hL => by
    have hk := hL k List.mem_cons_self
    rw [List.foldl_cons, bump_id (hs k hk) (hK k hk)]
    exact foldD_id hK hs L fun x hx => hL x (List.mem_cons_of_mem _ hx)
theorem raiseD_all {K : List Lnk} {n : Nat} (hK : ∀ k ∈ K, k.fr < n ∧ k.to < n) {m : List Nat} (hl : m.length = n) :
    (raiseD K m).length = n ∧ (∀ i, lv m i ≤ lv (raiseD K m) i) ∧ ((∀ i, i < n → Wit K (lv m i) i) → ∀ i, i < n → Wit K (lv (raiseD K m) i) i) ∧ (raiseD K m = m ↔ Sol K m) := by
  obtain ⟨h1, h2, h3, h4⟩ := foldD_all hK hl K m (fun _ h => h) hl (fun _ => Nat.le_refl _)
  refine ⟨h1, h2, fun h => h3 h h, fun he k hk => ?_, fun hs => foldD_id (fun k hk => by have := (hK k hk).1; omega) hs K fun _ h => h⟩
  have := h4 k hk
  rwa [show K.foldl (fun a k => bump m a k) m = m from he] at this

/-! ### The sum grows -/
def sumL (m : List Nat) : Nat := m.foldr (· + ·) 0
theorem sumL_le : ∀ {m x : List Nat}, m.length = x.length → (∀ i, lv m i ≤ lv x i) → sumL m ≤ sumL x ∧ (m ≠ x → sumL m < sumL x)
  | [], [], _, _ => ⟨Nat.le_refl _, fun h => absurd rfl h⟩
  | [], _ :: _, h, _ => by simp at h
  | _ :: _, [], h, _ => by simp at h
  | a :: m, b :: x, hl, h => by
    have h0 : a ≤ b := h 0
    obtain ⟨h1, h2⟩ := sumL_le (m := m) (x := x) (by simpa using hl) fun i => h (i + 1)
    show a + sumL m ≤ b + sumL x ∧ (_ → a + sumL m < b + sumL x)
    refine ⟨by omega, fun hne => ?_⟩
    by_cases e : m = x
    · have : a ≠ b := fun e2 => hne (by rw [e, e2])
      omega
    · have := h2 e; omega
theorem sumL_bound : ∀ {m : List Nat} {n : Nat}, (∀ i, i < m.length → lv m i ≤ n) → sumL m ≤ m.length * n
  | [], _, _ => Nat.zero_le _
  | a :: m, n, h => by
    have h0 : a ≤ n := h 0 (by simp)
    have := sumL_bound (m := m) (n := n) fun i hi => h (i + 1) (by simpa using hi)
    show a + sumL m ≤ (m.length + 1) * n
    rw [Nat.succ_mul]; omega

/-- Levels so far: all that is there is asked for. -/
def LevR (K : List Lnk) (n : Nat) (m : List Nat) : Prop := m.length = n ∧ ∀ i, i < n → Wit K (lv m i) i
theorem levR_zero (K : List Lnk) (n : Nat) : LevR K n (List.replicate n 0) := ⟨by simp, fun i hi => by
  have : lv (List.replicate n 0) i = 0 := by unfold lv; simp [List.getElem?_replicate]; split <;> rfl
  rw [this]; exact .zero i⟩
theorem levR_sol {K : List Lnk} {n : Nat} {m : List Nat} (h : LevR K n m) (hs : Sol K m) : LevM K n m := ⟨h.1, hs, h.2⟩
theorem levR_high {K : List Lnk} {n : Nat} (hK : ∀ k ∈ K, k.fr < n ∧ k.to < n) {m : List Nat} (h : LevR K n m) {i : Nat} (hi : i < n) (hv : n < lv m i) : Round K := wit_round (fun k hk => (hK k hk).1) (h.2 i hi) hv
theorem levM_not_round {K : List Lnk} {n : Nat} {m : List Nat} (h : LevM K n m) : ¬ Round K := sol_not_round h.2.1
/-- What Levels tells. -/
def LevT (K : List Lnk) (n : Nat) (is : Bool) (m : List Nat) : Prop := (is = true ∧ LevM K n m) ∨ (is = false ∧ Round K ∧ m = [])
theorem levT_ext {K : List Lnk} {n : Nat} {a b : Bool} {m x : List Nat} (h : LevT K n a m) (hx : LevT K n b x) : a = b ∧ m = x := by
  rcases h with ⟨rfl, h⟩ | ⟨rfl, h, rfl⟩ <;> rcases hx with ⟨rfl, hx⟩ | ⟨rfl, hx, rfl⟩
  · exact ⟨rfl, levM_ext h hx⟩
  · exact absurd hx (levM_not_round h)
  · exact absurd h (levM_not_round hx)
  · exact ⟨rfl, rfl⟩
end
section
open Go

/-- An order by a comparison. -/
structure Cmp {α : Type} (c : α → α → Int) : Prop where
  zero : ∀ {a b}, c a b = 0 ↔ a = b
  neg : ∀ a b, c b a = - c a b
  trans : ∀ {a b d}, c a b < 0 → c b d < 0 → c a d < 0
section
variable {α : Type} {c : α → α → Int}
theorem Cmp.irr (hc : Cmp c) (a : α) : c a a = 0 := hc.zero.2 rfl
theorem Cmp.total (hc : Cmp c) (a b : α) : c a b < 0 ∨ a = b ∨ c b a < 0 := by
  by_cases h : c a b = 0
  · exact .inr (.inl (hc.zero.1 h))
  · have := hc.neg a b; omega
theorem Cmp.le_trans (hc : Cmp c) {a b d : α} (h1 : c a b ≤ 0) (h2 : c b d ≤ 0) : c a d ≤ 0 := by
  by_cases e1 : c a b = 0
  · rw [hc.zero.1 e1]; exact h2
  · by_cases e2 : c b d = 0
    · rw [← hc.zero.1 e2]; exact h1
    · have := hc.trans (a := a) (b := b) (d := d) (by omega) (by omega); omega
/-- Rising, none twice. -/
def Srt (c : α → α → Int) (l : List α) : Prop := l.Pairwise fun a b => c a b < 0
theorem Srt.nodup (hc : Cmp c) {l : List α} (h : Srt c l) : l.Nodup := h.imp fun {a b} h e => by subst e; rw [hc.irr] at h; omega
theorem srt_ext (hc : Cmp c) : ∀ {l m : List α}, Srt c l → Srt c m → (∀ x, x ∈ l ↔ x ∈ m) → l = m
  | [], [], _, _, _ => rfl
  | [], b :: m, _, _, h => by have := (h b).2 List.mem_cons_self; simp at this
  | a :: l, [], _, _, h => by have := (h a).1 List.mem_cons_self; simp at this
  | a :: l, b :: m, hl, hm, h => by
    obtain ⟨h1, h2⟩ := List.pairwise_cons.1 hl
    obtain ⟨h3, h4⟩ := List.pairwise_cons.1 hm
    have hab : a = b := by
      rcases List.mem_cons.1 ((h a).1 List.mem_cons_self) with e | e
      · exact e
      · rcases List.mem_cons.1 ((h b).2 List.mem_cons_self) with e' | e'
        · exact e'.symm
        · have := h1 _ e'; have := h3 _ e; have := hc.neg a b; omega
    subst hab
    congr 1
    refine srt_ext hc h2 h4 fun x => ?_
    constructor
    · intro hx
      rcases List.mem_cons.1 ((h x).1 (List.mem_cons_of_mem _ hx)) with rfl | e
      · have := h1 _ hx; rw [hc.irr] at this; omega
      · exact e
    · intro hx
      rcases List.mem_cons.1 ((h x).2 (List.mem_cons_of_mem _ hx)) with rfl | e
      · have := h3 _ hx; rw [hc.irr] at this; omega
      · exact e

/-- One more, in its place, once. -/
def insC (c : α → α → Int) (x : α) : List α → List α
  | [] => [x]
  | y :: l => if c y x < 0 then y :: insC c x l else if c y x = 0 then y :: l else x :: y :: l
theorem mem_insC (hc : Cmp c) {x y : α} : ∀ {l : List α}, y ∈ insC c x l ↔ y = x ∨ y ∈ l
  | [] => by simp [insC]
  | z :: l => by
    unfold insC
    split
    · rw [List.mem_cons, mem_insC hc, List.mem_cons]
      constructor <;> (intro h; rcases h with h | h | h <;> simp [h])
    · split
      · rename_i h; rw [hc.zero.1 h]; simp
      · simp
theorem srt_insC (hc : Cmp c) {x : α} : ∀ {l : List α}, Srt c l → Srt c (insC c x l)
  | [], _ => List.pairwise_singleton _ _
  | z :: l, h => by
    obtain ⟨h1, h2⟩ := List.pairwise_cons.1 h
    unfold insC
    split
    · rename_i hz
      refine List.pairwise_cons.2 ⟨fun y hy => ?_, srt_insC hc h2⟩
      rcases (mem_insC hc).1 hy with rfl | hy
      · exact hz
      · exact h1 y hy
    · split
      · exact h
      · rename_i hz hz0
        have hxz : c x z < 0 := by have := hc.neg z x; omega
        refine List.pairwise_cons.2 ⟨fun y hy => ?_, h⟩
        rcases List.mem_cons.1 hy with rfl | hy
        · exact hxz
        · exact hc.trans hxz (h1 y hy)
/-- All things of a row, rising, each once. -/
def setL (c : α → α → Int) (l : List α) : List α := l.foldl (fun s x => insC c x s) []
theorem setL_snoc (l : List α) (x : α) : setL c (l ++ [x]) = insC c x (setL c l) := by unfold setL; rw [List.foldl_append]; rfl
theorem foldl_ins (hc : Cmp c) : ∀ (l s : List α), Srt c s → Srt c (l.foldl (fun s x => insC c x s) s) ∧ ∀ y, y ∈ l.foldl (fun s x => insC c x s) s ↔ y ∈ s ∨ y ∈ l
  | [], s, h => ⟨h, fun y => by simp⟩
  | x :: l, s, h => by
    obtain ⟨h1, h2⟩ := foldl_ins hc l (insC c x s) (srt_insC hc h)
    refine ⟨h1, fun y => ?_⟩
    rw [List.foldl_cons, h2, mem_insC hc, List.mem_cons]
    constructor
    · rintro ((h | h) | h) <;> simp [h]
    · rintro (h | h | h) <;> simp [h]
theorem setL_srt (hc : Cmp c) (l : List α) : Srt c (setL c l) := (foldl_ins hc l [] List.Pairwise.nil).1
theorem mem_setL (hc : Cmp c) {l : List α} {x : α} : x ∈ setL c l ↔ x ∈ l := by
  unfold setL; rw [(foldl_ins hc l [] List.Pairwise.nil).2]; simp
theorem setL_of_srt (hc : Cmp c) {l : List α} (h : Srt c l) : setL c l = l := srt_ext hc (setL_srt hc l) h fun _ => mem_setL hc
theorem setL_ext (hc : Cmp c) {l m : List α} (h : ∀ x, x ∈ l ↔ x ∈ m) : setL c l = setL c m := srt_ext hc (setL_srt hc l) (setL_srt hc m) fun x => by rw [mem_setL hc, mem_setL hc, h]
theorem insC_len (x : α) : ∀ l : List α, (insC c x l).length ≤ l.length + 1
  | [] => Nat.le_refl _
  | y :: l => by
    unfold insC
    split
    · have := insC_len x l; simp; omega
    · split <;> simp
theorem setL_len : ∀ (l s : List α), (l.foldl (fun s x => insC c x s) s).length ≤ l.length + s.length
  | [], s => by simp
  | x :: l, s => by
    have h1 := setL_len l (insC c x s)
    have h2 := insC_len (c := c) x s
    rw [List.foldl_cons, List.length_cons]; omega
theorem setL_le (l : List α) : (setL c l).length ≤ l.length := by have := setL_len (c := c) l []; simpa [setL] using this

/-- What compacting leaves: of like ones side by side one. -/
def cptL [DecidableEq α] : List α → List α
  | [] => []
  | [a] => [a]
  | a :: b :: l => if a = b then cptL (b :: l) else a :: cptL (b :: l)
theorem mem_cptL [DecidableEq α] {x : α} : ∀ {l : List α}, x ∈ cptL l ↔ x ∈ l
  | [] => by simp [cptL]
  | [a] => by simp [cptL]
  | a :: b :: l => by
    unfold cptL
    split
    · rename_i e; subst e; rw [mem_cptL]; simp
    · rw [List.mem_cons, mem_cptL, List.mem_cons (a := x) (b := a)]
theorem cptL_srt [DecidableEq α] (hc : Cmp c) : ∀ {l : List α}, l.Pairwise (fun a b => c a b ≤ 0) → Srt c (cptL l)
  | [], _ => List.Pairwise.nil
  | [a], _ => List.pairwise_singleton _ _
  | a :: b :: l, h => by
    obtain ⟨h1, h2⟩ := List.pairwise_cons.1 h
    unfold cptL
    split
    · exact cptL_srt hc h2
    · rename_i hne
      refine List.pairwise_cons.2 ⟨fun y hy => ?_, cptL_srt hc h2⟩
      have hab : c a b < 0 := by
        have := h1 b List.mem_cons_self
        have : c a b ≠ 0 := fun e => hne (hc.zero.1 e)
        omega
      have hy' := mem_cptL.1 hy
      rcases List.mem_cons.1 hy' with rfl | hy'
      · exact hab
      · have := (List.pairwise_cons.1 h2).1 y hy'
        by_cases e : c b y = 0
        · rw [← hc.zero.1 e]; exact hab
        · exact hc.trans hab (by omega)
/-- Sorted and compacted. -/
theorem cpt_set [DecidableEq α] (hc : Cmp c) {l l' : List α} (hp : l'.Perm l) (hs : l'.Pairwise (fun a b => c a b ≤ 0)) : cptL l' = setL c l :=
  srt_ext hc (cptL_srt hc hs) (setL_srt hc l) fun x => by rw [mem_cptL, mem_setL hc, hp.mem_iff]

/-- Where one stands in a rising row, or would. -/
def lowC (c : α → α → Int) (x : α) (l : List α) : Nat := (l.takeWhile fun y => decide (c y x < 0)).length
theorem lowC_le (x : α) (l : List α) : lowC c x l ≤ l.length := (List.takeWhile_sublist _).length_le
theorem lowC_lt (hc : Cmp c) {x : α} : ∀ {l : List α}, Srt c l → ∀ (k : Nat) (hk : k < l.length), k < lowC c x l ↔ c l[k] x < 0
  | [], _, k, hk => by simp at hk
  | y :: l, h, k, hk => by
    obtain ⟨h1, h2⟩ := List.pairwise_cons.1 h
    unfold lowC
    rw [List.takeWhile_cons]
    by_cases hy : c y x < 0
    · rw [if_pos (by simpa using hy), List.length_cons]
      cases k with
      | zero => simp [hy]
      | succ k =>
        have := lowC_lt hc (x := x) h2 k (by simpa using hk)
        unfold lowC at this
        simp only [List.getElem_cons_succ]
        rw [← this]; omega
    · rw [if_neg (by simpa using hy)]
      simp only [List.length_nil, Nat.not_lt_zero, false_iff]
      cases k with
      | zero => exact hy
      | succ k =>
        intro h3
        have h4 : c y (l[k]'(by simpa using hk)) < 0 := h1 _ (List.getElem_mem _)
        exact hy (hc.trans h4 h3)
theorem lowC_at (hc : Cmp c) {l : List α} (h : Srt c l) {k : Nat} (hk : k < l.length) : lowC c l[k] l = k := by
  have h1 := lowC_lt hc (x := l[k]) h
  have h2 : ¬ k < lowC c l[k] l := fun h3 => by have := (h1 k hk).1 h3; rw [hc.irr] at this; omega
  by_cases h3 : lowC c l[k] l < k
  · have h4 : ¬ c l[lowC c l[k] l] l[k] < 0 := fun e => by
      have := (h1 (lowC c l[k] l) (by omega)).2 e
      omega
    exact absurd (List.pairwise_iff_getElem.1 h _ _ _ hk h3) h4
  · omega
theorem lowC_mem (hc : Cmp c) {l : List α} (h : Srt c l) {x : α} (hx : x ∈ l) : ∃ hk : lowC c x l < l.length, l[lowC c x l] = x := by
  obtain ⟨k, hk, rfl⟩ := List.mem_iff_getElem.1 hx
  have := lowC_at hc h hk
  exact ⟨by omega, by congr 1⟩
theorem lowC_uniq (hc : Cmp c) {l : List α} (h : Srt c l) {x : α} {k : Nat} (hk : k ≤ l.length) (h1 : ∀ i (hi : i < l.length), i < k → c l[i] x < 0) (h2 : ∀ i (hi : i < l.length), k ≤ i → ¬ c l[i] x < 0) : k = lowC c x l := by
  have h3 := lowC_lt hc (x := x) h
  have h4 := lowC_le (c := c) x l
  rcases Nat.lt_trichotomy k (lowC c x l) with h5 | h5 | h5
  · exact absurd ((h3 k (by omega)).1 h5) (h2 k (by omega) (Nat.le_refl _))
  · exact h5
  · have := (h3 (lowC c x l) (by omega)).2 (h1 _ (by omega) h5); omega
end
theorem cmpZ_ok : Cmp cmpZ := ⟨cmpZ_zero, cmpZ_neg, fun {a b d} h1 h2 => by rw [cmpZ_lt] at *; omega⟩
/-- One order ahead of another one. -/
theorem cmp_then {α β γ : Type} {c : β → β → Int} {d : γ → γ → Int} (hc : Cmp c) (hd : Cmp d) (f : α → β) (g : α → γ) (hfg : ∀ {a b : α}, f a = f b → g a = g b → a = b) :
    Cmp fun a b : α => if c (f a) (f b) ≠ 0 then c (f a) (f b) else d (g a) (g b) := by
  refine ⟨fun {a b} => ?_, fun a b => ?_, fun {a b e} h1 h2 => ?_⟩
  · constructor
    · intro h
      by_cases e : c (f a) (f b) = 0
      · rw [if_neg (by simp [e])] at h
        exact hfg (hc.zero.1 e) (hd.zero.1 h)
      · rw [if_pos e] at h; exact absurd h e
    · rintro rfl
      rw [if_neg (by simp [hc.irr])]; exact hd.irr _
  · have h1 := hc.neg (f a) (f b)
    have h2 := hd.neg (g a) (g b)
    by_cases e : c (f a) (f b) = 0
    · have e' : c (f b) (f a) = 0 := by omega
      rw [if_neg (by simp [e']), if_neg (by simp [e])]; exact h2
    · rw [if_pos (by omega), if_pos e]; exact h1
  · by_cases e1 : c (f a) (f b) = 0
    · rw [if_neg (by simp [e1])] at h1
      have f1 := hc.zero.1 e1
      simp only [f1] at h1 ⊢
      by_cases e2 : c (f b) (f e) = 0
      · rw [if_neg (by simp [e2])] at h2 ⊢
        exact hd.trans h1 h2
      · rw [if_pos e2] at h2 ⊢; exact h2
    · rw [if_pos e1] at h1
      by_cases e2 : c (f b) (f e) = 0
      · rw [← hc.zero.1 e2, if_pos e1]; exact h1
      · rw [if_pos e2] at h2
        have := hc.trans h1 h2
        rw [if_pos (by omega)]; exact this
theorem cmpS_ok : Cmp cmpS := ⟨cmpS_zero, cmpS_neg, fun {a b d} h1 h2 => by rw [cmpS_lt] at *; exact bytes_trans h1 h2⟩
end
section
open Go Go.RowKit

/-- A predicate. -/
structure Prd where
  name : ByteArray
  n : Int
deriving DecidableEq
/-- A literal. -/
structure Lit where
  neg : Bool
  t : List Cell
/-- A clause. -/
structure Cls where
  head : List Cell
  body : List Lit

def prT (t : List Cell) : Prd := match t with
  | [] => ⟨⟨#[]⟩, 0⟩
  | c :: _ => ⟨c.name, c.n⟩
def cmpP (a b : Prd) : Int := if cmpS a.name b.name ≠ 0 then cmpS a.name b.name else cmpZ a.n b.n
theorem cmpP_ok : Cmp cmpP := cmp_then (α := Prd) cmpS_ok cmpZ_ok (fun a => a.name) (fun a => a.n) fun {a b} h1 h2 => by cases a; cases b; simp at *; exact ⟨h1, h2⟩
def flagB (b : Bool) : Int := if b then 1 else 0
def cmpK (a b : Lnk) : Int := if cmpZ a.fr b.fr ≠ 0 then cmpZ a.fr b.fr else if cmpZ a.to b.to ≠ 0 then cmpZ a.to b.to else cmpZ (flagB a.neg) (flagB b.neg)
theorem cmpK_ok : Cmp cmpK := by
  have h1 : Cmp fun a b : Nat × Bool => if cmpZ (a.1 : Int) b.1 ≠ 0 then cmpZ (a.1 : Int) b.1 else cmpZ (flagB a.2) (flagB b.2) :=
    cmp_then (α := Nat × Bool) cmpZ_ok cmpZ_ok (fun a => (a.1 : Int)) (fun a => flagB a.2) fun {a b} e1 e2 => by
      obtain ⟨a1, a2⟩ := a; obtain ⟨b1, b2⟩ := b
      have e3 : a1 = b1 := Int.ofNat.inj e1
      have e4 : a2 = b2 := by cases a2 <;> cases b2 <;> simp [flagB] at e2 ⊢
      rw [e3, e4]
  exact cmp_then (α := Lnk) (d := fun a b : Nat × Bool => if cmpZ (a.1 : Int) b.1 ≠ 0 then cmpZ (a.1 : Int) b.1 else cmpZ (flagB a.2) (flagB b.2)) cmpZ_ok h1 (fun a => (a.fr : Int)) (fun a => (a.to, a.neg)) fun {a b} e1 e2 => by
    cases a; cases b; simp at *; exact ⟨Int.ofNat.inj e1, e2.1, e2.2⟩

/-! ### What the document says of clauses -/
def atomB (t : List Cell) : Bool := rightT t && isFun t
def mayC (c : Cls) : Bool := (c.body.all fun b => atomB b.t) && atomB c.head && decide (c.body.length ≤ 8)
def withinI (a b : List Int) : Bool := a.all fun v => decide (v ∈ b)
/-- The variables bound behind the literals; none: a negative one has one that is not bound. -/
def safeB : List Int → List Lit → Option (List Int)
  | bound, [] => some bound
  | bound, b :: l => if b.neg && !withinI (varsL b.t) bound then none else safeB (bound ++ varsL b.t) l
def safeC (c : Cls) : Bool := mayC c && match safeB [] c.body with
  | none => false
  | some bound => withinI (varsL c.head) bound
def rightC (l : List Cls) : Bool := l.all safeC && decide (l.length ≤ 64)
def allP (l : List Cls) : List Prd := l.flatMap fun c => prT c.head :: c.body.map fun b => prT b.t
def predsL (l : List Cls) : List Prd := setL cmpP (allP l)
def ofL (l : List Cls) (p : Prd) : List Nat := (List.range l.length).filter fun i => match l[i]? with
  | none => false
  | some c => decide (prT c.head = p)
def allK (l : List Cls) : List Lnk := l.flatMap fun c => c.body.map fun b => ⟨lowC cmpP (prT c.head) (predsL l), lowC cmpP (prT b.t) (predsL l), b.neg⟩
def linksL (l : List Cls) : List Lnk := setL cmpK (allK l)
def natsI (m : List Nat) : List Int := m.map fun x : Nat => (x : Int)
theorem natsI_len (m : List Nat) : (natsI m).length = m.length := by simp [natsI]
theorem natsI_get {m : List Nat} {k : Nat} (h : k < m.length) : (natsI m)[k]'(by rw [natsI_len]; exact h) = (m[k] : Int) := by simp [natsI]
theorem natsI_inj {m x : List Nat} (h : natsI m = natsI x) : m = x := by
  refine List.ext_getElem (by rw [← natsI_len m, h, natsI_len]) fun i h1 h2 => ?_
  have h3 := natsI_get h1
  have h4 := natsI_get h2
  simp only [h] at h3
  rw [h3] at h4
  exact Int.ofNat.inj h4

/-! ### In memory -/
def prdE : Elt Prd where
  sz := 2
  pos := by decide
  R := fun _ _ p cs => cs = [.string p.name, .int .i64 p.n] ∧ p.name.size ≤ 140737488355328 ∧ IntOK p.n
  len := by rintro _ _ _ _ ⟨rfl, _⟩; rfl
  one := by rintro _ _ _ _ ⟨rfl, _⟩ u hu; simp at hu; rcases hu with rfl | rfl <;> rfl
  mono := by rintro S T w w' xs _ h hT hw; exact h
def lnkE : Elt Lnk where
  sz := 3
  pos := by decide
  R := fun _ _ k cs => cs = [.int .i64 k.fr, .int .i64 k.to, .bool k.neg] ∧ k.fr ≤ 1000000 ∧ k.to ≤ 1000000
  len := by rintro _ _ _ _ ⟨rfl, _⟩; rfl
  one := by rintro _ _ _ _ ⟨rfl, _⟩ u hu; simp at hu; rcases hu with rfl | rfl | rfl <;> rfl
  mono := by rintro S T w w' xs _ h hT hw; exact h
def litE : Elt Lit where
  sz := 2
  pos := by decide
  R := fun S w c cs => ∃ v, cs = [.bool c.neg, v] ∧ Seq cellE S w v c.t
  len := by rintro _ _ _ _ ⟨v, rfl, _⟩; rfl
  one := by
    rintro _ _ _ _ ⟨v, rfl, ⟨ao, cap, rfl, _⟩⟩ u hu
    simp at hu; rcases hu with rfl | rfl <;> rfl
  mono := by
    rintro S T w w' xs _ ⟨v, rfl, h⟩ hT hw
    exact ⟨v, rfl, h.mono hT hw⟩
def clsE : Elt Cls where
  sz := 2
  pos := by decide
  R := fun S w c cs => ∃ v u, cs = [v, u] ∧ Seq cellE S w v c.head ∧ Seq litE S w u c.body
  len := by rintro _ _ _ _ ⟨v, u, rfl, _⟩; rfl
  one := by
    rintro _ _ _ _ ⟨v, u, rfl, ⟨ao, cap, rfl, _⟩, ⟨bo, cap', rfl, _⟩⟩ u hu
    simp at hu; rcases hu with rfl | rfl <;> rfl
  mono := by
    rintro S T w w' xs _ ⟨v, u, rfl, h, h2⟩ hT hw
    exact ⟨v, u, rfl, h.mono hT hw, h2.mono hT hw⟩

theorem SeqAt.lit {S : Nat → Prop} {w : World} {ao : Option Addr} {xs : List Lit} (h : SeqAt litE S w ao xs) {k : Nat} (hk : k < xs.length) :
    ∃ b off ta tc, ao = some ⟨b, off, none⟩ ∧ S b ∧ b < w.heap.size ∧ w.cell? ⟨b, off + k * 2, none⟩ = some (.bool xs[k].neg) ∧
      w.cell? ⟨b, off + k * 2 + 1, none⟩ = some (.slice ta xs[k].t.length tc) ∧ Seq cellE S w (.slice ta xs[k].t.length tc) xs[k].t := by
  obtain ⟨b, off, cs, h1, h2, h3, ⟨v, rfl, hv⟩, h5⟩ := h k _ (List.getElem?_eq_getElem hk)
  obtain ⟨ta, tc, rfl, _⟩ := id hv
  exact ⟨b, off, ta, tc, h1, h2, h3, h5 0 (by decide), h5 1 (by decide), hv⟩
theorem SeqAt.cls {S : Nat → Prop} {w : World} {ao : Option Addr} {xs : List Cls} (h : SeqAt clsE S w ao xs) {k : Nat} (hk : k < xs.length) :
    ∃ b off ha hc la lc, ao = some ⟨b, off, none⟩ ∧ S b ∧ b < w.heap.size ∧ w.cell? ⟨b, off + k * 2, none⟩ = some (.slice ha xs[k].head.length hc) ∧
      w.cell? ⟨b, off + k * 2 + 1, none⟩ = some (.slice la xs[k].body.length lc) ∧ Seq cellE S w (.slice ha xs[k].head.length hc) xs[k].head ∧ Seq litE S w (.slice la xs[k].body.length lc) xs[k].body := by
  obtain ⟨b, off, cs, h1, h2, h3, ⟨v, u, rfl, hv, hu⟩, h5⟩ := h k _ (List.getElem?_eq_getElem hk)
  obtain ⟨ha, hc, rfl, _⟩ := id hv
  obtain ⟨la, lc, rfl, _⟩ := id hu
  exact ⟨b, off, ha, hc, la, lc, h1, h2, h3, h5 0 (by decide), h5 1 (by decide), hv, hu⟩
theorem SeqAt.prd {S : Nat → Prop} {w : World} {ao : Option Addr} {xs : List Prd} (h : SeqAt prdE S w ao xs) {k : Nat} (hk : k < xs.length) :
    ∃ b off, ao = some ⟨b, off, none⟩ ∧ S b ∧ b < w.heap.size ∧ w.cell? ⟨b, off + k * 2, none⟩ = some (.string xs[k].name) ∧
      w.cell? ⟨b, off + k * 2 + 1, none⟩ = some (.int .i64 xs[k].n) ∧ xs[k].name.size ≤ 140737488355328 ∧ IntOK xs[k].n := by
  obtain ⟨b, off, cs, h1, h2, h3, ⟨rfl, g1, g2⟩, h5⟩ := h k _ (List.getElem?_eq_getElem hk)
  exact ⟨b, off, h1, h2, h3, h5 0 (by decide), h5 1 (by decide), g1, g2⟩
theorem SeqAt.lnk {S : Nat → Prop} {w : World} {ao : Option Addr} {xs : List Lnk} (h : SeqAt lnkE S w ao xs) {k : Nat} (hk : k < xs.length) :
    ∃ b off, ao = some ⟨b, off, none⟩ ∧ S b ∧ b < w.heap.size ∧ w.cell? ⟨b, off + k * 3, none⟩ = some (.int .i64 xs[k].fr) ∧
      w.cell? ⟨b, off + k * 3 + 1, none⟩ = some (.int .i64 xs[k].to) ∧ w.cell? ⟨b, off + k * 3 + 2, none⟩ = some (.bool xs[k].neg) ∧ xs[k].fr ≤ 1000000 ∧ xs[k].to ≤ 1000000 := by
  obtain ⟨b, off, cs, h1, h2, h3, ⟨rfl, g1, g2⟩, h5⟩ := h k _ (List.getElem?_eq_getElem hk)
  exact ⟨b, off, h1, h2, h3, h5 0 (by decide), h5 1 (by decide), h5 2 (by decide), g1, g2⟩

/-- A clause as a value. -/
def ClsV (S : Nat → Prop) (w : World) (v : Value) (c : Cls) : Prop := ∃ ha hc la lc, v = .agg #[.slice ha c.head.length hc, .slice la c.body.length lc] ∧ Seq cellE S w (.slice ha c.head.length hc) c.head ∧ Seq litE S w (.slice la c.body.length lc) c.body
theorem ClsV.mono {S T : Nat → Prop} {w w' : World} {v : Value} {c : Cls} (h : ClsV S w v c) (hT : ∀ b, S b → b < w.heap.size → T b) (hw : ∀ b, S b → b < w.heap.size → w'.heap[b]? = w.heap[b]?) : ClsV T w' v c := by
  obtain ⟨ha, hc, la, lc, rfl, h, h2⟩ := h
  exact ⟨ha, hc, la, lc, rfl, h.mono hT hw, h2.mono hT hw⟩
theorem ClsV.at {S : Nat → Prop} {w w' : World} {v : Value} {c : Cls} (h : ClsV S w v c) (hb : Below w.heap.size w w') : ClsV S w' v c :=
  h.mono (fun _ h _ => h) fun b _ hlt => hb.block b hlt
theorem ClsV.any {S : Nat → Prop} {w : World} {v : Value} {c : Cls} (h : ClsV S w v c) : ClsV (fun _ => True) w v c := h.mono (fun _ _ _ => trivial) fun _ _ _ => rfl
end
section
open Go

def soB (s : List Bool) (j : Nat) : Bool := s.getD j false
theorem soB_set {s : List Bool} {i j : Nat} (h : i < s.length) : soB (s.set i true) j = (decide (i = j) || soB s j) := by
  unfold soB
  rw [List.getD_eq_getElem?_getD, List.getD_eq_getElem?_getD, List.getElem?_set]
  by_cases e : i = j
  · subst e; simp [h]
  · simp [e]
/-- One link told. -/
def leadS (f : Nat) (s : List Bool) (k : Lnk) : List Bool := if k.fr = f ∨ soB s k.fr = true then s.set k.to true else s
def sweepS (K : List Lnk) (f : Nat) (s : List Bool) : List Bool := K.foldl (leadS f) s
def Led (K : List Lnk) (f j : Nat) : Prop := ∃ k ∈ K, k.fr = f ∧ Rch K k.to j
theorem rch_snoc {K : List Lnk} {a : Nat} {k : Lnk} (h : Rch K a k.fr) (hk : k ∈ K) : Rch K a k.to := h.trans (.one hk)
theorem leadS_len (f : Nat) (s : List Bool) (k : Lnk) : (leadS f s k).length = s.length := by unfold leadS; split <;> simp
theorem leadS_ge {f : Nat} {s : List Bool} {k : Lnk} (h : k.to < s.length) {j : Nat} (hj : soB s j = true) : soB (leadS f s k) j = true := by
  unfold leadS; split
  · rw [soB_set h, hj, Bool.or_true]
  · exact hj
theorem leadS_sound {K : List Lnk} {f : Nat} {s : List Bool} {k : Lnk} (hk : k ∈ K) (h : k.to < s.length) (hs : ∀ j, soB s j = true → Led K f j) : ∀ j, soB (leadS f s k) j = true → Led K f j := by
  intro j hj
  unfold leadS at hj
  split at hj
  · rename_i hc
    rw [soB_set h, Bool.or_eq_true, decide_eq_true_eq] at hj
    rcases hj with e | hj
    · subst e
      rcases hc with hc | hc
      · exact ⟨k, hk, hc, .refl _⟩
      · obtain ⟨x, hx, h1, h2⟩ := hs _ hc
        exact ⟨x, hx, h1, rch_snoc h2 hk⟩
    · exact hs j hj
  · exact hs j hj
theorem fold_lead {K : List Lnk} {f n : Nat} (hK : ∀ k ∈ K, k.to < n) : ∀ (L : List Lnk) (s : List Bool), (∀ k ∈ L, k ∈ K) → s.length = n →
    (L.foldl (leadS f) s).length = n ∧ (∀ j, soB s j = true → soB (L.foldl (leadS f) s) j = true) ∧ ((∀ j, soB s j = true → Led K f j) → ∀ j, soB (L.foldl (leadS f) s) j = true → Led K f j) ∧
    (L.foldl (leadS f) s = s → ∀ k ∈ L, k.fr = f ∨ soB s k.fr = true → soB s k.to = true)
  | [], s, _, hl => ⟨hl, fun _ h => h, fun h => h, fun _ k hk => by simp at hk⟩
  | k :: L, s, hL, hl => by
    have hk := hK k (hL k List.mem_cons_self)
    obtain ⟨h1, h2, h3, h4⟩ := fold_lead (f := f) hK L (leadS f s k) (fun x hx => hL x (List.mem_cons_of_mem _ hx)) (by rw [leadS_len, hl])
    rw [List.foldl_cons]
    refine ⟨h1, fun j hj => h2 j (leadS_ge (by omega) hj), fun hs => h3 (leadS_sound (hL k List.mem_cons_self) (by omega) hs), fun he => ?_⟩
    have e1 : leadS f s k = s := by
      refine List.ext_getElem (leadS_len _ _ _) fun i hi1 hi2 => ?_
      have g1 : soB s i = s[i] := by unfold soB; simp [hi2]
      have g2 : soB (leadS f s k) i = (leadS f s k)[i] := by unfold soB; simp [hi1]
      rw [← g1, ← g2]
      cases hb : soB s i with
      | true => exact leadS_ge (by omega) hb
      | false =>
        cases hb2 : soB (leadS f s k) i with
        | false => rfl
        | true => have := h2 i hb2; rw [he, hb] at this; cases this
    rw [e1] at he h4
    intro x hx hc
    rcases List.mem_cons.1 hx with rfl | hx
    · have : soB (leadS f s x) x.to = true := by unfold leadS; rw [if_pos hc, soB_set (by omega)]; simp
      rw [e1] at this; exact this
    · exact h4 he x hx hc
/-- Closed: all is told. -/
theorem led_closed {K : List Lnk} {f : Nat} {s : List Bool} (h : ∀ k ∈ K, k.fr = f ∨ soB s k.fr = true → soB s k.to = true) {j : Nat} (hj : Led K f j) : soB s j = true := by
  obtain ⟨k, hk, h1, h2⟩ := hj
  have h3 := h k hk (.inl h1)
  generalize k.to = a at h2 h3
  induction h2 with
  | refl => exact h3
  | @step j x hx _ ih => exact ih (h x hx (.inr h3))

def bnL (s : List Bool) : List Nat := s.map fun b => if b then 1 else 0
theorem bnL_lv (s : List Bool) (i : Nat) : lv (bnL s) i = if soB s i = true then 1 else 0 := by
  unfold lv bnL soB
  rw [List.getD_eq_getElem?_getD, List.getD_eq_getElem?_getD, List.getElem?_map]
  cases s[i]? with
  | none => rfl
  | some b => rfl
theorem bnL_inj {s t : List Bool} (h : bnL s = bnL t) : s = t := by
  have hl : s.length = t.length := by have := congrArg List.length h; simpa [bnL] using this
  refine List.ext_getElem hl fun i h1 h2 => ?_
  have h3 : lv (bnL s) i = lv (bnL t) i := by rw [h]
  rw [bnL_lv, bnL_lv] at h3
  have g1 : soB s i = s[i] := by unfold soB; simp [h1]
  have g2 : soB t i = t[i] := by unfold soB; simp [h2]
  rw [g1, g2] at h3
  cases hs : s[i] <;> cases ht : t[i] <;> simp [hs, ht] at h3 <;> rfl
def sweepsS (K : List Lnk) (f : Nat) : Nat → List Bool → List Bool
  | 0, s => s
  | m + 1, s => sweepS K f (sweepsS K f m s)
theorem sweeps_len {K : List Lnk} {f n : Nat} (hK : ∀ k ∈ K, k.to < n) {s : List Bool} (hl : s.length = n) : ∀ m, (sweepsS K f m s).length = n
  | 0 => hl
  | m + 1 => (fold_lead hK K _ (fun _ h => h) (sweeps_len hK hl m)).1
theorem sweeps_fix {K : List Lnk} {f n : Nat} (hK : ∀ k ∈ K, k.to < n) {s : List Bool} (hl : s.length = n) : ∀ m, sweepS K f (sweepsS K f m s) = sweepsS K f m s ∨ m ≤ sumL (bnL (sweepsS K f m s))
  | 0 => .inr (Nat.zero_le _)
  | m + 1 => by
    by_cases he : sweepS K f (sweepsS K f m s) = sweepsS K f m s
    · exact .inl (by show sweepS K f (sweepS K f (sweepsS K f m s)) = sweepS K f (sweepsS K f m s); rw [he, he])
    · rcases sweeps_fix (f := f) hK hl m with h | h
      · exact absurd h he
      · right
        have h1 := sweeps_len (f := f) hK hl m
        have h2 := fold_lead (f := f) hK K (sweepsS K f m s) (fun _ h => h) h1
        have h3 := (sumL_le (m := bnL (sweepsS K f m s)) (x := bnL (sweepS K f (sweepsS K f m s))) (by simp [bnL]; rw [h1]; exact h2.1.symm) fun i => by
          rw [bnL_lv, bnL_lv]
          cases hb : soB (sweepsS K f m s) i with
          | false => simp
          | true => rw [show soB (sweepS K f (sweepsS K f m s)) i = true from h2.2.1 i hb]; exact Nat.le_refl _).2 fun e => he (bnL_inj e).symm
        show m + 1 ≤ sumL (bnL (sweepS K f (sweepsS K f m s)))
        omega
/-- After so many sweeps as there are predicates, and one: all that it leads to, and nothing else. -/
theorem sweeps_led {K : List Lnk} {f n : Nat} (hK : ∀ k ∈ K, k.to < n) (j : Nat) : soB (sweepsS K f (n + 1) (List.replicate n false)) j = true ↔ Led K f j := by
  have hl : (List.replicate n false).length = n := by simp
  have h1 := sweeps_len (f := f) hK hl (n + 1)
  constructor
  · have : ∀ m, ∀ j, soB (sweepsS K f m (List.replicate n false)) j = true → Led K f j := by
      intro m
      induction m with
      | zero =>
        intro j hj
        have h0 : soB (List.replicate n false) j = false := by
          unfold soB
          rw [List.getD_eq_getElem?_getD, List.getElem?_replicate]
          split <;> rfl
        exact absurd (show soB (List.replicate n false) j = true from hj) (by rw [h0]; simp)
      | succ m ih => exact (fold_lead (f := f) hK K _ (fun _ h => h) (sweeps_len (f := f) hK hl m)).2.2.1 ih
    exact this _ j
  · intro hj
    have hfix : sweepS K f (sweepsS K f (n + 1) (List.replicate n false)) = sweepsS K f (n + 1) (List.replicate n false) := by
      rcases sweeps_fix (f := f) hK hl (n + 1) with h | h
      · exact h
      · have h2 := sumL_bound (m := bnL (sweepsS K f (n + 1) (List.replicate n false))) (n := 1) fun i _ => by rw [bnL_lv]; split <;> omega
        have h3 : (bnL (sweepsS K f (n + 1) (List.replicate n false))).length = n := by simp [bnL, h1]
        rw [h3] at h2
        omega
    exact led_closed ((fold_lead (f := f) hK K _ (fun _ h => h) h1).2.2.2 hfix) hj
end
end Go.Proofs.Ytadbdmnngmlnhaa
