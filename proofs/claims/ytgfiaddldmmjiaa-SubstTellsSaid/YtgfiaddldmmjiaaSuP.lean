/-
  Layer 2: what is composed, as a sorted list.
-/
import Derived.Test.YtgfiaddldmmjiaaSuO
namespace Go.Proofs.Ytgfiaddldmmjiaa
open Go Go.RowKit

theorem compTo_some {a b : List Bnd} : ∀ {n : Nat}, (∀ v : Nat, v < n → ∃ l, stepC a b v = some l) → ∃ R, compTo a b n = some R
  | 0, _ => ⟨[], rfl⟩
  | n + 1, h => by
    obtain ⟨R, hR⟩ := compTo_some (n := n) fun v hv => h v (by omega)
    obtain ⟨l, hl⟩ := h n (by omega)
    exact ⟨R ++ l, by rw [compTo_succ, hR, hl]; rfl⟩
theorem stepC_var {a b : List Bnd} {v : Int} {l : List Bnd} (h : stepC a b v = some l) : l.length ≤ 1 ∧ ∀ x ∈ l, x.var = v := by
  have hk : ∀ t, (keptV v t).length ≤ 1 ∧ ∀ x ∈ keptV v t, x.var = v := fun t => ⟨keptV_len v t, fun x hx => by
    unfold keptV at hx
    split at hx
    · simp at hx
    · simp at hx; rw [hx]⟩
  unfold stepC at h
  split at h
  · obtain ⟨t, -, rfl⟩ := Option.map_eq_some_iff.1 h
    exact hk t
  · split at h
    · simp only [Option.some.injEq] at h; subst h; exact hk _
    · simp only [Option.some.injEq] at h; subst h; simp
theorem compTo_mem {a b : List Bnd} : ∀ {n : Nat} {R : List Bnd}, compTo a b n = some R → (∀ x, x ∈ R ↔ ∃ v : Nat, v < n ∧ ∃ l, stepC a b v = some l ∧ x ∈ l) ∧ R.Pairwise (fun x y => x.var < y.var) ∧ ∀ x ∈ R, x.var < n
  | 0, R, h => by
    obtain rfl : [] = R := by simpa [compTo] using h
    exact ⟨fun x => by simp, List.Pairwise.nil, fun x hx => by simp at hx⟩
  | n + 1, R, h => by
    rw [compTo_succ] at h
    obtain ⟨R', h1, h2⟩ := Option.bind_eq_some_iff.1 h
    obtain ⟨l, h3, rfl⟩ := Option.map_eq_some_iff.1 h2
    obtain ⟨m1, m2, m3⟩ := compTo_mem h1
    obtain ⟨s1, s2⟩ := stepC_var h3
    refine ⟨fun x => ?_, ?_, fun x hx => ?_⟩
    · rw [List.mem_append, m1]
      constructor
      · rintro (⟨v, hv, h⟩ | h)
        · exact ⟨v, by omega, h⟩
        · exact ⟨n, by omega, l, h3, h⟩
      · rintro ⟨v, hv, l', hl', hx⟩
        by_cases e : v = n
        · subst e; rw [h3] at hl'; cases hl'; exact .inr hx
        · exact .inl ⟨v, by omega, l', hl', hx⟩
    · rw [List.pairwise_append]
      refine ⟨m2, ?_, fun x hx y hy => ?_⟩
      · match l, s1 with
        | [], _ => exact List.Pairwise.nil
        | [_], _ => exact List.pairwise_singleton _ _
      · rw [s2 y hy]; exact m3 x hx
    · rcases List.mem_append.1 hx with hx | hx
      · have := m3 x hx; omega
      · rw [s2 x hx]; omega

theorem sorted_eq : ∀ {l m : List Bnd}, l.Pairwise (fun x y => x.var < y.var) → m.Pairwise (fun x y => x.var < y.var) → (∀ x, x ∈ l ↔ x ∈ m) → l = m
  | [], [], _, _, _ => rfl
  | [], y :: m, _, _, h => by have := (h y).2 (by simp); simp at this
  | x :: l, [], _, _, h => by have := (h x).1 (by simp); simp at this
  | x :: l, y :: m, h1, h2, h => by
    rw [List.pairwise_cons] at h1 h2
    have e : x = y := by
      rcases List.mem_cons.1 ((h x).1 (by simp)) with e | hx
      · exact e
      · rcases List.mem_cons.1 ((h y).2 (by simp)) with e | hy
        · exact e.symm
        · have := h1.1 y hy; have := h2.1 x hx; omega
    subst e
    rw [sorted_eq h1.2 h2.2 fun z => ⟨fun hz => ?_, fun hz => ?_⟩]
    · rcases List.mem_cons.1 ((h z).1 (by simp [hz])) with e | hz'
      · subst e; have := h1.1 z hz; omega
      · exact hz'
    · rcases List.mem_cons.1 ((h z).2 (by simp [hz])) with e | hz'
      · subst e; have := h2.1 z hz; omega
      · exact hz'

/-! ### What the program makes -/
/-- How far the first loop has come. -/
def FstM (a b : List Bnd) (k : Nat) (L : List Bnd) : Prop := L.length = k ∧ ∀ i, i < k → ∃ x t, a[i]? = some x ∧ L[i]? = some ⟨x.var, t⟩ ∧ appO b x.t = some t
theorem fstM_nil (a b : List Bnd) : FstM a b 0 [] := ⟨rfl, fun i h => by omega⟩
theorem fstM_snoc {a b : List Bnd} {k : Nat} {L : List Bnd} (h : FstM a b k L) (hk : k < a.length) {t : List Cell} (ht : appO b a[k].t = some t) : FstM a b (k + 1) (L ++ [⟨a[k].var, t⟩]) := by
  refine ⟨by rw [List.length_append, h.1]; rfl, fun i hi => ?_⟩
  by_cases e : i = k
  · subst e
    exact ⟨a[i], t, List.getElem?_eq_getElem hk, by rw [List.getElem?_append_right (by rw [h.1]; omega), h.1]; simp, ht⟩
  · obtain ⟨x, t', h1, h2, h3⟩ := h.2 i (by omega)
    exact ⟨x, t', h1, by rw [List.getElem?_append_left (by rw [h.1]; omega)]; exact h2, h3⟩
/-- What the second loop adds. -/
def restB (a b : List Bnd) : List Bnd := fltL (fun x => (bindS a x.var).isNone) b

theorem bindS_of_mem {a : List Bnd} (hne : VarsNe a) {x : Bnd} (hx : x ∈ a) : bindS a x.var = some x.t := by
  obtain ⟨k, hk, rfl⟩ := List.mem_iff_getElem.1 hx
  refine (placeS_at hk rfl fun i hi hlt e => ?_).2
  exact List.pairwise_iff_getElem.1 hne i k hi hk hlt e

/-- It is what the document says. -/
theorem compose_law {a b L l' : List Bnd} (ha : VarsNe a) (hb : VarsNe b) (hva : ∀ x ∈ a, 0 ≤ x.var ∧ x.var ≤ 999) (hvb : ∀ x ∈ b, 0 ≤ x.var ∧ x.var ≤ 999) (hL : FstM a b a.length L)
    (hp : l'.Perm (keptL (L ++ restB a b))) (hs : l'.Pairwise fun x y => x.var ≤ y.var) : composeL a b = some l' := by
  have hLm : ∀ x, x ∈ L ↔ ∃ y ∈ a, x.var = y.var ∧ appO b y.t = some x.t := fun x => by
    constructor
    · intro hx
      obtain ⟨i, hi, rfl⟩ := List.mem_iff_getElem.1 hx
      obtain ⟨y, t, h1, h2, h3⟩ := hL.2 i (by rw [← hL.1]; exact hi)
      rw [List.getElem?_eq_getElem hi] at h2
      simp only [Option.some.injEq] at h2
      exact ⟨y, List.mem_of_getElem? h1, by rw [h2], by rw [h2]; exact h3⟩
    · rintro ⟨y, hy, h1, h2⟩
      obtain ⟨i, hi, rfl⟩ := List.mem_iff_getElem.1 hy
      obtain ⟨y', t, h3, h4, h5⟩ := hL.2 i hi
      rw [List.getElem?_eq_getElem hi] at h3
      cases h3
      rw [h2] at h5; cases h5
      have e : x = ⟨a[i].var, x.t⟩ := by cases x; simp only [Bnd.mk.injEq, and_true]; exact h1
      rw [e]
      exact List.mem_of_getElem? h4
  have hLd : (L.map (·.var)) = a.map (·.var) := by
    apply List.ext_getElem?
    intro i
    rw [List.getElem?_map, List.getElem?_map]
    by_cases hi : i < a.length
    · obtain ⟨y, t, h1, h2, -⟩ := hL.2 i hi
      rw [h1, h2]; rfl
    · rw [List.getElem?_eq_none (by rw [hL.1]; omega), List.getElem?_eq_none (by omega)]
  have hRm : ∀ x, x ∈ restB a b ↔ x ∈ b ∧ bindS a x.var = none := fun x => by
    unfold restB fltL
    rw [List.mem_filter, Option.isNone_iff_eq_none]
  have hst : ∀ v : Nat, v < 1000 → ∃ l, stepC a b v = some l := fun v _ => by
    cases hba : bindS a v with
    | some ta =>
      obtain ⟨y, hy, -, rfl⟩ := bindS_mem hba
      obtain ⟨i, hi, rfl⟩ := List.mem_iff_getElem.1 hy
      obtain ⟨y', t, h3, -, h5⟩ := hL.2 i hi
      rw [List.getElem?_eq_getElem hi] at h3
      cases h3
      exact ⟨_, by rw [stepC_a hba, h5]; rfl⟩
    | none =>
      cases hbb : bindS b v with
      | some tb => exact ⟨_, stepC_b hba hbb⟩
      | none => exact ⟨_, stepC_n hba hbb⟩
  obtain ⟨R, hR⟩ := compTo_some hst
  obtain ⟨m1, m2, m3⟩ := compTo_mem hR
  refine hR.trans (congrArg some ?_)
  have hvn : (L ++ restB a b).Pairwise fun x y => x.var ≠ y.var := by
    rw [List.pairwise_append]
    refine ⟨?_, List.Pairwise.sublist List.filter_sublist hb, fun x hx y hy => ?_⟩
    · have h1 : (a.map (·.var)).Pairwise (· ≠ ·) := List.pairwise_map.2 ha
      rw [← hLd] at h1
      exact List.pairwise_map.1 h1
    · obtain ⟨z, hz, e, -⟩ := (hLm x).1 hx
      intro e2
      have h1 := bindS_of_mem ha hz
      rw [← e, e2, ((hRm y).1 hy).2] at h1
      cases h1
  have hvl : l'.Pairwise fun x y => x.var ≠ y.var := (hp.pairwise_iff (fun {x y} (h : x.var ≠ y.var) => Ne.symm h)).2 (List.Pairwise.sublist List.filter_sublist hvn)
  refine sorted_eq m2 ((hs.and hvl).imp fun h => by obtain ⟨h1, h2⟩ := h; omega) fun x => ?_
  rw [m1, hp.mem_iff]
  unfold keptL
  rw [List.mem_filter, List.mem_append, hLm, hRm]
  have hkv : ∀ (v : Int) t, x ∈ keptV v t ↔ x.var = v ∧ x.t = t ∧ ownB x = false := fun v t => by
    unfold keptV ownB
    split
    · rename_i h
      constructor
      · intro h; simp at h
      · rintro ⟨rfl, rfl, h2⟩; rw [h] at h2; cases h2
    · rename_i h
      rw [List.mem_singleton]
      constructor
      · rintro rfl; exact ⟨rfl, rfl, by simpa using h⟩
      · rintro ⟨rfl, rfl, -⟩; rfl
  constructor
  · rintro ⟨v, hv, l, hl, hx⟩
    cases hba : bindS a v with
    | some ta =>
      rw [stepC_a hba] at hl
      obtain ⟨t, ht, rfl⟩ := Option.map_eq_some_iff.1 hl
      obtain ⟨e1, rfl, e3⟩ := (hkv _ _).1 hx
      obtain ⟨y, hy, e4, rfl⟩ := bindS_mem hba
      exact ⟨.inl ⟨y, hy, by rw [e1, e4], ht⟩, by rw [e3]; rfl⟩
    | none =>
      cases hbb : bindS b v with
      | some tb =>
        rw [stepC_b hba hbb] at hl
        cases hl
        obtain ⟨e1, rfl, e3⟩ := (hkv _ _).1 hx
        obtain ⟨y, hy, e4, e5⟩ := bindS_mem hbb
        have e : y = x := bnd_eq.2 ⟨e4.trans e1.symm, e5⟩
        subst e
        exact ⟨.inr ⟨hy, by rw [e1]; exact hba⟩, by rw [e3]; rfl⟩
      | none =>
        rw [stepC_n hba hbb] at hl
        cases hl; simp at hx
  · rintro ⟨h, ho⟩
    have ho' : ownB x = false := by simpa using ho
    rcases h with ⟨y, hy, e1, e2⟩ | ⟨hxb, e1⟩
    · obtain ⟨v1, v2⟩ := hva y hy
      have hba : bindS a ((x.var.toNat : Nat) : Int) = some y.t := by rw [show ((x.var.toNat : Nat) : Int) = y.var by omega]; exact bindS_of_mem ha hy
      exact ⟨x.var.toNat, by omega, _, by rw [stepC_a hba, e2]; rfl, (hkv _ _).2 ⟨by omega, rfl, ho'⟩⟩
    · obtain ⟨v1, v2⟩ := hvb x hxb
      have e0 : ((x.var.toNat : Nat) : Int) = x.var := by omega
      exact ⟨x.var.toNat, by omega, _, stepC_b (by rw [e0]; exact e1) (by rw [e0]; exact bindS_of_mem hb hxb), (hkv _ _).2 ⟨by omega, rfl, ho'⟩⟩

theorem compose_none {a b : List Bnd} (ha : VarsNe a) {x : Bnd} (hx : x ∈ a) (hv : 0 ≤ x.var ∧ x.var ≤ 999) (h : appO b x.t = none) : composeL a b = none := by
  have e0 : ((x.var.toNat : Nat) : Int) = x.var := by omega
  have hs : stepC a b (x.var.toNat : Nat) = none := by rw [stepC_a (by rw [e0]; exact bindS_of_mem ha hx), h]; rfl
  refine compTo_none (v := x.var.toNat + 1) ?_ (by omega)
  rw [compTo_succ, hs]
  cases compTo a b x.var.toNat <;> rfl
end Go.Proofs.Ytgfiaddldmmjiaa
