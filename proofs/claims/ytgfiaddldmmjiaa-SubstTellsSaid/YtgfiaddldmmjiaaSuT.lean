/-
  Layer 2: the plain laws of substitution.
-/
import Derived.Test.YtgfiaddldmmjiaaSuP
namespace Go.Proofs.Ytgfiaddldmmjiaa
open Go Go.RowKit

def vT (n : Int) : Cell := ⟨1, ⟨#[]⟩, n⟩
/-! ### Right terms, right bindings -/
theorem endC_cells : ∀ {l : List Cell} {k m : Nat}, endC k l = some m → ∀ c ∈ l.take m, cellOK c = true
  | l, 0, m, h => by rw [endC_zero] at h; simp at h; subst h; simp
  | [], k + 1, m, h => by simp [endC] at h
  | c :: l, k + 1, m, h => by
    rw [endC_succ] at h
    split at h
    · rename_i hc
      obtain ⟨m', h1, rfl⟩ := Option.map_eq_some_iff.1 h
      intro x hx
      rw [List.take_succ_cons, List.mem_cons] at hx
      rcases hx with rfl | hx
      · exact hc
      · exact endC_cells h1 x hx
    · cases h
theorem RightT.cells {t : List Cell} (h : RightT t) : ∀ c ∈ t, cellOK c = true := fun c hc => endC_cells h.2 c (by rw [List.take_length]; exact hc)
theorem cell_var {c : Cell} (h : cellOK c = true) (hk : c.kind = 1) : c = vT c.n := by
  unfold cellOK at h
  rw [if_pos hk] at h
  simp only [Bool.and_eq_true, decide_eq_true_eq] at h
  obtain ⟨k, nm, n⟩ := c
  have hn : nm = ⟨#[]⟩ := by
    obtain ⟨d⟩ := nm
    have : d.size = 0 := h.1.1
    rw [Array.eq_empty_of_size_eq_zero this]
  subst hn
  have hk' : k = 1 := hk
  subst hk'
  rfl
theorem vT_ok {n : Int} (h : 0 ≤ n ∧ n ≤ 999) : cellOK (vT n) = true := by
  unfold cellOK vT
  rw [if_pos rfl, decide_eq_true h.1, decide_eq_true h.2]; rfl
theorem vT_right {n : Int} (h : 0 ≤ n ∧ n ≤ 999) : RightT [vT n] := by
  refine ⟨by simp, ?_⟩
  rw [endC_one, if_pos (vT_ok h)]
  rfl
theorem cell_n {c : Cell} (h : cellOK c = true) (hk : c.kind = 1) : 0 ≤ c.n ∧ c.n ≤ 999 := by
  unfold cellOK at h
  rw [if_pos hk] at h
  simp only [Bool.and_eq_true, decide_eq_true_eq] at h
  exact ⟨h.1.2, h.2⟩
/-- Right bindings. -/
structure RightS (s : List Bnd) : Prop where
  inc : s.Pairwise fun a b => a.var < b.var
  var : ∀ x ∈ s, 0 ≤ x.var ∧ x.var ≤ 999
  term : ∀ x ∈ s, RightT x.t
  own : ∀ x ∈ s, ownB x = false
theorem rightAt_iff : ∀ {s : List Bnd} {last : Int}, -1 ≤ last → (rightAt last s = true ↔ RightS s ∧ ∀ x ∈ s, last < x.var)
  | [], last, _ => ⟨fun _ => ⟨⟨List.Pairwise.nil, by simp, by simp, by simp⟩, by simp⟩, fun _ => rfl⟩
  | b :: s, last, hl => by
    have hc : rightAt last (b :: s) = (okS last b && rightAt b.var s) := rfl
    have ho : okS last b = true ↔ last < b.var ∧ b.var ≤ 999 ∧ RightT b.t ∧ ownB b = false := by
      unfold okS ownB rightT
      simp only [Bool.and_eq_true, decide_eq_true_eq, Bool.not_eq_true']
      constructor
      · rintro ⟨⟨⟨h1, h2⟩, h3⟩, h4⟩; exact ⟨h1, h2, h3, h4⟩
      · rintro ⟨h1, h2, h3, h4⟩; exact ⟨⟨⟨h1, h2⟩, h3⟩, h4⟩
    rw [hc, Bool.and_eq_true, ho]
    constructor
    · rintro ⟨⟨h1, h2, h3, h4⟩, h5⟩
      obtain ⟨r, hr⟩ := (rightAt_iff (by omega)).1 h5
      refine ⟨⟨List.pairwise_cons.2 ⟨hr, r.inc⟩, ?_, ?_, ?_⟩, ?_⟩ <;> intro x hx <;> rcases List.mem_cons.1 hx with rfl | hx
      · exact ⟨by omega, h2⟩
      · exact r.var x hx
      · exact h3
      · exact r.term x hx
      · exact h4
      · exact r.own x hx
      · exact h1
      · have := hr x hx; omega
    · rintro ⟨r, hr⟩
      have hv := r.var b (by simp)
      have hi := List.pairwise_cons.1 r.inc
      refine ⟨⟨hr b (by simp), hv.2, r.term b (by simp), r.own b (by simp)⟩, (rightAt_iff (by omega)).2 ⟨⟨hi.2, fun x hx => r.var x (by simp [hx]), fun x hx => r.term x (by simp [hx]), fun x hx => r.own x (by simp [hx])⟩, hi.1⟩⟩
theorem rightS_iff {s : List Bnd} : rightS s = true ↔ RightS s := by
  unfold rightS
  rw [rightAt_iff (Int.le_refl _)]
  exact ⟨fun h => h.1, fun h => ⟨h, fun x hx => by have := h.var x hx; omega⟩⟩
theorem RightS.ne {s : List Bnd} (h : RightS s) : VarsNe s := h.inc.imp fun h => by omega
theorem RightS.bind {s : List Bnd} (h : RightS s) {n : Int} {t : List Cell} (hb : bindS s n = some t) : RightT t ∧ isV n t = false ∧ 0 ≤ n ∧ n ≤ 999 := by
  obtain ⟨b, hb1, rfl, rfl⟩ := bindS_mem hb
  exact ⟨h.term b hb1, h.own b hb1, h.var b hb1⟩
theorem bindS_in {s : List Bnd} (h : RightS s) {x : Bnd} (hx : x ∈ s) : bindS s x.var = some x.t := bindS_of_mem h.ne hx
/-- Equal look-ups, equal bindings. -/
theorem bind_ext {s u : List Bnd} (hs : RightS s) (hu : RightS u) (h : ∀ n, 0 ≤ n → n ≤ 999 → bindS s n = bindS u n) : s = u := by
  refine sorted_eq hs.inc hu.inc fun x => ⟨fun hx => ?_, fun hx => ?_⟩
  · have hv := hs.var x hx
    have h1 := bindS_in hs hx
    rw [h _ hv.1 hv.2] at h1
    obtain ⟨b, hb1, hb2, hb3⟩ := bindS_mem h1
    rwa [show x = b from (bnd_eq.2 ⟨hb2, hb3⟩).symm]
  · have hv := hu.var x hx
    have h1 := bindS_in hu hx
    rw [← h _ hv.1 hv.2] at h1
    obtain ⟨b, hb1, hb2, hb3⟩ := bindS_mem h1
    rwa [show x = b from (bnd_eq.2 ⟨hb2, hb3⟩).symm]

/-! ### Putting in -/
theorem putT_cons (s : List Bnd) (c : Cell) (t : List Cell) : putT s (c :: t) = lookS s c ++ putT s t := rfl
theorem putT_app (s : List Bnd) (t u : List Cell) : putT s (t ++ u) = putT s t ++ putT s u := by unfold putT; rw [List.flatMap_append]
theorem putT_nil (t : List Cell) : putT [] t = t := by
  induction t with
  | nil => rfl
  | cons c t ih =>
    rw [putT_cons, ih]
    have : lookS [] c = [c] := lookS_free (.inr (by simp [bindS]))
    rw [this]; rfl
theorem lookS_pos {s : List Bnd} (hs : RightS s) (c : Cell) : 1 ≤ (lookS s c).length := by
  by_cases hk : c.kind = 1
  · cases hb : bindS s c.n with
    | some t => rw [lookS_bound hk hb]; exact (hs.bind hb).1.pos
    | none => rw [lookS_free (.inr hb)]; simp
  · rw [lookS_free (.inl hk)]; simp
theorem putT_ge {s : List Bnd} (hs : RightS s) (t : List Cell) : t.length ≤ (putT s t).length := by
  induction t with
  | nil => simp
  | cons c t ih =>
    have := lookS_pos hs c
    rw [putT_cons, List.length_append, List.length_cons]; omega
theorem putT_fix {s : List Bnd} (hs : RightS s) : ∀ {t : List Cell}, putT s t = t → ∀ c ∈ t, lookS s c = [c]
  | [], _ => by simp
  | c :: t, h => by
    rw [putT_cons] at h
    have h1 := lookS_pos hs c
    have h2 := putT_ge hs t
    have h3 := congrArg List.length h
    rw [List.length_append, List.length_cons] at h3
    have h4 : (lookS s c).length = 1 := by omega
    have h5 : lookS s c = [c] ∧ putT s t = t := by
      obtain ⟨d, hd⟩ := List.length_eq_one_iff.1 h4
      rw [hd] at h ⊢
      simp only [List.cons_append, List.nil_append, List.cons.injEq] at h
      exact ⟨by rw [h.1], h.2⟩
    intro x hx
    rcases List.mem_cons.1 hx with rfl | hx
    · exact h5.1
    · exact putT_fix hs h5.2 x hx
/-- Terms stay terms. -/
theorem endC_put {s : List Bnd} (hs : RightS s) : ∀ {l : List Cell} {k m : Nat}, endC k l = some m → endC k (putT s l) = some (putT s (l.take m)).length
  | l, 0, m, h => by rw [endC_zero] at h ⊢; simp at h; subst h; rfl
  | [], k + 1, m, h => by simp [endC] at h
  | c :: l, k + 1, m, h => by
    rw [endC_succ] at h
    split at h
    · rename_i hc
      obtain ⟨m', h1, rfl⟩ := Option.map_eq_some_iff.1 h
      have ih := endC_put hs h1
      rw [putT_cons, List.take_succ_cons, putT_cons]
      by_cases hk : c.kind = 1
      · have ha : arity c = 0 := by unfold arity; rw [if_neg (by omega)]
        rw [ha, Nat.add_zero] at ih
        cases hb : bindS s c.n with
        | some tb =>
          rw [lookS_bound hk hb]
          have hr := (hs.bind hb).1
          have h2 : endC 1 (tb ++ putT s l) = some tb.length := by
            have := endC_append hr.2 (putT s l)
            rwa [List.take_length] at this
          rw [Nat.add_comm k 1, endC_add, h2, Option.bind_some, List.drop_left' rfl, ih]
          simp
        | none =>
          rw [lookS_free (.inr hb)]
          show endC (k + 1) (c :: putT s l) = _
          rw [endC_succ, if_pos hc, ha, Nat.add_zero, ih]
          simp [Nat.add_comm]
      · rw [lookS_free (.inl hk)]
        show endC (k + 1) (c :: putT s l) = _
        rw [endC_succ, if_pos hc, ih]
        simp [Nat.add_comm]
    · cases h
theorem put_right {s : List Bnd} (hs : RightS s) {t : List Cell} (ht : RightT t) (hl : (putT s t).length ≤ 200) : RightT (putT s t) := by
  refine ⟨hl, ?_⟩
  have := endC_put hs ht.2
  rwa [List.take_length] at this
theorem appO_some {s : List Bnd} {t x : List Cell} (h : appO s t = some x) : x = putT s t ∧ (putT s t).length ≤ 200 := by
  unfold appO at h
  split at h
  · simp only [Option.some.injEq] at h; exact ⟨h.symm, by assumption⟩
  · cases h
theorem appO_none {s : List Bnd} {t : List Cell} : appO s t = none ↔ 200 < (putT s t).length := by
  unfold appO
  split
  · simp; assumption
  · simp; omega
theorem appO_yes {s : List Bnd} {t : List Cell} (h : (putT s t).length ≤ 200) : appO s t = some (putT s t) := if_pos h
theorem isV_var {n : Int} {t : List Cell} (ht : RightT t) (h : isV n t = true) : t = [vT n] := by
  match t, h with
  | [c], h =>
    rw [isV_one] at h
    simp only [Bool.and_eq_true, decide_eq_true_eq] at h
    have := cell_var (ht.cells c (by simp)) h.1
    rw [h.2] at this
    rw [this]

/-! ### Composing -/
/-- What a composed binding finds. -/
theorem comp_bind {a b c : List Bnd} (ha : RightS a) (hb : RightS b) (h : composeL a b = some c) : RightS c ∧ ∀ n, 0 ≤ n → n ≤ 999 → putT b (lookS a (vT n)) = lookS c (vT n) := by
  obtain ⟨m1, m2, m3⟩ := compTo_mem h
  have hst : ∀ n : Nat, n < 1000 → ∃ l, stepC a b n = some l := fun n hn => by
    cases hs : stepC a b n with
    | some l => exact ⟨l, rfl⟩
    | none =>
      exfalso
      have : compTo a b (n + 1) = none := by rw [compTo_succ, hs]; cases compTo a b n <;> rfl
      have h2 := compTo_none this (show n + 1 ≤ 1000 by omega)
      have h3 : compTo a b 1000 = some c := h
      rw [h2] at h3; cases h3
  have hr : ∀ n : Int, ∀ l, stepC a b n = some l → ∀ x ∈ l, x.var = n ∧ RightT x.t ∧ ownB x = false ∧ putT b (lookS a (vT n)) = x.t := fun n l hl x hx => by
    have hkv : ∀ t, RightT t → putT b (lookS a (vT n)) = t → x ∈ keptV n t → x.var = n ∧ RightT x.t ∧ ownB x = false ∧ putT b (lookS a (vT n)) = x.t := fun t ht he hx => by
      unfold keptV at hx
      split at hx
      · simp at hx
      · rename_i hv
        rw [List.mem_singleton] at hx
        subst hx
        exact ⟨rfl, ht, by simpa [ownB] using hv, he⟩
    cases hba : bindS a n with
    | some ta =>
      rw [stepC_a hba] at hl
      obtain ⟨t, ht, rfl⟩ := Option.map_eq_some_iff.1 hl
      obtain ⟨rfl, hle⟩ := appO_some ht
      exact hkv _ (put_right hb (ha.bind hba).1 hle) (by rw [lookS_bound rfl hba]) hx
    | none =>
      cases hbb : bindS b n with
      | some tb =>
        rw [stepC_b hba hbb] at hl
        cases hl
        refine hkv _ (hb.bind hbb).1 ?_ hx
        rw [lookS_free (.inr hba), putT_cons, lookS_bound rfl hbb]
        show tb ++ [] = tb
        simp
      | none =>
        rw [stepC_n hba hbb] at hl
        cases hl; simp at hx
  have hc : RightS c := by
    refine ⟨m2, ?_, ?_, ?_⟩ <;> intro x hx <;> obtain ⟨v, hv, l, hl, hxl⟩ := (m1 x).1 hx <;> obtain ⟨h1, h2, h3, -⟩ := hr _ l hl x hxl
    · omega
    · exact h2
    · exact h3
  refine ⟨hc, fun n hn0 hn9 => ?_⟩
  obtain ⟨l, hl⟩ := hst n.toNat (by omega)
  have en : ((n.toNat : Nat) : Int) = n := by omega
  rw [en] at hl
  -- nothing kept: it is the variable itself
  have hown : ∀ t, RightT t → putT b (lookS a (vT n)) = t → l = keptV n t → putT b (lookS a (vT n)) = lookS c (vT n) := fun t ht he hk => by
    by_cases hv : isV n t = true
    · have h0 : bindS c n = none := by
        cases hbc : bindS c n with
        | none => rfl
        | some u =>
          exfalso
          obtain ⟨x, hx, hxv, -⟩ := bindS_mem hbc
          obtain ⟨v, hv2, l', hl', hxl⟩ := (m1 x).1 hx
          obtain ⟨h1, -⟩ := hr _ l' hl' x hxl
          have e : (v : Int) = n := by rw [← hxv, h1]
          rw [e, hl] at hl'
          cases hl'
          rw [hk, keptV_yes hv] at hxl
          simp at hxl
      rw [he, lookS_free (s := c) (c := vT n) (.inr h0)]
      exact isV_var ht hv
    · have hin : (⟨n, t⟩ : Bnd) ∈ c := (m1 _).2 ⟨n.toNat, by omega, l, by rw [en]; exact hl, by rw [hk, keptV_no (by simpa using hv)]; simp⟩
      rw [he, lookS_bound (c := vT n) rfl (bindS_in hc hin)]
  cases hba : bindS a n with
  | some ta =>
    rw [stepC_a hba] at hl
    obtain ⟨t, ht, rfl⟩ := Option.map_eq_some_iff.1 hl
    obtain ⟨rfl, hle⟩ := appO_some ht
    exact hown _ (put_right hb (ha.bind hba).1 hle) (by rw [lookS_bound rfl hba]) rfl
  | none =>
    have he : putT b (lookS a (vT n)) = lookS b (vT n) := by
      rw [lookS_free (.inr hba), putT_cons]
      show lookS b (vT n) ++ [] = _
      simp
    cases hbb : bindS b n with
    | some tb =>
      rw [stepC_b hba hbb] at hl
      cases hl
      exact hown _ (hb.bind hbb).1 (by rw [he, lookS_bound rfl hbb]) rfl
    | none =>
      rw [stepC_n hba hbb] at hl
      cases hl
      exact hown [vT n] (vT_right ⟨hn0, hn9⟩) (by rw [he, lookS_free (.inr hbb)]) (by unfold keptV; simp [isV, vT])
/-- What is composed does what both do. -/
theorem comp_put {a b c : List Bnd} (ha : RightS a) (hb : RightS b) (h : composeL a b = some c) : ∀ {t : List Cell}, (∀ x ∈ t, cellOK x = true) → putT c t = putT b (putT a t)
  | [], _ => rfl
  | x :: t, ht => by
    rw [putT_cons, putT_cons, putT_app, comp_put ha hb h fun y hy => ht y (by simp [hy])]
    refine congrArg (fun z => z ++ putT b (putT a t)) ?_
    by_cases hk : x.kind = 1
    · have e := cell_var (ht x (by simp)) hk
      have hn := cell_n (ht x (by simp)) hk
      rw [e]
      exact ((comp_bind ha hb h).2 _ hn.1 hn.2).symm
    · rw [lookS_free (.inl hk), lookS_free (.inl hk), putT_cons, lookS_free (.inl hk)]; rfl
/-- Bindings that look up alike are alike. -/
theorem look_ext {s u : List Bnd} (hs : RightS s) (hu : RightS u) (h : ∀ n, 0 ≤ n → n ≤ 999 → lookS s (vT n) = lookS u (vT n)) : s = u := by
  have key : ∀ {s : List Bnd}, RightS s → ∀ n, bindS s n = if lookS s (vT n) = [vT n] then none else some (lookS s (vT n)) := fun {s} hs n => by
    cases hb : bindS s n with
    | none => rw [lookS_free (c := vT n) (.inr hb), if_pos rfl]
    | some t =>
      rw [lookS_bound (c := vT n) rfl hb, if_neg]
      intro e
      have := (hs.bind hb).2.1
      rw [e] at this
      simp [isV, vT] at this
  exact bind_ext hs hu fun n h0 h9 => by rw [key hs, key hu, h n h0 h9]
end Go.Proofs.Ytgfiaddldmmjiaa
