/-
  Layer 12, FactsFound in plain Lean: what a call finds are facts of the row; a fact as a call finds itself; a call with more put in finds no more.
-/
import Derived.Test.YtceipnlpofebmaaGreatMtR
namespace Go.Proofs.YtceipnlpofebmaaGreat
open Go

theorem substF_ground (σ : Int → List Cell) : ∀ {p : List Cell}, groundT p = true → substF σ p = p
  | [], _ => rfl
  | c :: p, h => by
    unfold groundT at h
    rw [List.all_cons, Bool.and_eq_true] at h
    have hk : c.kind ≠ 1 := by simpa using h.1
    rw [substF_cons, if_neg hk, substF_ground σ h.2]; rfl

theorem matchB_self {x y : List Cell} (hx : factT x = true) (hy : factT y = true) : matchB x y = decide (y = x) := by
  have h1 := (factT_parts hx).1
  have h2 := (factT_parts hy).1
  have hg := (factT_parts2 hx).2.1
  by_cases he : y = x
  · rw [decide_eq_true he]
    refine (matchB_iff h1 h2).2 ⟨fun _ => [aC], fun c hc hk => ?_, by rw [substF_ground _ hg, he]⟩
    unfold groundT at hg
    have := List.all_eq_true.1 hg c hc
    simp [hk] at this
  · rw [decide_eq_false he]
    cases hm : matchB x y with
    | false => rfl
    | true =>
      obtain ⟨σ, -, h⟩ := (matchB_iff h1 h2).1 hm
      rw [substF_ground _ hg] at h
      exact absurd h he

theorem findT_row {F : List (List Cell)} {c : List Cell} (hF : RowT F) : RowT (findT c F) :=
  ⟨List.Pairwise.sublist List.filter_sublist hF.sort, fun x hx => hF.fact x ((List.mem_filter.1 hx).1), Nat.le_trans (List.length_filter_le _ _) hF.len⟩

theorem mem_findT {F : List (List Cell)} {c x : List Cell} : x ∈ findT c F ↔ x ∈ F ∧ matchB c x = true := by
  unfold findT; rw [List.mem_filter]

theorem findT_self {F : List (List Cell)} {x : List Cell} (hF : RowT F) (hx : x ∈ F) : findT x F = [x] := by
  refine sortT_ext (findT_row hF).sort (by unfold SortT; simp) fun y => ?_
  rw [mem_findT, List.mem_singleton]
  constructor
  · rintro ⟨h1, h2⟩
    rw [matchB_self (hF.fact x hx) (hF.fact y h1)] at h2
    exact of_decide_eq_true h2
  · rintro rfl
    exact ⟨hx, by rw [matchB_self (hF.fact _ hx) (hF.fact _ hx)]; exact decide_eq_true rfl⟩

theorem substF_app (σ : Int → List Cell) (a b : List Cell) : substF σ (a ++ b) = substF σ a ++ substF σ b := by unfold substF; rw [List.flatMap_append]

theorem substF_put (σ : Int → List Cell) (s : List Bnd) : ∀ {c : List Cell}, (∀ d ∈ c, cellOK d = true) → substF σ (putT s c) = substF (fun n => substF σ (lookS s (vT n))) c
  | [], _ => rfl
  | d :: c, h => by
    rw [putT_cons, substF_app, substF_put σ s fun x hx => h x (List.mem_cons_of_mem _ hx), substF_cons]
    congr 1
    by_cases hk : d.kind = 1
    · rw [if_pos hk]
      have := cell_var (h d List.mem_cons_self) hk
      show substF σ (lookS s d) = substF σ (lookS s (vT d.n))
      rw [← this]
    · rw [if_neg hk, lookS_free (.inl hk), substF_cons, if_neg hk]; rfl

theorem substF_sub (σ : Int → List Cell) {a c : List Cell} {s : List Bnd} {d : Cell} (hd : d ∈ c) (ha : a = lookS s d) : (substF σ a).length ≤ (substF σ (putT s c)).length := by
  obtain ⟨l, r, rfl⟩ := List.append_of_mem hd
  rw [putT_app, putT_cons, substF_app, substF_app, ← ha]
  simp only [List.length_append]
  omega

theorem lookS_right {s : List Bnd} (hs : RightS s) {d : Cell} (hd : cellOK d = true) (hk : d.kind = 1) : RightT (lookS s d) := by
  cases hb : bindS s d.n with
  | none => rw [lookS_free (.inr hb), cell_var hd hk]; exact vT_right (cell_n hd hk)
  | some t => rw [lookS_bound hk hb]; exact (hs.bind hb).1

theorem mem_putT {s : List Bnd} {c : List Cell} {d x : Cell} (hd : d ∈ c) (hx : x ∈ lookS s d) : x ∈ putT s c := by
  unfold putT; exact List.mem_flatMap.2 ⟨d, hd, hx⟩

/-- What a call with bindings put in fits, the call itself fits. -/
theorem matchB_more {s : List Bnd} {c y : List Cell} (hs : RightS s) (hc : RightT c) (hl : (putT s c).length ≤ 200) (hy : RightT y) (h : matchB (putT s c) y = true) : matchB c y = true := by
  obtain ⟨σ, h1, h2⟩ := (matchB_iff (put_right hs hc hl) hy).1 h
  refine (matchB_iff hc hy).2 ⟨fun n => substF σ (lookS s (vT n)), fun d hd hk => ?_, by rw [← substF_put σ s hc.cells]; exact h2⟩
  have hv := cell_var (hc.cells d hd) hk
  show RightT (substF σ (lookS s (vT d.n)))
  rw [← hv]
  have hr := lookS_right hs (hc.cells d hd) hk
  refine ⟨?_, endC_substF σ (fun x hx hxk => h1 x (mem_putT hd hx) hxk) hr.2⟩
  have := substF_sub σ (s := s) hd rfl
  rw [← h2] at this
  have := hy.1
  omega

theorem findT_more {s : List Bnd} {c : List Cell} {F : List (List Cell)} (hs : RightS s) (hc : RightT c) (hl : (putT s c).length ≤ 200) (hF : RowT F) : ∀ y ∈ findT (putT s c) F, y ∈ findT c F := fun y hy => by
  rw [mem_findT] at hy ⊢
  exact ⟨hy.1, matchB_more hs hc hl (hF.right y hy.1) hy.2⟩

/-- Bindings of the variables below k. -/
def BndM (k : Nat) (s : List Bnd) : Prop := RightS s ∧ (∀ b ∈ s, b.var < (k : Int) ∧ b.t.length ≤ 6) ∧ s.length ≤ k
theorem bndM_nil : BndM 0 [] := ⟨⟨List.Pairwise.nil, by simp, by simp, by simp⟩, by simp, by simp⟩
theorem bndM_skip {k : Nat} {s : List Bnd} (h : BndM k s) : BndM (k + 1) s := ⟨h.1, fun b hb => ⟨by have := (h.2.1 b hb).1; omega, (h.2.1 b hb).2⟩, by have := h.2.2; omega⟩
theorem bndM_put {k : Nat} {s : List Bnd} {t : List Cell} (h : BndM k s) (hk : k < 6) (ht : RightT t) (hl : t.length ≤ 6) (hn : isV (k : Int) t = false) : BndM (k + 1) (s ++ [⟨(k : Int), t⟩]) := by
  refine ⟨⟨?_, ?_, ?_, ?_⟩, ?_, by have := h.2.2; simp; omega⟩
  · refine List.pairwise_append.2 ⟨h.1.inc, List.pairwise_singleton _ _, fun a ha b hb => ?_⟩
    rw [List.mem_singleton] at hb; subst hb
    exact (h.2.1 a ha).1
  all_goals intro x hx; rw [List.mem_append, List.mem_singleton] at hx
  · rcases hx with hx | rfl
    · exact h.1.var x hx
    · exact ⟨by show (0 : Int) ≤ (k : Int); omega, by show (k : Int) ≤ 999; omega⟩
  · rcases hx with hx | rfl
    · exact h.1.term x hx
    · exact ht
  · rcases hx with hx | rfl
    · exact h.1.own x hx
    · exact hn
  · rcases hx with hx | rfl
    · exact ⟨by have := (h.2.1 x hx).1; omega, (h.2.1 x hx).2⟩
    · exact ⟨by show (k : Int) < ((k + 1 : Nat) : Int); omega, hl⟩
end Go.Proofs.YtceipnlpofebmaaGreat
