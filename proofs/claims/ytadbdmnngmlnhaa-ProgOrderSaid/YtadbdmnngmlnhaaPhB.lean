/-
  Layer 7 in plain Lean: the order of clauses plays no part; more clauses; of which predicate each clause is.
-/
import Derived.Test.YtadbdmnngmlnhaaPgL
import Derived.Test.YtadbdmnngmlnhaaPgF
import Derived.Test.YtadbdmnngmlnhaaPgP
namespace Go.Proofs.Ytadbdmnngmlnhaa
open Go

theorem mem_allP {l : List Cls} {x : Prd} : x ∈ allP l ↔ ∃ c ∈ l, x = prT c.head ∨ ∃ b ∈ c.body, x = prT b.t := by
  unfold allP
  rw [List.mem_flatMap]
  constructor
  · rintro ⟨c, hc, hx⟩
    rcases List.mem_cons.1 hx with h | h
    · exact ⟨c, hc, .inl h⟩
    · obtain ⟨b, hb, rfl⟩ := List.mem_map.1 h
      exact ⟨c, hc, .inr ⟨b, hb, rfl⟩⟩
  · rintro ⟨c, hc, h | ⟨b, hb, h⟩⟩
    · exact ⟨c, hc, by rw [h]; exact List.mem_cons_self⟩
    · exact ⟨c, hc, by rw [h]; exact List.mem_cons_of_mem _ (List.mem_map.2 ⟨b, hb, rfl⟩)⟩
theorem mem_predsL {l : List Cls} {x : Prd} : x ∈ predsL l ↔ ∃ c ∈ l, x = prT c.head ∨ ∃ b ∈ c.body, x = prT b.t := by
  unfold predsL; rw [mem_setL cmpP_ok, mem_allP]
theorem predsL_srt (l : List Cls) : Srt cmpP (predsL l) := setL_srt cmpP_ok _
theorem predsL_ext {l m : List Cls} (h : ∀ c, c ∈ l ↔ c ∈ m) : predsL l = predsL m := setL_ext cmpP_ok fun x => by
  rw [mem_allP, mem_allP]; simp only [h]
theorem mem_linksL {l : List Cls} {x : Lnk} : x ∈ linksL l ↔ ∃ c ∈ l, ∃ b ∈ c.body, x = ⟨lowC cmpP (prT c.head) (predsL l), lowC cmpP (prT b.t) (predsL l), b.neg⟩ := by
  unfold linksL
  rw [mem_setL cmpK_ok]
  unfold allK
  rw [List.mem_flatMap]
  constructor
  · rintro ⟨c, hc, hx⟩
    obtain ⟨b, hb, rfl⟩ := List.mem_map.1 hx
    exact ⟨c, hc, b, hb, rfl⟩
  · rintro ⟨c, hc, b, hb, rfl⟩
    exact ⟨c, hc, List.mem_map.2 ⟨b, hb, rfl⟩⟩
theorem linksL_ext {l m : List Cls} (h : ∀ c, c ∈ l ↔ c ∈ m) : linksL l = linksL m := srt_ext cmpK_ok (setL_srt cmpK_ok _) (setL_srt cmpK_ok _) fun x => by
  show x ∈ linksL l ↔ x ∈ linksL m
  rw [mem_linksL, mem_linksL, predsL_ext h]; simp only [h]

/-! ### Turned about -/
def turnL (l : List Cls) (k : Nat) : List Cls := l.drop k ++ l.take k
theorem mem_turnL {l : List Cls} {k : Nat} (c : Cls) : c ∈ turnL l k ↔ c ∈ l := by
  unfold turnL
  rw [List.mem_append]
  constructor
  · rintro (h | h)
    · exact List.mem_of_mem_drop h
    · exact List.mem_of_mem_take h
  · intro h
    rw [← List.take_append_drop k l] at h
    rcases List.mem_append.1 h with h | h
    · exact .inr h
    · exact .inl h
theorem mem_turnL2 {l : List Cls} {k : Nat} (hl : 0 < l.length) (c : Cls) : c ∈ turnL l k ++ [l[0]] ↔ c ∈ l := by
  rw [List.mem_append, mem_turnL, List.mem_singleton]
  constructor
  · rintro (h | h)
    · exact h
    · rw [h]; exact List.getElem_mem _
  · exact .inl
theorem predsL_rise {l : List Cls} {i : Nat} (h : i + 1 < (predsL l).length) : cmpP (predsL l)[i] (predsL l)[i + 1] < 0 := List.pairwise_iff_getElem.1 (predsL_srt l) i (i + 1) (by omega) h (by omega)

/-! ### More clauses -/
theorem placeP_low {l : List Prd} (hs : Srt cmpP l) {p : Prd} (hp : p ∈ l) : placeP l p = (lowC cmpP p l : Int) := by
  obtain ⟨h1, h2⟩ := lowC_mem cmpP_ok hs hp
  refine placeP_at h1 h2 fun j x hj hx e => ?_
  have hjl : j < l.length := by omega
  rw [List.getElem?_eq_getElem hjl] at hx
  simp only [Option.some.injEq] at hx
  have h3 := lowC_at cmpP_ok hs hjl
  rw [hx, e] at h3
  omega
theorem predsL_sub {f m : List Cls} (h : ∀ c ∈ f, c ∈ m) {p : Prd} (hp : p ∈ predsL f) : p ∈ predsL m := by
  rw [mem_predsL] at *
  obtain ⟨c, hc, h1⟩ := hp
  exact ⟨c, h c hc, h1⟩
theorem more_link {f m : List Cls} (h : ∀ c ∈ f, c ∈ m) {x : Lnk} (hx : x ∈ linksL f) (h1 : x.fr < (predsL f).length) (h2 : x.2 < (predsL f).length) :
    (⟨lowC cmpP (predsL f)[x.fr] (predsL m), lowC cmpP (predsL f)[x.2] (predsL m), x.neg⟩ : Lnk) ∈ linksL m := by
  obtain ⟨c, hc, b, hb, rfl⟩ := mem_linksL.1 hx
  have g1 := lowC_mem cmpP_ok (predsL_srt f) (x := prT c.head) (mem_predsL.2 ⟨c, hc, .inl rfl⟩)
  have g2 := lowC_mem cmpP_ok (predsL_srt f) (x := prT b.t) (mem_predsL.2 ⟨c, hc, .inr ⟨b, hb, rfl⟩⟩)
  refine mem_linksL.2 ⟨c, h c hc, b, hb, ?_⟩
  obtain ⟨_, e1⟩ := g1
  obtain ⟨_, e2⟩ := g2
  simp only [e1, e2]
/-- The levels of more clauses, at the predicates of fewer. -/
def backL (a : List Nat) (q p : List Prd) : List Nat := q.map fun x => lv a (lowC cmpP x p)
theorem backL_lv {a : List Nat} {q p : List Prd} {i : Nat} (hi : i < q.length) : lv (backL a q p) i = lv a (lowC cmpP q[i] p) := by
  unfold backL
  rw [lv_get (by rw [List.length_map]; exact hi), List.getElem_map]
theorem more_sol {f m : List Cls} (h : ∀ c ∈ f, c ∈ m) {a : List Nat} (ha : Sol (linksL m) a) : Sol (linksL f) (backL a (predsL f) (predsL m)) := fun k hk => by
  obtain ⟨h1, h2⟩ := rngK_links k hk
  have h3 := ha _ (more_link h hk h1 h2)
  rw [backL_lv h1, backL_lv h2]
  exact h3
theorem more_lev {f m : List Cls} (h : ∀ c ∈ f, c ∈ m) {is it : Bool} {a b : List Nat} (ha : LevT (linksL m) (predsL m).length is a) (hb : LevT (linksL f) (predsL f).length it b) (his : is = true) :
    it = true ∧ a.length = (predsL m).length ∧ b.length = (predsL f).length ∧ ∀ (i : Nat) (hi : i < (predsL f).length), lv b i ≤ lv a (lowC cmpP (predsL f)[i] (predsL m)) := by
  subst his
  rcases ha with ⟨-, ha⟩ | ⟨h0, -⟩
  · have hs := more_sol h ha.2.1
    rcases hb with ⟨rfl, hb⟩ | ⟨rfl, hr, -⟩
    · refine ⟨rfl, ha.1, hb.1, fun i hi => ?_⟩
      have := levM_le hb hs hi
      rwa [backL_lv hi] at this
    · exact absurd hr (sol_not_round hs)
  · exact absurd h0 (by simp)
theorem levT_len {K : List Lnk} {n : Nat} {it : Bool} {b : List Nat} (hb : LevT K n it b) (h : it = true) : b.length = n := by
  rcases hb with ⟨-, hb⟩ | ⟨rfl, -⟩
  · exact hb.1
  · exact absurd h (by simp)
theorem levT_none {K : List Lnk} {n : Nat} {it : Bool} {b : List Nat} (hb : LevT K n it b) (h : it = false) : b = [] ∧ Round K := by
  rcases hb with ⟨rfl, -⟩ | ⟨-, hr, he⟩
  · exact absurd h (by simp)
  · exact ⟨he, hr⟩

/-! ### Of which predicate each clause is -/
theorem mem_ofTo {l : List Cls} {p : Prd} {k x : Nat} : x ∈ ofTo l p k ↔ x < k ∧ ∃ h : x < l.length, prT l[x].head = p := by
  unfold ofTo
  rw [List.mem_filter, List.mem_range]
  constructor
  · rintro ⟨h1, h2⟩
    by_cases hx : x < l.length
    · rw [List.getElem?_eq_getElem hx] at h2
      exact ⟨h1, hx, by simpa using h2⟩
    · rw [List.getElem?_eq_none (by omega)] at h2; simp at h2
  · rintro ⟨h1, hx, h2⟩
    refine ⟨h1, ?_⟩
    rw [List.getElem?_eq_getElem hx]; simpa using h2
theorem mem_ofL {l : List Cls} {p : Prd} {x : Nat} : x ∈ ofL l p ↔ ∃ h : x < l.length, prT l[x].head = p := by
  rw [show ofL l p = ofTo l p l.length from rfl, mem_ofTo]
  constructor
  · exact fun h => h.2
  · exact fun h => ⟨h.1, h⟩
theorem ofL_rise (l : List Cls) (p : Prd) : (ofL l p).Pairwise (· < ·) := List.Pairwise.filter _ List.pairwise_lt_range
theorem ofL_get {l : List Cls} {p : Prd} {k : Nat} (hk : k < (ofL l p).length) : ∃ h : (ofL l p)[k] < l.length, prT l[(ofL l p)[k]].head = p := mem_ofL.1 (List.getElem_mem hk)
/-- A clause's place. -/
def plC (m : List Cls) (c : Nat) : Nat := match m[c]? with
  | none => 0
  | some x => lowC cmpP (prT x.head) (predsL m)
theorem plC_lt {m : List Cls} {c : Nat} (hc : c < m.length) : plC m c < (predsL m).length := by
  unfold plC
  rw [List.getElem?_eq_getElem hc]
  exact (lowC_mem cmpP_ok (predsL_srt m) (mem_predsL.2 ⟨_, List.getElem_mem hc, .inl rfl⟩)).1
theorem plC_iff {m : List Cls} {c i : Nat} (hc : c < m.length) (hi : i < (predsL m).length) : plC m c = i ↔ c ∈ ofL m (predsL m)[i] := by
  unfold plC
  rw [List.getElem?_eq_getElem hc, mem_ofL]
  constructor
  · rintro rfl
    obtain ⟨h1, h2⟩ := lowC_mem cmpP_ok (predsL_srt m) (x := prT m[c].head) (mem_predsL.2 ⟨_, List.getElem_mem hc, .inl rfl⟩)
    exact ⟨hc, h2.symm⟩
  · rintro ⟨_, h⟩
    show lowC cmpP (prT m[c].head) (predsL m) = i
    rw [h]; exact lowC_at cmpP_ok (predsL_srt m) hi
/-- How often each clause was met. -/
def Times (m : List Cls) (i k : Nat) (t : List Nat) : Prop := t.length = m.length ∧ ∀ c, c < m.length → lv t c = if plC m c < i ∨ (plC m c = i ∧ ∃ p, (predsL m)[i]? = some p ∧ c ∈ (ofL m p).take k) then 1 else 0
theorem times_zero (m : List Cls) : Times m 0 0 (List.replicate m.length 0) := ⟨by simp, fun c hc => by
  rw [lv_get (by simpa using hc), List.getElem_replicate, if_neg]
  rintro (h | ⟨-, p, -, h⟩)
  · omega
  · simp at h⟩
theorem times_next {m : List Cls} {i k : Nat} {t : List Nat} (h : Times m i k t) (hi : i < (predsL m).length) (hk : k < (ofL m (predsL m)[i]).length) :
    lv t (ofL m (predsL m)[i])[k] = 0 ∧ Times m i (k + 1) (t.set (ofL m (predsL m)[i])[k] 1) := by
  obtain ⟨h1, h2⟩ := ofL_get hk
  have hrise := ofL_rise m (predsL m)[i]
  have hpl := (plC_iff h1 hi).2 (List.getElem_mem hk)
  have hno : ¬ (ofL m (predsL m)[i])[k] ∈ (ofL m (predsL m)[i]).take k := fun hm => by
    obtain ⟨j, hj, he⟩ := List.mem_iff_getElem.1 hm
    rw [List.length_take] at hj
    rw [List.getElem_take] at he
    have := List.pairwise_iff_getElem.1 hrise j k (by omega) hk (by omega)
    omega
  refine ⟨?_, by rw [List.length_set]; exact h.1, fun c hc => ?_⟩
  · rw [h.2 _ h1, if_neg]
    rintro (h3 | ⟨-, p, hp, h3⟩)
    · omega
    · rw [List.getElem?_eq_getElem hi] at hp
      simp only [Option.some.injEq] at hp
      subst hp
      exact hno h3
  · rw [lv_set (by rw [h.1]; exact h1)]
    by_cases e : (ofL m (predsL m)[i])[k] = c
    · rw [if_pos e, if_pos]
      subst e
      exact .inr ⟨hpl, _, List.getElem?_eq_getElem hi, by rw [List.take_succ_eq_append_getElem hk]; exact List.mem_append_right _ (List.mem_singleton.2 rfl)⟩
    · rw [if_neg e, h.2 c hc]
      have : (plC m c < i ∨ (plC m c = i ∧ ∃ p, (predsL m)[i]? = some p ∧ c ∈ (ofL m p).take k)) ↔ (plC m c < i ∨ (plC m c = i ∧ ∃ p, (predsL m)[i]? = some p ∧ c ∈ (ofL m p).take (k + 1))) := by
        refine or_congr Iff.rfl (and_congr Iff.rfl (exists_congr fun p => and_congr_right fun hp => ?_))
        rw [List.getElem?_eq_getElem hi] at hp
        simp only [Option.some.injEq] at hp
        subst hp
        rw [List.take_succ_eq_append_getElem hk, List.mem_append, List.mem_singleton]
        constructor
        · exact .inl
        · rintro (h | h)
          · exact h
          · exact absurd h.symm e
      simp only [this]
theorem times_row {m : List Cls} {i : Nat} {t : List Nat} (hi : i < (predsL m).length) (h : Times m i (ofL m (predsL m)[i]).length t) : Times m (i + 1) 0 t := ⟨h.1, fun c hc => by
  rw [h.2 c hc]
  have : (plC m c < i ∨ (plC m c = i ∧ ∃ p, (predsL m)[i]? = some p ∧ c ∈ (ofL m p).take (ofL m (predsL m)[i]).length)) ↔ (plC m c < i + 1 ∨ (plC m c = i + 1 ∧ ∃ p, (predsL m)[i + 1]? = some p ∧ c ∈ (ofL m p).take 0)) := by
    constructor
    · rintro (h1 | ⟨h1, -⟩)
      · exact .inl (by omega)
      · exact .inl (by omega)
    · rintro (h1 | ⟨-, p, -, h1⟩)
      · by_cases e : plC m c = i
        · exact .inr ⟨e, _, List.getElem?_eq_getElem hi, by rw [List.take_length]; exact (plC_iff hc hi).1 e⟩
        · exact .inl (by omega)
      · simp at h1
  simp only [this]⟩
theorem times_end {m : List Cls} {t : List Nat} (h : Times m (predsL m).length 0 t) {c : Nat} (hc : c < m.length) : lv t c = 1 := by
  rw [h.2 c hc, if_pos (.inl (plC_lt hc))]
end Go.Proofs.Ytadbdmnngmlnhaa
