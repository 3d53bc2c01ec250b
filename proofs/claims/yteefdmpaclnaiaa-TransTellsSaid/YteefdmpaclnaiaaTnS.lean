/-
  Layer 13, plain laws: what is made is right; what Commit comes to.
-/
import Derived.Test.YteefdmpaclnaiaaTnQ
namespace Go.Proofs.Yteefdmpaclnaiaa
open Go Go.RowKit

theorem addO_rowT' {l : List (List Cell)} {t : List Cell} (h : RowT l) (ht : factT t = true) (hl : l.length < 512) : RowT (addO l t) ∧ (addO l t).length ≤ l.length + 1 ∧ addE l t = 0 := by
  have he : addE l t = 0 := by
    unfold addE
    rw [if_pos ht]
    split
    · rfl
    · rw [if_neg (by omega)]
  refine ⟨addO_rowT h he, ?_, he⟩
  unfold addO
  rw [if_pos ht]
  split
  · omega
  · rename_i hm
    rw [if_neg (by omega), insT_ins (factT_parts ht).1 h.right hm]
    simp only [List.length_append, List.length_take, List.length_drop, List.length_singleton]
    omega
theorem rowM_rowT (l : List (List Cell)) : ∀ k, k ≤ l.length → k ≤ 500 → RowT (rowM l k) ∧ (rowM l k).length ≤ k
  | 0, _, _ => ⟨by unfold rowM; simpa using rowT_nil, by unfold rowM; simp⟩
  | k + 1, h, h' => by
    obtain ⟨h1, h2⟩ := rowM_rowT l k (by omega) (by omega)
    rw [rowM_succ (by omega)]
    obtain ⟨g1, g2, -⟩ := addO_rowT' (t := factM l[k]) h1 (factM_fact _).1 (by omega)
    exact ⟨g1, by omega⟩
theorem rowF_rowT (l : List (List Cell)) : RowT (rowF l 40) ∧ (rowF l 40).length ≤ 40 := by
  unfold rowF
  have h := rowM_rowT l (min l.length (min 40 512)) (by omega) (by omega)
  exact ⟨h.1, by omega⟩
theorem madeB_row (l : List (List Cell)) : RowT (madeB l).facts ∧ (madeB l).facts.length ≤ 40 := rowF_rowT l

theorem cmp_right {l : List (List Cell)} (h : RowT l) {k : Nat} (hk : k + 1 < l.length) : cmpR l[k] l[k + 1] < 0 := by
  rw [cmpR_right (h.right _ (List.getElem_mem (by omega))) (h.right _ (List.getElem_mem (by omega)))]
  exact List.pairwise_iff_getElem.1 h.sort k (k + 1) (by omega) hk (by omega)
theorem rowR_of {l : List (List Cell)} (h : RowT l) (hl : l.length ≤ 512) : rowR l = true := by
  refine rowR_yes hl fun k hk => ?_
  cases k with
  | zero => rw [okAt_zero hk]; exact h.fact _ (List.getElem_mem hk)
  | succ k =>
    rw [okAt_succ hk, h.fact _ (List.getElem_mem hk), decide_eq_true (cmp_right h hk)]; rfl

theorem begun_facts {l : List Chg} {c : Chg} (h : c ∈ begunL l) : factT c.t = true := by
  unfold begunL at h
  rw [List.mem_map] at h
  obtain ⟨d, _, rfl⟩ := h
  exact (factM_fact _).1
theorem begunL_len {l : List Chg} (h : l.length ≤ 60) : (begunL l).length = l.length := by
  unfold begunL; simp; omega

/-- A row that has room for all that is told: nothing fails but a drop. -/
theorem doE_fine {l : List (List Cell)} {c : Chg} (hc : factT c.t = true) (hl : l.length < 512) (h : doE l c ≠ 0) : c.add = false ∧ ¬ c.t ∈ l := by
  unfold doE at h
  split at h
  · exfalso
    apply h
    unfold addE
    rw [if_pos hc]
    split
    · rfl
    · rw [if_neg (by omega)]
  · rename_i ha
    refine ⟨by simpa using ha, fun hm => h ?_⟩
    unfold dropE
    rw [if_pos hc, if_pos hm]
theorem doO_len {l : List (List Cell)} {c : Chg} (h : RowT l) (hc : factT c.t = true) (hl : l.length < 512) : (doO l c).length ≤ l.length + 1 := by
  unfold doO
  split
  · exact (addO_rowT' h hc hl).2.1
  · unfold dropO
    split
    · unfold dropT
      exact Nat.le_trans (fltL_len _ _) (by omega)
    · simp
theorem fullL_no : ∀ {r : List Chg} {l : List (List Cell)}, RowT l → (∀ c ∈ r, factT c.t = true) → l.length + r.length ≤ 512 → fullL l r = false
  | [], _, _, _, _ => rfl
  | c :: r, l, h, hc, hl => by
    have hl' : l.length + (r.length + 1) ≤ 512 := hl
    have hcc := hc c (by simp)
    unfold fullL
    split
    · rename_i he
      refine fullL_no (doO_rowT h he) (fun d hd => hc d (by simp [hd])) ?_
      have := doO_len h hcc (by omega)
      omega
    · rename_i he
      rw [(doE_fine hcc (by omega) he).1, fullL_no h (fun d hd => hc d (by simp [hd])) (by omega)]
      rfl
theorem nowL_len : ∀ {r : List Chg} {l : List (List Cell)}, RowT l → (∀ c ∈ r, factT c.t = true) → l.length + r.length ≤ 512 → (nowL l r).length ≤ l.length + r.length
  | [], _, _, _, _ => by simp [nowL]
  | c :: r, l, h, hc, hl => by
    have hl' : l.length + (r.length + 1) ≤ 512 := hl
    have hcc := hc c (by simp)
    show (nowL (if doE l c = 0 then doO l c else l) r).length ≤ _
    rw [List.length_cons]
    split
    · rename_i he
      have h1 := doO_len h hcc (by omega)
      have := nowL_len (r := r) (doO_rowT h he) (fun d hd => hc d (by simp [hd])) (by omega)
      omega
    · have := nowL_len (r := r) h (fun d hd => hc d (by simp [hd])) (by omega)
      omega

/-- What stands in a row when a change is done. -/
theorem mem_addO {l : List (List Cell)} {t x : List Cell} (h : RowT l) (ht : factT t = true) (hl : l.length < 512) : x ∈ addO l t ↔ x = t ∨ x ∈ l := by
  unfold addO
  rw [if_pos ht]
  split
  · rename_i hm
    exact ⟨.inr, fun h => h.elim (fun e => e ▸ hm) id⟩
  · rename_i hm
    rw [if_neg (by omega), insT_ins (factT_parts ht).1 h.right hm]
    simp only [List.mem_append, List.mem_singleton]
    constructor
    · rintro ((h | h) | h)
      · exact .inr (List.mem_of_mem_take h)
      · exact .inl h
      · exact .inr (List.mem_of_mem_drop h)
    · rintro (h | h)
      · exact .inl (.inr h)
      · rw [← List.take_append_drop (insAtT t l) l, List.mem_append] at h
        exact h.elim (fun h => .inl (.inl h)) .inr
theorem mem_dropT {l : List (List Cell)} {t x : List Cell} : x ∈ dropT t l ↔ x ∈ l ∧ x ≠ t := by
  unfold dropT fltL
  rw [List.mem_filter]
  simp
/-- A change, whether it is done or not. -/
def stepL (l : List (List Cell)) (c : Chg) : List (List Cell) := if doE l c = 0 then doO l c else l
theorem mem_stepL {l : List (List Cell)} {c : Chg} {x : List Cell} (h : RowT l) (hc : factT c.t = true) (hl : l.length < 512) : x ∈ stepL l c ↔ if c.t = x then c.add = true else x ∈ l := by
  unfold stepL
  by_cases he : doE l c = 0
  · rw [if_pos he]
    unfold doO
    split
    · rename_i ha
      rw [mem_addO h hc hl]
      split
      · rename_i hx; simp [hx, ha]
      · rename_i hx
        exact ⟨fun h => h.elim (fun e => absurd e.symm hx) id, .inr⟩
    · rename_i ha
      have hm : c.t ∈ l := by
        unfold doE at he
        rw [if_neg ha] at he
        unfold dropE at he
        rw [if_pos hc] at he
        by_cases hm : c.t ∈ l
        · exact hm
        · rw [if_neg hm] at he; omega
      unfold dropO
      rw [if_pos ⟨hc, hm⟩, mem_dropT]
      split
      · rename_i hx; simp [hx, ha]
      · rename_i hx
        exact ⟨fun h => h.1, fun h => ⟨h, fun e => hx e.symm⟩⟩
  · rw [if_neg he]
    obtain ⟨h1, h2⟩ := doE_fine hc hl he
    split
    · rename_i hx
      rw [h1, ← hx]; simp [h2]
    · exact Iff.rfl
theorem nowL_step (l : List (List Cell)) (r : List Chg) : nowL l r = r.foldl stepL l := rfl
theorem stepL_rowT {l : List (List Cell)} {c : Chg} (h : RowT l) : RowT (stepL l c) := by
  unfold stepL
  split
  · rename_i he; exact doO_rowT h he
  · exact h
theorem stepL_len {l : List (List Cell)} {c : Chg} (h : RowT l) (hc : factT c.t = true) (hl : l.length < 512) : (stepL l c).length ≤ l.length + 1 := by
  unfold stepL
  split
  · exact doO_len h hc hl
  · omega

/-- **The last one alone counts.** -/
theorem mem_nowL : ∀ {r : List Chg} {l : List (List Cell)} {x : List Cell}, RowT l → (∀ c ∈ r, factT c.t = true) → l.length + r.length ≤ 512 →
    (x ∈ nowL l r ↔ (match r.foldl (lastS x) (if x ∈ l then 2 else 1) with | 2 => True | _ => False))
  | [], l, x, _, _, _ => by
    simp only [nowL, List.foldl_nil]
    by_cases h : x ∈ l <;> simp [h]
  | c :: r, l, x, h, hc, hl => by
    have hl' : l.length + (r.length + 1) ≤ 512 := hl
    have hcc := hc c (by simp)
    have h1 := stepL_len h hcc (by omega)
    have h2 := mem_nowL (r := r) (x := x) (stepL_rowT (c := c) h) (fun d hd => hc d (by simp [hd])) (by omega)
    rw [nowL_step, List.foldl_cons, ← nowL_step, h2, List.foldl_cons]
    have h3 : (if x ∈ stepL l c then (2 : Int) else 1) = lastS x (if x ∈ l then 2 else 1) c := by
      have hms := mem_stepL (x := x) h hcc (by omega : l.length < 512)
      unfold lastS
      by_cases hx : c.t = x
      · rw [if_pos hx] at hms
        rw [if_pos hx]
        by_cases ha : c.add = true
        · rw [if_pos (hms.2 ha), if_pos ha]
        · rw [if_neg (fun e => ha (hms.1 e)), if_neg ha]
      · rw [if_neg hx] at hms
        rw [if_neg hx]
        by_cases ha : x ∈ l
        · rw [if_pos (hms.2 ha), if_pos ha]
        · rw [if_neg (fun e => ha (hms.1 e)), if_neg ha]
    rw [h3]
theorem lastS_start {x : List Cell} : ∀ (r : List Chg) (n : Int), r.foldl (lastS x) n = if r.foldl (lastS x) 0 = 0 then n else r.foldl (lastS x) 0
  | [], n => by simp
  | c :: r, n => by
    rw [List.foldl_cons, List.foldl_cons, lastS_start r (lastS x n c), lastS_start r (lastS x 0 c)]
    unfold lastS
    by_cases h : c.t = x
    · simp only [if_pos h]
      by_cases ha : c.add = true
      · simp only [if_pos ha]
        split
        · rename_i h0; rw [if_neg (by omega)]
        · rfl
      · simp only [if_neg ha]
        split
        · rename_i h0; rw [if_neg (by omega)]
        · rfl
    · simp only [if_neg h]
      split
      · rename_i h0; simp
      · rfl
theorem lastL_vals {x : List Cell} : ∀ (r : List Chg) (n : Int), (n = 0 ∨ n = 1 ∨ n = 2) → (r.foldl (lastS x) n = 0 ∨ r.foldl (lastS x) n = 1 ∨ r.foldl (lastS x) n = 2)
  | [], _, h => h
  | c :: r, n, h => by
    rw [List.foldl_cons]
    refine lastL_vals r _ ?_
    unfold lastS
    split
    · split <;> omega
    · exact h
theorem mem_now_last {r : List Chg} {l : List (List Cell)} {x : List Cell} (h : RowT l) (hc : ∀ c ∈ r, factT c.t = true) (hl : l.length + r.length ≤ 512) :
    x ∈ nowL l r ↔ (lastL r x = 2 ∨ (lastL r x = 0 ∧ x ∈ l)) := by
  rw [mem_nowL h hc hl, lastS_start]
  unfold lastL
  rcases lastL_vals (x := x) r 0 (.inl rfl) with e | e | e
  · rw [e]
    simp only [if_true]
    by_cases hm : x ∈ l <;> simp [hm]
  · rw [e]; simp
  · rw [e]; simp
theorem lastL_mem {r : List Chg} {c : Chg} (h : c ∈ r) : lastL r c.t ≠ 0 := by
  obtain ⟨a, b, rfl⟩ := List.append_of_mem h
  unfold lastL
  rw [List.foldl_append, List.foldl_cons, lastS_start]
  split
  · unfold lastS
    rw [if_pos rfl]
    split <;> omega
  · assumption

/-! ### Rows of the same facts are the same -/
theorem sortT_ext : ∀ {l m : List (List Cell)}, SortT l → SortT m → (∀ x, x ∈ l ↔ x ∈ m) → l = m
  | [], [], _, _, _ => rfl
  | [], y :: m, _, _, h => absurd ((h y).2 (by simp)) (by simp)
  | x :: l, [], _, _, h => absurd ((h x).1 (by simp)) (by simp)
  | x :: l, y :: m, hl, hm, h => by
    obtain ⟨hx, hl'⟩ := List.pairwise_cons.1 hl
    obtain ⟨hy, hm'⟩ := List.pairwise_cons.1 hm
    have hirr : ∀ t : List Cell, ¬ cmpT t t < 0 := fun t h => by rw [cmpT_zero.2 rfl] at h; omega
    have hxy : x = y := by
      rcases List.mem_cons.1 ((h x).1 (by simp)) with e | e
      · exact e
      · rcases List.mem_cons.1 ((h y).2 (by simp)) with e' | e'
        · exact e'.symm
        · exact absurd (cmpT_trans (hx y e') (hy x e)) (hirr x)
    subst hxy
    congr 1
    refine sortT_ext hl' hm' fun z => ?_
    constructor
    · intro hz
      rcases List.mem_cons.1 ((h z).1 (by simp [hz])) with e | e
      · subst e; exact absurd (hx z hz) (hirr z)
      · exact e
    · intro hz
      rcases List.mem_cons.1 ((h z).2 (by simp [hz])) with e | e
      · subst e; exact absurd (hy z hz) (hirr z)
      · exact e
theorem sortT_nodup {l : List (List Cell)} (h : SortT l) : l.Nodup :=
  h.imp fun {a b} hab e => by subst e; rw [cmpT_zero.2 rfl] at hab; omega
theorem filter_split {α : Type} (p : α → Bool) : ∀ l : List α, l.length = (l.filter p).length + (l.filter fun x => !p x).length
  | [] => rfl
  | x :: l => by
    rw [List.length_cons, filter_split p l]
    cases h : p x
    · rw [List.filter_cons_of_neg (by simp [h]), List.filter_cons_of_pos (by simp [h]), List.length_cons]; omega
    · rw [List.filter_cons_of_pos h, List.filter_cons_of_neg (by simp [h]), List.length_cons]; omega
theorem nodup_len {l m : List (List Cell)} (hl : l.Nodup) (hm : m.Nodup) (h : ∀ x, x ∈ l ↔ x ∈ m) : l.length = m.length :=
  ((List.perm_ext_iff_of_nodup hl hm).2 h).length_eq
/-- **What came and what went.** -/
theorem less_len {a b : List (List Cell)} (ha : SortT a) (hb : SortT b) : b.length + (lessT a b).length = a.length + (lessT b a).length := by
  have h1 := filter_split (fun t => decide (t ∈ b)) a
  have h2 := filter_split (fun t => decide (t ∈ a)) b
  have h3 : (a.filter fun t => decide (t ∈ b)).length = (b.filter fun t => decide (t ∈ a)).length :=
    nodup_len ((sortT_nodup ha).filter _) ((sortT_nodup hb).filter _) fun x => by simp only [List.mem_filter, decide_eq_true_eq]; exact ⟨fun h => ⟨h.2, h.1⟩, fun h => ⟨h.2, h.1⟩⟩
  unfold lessT fltL
  omega
theorem mem_lessT {a b : List (List Cell)} {x : List Cell} : x ∈ lessT a b ↔ x ∈ a ∧ ¬ x ∈ b := by
  unfold lessT fltL
  rw [List.mem_filter]; simp
end Go.Proofs.Yteefdmpaclnaiaa
