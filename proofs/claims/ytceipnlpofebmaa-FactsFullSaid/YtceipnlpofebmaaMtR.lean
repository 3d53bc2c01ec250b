/-
  Layer 12: what the walks of its laws lean on.
-/
import Derived.Test.YtceipnlpofebmaaMtQ
import Derived.Deep.Cut
import Derived.Deep.CutRange
import Derived.Deep.DeepCutAuto
namespace Go.Proofs.Ytceipnlpofebmaa
open Go Go.RowKit

/-- A row, moved on. -/
def RowA (T : TypeId) (w : World) (B : Nat) (vs : List Value) : Prop := Row T w B vs
theorem RowA.at {T : TypeId} {W w' : World} {B : Nat} {vs : List Value} (h : RowA T W B vs) (hb : Below W.heap.size W w') : RowA T w' B vs := rowTo h hb
theorem RowA.row {T : TypeId} {W : World} {B : Nat} {vs : List Value} (h : RowA T W B vs) : Row T W B vs := h
theorem Drew.belowS {w w' : World} (h : Drew w w') : Below w.heap.size w w' := h.below _
theorem infoSeq12 : (Try.prog.info? 24).map (fun i => (i.zero, i.size, i.bytes)) = some (some (.slice none 0 0), 1, 24) := by kernel_rfl

theorem insAtT_ge {l : List (List Cell)} {x : List Cell} (hs : SortT l) {i : Nat} (hi : insAtT x l ≤ i) (hl : i < l.length) : ¬ cmpT l[i] x < 0 :=
  fun h => insAtT_at x l (by omega) (sortT_lt hs hi hl h)

theorem insT_rowT {l : List (List Cell)} {t : List Cell} (h : RowT l) (ht : factT t = true) (hn : ¬ t ∈ l) (hl : l.length < 512) : RowT (insT t l) := by
  have he := insT_ins (factT_parts ht).1 h.right hn
  have hA : ∀ x ∈ l.take (insAtT t l), cmpT x t < 0 := by
    intro x hx
    obtain ⟨j, hj, rfl⟩ := List.mem_iff_getElem.1 hx
    rw [List.length_take] at hj
    rw [List.getElem_take]
    exact insAtT_lt t l j (by omega) (by omega)
  have hB : ∀ x ∈ l.drop (insAtT t l), cmpT t x < 0 := by
    intro x hx
    obtain ⟨j, hj, rfl⟩ := List.mem_iff_getElem.1 hx
    rw [List.length_drop] at hj
    rw [List.getElem_drop]
    have h1 := insAtT_ge (x := t) h.sort (i := insAtT t l + j) (by omega) (by omega)
    have h2 : cmpT l[insAtT t l + j] t ≠ 0 := fun e => hn ((cmpT_zero.1 e) ▸ List.getElem_mem (by omega))
    rw [cmpT_neg l[insAtT t l + j] t]
    omega
  have hs : SortT (l.take (insAtT t l) ++ l.drop (insAtT t l)) := by rw [List.take_append_drop]; exact h.sort
  obtain ⟨s1, s2, s3⟩ := List.pairwise_append.1 hs
  refine ⟨?_, ?_, ?_⟩
  · rw [he]
    unfold SortT
    rw [List.append_assoc, List.pairwise_append]
    refine ⟨s1, ?_, ?_⟩
    · rw [List.singleton_append, List.pairwise_cons]
      exact ⟨hB, s2⟩
    · intro a ha b hb
      rw [List.singleton_append] at hb
      rcases List.mem_cons.1 hb with rfl | hb
      · exact hA a ha
      · exact s3 a ha b hb
  · intro x hx
    rw [he] at hx
    simp only [List.mem_append, List.mem_singleton] at hx
    rcases hx with (hx | rfl) | hx
    · exact h.fact x (List.mem_of_mem_take hx)
    · exact ht
    · exact h.fact x (List.mem_of_mem_drop hx)
  · rw [he]
    simp only [List.length_append, List.length_take, List.length_drop, List.length_singleton]
    omega

theorem addO_rowT {l : List (List Cell)} {t : List Cell} (h : RowT l) (he : addE l t = 0) : RowT (addO l t) := by
  unfold addE at he
  unfold addO
  split at he
  · rename_i hf
    rw [if_pos hf]
    split at he
    · rename_i hm
      rw [if_pos hm]; exact h
    · rename_i hm
      rw [if_neg hm]
      split at he
      · omega
      · rename_i h5
        rw [if_neg h5]
        exact insT_rowT h hf hm (by omega)
  · omega

theorem dropT_rowT {l : List (List Cell)} {t : List Cell} (h : RowT l) : RowT (dropT t l) := by
  unfold dropT fltL
  exact ⟨h.sort.filter _, fun x hx => h.fact x (List.mem_filter.1 hx).1, Nat.le_trans (List.length_filter_le _ _) h.len⟩

theorem dropO_rowT {l : List (List Cell)} {t : List Cell} (h : RowT l) (he : dropE l t = 0) : RowT (dropO l t) := by
  unfold dropE at he
  unfold dropO
  split at he
  · rename_i hf
    split at he
    · rename_i hm
      rw [if_pos ⟨hf, hm⟩]; exact dropT_rowT h
    · omega
  · omega

theorem rowT_nil : RowT [] := ⟨List.Pairwise.nil, by simp, by simp⟩

theorem addO_rowT' {l : List (List Cell)} {t : List Cell} (h : RowT l) (ht : factT t = true) (hl : l.length < 512) : RowT (addO l t) ∧ (addO l t).length ≤ l.length + 1 ∧ addE l t = 0 := by
  have he : addE l t = 0 := by
    unfold addE
    rw [if_pos ht]
    split
    · rfl
    · rw [if_neg (by omega)]
  refine ⟨addO_rowT h he, ?_, he⟩
  unfold addO
  rw [if_pos ht]
  split
  · omega
  · rename_i hm
    rw [if_neg (by omega), insT_ins (factT_parts ht).1 h.right hm]
    simp only [List.length_append, List.length_take, List.length_drop, List.length_singleton]
    omega

theorem rowM_rowT (l : List (List Cell)) : ∀ k, k ≤ l.length → k ≤ 500 → RowT (rowM l k) ∧ (rowM l k).length ≤ k
  | 0, _, _ => ⟨by unfold rowM; simpa using rowT_nil, by unfold rowM; simp⟩
  | k + 1, h, h' => by
    obtain ⟨h1, h2⟩ := rowM_rowT l k (by omega) (by omega)
    rw [rowM_succ (by omega)]
    obtain ⟨g1, g2, -⟩ := addO_rowT' (t := factM l[k]) h1 (factM_fact _).1 (by omega)
    exact ⟨g1, by omega⟩

theorem rowF_rowT (l : List (List Cell)) {most : Nat} (hm : most ≤ 500) : RowT (rowF l most) ∧ (rowF l most).length ≤ most := by
  unfold rowF
  have h := rowM_rowT l (min l.length (min most 512)) (by omega) (by omega)
  exact ⟨h.1, by omega⟩

theorem cmp_right {l : List (List Cell)} (h : RowT l) {k : Nat} (hk : k + 1 < l.length) : cmpR l[k] l[k + 1] < 0 := by
  rw [cmpR_right (h.right _ (List.getElem_mem (by omega))) (h.right _ (List.getElem_mem (by omega)))]
  exact List.pairwise_iff_getElem.1 h.sort k (k + 1) (by omega) hk (by omega)

theorem rowR_of {l : List (List Cell)} (h : RowT l) (hl : l.length ≤ 512) : rowR l = true := by
  refine rowR_yes hl fun k hk => ?_
  cases k with
  | zero => rw [okAt_zero hk]; exact h.fact _ (List.getElem_mem hk)
  | succ k =>
    rw [okAt_succ hk, h.fact _ (List.getElem_mem hk), decide_eq_true (cmp_right h hk)]; rfl

/-- What stands in a row when a change is done. -/
theorem mem_addO {l : List (List Cell)} {t x : List Cell} (h : RowT l) (ht : factT t = true) (hl : l.length < 512) : x ∈ addO l t ↔ x = t ∨ x ∈ l := by
  unfold addO
  rw [if_pos ht]
  split
  · rename_i hm
    exact ⟨.inr, fun h => h.elim (fun e => e ▸ hm) id⟩
  · rename_i hm
    rw [if_neg (by omega), insT_ins (factT_parts ht).1 h.right hm]
    simp only [List.mem_append, List.mem_singleton]
    constructor
    · rintro ((h | h) | h)
      · exact .inr (List.mem_of_mem_take h)
      · exact .inl h
      · exact .inr (List.mem_of_mem_drop h)
    · rintro (h | h)
      · exact .inl (.inr h)
      · rw [← List.take_append_drop (insAtT t l) l, List.mem_append] at h
        exact h.elim (fun h => .inl (.inl h)) .inr

theorem mem_dropT {l : List (List Cell)} {t x : List Cell} : x ∈ dropT t l ↔ x ∈ l ∧ x ≠ t := by
  unfold dropT fltL
  rw [List.mem_filter]
  simp

theorem sortT_ext : ∀ {l m : List (List Cell)}, SortT l → SortT m → (∀ x, x ∈ l ↔ x ∈ m) → l = m
  | [], [], _, _, _ => rfl
  | [], y :: m, _, _, h => absurd ((h y).2 (by simp)) (by simp)
  | x :: l, [], _, _, h => absurd ((h x).1 (by simp)) (by simp)
  | x :: l, y :: m, hl, hm, h => by
    obtain ⟨hx, hl'⟩ := List.pairwise_cons.1 hl
    obtain ⟨hy, hm'⟩ := List.pairwise_cons.1 hm
    have hirr : ∀ t : List Cell, ¬ cmpT t t < 0 := fun t h => by rw [cmpT_zero.2 rfl] at h; omega
    have hxy : x = y := by
      rcases List.mem_cons.1 ((h x).1 (by simp)) with e | e
      · exact e
      · rcases List.mem_cons.1 ((h y).2 (by simp)) with e' | e'
        · exact e'.symm
        · exact absurd (cmpT_trans (hx y e') (hy x e)) (hirr x)
    subst hxy
    congr 1
    refine sortT_ext hl' hm' fun z => ?_
    constructor
    · intro hz
      rcases List.mem_cons.1 ((h z).1 (by simp [hz])) with e | e
      · subst e; exact absurd (hx z hz) (hirr z)
      · exact e
    · intro hz
      rcases List.mem_cons.1 ((h z).2 (by simp [hz])) with e | e
      · subst e; exact absurd (hy z hz) (hirr z)
      · exact e

theorem sortT_nodup {l : List (List Cell)} (h : SortT l) : l.Nodup :=
  h.imp fun {a b} hab e => by subst e; rw [cmpT_zero.2 rfl] at hab; omega

theorem filter_split {α : Type} (p : α → Bool) : ∀ l : List α, l.length = (l.filter p).length + (l.filter fun x => !p x).length
  | [] => rfl
  | x :: l => by
    rw [List.length_cons, filter_split p l]
    cases h : p x
    · rw [List.filter_cons_of_neg (by simp [h]), List.filter_cons_of_pos (by simp [h]), List.length_cons]; omega
    · rw [List.filter_cons_of_pos h, List.filter_cons_of_neg (by simp [h]), List.length_cons]; omega

theorem nodup_len {l m : List (List Cell)} (hl : l.Nodup) (hm : m.Nodup) (h : ∀ x, x ∈ l ↔ x ∈ m) : l.length = m.length :=
  ((List.perm_ext_iff_of_nodup hl hm).2 h).length_eq

/-- **What came and what went.** -/
theorem less_len {a b : List (List Cell)} (ha : SortT a) (hb : SortT b) : b.length + (lessT a b).length = a.length + (lessT b a).length := by
  have h1 := filter_split (fun t => decide (t ∈ b)) a
  have h2 := filter_split (fun t => decide (t ∈ a)) b
  have h3 : (a.filter fun t => decide (t ∈ b)).length = (b.filter fun t => decide (t ∈ a)).length :=
    nodup_len ((sortT_nodup ha).filter _) ((sortT_nodup hb).filter _) fun x => by simp only [List.mem_filter, decide_eq_true_eq]; exact ⟨fun h => ⟨h.2, h.1⟩, fun h => ⟨h.2, h.1⟩⟩
  unfold lessT fltL
  omega

theorem mem_lessT {a b : List (List Cell)} {x : List Cell} : x ∈ lessT a b ↔ x ∈ a ∧ ¬ x ∈ b := by
  unfold lessT fltL
  rw [List.mem_filter]; simp

theorem factT_parts2 {t : List Cell} (h : factT t = true) : rightT t = true ∧ groundT t = true ∧ isFun t = true := by
  unfold factT at h
  simp only [Bool.and_eq_true] at h
  exact ⟨h.1.1.1, h.1.2, h.1.1.2⟩
theorem addO_len {l : List (List Cell)} {t : List Cell} (h : RowT l) (ht : factT t = true) (hl : l.length < 512) : (addO l t).length = if t ∈ l then l.length else l.length + 1 := by
  unfold addO
  rw [if_pos ht]
  split
  · rfl
  · rename_i hm
    rw [if_neg (by omega), insT_ins (factT_parts ht).1 h.right hm]
    simp only [List.length_append, List.length_take, List.length_drop, List.length_singleton]
    omega
theorem mem_dropO {l : List (List Cell)} {t x : List Cell} (ht : factT t = true) (hm : t ∈ l) : x ∈ dropO l t ↔ x ∈ l ∧ x ≠ t := by
  unfold dropO
  rw [if_pos ⟨ht, hm⟩]
  exact mem_dropT
theorem dropO_len (l : List (List Cell)) (t : List Cell) : (dropO l t).length ≤ l.length := by
  unfold dropO
  split
  · exact fltL_len _ _
  · simp
/-- What is added, if it was not there, and dropped is as it was. -/
theorem addDrop {l : List (List Cell)} {t : List Cell} (h : RowT l) (ht : factT t = true) (hl : l.length < 512) (hn : ¬ t ∈ l) : dropO (addO l t) t = l := by
  obtain ⟨h1, -, -⟩ := addO_rowT' h ht hl
  have hm : t ∈ addO l t := (mem_addO h ht hl).2 (.inl rfl)
  have hd : dropE (addO l t) t = 0 := by unfold dropE; rw [if_pos ht, if_pos hm]
  refine sortT_ext (dropO_rowT h1 hd).sort h.sort fun x => ?_
  rw [mem_dropO ht hm, mem_addO h ht hl]
  constructor
  · rintro ⟨h2 | h2, h3⟩
    · exact absurd h2 h3
    · exact h2
  · intro h2
    exact ⟨.inr h2, fun e => hn (e ▸ h2)⟩
end Go.Proofs.Ytceipnlpofebmaa
