/-
  Layer 13: one change done (document).
-/
import Derived.Test.YteefdmpaclnaiaaTnC
namespace Go.Proofs.Yteefdmpaclnaiaa
open Go Go.RowKit

def doO (l : List (List Cell)) (c : Chg) : List (List Cell) := if c.add = true then addO l c.t else dropO l c.t
def doE (l : List (List Cell)) (c : Chg) : Int := if c.add = true then addE l c.t else dropE l c.t

set_option maxHeartbeats 1600000 in
theorem doR_spec {S T : Nat → Prop} {w : World} {v u : Value} {l : List (List Cell)} {c : Chg} (hl : Seq (seqE cellE) S w v l) (hc : ChgV T w u c) (hlen : l.length ≤ 1000000000) :
    Calls Try.prog 47 #[v, u] w (RetE (fun o w' => Seq (seqE cellE) (Fr (fun b => S b ∨ T b) w) w' o (doO l c)) (doE l c) w) := by
  have Hl := Lib.hid hl
  obtain ⟨aa, ac, rfl, -⟩ := hl
  obtain ⟨ta, tc, rfl, ht⟩ := hc
  have Ht := Lib.hid ht
  clear ht
  go_enter Try.func47, Try.ntmps47
  have hbW := Lib.hid (show Below w.heap.size w (w.alloc (.cells #[.bool c.add, .slice ta c.t.length tc] 32)) from Seq.way)
  cases ha : c.add
  · have he := Lib.hid (show doE l c = dropE l c.t by unfold doE; rw [ha]; rfl)
    have ho := Lib.hid (show doO l c = dropO l c.t by unfold doO; rw [ha]; rfl)
    rw [ha] at hbW
    clear ha
    go_wp2_with fail
    refine (DropR_spec (Hl.out.at hbW.out) (Ht.out.at hbW.out) hlen).mono ?_
    rintro e w1 ⟨v1, rfl, hb1, hs1⟩
    have hb1' := below_step hb1 hbW.out
    rw [← ho.out] at hs1
    have Hs1 := Lib.hid hs1
    obtain ⟨n1, c1, rfl⟩ := hs1.shape
    go_wp2_with fail
    go_ret2
    exact ⟨_, by rw [he.out]; rfl, hb1', Hs1.out.mono (fun b h _ => h.imp .inl fun h => Nat.le_trans hbW.out.size h) fun _ _ _ => rfl⟩
  · have he := Lib.hid (show doE l c = addE l c.t by unfold doE; rw [ha]; rfl)
    have ho := Lib.hid (show doO l c = addO l c.t by unfold doO; rw [ha]; rfl)
    rw [ha] at hbW
    clear ha
    go_wp2_with fail
    refine (AddR_spec (Hl.out.at hbW.out) (Ht.out.at hbW.out)).mono ?_
    rintro e w1 ⟨v1, rfl, hb1, hs1⟩
    have hb1' := below_step hb1 hbW.out
    rw [← ho.out] at hs1
    have Hs1 := Lib.hid hs1
    obtain ⟨n1, c1, rfl⟩ := hs1.shape
    go_wp2_with fail
    go_ret2
    exact ⟨_, by rw [he.out]; rfl, hb1', Hs1.out.mono (fun b h _ => h.imp id fun h => Nat.le_trans hbW.out.size h) fun _ _ _ => rfl⟩

/-! ### What is done keeps a row one that may be -/
theorem insAtT_ge {l : List (List Cell)} {x : List Cell} (hs : SortT l) {i : Nat} (hi : insAtT x l ≤ i) (hl : i < l.length) : ¬ cmpT l[i] x < 0 :=
  fun h => insAtT_at x l (by omega) (sortT_lt hs hi hl h)
theorem insT_rowT {l : List (List Cell)} {t : List Cell} (h : RowT l) (ht : factT t = true) (hn : ¬ t ∈ l) (hl : l.length < 512) : RowT (insT t l) := by
  have he := insT_ins (factT_parts ht).1 h.right hn
  have hA : ∀ x ∈ l.take (insAtT t l), cmpT x t < 0 := by
    intro x hx
    obtain ⟨j, hj, rfl⟩ := List.mem_iff_getElem.1 hx
    rw [List.length_take] at hj
    rw [List.getElem_take]
    exact insAtT_lt t l j (by omega) (by omega)
  have hB : ∀ x ∈ l.drop (insAtT t l), cmpT t x < 0 := by
    intro x hx
    obtain ⟨j, hj, rfl⟩ := List.mem_iff_getElem.1 hx
    rw [List.length_drop] at hj
    rw [List.getElem_drop]
    have h1 := insAtT_ge (x := t) h.sort (i := insAtT t l + j) (by omega) (by omega)
    have h2 : cmpT l[insAtT t l + j] t ≠ 0 := fun e => hn ((cmpT_zero.1 e) ▸ List.getElem_mem (by omega))
    rw [cmpT_neg l[insAtT t l + j] t]
    omega
  have hs : SortT (l.take (insAtT t l) ++ l.drop (insAtT t l)) := by rw [List.take_append_drop]; exact h.sort
  obtain ⟨s1, s2, s3⟩ := List.pairwise_append.1 hs
  refine ⟨?_, ?_, ?_⟩
  · rw [he]
    unfold SortT
    rw [List.append_assoc, List.pairwise_append]
    refine ⟨s1, ?_, ?_⟩
    · rw [List.singleton_append, List.pairwise_cons]
      exact ⟨hB, s2⟩
    · intro a ha b hb
      rw [List.singleton_append] at hb
      rcases List.mem_cons.1 hb with rfl | hb
      · exact hA a ha
      · exact s3 a ha b hb
  · intro x hx
    rw [he] at hx
    simp only [List.mem_append, List.mem_singleton] at hx
    rcases hx with (hx | rfl) | hx
    · exact h.fact x (List.mem_of_mem_take hx)
    · exact ht
    · exact h.fact x (List.mem_of_mem_drop hx)
  · rw [he]
    simp only [List.length_append, List.length_take, List.length_drop, List.length_singleton]
    omega
theorem addO_rowT {l : List (List Cell)} {t : List Cell} (h : RowT l) (he : addE l t = 0) : RowT (addO l t) := by
  unfold addE at he
  unfold addO
  split at he
  · rename_i hf
    rw [if_pos hf]
    split at he
    · rename_i hm
      rw [if_pos hm]; exact h
    · rename_i hm
      rw [if_neg hm]
      split at he
      · omega
      · rename_i h5
        rw [if_neg h5]
        exact insT_rowT h hf hm (by omega)
  · omega
theorem dropT_rowT {l : List (List Cell)} {t : List Cell} (h : RowT l) : RowT (dropT t l) := by
  unfold dropT fltL
  exact ⟨h.sort.filter _, fun x hx => h.fact x (List.mem_filter.1 hx).1, Nat.le_trans (List.length_filter_le _ _) h.len⟩
theorem dropO_rowT {l : List (List Cell)} {t : List Cell} (h : RowT l) (he : dropE l t = 0) : RowT (dropO l t) := by
  unfold dropE at he
  unfold dropO
  split at he
  · rename_i hf
    split at he
    · rename_i hm
      rw [if_pos ⟨hf, hm⟩]; exact dropT_rowT h
    · omega
  · omega
theorem doO_rowT {l : List (List Cell)} {c : Chg} (h : RowT l) (he : doE l c = 0) : RowT (doO l c) := by
  unfold doE at he
  unfold doO
  split at he
  · rename_i hc
    rw [if_pos hc]; exact addO_rowT h he
  · rename_i hc
    rw [if_neg hc]; exact dropO_rowT h he
theorem rowT_nil : RowT [] := ⟨List.Pairwise.nil, by simp, by simp⟩

/-- The rows as they would be. -/
def nowL (l : List (List Cell)) (todo : List Chg) : List (List Cell) := todo.foldl (fun l c => if doE l c = 0 then doO l c else l) l
theorem nowL_rowT : ∀ {todo : List Chg} {l : List (List Cell)}, RowT l → RowT (nowL l todo)
  | [], _, h => h
  | c :: r, l, h => by
    show RowT (nowL (if doE l c = 0 then doO l c else l) r)
    refine nowL_rowT ?_
    split
    · rename_i he; exact doO_rowT h he
    · exact h
theorem nowL_snoc {l : List (List Cell)} {r : List Chg} {c : Chg} : nowL l (r ++ [c]) = if doE (nowL l r) c = 0 then doO (nowL l r) c else nowL l r := by
  unfold nowL
  rw [List.foldl_append]; rfl
/-- Does a change that adds fail on the way? -/
def fullL (l : List (List Cell)) : List Chg → Bool
  | [] => false
  | c :: r => if doE l c = 0 then fullL (doO l c) r else c.add || fullL l r
theorem fullL_snoc : ∀ {r : List Chg} {l : List (List Cell)} {c : Chg}, fullL l (r ++ [c]) = (fullL l r || (c.add && !decide (doE (nowL l r) c = 0)))
  | [], l, c => by
    simp only [List.nil_append, fullL, nowL, List.foldl_nil]
    by_cases h : doE l c = 0 <;> simp [h]
  | d :: r, l, c => by
    rw [List.cons_append]
    simp only [fullL]
    by_cases h : doE l d = 0
    · rw [if_pos h, if_pos h, fullL_snoc]
      have : nowL l (d :: r) = nowL (doO l d) r := by show nowL (if doE l d = 0 then doO l d else l) r = _; rw [if_pos h]
      rw [this]
    · rw [if_neg h, if_neg h, fullL_snoc]
      have : nowL l (d :: r) = nowL l r := by show nowL (if doE l d = 0 then doO l d else l) r = _; rw [if_neg h]
      rw [this, Bool.or_assoc]
end Go.Proofs.Yteefdmpaclnaiaa
