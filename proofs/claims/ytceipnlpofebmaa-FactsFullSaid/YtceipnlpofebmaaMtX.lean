/-
  Layer 12, FactsFull in plain Lean: the row n(a), n(a + 1) .. of 512 facts.
-/
import Derived.Test.YtceipnlpofebmaaHd12B
namespace Go.Proofs.Ytceipnlpofebmaa
open Go Go.RowKit

def numT (z : Int) : List Cell := pT ⟨#[110]⟩ [⟨2, ⟨#[]⟩, z⟩]
def numsL (a : Int) (n : Nat) : List (List Cell) := (List.range n).map fun i : Nat => numT (a + i)
theorem numsL_len (a : Int) (n : Nat) : (numsL a n).length = n := by simp [numsL]
theorem numsL_succ (a : Int) (n : Nat) : numsL a (n + 1) = numsL a n ++ [numT (a + n)] := by
  unfold numsL; rw [List.range_succ, List.map_append]; rfl
theorem numsL_get (a : Int) {n k : Nat} (h : k < (numsL a n).length) : (numsL a n)[k] = numT (a + k) := by
  have g : ∀ (l : List (List Cell)), l = (List.range n).map (fun i : Nat => numT (a + i)) → ∀ h : k < l.length, l[k] = numT (a + k) := by
    rintro _ rfl h
    rw [List.getElem_map, List.getElem_range]
  exact g _ rfl h
theorem numT_cmp (a b : Int) : cmpT (numT a) (numT b) = cmpZ a b := by
  have h1 : cmpC (⟨3, ⟨#[110]⟩, 1⟩ : Cell) ⟨3, ⟨#[110]⟩, 1⟩ = 0 := cmpC_zero.2 rfl
  show cmpT [⟨3, ⟨#[110]⟩, 1⟩, ⟨2, ⟨#[]⟩, a⟩] [⟨3, ⟨#[110]⟩, 1⟩, ⟨2, ⟨#[]⟩, b⟩] = _
  rw [cmpT_cons, if_neg (by simp [h1]), cmpT_cons]
  have h2 : cmpC (⟨2, ⟨#[]⟩, a⟩ : Cell) ⟨2, ⟨#[]⟩, b⟩ = cmpZ a b := by
    unfold cmpC
    simp only
    rw [if_neg (by simp [cmpZ_zero])]
    by_cases h : cmpZ a b = 0
    · rw [if_neg (by simp [h]), cmpS_zero.2 rfl, h]
    · rw [if_pos h]
  by_cases h : cmpZ a b = 0
  · rw [if_neg (by simp [h2, h]), h]; exact cmpT_zero.2 rfl
  · rw [if_pos (by rw [h2]; exact h), h2]
theorem numT_inj {a b : Int} (h : numT a = numT b) : a = b := by
  have := cmpT_zero.2 h
  rw [numT_cmp] at this
  exact cmpZ_zero.1 this
theorem numT_right {z : Int} (h : -2147483647 ≤ z ∧ z ≤ 2147483647) : RightT (numT z) := by
  refine ⟨by show 2 ≤ 200; omega, ?_⟩
  have h1 : cellOK (⟨3, ⟨#[110]⟩, 1⟩ : Cell) = true := by decide +kernel
  have h2 : cellOK (⟨2, ⟨#[]⟩, z⟩ : Cell) = true := by
    unfold cellOK
    rw [if_neg (by show ¬ (2 : Int) = 1; omega), if_pos rfl]
    have : (⟨#[]⟩ : ByteArray).size = 0 := rfl
    simp [this, h.1, h.2]
  show endC 1 [⟨3, ⟨#[110]⟩, 1⟩, ⟨2, ⟨#[]⟩, z⟩] = some 2
  rw [endC_one, if_pos h1, show arity (⟨3, ⟨#[110]⟩, 1⟩ : Cell) = 0 + 1 from rfl, endC_succ, if_pos h2, show 0 + arity (⟨2, ⟨#[]⟩, z⟩ : Cell) = 0 from rfl, endC_zero]; rfl
theorem numT_fact {z : Int} (h : -2147483647 ≤ z ∧ z ≤ 2147483647) : factT (numT z) = true := by
  unfold factT
  rw [show rightT (numT z) = true from decide_eq_true (numT_right h)]
  have h1 : isFun (numT z) = true := rfl
  have h2 : groundT (numT z) = true := rfl
  have h3 := depthT_le (numT z)
  have h4 : (numT z).length = 2 := rfl
  rw [h1, h2, decide_eq_true (by omega)]; rfl

theorem numsL_rowT {a : Int} (ha : 0 ≤ a) (ha2 : a ≤ 65535) {n : Nat} (hn : n ≤ 512) : RowT (numsL a n) := by
  refine ⟨?_, fun x hx => ?_, by rw [numsL_len]; omega⟩
  · unfold SortT
    refine List.pairwise_iff_getElem.2 fun i j hi hj hij => ?_
    rw [numsL_get, numsL_get, numT_cmp, cmpZ_lt]; omega
  · obtain ⟨k, hk, rfl⟩ := List.mem_iff_getElem.1 hx
    rw [numsL_get]
    rw [numsL_len] at hk
    exact numT_fact (by omega)
theorem numsL_mem {a z : Int} {n : Nat} : numT z ∈ numsL a n ↔ a ≤ z ∧ z < a + n := by
  constructor
  · intro h
    obtain ⟨k, hk, he⟩ := List.mem_iff_getElem.1 h
    rw [numsL_get] at he
    rw [numsL_len] at hk
    have := numT_inj he
    omega
  · rintro ⟨h1, h2⟩
    refine List.mem_iff_getElem.2 ⟨(z - a).toNat, by rw [numsL_len]; omega, ?_⟩
    rw [numsL_get]
    congr 1; omega

/-- What the law asks of a full row. -/
structure FullM (L : List (List Cell)) (x y : List Cell) : Prop where
  row : RowT L
  right : rowR L = true
  big : addE L x = 2 ∧ addO L x = []
  same : addE L y = 0 ∧ addO L y = L
  drop : dropE L y = 0 ∧ (dropO L y).length = 511 ∧ RowT (dropO L y)
  back : addE (dropO L y) y = 0 ∧ addO (dropO L y) y = L
theorem full_all {a : Int} (ha : 0 ≤ a) (ha2 : a ≤ 65535) {k : Nat} (hk : k < 512) : FullM (numsL a 512) (numT (-1)) (numT (a + k)) := by
  have hrow := numsL_rowT ha ha2 (Nat.le_refl 512)
  have hlen := numsL_len a 512
  have hfx : factT (numT (-1)) = true := numT_fact (by omega)
  have hfy : factT (numT (a + k)) = true := numT_fact (by omega)
  have hnx : ¬ numT (-1) ∈ numsL a 512 := by rw [numsL_mem]; omega
  have hy : numT (a + k) ∈ numsL a 512 := by rw [numsL_mem]; omega
  have hde : dropE (numsL a 512) (numT (a + k)) = 0 := by unfold dropE; rw [if_pos hfy, if_pos hy]
  have hdr := dropO_rowT hrow hde
  have hmem := fun x => mem_dropO (x := x) hfy hy
  have hdl : (dropO (numsL a 512) (numT (a + k))).length = 511 := by
    have h1 : dropO (numsL a 512) (numT (a + k)) = (numsL a 512).filter fun x => decide (x ≠ numT (a + k)) := by
      refine sortT_ext hdr.sort (List.Pairwise.sublist List.filter_sublist hrow.sort) fun x => ?_
      rw [hmem, List.mem_filter]; simp
    rw [h1]
    have h2 := filter_split (fun x => decide (x ≠ numT (a + k))) (numsL a 512)
    have h3 : (numsL a 512).filter (fun x => !decide (x ≠ numT (a + k))) = [numT (a + k)] := by
      refine sortT_ext (List.Pairwise.sublist List.filter_sublist hrow.sort) (by unfold SortT; simp) fun x => ?_
      rw [List.mem_filter, List.mem_singleton]
      constructor
      · rintro ⟨-, h⟩; simpa using h
      · rintro rfl; exact ⟨hy, by simp⟩
    rw [h3, hlen] at h2
    simp only [List.length_singleton] at h2
    omega
  have hny : ¬ numT (a + k) ∈ dropO (numsL a 512) (numT (a + k)) := fun h => ((hmem _).1 h).2 rfl
  obtain ⟨b1, b2, b3⟩ := addO_rowT' hdr hfy (by omega)
  refine ⟨hrow, rowR_of hrow (by omega), ?_, ?_, ⟨hde, hdl, hdr⟩, b3, ?_⟩
  · unfold addE addO
    rw [if_pos hfx, if_neg hnx, if_pos (by omega), if_pos hfx, if_neg hnx, if_pos (by omega)]; exact ⟨rfl, rfl⟩
  · unfold addE addO
    rw [if_pos hfy, if_pos hy, if_pos hfy, if_pos hy]; exact ⟨rfl, rfl⟩
  · refine sortT_ext b1.sort hrow.sort fun x => ?_
    rw [mem_addO hdr hfy (by omega), hmem]
    constructor
    · rintro (rfl | h)
      · exact hy
      · exact h.1
    · intro h
      by_cases e : x = numT (a + k)
      · exact .inl e
      · exact .inr ⟨h, e⟩
theorem i64_and511 (n : Int) : bits .and .i64 n 511 = n % 512 := i64_mask n 9 (by omega) 511 (by decide)
end Go.Proofs.Ytceipnlpofebmaa
