/-
  R12: Made.
-/
import Derived.Test.YtbcambjonjhopaaTmJ
namespace Go.Proofs.Ytbcambjonjhopaa
open Go Go.RowKit

def varI (c : Cell) : Cell := if c.kind = 1 then ⟨2, ⟨#[]⟩, c.n⟩ else c
def varM (o : List Cell) (k : Nat) : List Cell := (o.take k).map varI ++ o.drop k
theorem varM_len (o : List Cell) (k : Nat) : (varM o k).length = o.length := by unfold varM; simp; omega
theorem varM_at {o : List Cell} {k : Nat} (hk : k < o.length) : (varM o k)[k]? = some o[k] := by
  unfold varM
  rw [List.getElem?_append_right (by simp; omega), List.getElem?_drop]
  simp only [List.length_map, List.length_take]
  rw [show k + (k - min k o.length) = k by omega, List.getElem?_eq_getElem hk]
theorem varM_step {o : List Cell} {k : Nat} (hk : k < o.length) : varM o (k + 1) = (varM o k).set k (varI o[k]) := by
  have hl : ((o.take k).map varI).length = k := by simp; omega
  unfold varM
  rw [List.take_succ_eq_append_getElem hk, List.map_append, List.append_assoc]
  conv => rhs; rw [List.drop_eq_getElem_cons hk]
  rw [List.set_append_right _ _ (by omega), hl, Nat.sub_self]
  rfl
theorem varM_same {o : List Cell} {k : Nat} (hk : k < o.length) (h : varI o[k] = o[k]) : varM o (k + 1) = varM o k := by
  rw [varM_step hk, h]
  apply List.ext_getElem?
  intro j
  rw [List.getElem?_set]
  by_cases hkj : k = j
  · subst hkj
    rw [if_pos rfl, if_pos (by rw [varM_len]; exact hk), varM_at hk]
  · rw [if_neg hkj]
theorem varM_all (o : List Cell) : varM o o.length = o.map varI := by unfold varM; simp
def factM (t : List Cell) : List Cell := if 12 < depthT ((atomT 12 t).map varI) then [aC] else (atomT 12 t).map varI

theorem varI_ok {c : Cell} (h : cellOK c = true) : cellOK (varI c) = true ∧ arity (varI c) = arity c := by
  unfold varI
  split
  · rename_i h1
    unfold cellOK at h
    rw [if_pos h1] at h
    simp only [Bool.and_eq_true, decide_eq_true_eq] at h
    refine ⟨?_, ?_⟩
    · unfold cellOK
      rw [if_neg (by simp), if_pos rfl]
      simp only [Bool.and_eq_true, decide_eq_true_eq]
      exact ⟨⟨rfl, by omega⟩, by omega⟩
    · unfold arity
      rw [if_neg (by simp), if_neg (by omega)]
  · exact ⟨h, rfl⟩
theorem endC_map : ∀ {l : List Cell} {k m : Nat}, endC k l = some m → endC k (l.map varI) = some m
  | l, 0, m, h => by rw [endC_zero] at *; exact h
  | [], k + 1, m, h => by simp [endC] at h
  | c :: l, k + 1, m, h => by
    rw [endC_succ] at h
    split at h
    · rename_i hc
      obtain ⟨m', hm', rfl⟩ := Option.map_eq_some_iff.1 h
      rw [List.map_cons, endC_succ, if_pos (varI_ok hc).1, (varI_ok hc).2, endC_map hm']
      rfl
    · simp at h
theorem right_map {t : List Cell} (h : RightT t) : RightT (t.map varI) := ⟨by rw [List.length_map]; exact h.1, by rw [List.length_map]; exact endC_map h.2⟩
theorem ground_map (t : List Cell) : groundT (t.map varI) = true := by
  unfold groundT
  rw [List.all_map, List.all_eq_true]
  intro c _
  show (!decide ((varI c).kind = 1)) = true
  unfold varI
  split
  · simp
  · rename_i h; simp [h]
theorem fact_aC : factT [aC] = true := by decide +kernel
theorem factM_fact (t : List Cell) : factT (factM t) = true ∧ (factM t).length ≤ 12 := by
  obtain ⟨h1, h2, h3⟩ := atomT_right (most := 12) t (by omega) (by omega)
  unfold factM
  split
  · exact ⟨fact_aC, by simp⟩
  · rename_i hd
    refine ⟨?_, by rw [List.length_map]; exact h2⟩
    unfold factT
    have hr : rightT ((atomT 12 t).map varI) = true := decide_eq_true (right_map h1)
    have hfu : isFun ((atomT 12 t).map varI) = true := by
      cases ht : atomT 12 t with
      | nil => rw [ht] at h3; simp [isFun] at h3
      | cons c l =>
        rw [ht] at h3
        simp only [isFun, decide_eq_true_eq] at h3
        show decide ((varI c).kind = 3) = true
        unfold varI
        rw [if_neg (by omega)]
        simp [h3]
    rw [hr, hfu, ground_map]
    simp; omega
theorem factT_parts {t : List Cell} (h : factT t = true) : RightT t ∧ isFun t = true ∧ groundT t = true ∧ depthT t ≤ 12 := by
  unfold factT at h
  simp only [Bool.and_eq_true, decide_eq_true_eq] at h
  exact ⟨of_decide_eq_true h.1.1.1, h.1.1.2, h.1.2, h.2⟩
theorem factM_self {t : List Cell} (h : factT t = true) (hl : t.length ≤ 12) : factM t = t := by
  obtain ⟨h1, h2, h3, h4⟩ := factT_parts h
  have hm : madeT 12 t = t := madeT_self h1 hl
  have ha : atomT 12 t = t := by unfold atomT; rw [hm, if_pos h2]
  have hv : t.map varI = t := by
    rw [List.map_congr_left (g := id), List.map_id]
    intro c hc
    unfold groundT at h3
    rw [List.all_eq_true] at h3
    have := h3 c hc
    unfold varI
    rw [if_neg (by simpa using this)]; rfl
  unfold factM
  rw [ha, hv, if_neg (by omega)]

theorem Own.cellS {S T : Nat → Prop} {base : Nat} {e : TypeId} {w : World} {v : Value} {xs : List Cell} (h : Own cellE S base e w v xs) : Own cellE T base e w v xs := by
  obtain ⟨vs, h1, h2⟩ := h
  exact ⟨vs, h1, fun k x hx => h2 k x hx⟩


end Go.Proofs.Ytbcambjonjhopaa
