/-
  Layer 13: plain facts of the head's questions.
-/
import Derived.Test.YteefdmpaclnaiaaTnP
namespace Go.Proofs.Yteefdmpaclnaiaa
open Go Go.RowKit

theorem fact_one {n : Int} (h0 : -2147483647 ≤ n) (h1 : n ≤ 2147483647) : factT (oneT n) = true := by
  have hc1 : cellOK ⟨3, ⟨#[112]⟩, 1⟩ = true := by decide +kernel
  have hc2 : cellOK ⟨2, ⟨#[]⟩, n⟩ = true := by
    unfold cellOK
    simp [h0, h1]
    rfl
  have ha2 : arity ⟨2, ⟨#[]⟩, n⟩ = 0 := rfl
  have ha1 : arity ⟨3, ⟨#[112]⟩, 1⟩ = 1 := rfl
  have e2 : endC 1 [(⟨2, ⟨#[]⟩, n⟩ : Cell)] = some 1 := by
    rw [endC_one, if_pos hc2, ha2, endC_zero]; rfl
  have e1 : endC 1 (oneT n) = some 2 := by
    unfold oneT
    rw [endC_one, if_pos hc1, ha1, e2]; rfl
  have hr : RightT (oneT n) := ⟨by simp [oneT], e1⟩
  have hrt : rightT (oneT n) = true := by unfold rightT; exact decide_eq_true hr
  have hg : groundT (oneT n) = true := by unfold groundT oneT; simp
  have hd : depthT (oneT n) ≤ 12 := Nat.le_trans (depthT_le _) (by simp [oneT])
  unfold factT
  rw [hrt, hg, decide_eq_true hd]
  rfl
theorem one_inj {a b : Int} : oneT a = oneT b ↔ a = b := by unfold oneT; simp
theorem not_fact_int : factT [(⟨2, ⟨#[]⟩, 0⟩ : Cell)] = false := by decide +kernel

def hb0 : Bas := beginO bas0
def hb1 : Bas := changeO hb0 ⟨true, oneT 1⟩
def hb2 : Bas := changeO hb1 ⟨false, oneT 2⟩
theorem hb0_eq : hb0 = ⟨[], 0, true, []⟩ := rfl
theorem hb1_eq : hb1 = ⟨[], 0, true, [⟨true, oneT 1⟩]⟩ := by
  unfold hb1 changeO
  rw [hb0_eq, if_pos ⟨rfl, fact_one (by omega) (by omega)⟩]; rfl
theorem hb2_eq : hb2 = ⟨[], 0, true, [⟨true, oneT 1⟩, ⟨false, oneT 2⟩]⟩ := by
  unfold hb2 changeO
  rw [hb1_eq, if_pos ⟨rfl, fact_one (by omega) (by omega)⟩]; rfl
theorem hn1 : changeN hb0 ⟨true, oneT 1⟩ = 0 := by
  unfold changeN; rw [hb0_eq, if_pos rfl, if_pos (fact_one (by omega) (by omega))]
theorem hn2 : changeN hb1 ⟨false, oneT 2⟩ = 0 := by
  unfold changeN; rw [hb1_eq, if_pos rfl, if_pos (fact_one (by omega) (by omega))]
theorem hn3 : changeN hb2 ⟨false, [⟨2, ⟨#[]⟩, 0⟩]⟩ = 120 := by
  unfold changeN; rw [hb2_eq, if_pos rfl, if_neg (by rw [not_fact_int]; simp)]
theorem hn4 : changeN bas0 ⟨false, oneT 1⟩ = 131 := rfl
theorem hadd : addE [] (oneT 1) = 0 ∧ addO [] (oneT 1) = [oneT 1] := by
  unfold addE addO
  rw [if_pos (fact_one (by omega) (by omega)), if_pos (fact_one (by omega) (by omega))]
  exact ⟨by simp, by simp [insT]⟩
theorem hdrop : dropE [oneT 1] (oneT 2) = 3 := by
  unfold dropE
  rw [if_pos (fact_one (by omega) (by omega)), if_neg]
  rw [List.mem_singleton, one_inj]; omega
theorem hnow : nowL hb2.facts hb2.todo = [oneT 1] := by
  rw [hb2_eq]
  simp only [nowL, List.foldl_cons, List.foldl_nil, doE, doO, if_true, hadd, Bool.false_eq_true, if_false, hdrop]
  simp
theorem hfull : fullL hb2.facts hb2.todo = false := by
  rw [hb2_eq]
  simp only [fullL, doE, doO, if_true, hadd, Bool.false_eq_true, if_false, hdrop]
  simp
theorem hcom : commitO hb2 = ⟨[oneT 1], 1, false, []⟩ ∧ commitE hb2 = 0 ∧ cameO hb2 = [oneT 1] ∧ wentO hb2 = [] := by
  have hon : hb2.on = true := by rw [hb2_eq]
  have hf : hb2.facts = [] := by rw [hb2_eq]
  have hv : hb2.ver = 0 := by rw [hb2_eq]
  unfold commitO commitE cameO wentO
  rw [hfull, hnow, hon, hv, hf]
  refine ⟨by simp, by simp, by simp [lessT, fltL], by simp [lessT, fltL]⟩
theorem hright : rightB hb2 = true := by
  rw [hb2_eq]
  unfold rightB
  simp [fact_one, rowR]
theorem hright2 : rightB ⟨[], -1, false, []⟩ = false := by
  unfold rightB; simp
end Go.Proofs.Yteefdmpaclnaiaa
