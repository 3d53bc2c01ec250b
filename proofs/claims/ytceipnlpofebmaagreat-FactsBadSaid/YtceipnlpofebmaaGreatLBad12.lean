/-
  Layer 12: the walk of FactsBad.
-/
import Derived.Test.YtceipnlpofebmaaGreatMtR
namespace Go.Proofs.YtceipnlpofebmaaGreat
open Go Go.RowKit

set_option maxHeartbeats 16000000 in
set_option maxRecDepth 100000 in
theorem bad_spec (hH : ∀ w, Calls Tryz.prog 9 #[] w (RetV (.bool true) w)) {S T : Nat → Prop} {w : World} {v u : Value} {l : List (List Cell)} {t : List Cell} (hl : Seq (seqE cellE) S w v l) (ht : Seq cellE T w u t) :
    Calls Tryz.prog 8 #[v, u] w (RetV (.bool true) w) := by
  have Hl := Lib.hid hl
  have Ht := Lib.hid ht
  obtain ⟨la, lc, rfl, -⟩ := hl
  obtain ⟨ta, tc, rfl, -⟩ := ht
  have HB0 := Lib.hid (Below.refl w.heap.size w)
  go_enter Tryz.func8, Tryz.ntmps8
  go_wp2_with fail
  refine (hH _).mono ?_
  rintro e w1 ⟨rfl, hb⟩
  replace hb := below_step hb (Seq.way : Below w.heap.size w _)
  replace Hl := Lib.hid (Hl.out.at hb)
  replace Ht := Lib.hid (Ht.out.at hb)
  have HB1 := Lib.hid (below_step hb HB0.out)
  clear hb
  go_wp2_with fail
  refine (RowR_spec (most := 40) (Hl.out.at Seq.way) (by decide)).mono ?_
  rintro e w2 ⟨v2, rfl, hb, hs⟩
  replace hs := hs.any
  obtain ⟨a2, c2, rfl⟩ := hs.shape
  replace hb := below_step hb (Seq.way : Below w1.heap.size w1 _)
  replace Hl := Lib.hid (Hl.out.at hb)
  replace Ht := Lib.hid (Ht.out.at hb)
  have HB2 := Lib.hid (below_step hb HB1.out)
  clear hb
  have HF := Lib.hid hs
  clear hs
  obtain ⟨hF1, hF2⟩ := rowF_rowT l (most := 40) (by omega)
  obtain ⟨F, hFF⟩ : ∃ F, F = rowF l 40 := ⟨_, rfl⟩
  rw [← hFF] at hF1 hF2 HF ⊢
  have HF1 := Lib.hid hF1
  clear hF1 hFF
  obtain ⟨k, hmin⟩ : ∃ k, min t.length 60 = k := ⟨_, rfl⟩
  have hk1 : k ≤ t.length := by omega
  have hk2 : k ≤ 60 := by omega
  have hminI : min (t.length : Int) 60 = (k : Int) := by omega
  have hk3 : k ≤ tc := by obtain ⟨_, _, e, h, -⟩ := Ht.out; simp only [Value.slice.injEq, true_and] at e; obtain ⟨rfl, rfl⟩ := e; omega
  have hraw := Lib.hid (show Seq cellE (fun b => b < w2.heap.size) (w2.alloc (.cells #[] 44)) (.slice ta k tc) (t.take k) from ((Ht.out.take hk1).mono (T := fun b => b < w2.heap.size) (fun b _ h => h) fun _ _ _ => rfl).below (Seq.way (B := w2.heap.size)) fun b h _ => h)
  have hlk : (t.take k).length = k := by rw [List.length_take]; omega
  obtain ⟨R0, hR0⟩ : ∃ R, R = t.take k := ⟨_, rfl⟩
  rw [← hR0] at hraw hlk
  clear hR0
  go_wp2_with (at_builtin; refine wpList_appL (S := fun _ => True) (base := w2.heap.size) (wm := w2.alloc (.cells #[] 44)) (zs := R0) rfl _ _ 23 rfl Tryz.underlying23 infoCellS rfl rfl (Own.lit0 rfl (Nat.le_refl _) rfl) (Below.refl _ _) rfl hraw.out (fun b h _ => ⟨trivial, .inl h⟩) rfl (by omega) (by omega) (by simp) ?_)
  intro ao cap w3 hown hkept
  have hb : Below w2.heap.size w2 w3 := Below.trans Seq.way hkept.below
  have HX := Lib.hid (hown.seq (T := fun _ => True) (by omega) fun _ _ _ => trivial)
  clear hown hkept hraw
  clear hmin hminI
  replace HF := Lib.hid (HF.out.at hb)
  have HB3 := Lib.hid (below_step hb HB2.out)
  clear hb Hl Ht
  cases hft : factT R0
  · have hE : addE F R0 = 120 := by unfold addE; rw [if_neg (by simp [hft])]
    have hO : addO F R0 = [] := by unfold addO; rw [if_neg (by simp [hft])]
    have hDE : dropE F R0 = 120 := by unfold dropE; rw [if_neg (by simp [hft])]
    have hDO : dropO F R0 = [] := by unfold dropO; rw [if_neg (by simp [hft])]
    have Hft := Lib.hid hft
    clear hft
    go_wp2_with fail
    refine (AddP_spec (HF.out.at Seq.way) (HX.out.at Seq.way) HF1.out).mono ?_
    rintro e w4 ⟨v4, rfl, hb, hs⟩
    replace hs := hs.any
    obtain ⟨a4, c4, rfl⟩ := hs.shape
    replace hb := below_step hb (Seq.way : Below w3.heap.size w3 _)
    replace HF := Lib.hid (HF.out.at hb)
    replace HX := Lib.hid (HX.out.at hb)
    have HB4 := Lib.hid (below_step hb HB3.out)
    clear hb
    have HA := Lib.hid hs
    clear hs
    rw [hE, hO]
    clear hE hO
    go_wp2_with fail
    refine (DropP_spec (HF.out.at Seq.way) (HX.out.at Seq.way) HF1.out).mono ?_
    rintro e w5 ⟨v5, rfl, hb, hs⟩
    replace hs := hs.any
    obtain ⟨a5, c5, rfl⟩ := hs.shape
    replace hb := below_step hb (Seq.way : Below w4.heap.size w4 _)
    replace HF := Lib.hid (HF.out.at hb)
    replace HX := Lib.hid (HX.out.at hb)
    replace HA := Lib.hid (HA.out.at hb)
    have HB5 := Lib.hid (below_step hb HB4.out)
    clear hb
    have HC := Lib.hid hs
    clear hs
    rw [hDE, hDO]
    clear hDE hDO
    go_wp2_with fail
    refine (FactP_spec (HX.out.at Seq.way)).mono ?_
    rintro e w6 ⟨rfl, hb⟩
    rw [Hft.out]
    replace hb := below_step hb (Seq.way : Below w5.heap.size w5 _)
    replace HF := Lib.hid (HF.out.at hb)
    replace HX := Lib.hid (HX.out.at hb)
    replace HA := Lib.hid (HA.out.at hb)
    replace HC := Lib.hid (HC.out.at hb)
    have HB6 := Lib.hid (below_step hb HB5.out)
    clear hb
    go_wp2_with fail
    refine (HasP_spec (HF.out.at Seq.way) (HX.out.at Seq.way) HF1.out.sort HF1.out.len).mono ?_
    rintro e w7 ⟨rfl, hb⟩
    rw [Hft.out, Bool.false_and]
    replace hb := below_step hb (Seq.way : Below w6.heap.size w6 _)
    replace HF := Lib.hid (HF.out.at hb)
    replace HX := Lib.hid (HX.out.at hb)
    replace HA := Lib.hid (HA.out.at hb)
    replace HC := Lib.hid (HC.out.at hb)
    have HB7 := Lib.hid (below_step hb HB6.out)
    clear hb
    go_wp2_with fail
    go_ret
    exact ⟨rfl, HB7.out⟩
  · have hE : addE F R0 = 0 := (addO_rowT' HF1.out hft (by omega)).2.2
    have hDE : (dropE F R0 != 120) = true := by unfold dropE; rw [if_pos hft]; split <;> decide
    have hRo : rowR (addO F R0) = true := rowR_of (addO_rowT' HF1.out hft (by omega)).1 (by have := (addO_rowT' HF1.out hft (by omega)).2.1; omega)
    obtain ⟨hp1, hp2, hp3⟩ := factT_parts2 hft
    have Hft := Lib.hid hft
    clear hft
    go_wp2_with fail
    refine (AddP_spec (HF.out.at Seq.way) (HX.out.at Seq.way) HF1.out).mono ?_
    rintro e w4 ⟨v4, rfl, hb, hs⟩
    replace hs := hs.any
    obtain ⟨a4, c4, rfl⟩ := hs.shape
    replace hb := below_step hb (Seq.way : Below w3.heap.size w3 _)
    replace HF := Lib.hid (HF.out.at hb)
    replace HX := Lib.hid (HX.out.at hb)
    have HB4 := Lib.hid (below_step hb HB3.out)
    clear hb
    have HA := Lib.hid hs
    clear hs
    rw [hE]
    clear hE
    go_wp2_with fail
    refine (DropP_spec (HF.out.at Seq.way) (HX.out.at Seq.way) HF1.out).mono ?_
    rintro e w5 ⟨v5, rfl, hb, hs⟩
    replace hs := hs.any
    obtain ⟨a5, c5, rfl⟩ := hs.shape
    replace hb := below_step hb (Seq.way : Below w4.heap.size w4 _)
    replace HF := Lib.hid (HF.out.at hb)
    replace HX := Lib.hid (HX.out.at hb)
    replace HA := Lib.hid (HA.out.at hb)
    have HB5 := Lib.hid (below_step hb HB4.out)
    clear hb
    have HC := Lib.hid hs
    clear hs
    obtain ⟨DE, hDE2⟩ : ∃ d, d = dropE F R0 := ⟨_, rfl⟩
    rw [← hDE2] at hDE ⊢
    clear hDE2
    go_wp2_with fail
    refine (FactP_spec (HX.out.at Seq.way)).mono ?_
    rintro e w6 ⟨rfl, hb⟩
    rw [Hft.out]
    replace hb := below_step hb (Seq.way : Below w5.heap.size w5 _)
    replace HF := Lib.hid (HF.out.at hb)
    replace HX := Lib.hid (HX.out.at hb)
    replace HA := Lib.hid (HA.out.at hb)
    replace HC := Lib.hid (HC.out.at hb)
    have HB6 := Lib.hid (below_step hb HB5.out)
    clear hb
    go_wp2_with fail
    refine (RightP12_spec (HA.out.at Seq.way)).mono ?_
    rintro e w7 ⟨rfl, hb⟩
    rw [hRo]
    replace hb := below_step hb (Seq.way : Below w6.heap.size w6 _)
    replace HF := Lib.hid (HF.out.at hb)
    replace HX := Lib.hid (HX.out.at hb)
    replace HA := Lib.hid (HA.out.at hb)
    replace HC := Lib.hid (HC.out.at hb)
    have HB7 := Lib.hid (below_step hb HB6.out)
    clear hb
    go_wp2_with fail
    refine (GroundR_spec (HX.out.at Seq.way) (by omega)).mono ?_
    rintro e w8 ⟨rfl, hb⟩
    rw [hp2]
    replace hb := below_step hb (Seq.way : Below w7.heap.size w7 _)
    replace HF := Lib.hid (HF.out.at hb)
    replace HX := Lib.hid (HX.out.at hb)
    replace HA := Lib.hid (HA.out.at hb)
    replace HC := Lib.hid (HC.out.at hb)
    have HB8 := Lib.hid (below_step hb HB7.out)
    clear hb
    go_wp2_with fail
    refine (RightR_spec (HX.out.at Seq.way)).mono ?_
    rintro e w9 ⟨rfl, hb⟩
    rw [hp1]
    replace hb := below_step hb (Seq.way : Below w8.heap.size w8 _)
    replace HF := Lib.hid (HF.out.at hb)
    replace HX := Lib.hid (HX.out.at hb)
    replace HA := Lib.hid (HA.out.at hb)
    replace HC := Lib.hid (HC.out.at hb)
    have HB9 := Lib.hid (below_step hb HB8.out)
    clear hb
    go_wp2_with fail
    go_ret
    exact ⟨rfl, HB9.out⟩
end Go.Proofs.YtceipnlpofebmaaGreat
