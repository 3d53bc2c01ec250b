/-
  Layer 12: the walk of FactsTells.
-/
import Derived.Test.YtceipnlpofebmaaGreatMtR
namespace Go.Proofs.YtceipnlpofebmaaGreat
open Go Go.RowKit

set_option maxHeartbeats 16000000 in
set_option maxRecDepth 100000 in
theorem tells_spec (hH : ∀ w, Calls Tryz.prog 9 #[] w (RetV (.bool true) w)) {S T U : Nat → Prop} {w : World} {v u a b : Value} {l : List (List Cell)} {t x y : List Cell} (hl : Seq (seqE cellE) S w v l) (ht : Seq cellE T w u t) (h0 : Seq cellE U w a x) (h1 : Seq cellE U w b y) :
    Calls Tryz.prog 3 #[v, u, .agg #[a, b]] w (RetV (.bool true) w) := by
  have Hl := Lib.hid hl
  have Ht := Lib.hid ht
  have H0 := Lib.hid h0
  have H1 := Lib.hid h1
  obtain ⟨la, lc, rfl, -⟩ := hl
  obtain ⟨ta, tc, rfl, -⟩ := ht
  obtain ⟨pa, pc, rfl, -⟩ := h0
  obtain ⟨qa, qc, rfl, -⟩ := h1
  have HB0 := Lib.hid (Below.refl w.heap.size w)
  obtain ⟨w0, hw0⟩ : ∃ W, W = w.alloc (.cells #[.slice pa x.length pc, .slice qa y.length qc] 24) := ⟨_, rfl⟩
  have HR := Lib.hid (show RowA 24 w0 w.heap.size [.slice pa x.length pc, .slice qa y.length qc] by rw [hw0]; exact Row.new w [_, _] _ rfl)
  have hb : Below w.heap.size w w0 := by rw [hw0]; exact Seq.way
  replace Hl := Lib.hid (Hl.out.at hb)
  replace Ht := Lib.hid (Ht.out.at hb)
  replace H0 := Lib.hid (H0.out.at hb)
  replace H1 := Lib.hid (H1.out.at hb)
  have HB1 := Lib.hid hb
  have HW0 := Lib.hid hw0
  clear hb hw0
  go_enter Tryz.func3, Tryz.ntmps3
  go_upto_region 1 with fail
  rw [← HW0.out]
  go_wp2_with fail
  refine (hH _).mono ?_
  rintro e w2 ⟨rfl, hb⟩
  replace hb := below_step hb (Seq.way : Below w0.heap.size w0 _)
  replace Hl := Lib.hid (Hl.out.at hb)
  replace Ht := Lib.hid (Ht.out.at hb)
  replace H0 := Lib.hid (H0.out.at hb)
  replace H1 := Lib.hid (H1.out.at hb)
  replace HR := Lib.hid (HR.out.at hb)
  have HB2 := Lib.hid (below_step hb HB1.out)
  clear hb
  obtain ⟨k, hmin⟩ : ∃ k, min l.length 40 = k := ⟨_, rfl⟩
  have hk1 : k ≤ l.length := by omega
  have hk2 : k ≤ 40 := by omega
  have hminI : min (l.length : Int) 40 = (k : Int) := by omega
  have hk3 : k ≤ lc := by obtain ⟨_, _, e, h, -⟩ := Hl.out; simp only [Value.slice.injEq, true_and] at e; obtain ⟨rfl, rfl⟩ := e; omega
  have hraw := Lib.hid (show Seq (seqE cellE) (fun b => b < w2.heap.size) (w2.alloc (.cells #[] 23)) (.slice la k lc) (l.take k) from ((Hl.out.take hk1).mono (T := fun b => b < w2.heap.size) (fun b _ h => h) fun _ _ _ => rfl).below (Seq.way (B := w2.heap.size)) fun b h _ => h)
  have hlk : (l.take k).length = k := by rw [List.length_take]; omega
  obtain ⟨R0, hR0⟩ : ∃ R, R = l.take k := ⟨_, rfl⟩
  rw [← hR0] at hraw hlk
  clear hR0
  go_wp2_with (at_builtin; refine wpList_appL (S := fun _ => True) (base := w2.heap.size) (wm := w2.alloc (.cells #[] 23)) (zs := R0) rfl _ _ 22 rfl Tryz.underlying22 infoSeq12 rfl rfl (Own.lit0 rfl (Nat.le_refl _) rfl) (Below.refl _ _) rfl hraw.out (fun b h _ => ⟨trivial, .inl h⟩) rfl (by omega) (by omega) (by simp) ?_)
  intro ao cap w3 hown hkept
  have hb : Below w2.heap.size w2 w3 := Below.trans Seq.way hkept.below
  have HX := Lib.hid (hown.seq (T := fun _ => True) (by omega) fun _ _ _ => trivial)
  clear hown hkept hraw
  clear hmin hminI
  replace Hl := Lib.hid (Hl.out.at hb)
  replace Ht := Lib.hid (Ht.out.at hb)
  replace H0 := Lib.hid (H0.out.at hb)
  replace H1 := Lib.hid (H1.out.at hb)
  replace HR := Lib.hid (HR.out.at hb)
  have HB3 := Lib.hid (below_step hb HB2.out)
  clear hb
  go_wp2_with fail
  refine (FactP_spec (Ht.out.at Seq.way)).mono ?_
  rintro e w4 ⟨rfl, hb⟩
  replace hb := below_step hb (Seq.way : Below w3.heap.size w3 _)
  replace Hl := Lib.hid (Hl.out.at hb)
  replace Ht := Lib.hid (Ht.out.at hb)
  replace H0 := Lib.hid (H0.out.at hb)
  replace H1 := Lib.hid (H1.out.at hb)
  replace HR := Lib.hid (HR.out.at hb)
  replace HX := Lib.hid (HX.out.at hb)
  have HB4 := Lib.hid (below_step hb HB3.out)
  clear hb
  go_wp2_with fail
  refine (FactR_spec (Ht.out.at Seq.way)).mono ?_
  rintro e w5 ⟨rfl, hb⟩
  replace hb := below_step hb (Seq.way : Below w4.heap.size w4 _)
  replace Hl := Lib.hid (Hl.out.at hb)
  replace Ht := Lib.hid (Ht.out.at hb)
  replace H0 := Lib.hid (H0.out.at hb)
  replace H1 := Lib.hid (H1.out.at hb)
  replace HR := Lib.hid (HR.out.at hb)
  replace HX := Lib.hid (HX.out.at hb)
  have HB5 := Lib.hid (below_step hb HB4.out)
  clear hb
  have hbb : (factT t != factT t) = false := by simp
  go_wp2_with fail
  refine (RightP12_spec (HX.out.at Seq.way)).mono ?_
  rintro e w6 ⟨rfl, hb⟩
  replace hb := below_step hb (Seq.way : Below w5.heap.size w5 _)
  replace Hl := Lib.hid (Hl.out.at hb)
  replace Ht := Lib.hid (Ht.out.at hb)
  replace H0 := Lib.hid (H0.out.at hb)
  replace H1 := Lib.hid (H1.out.at hb)
  replace HR := Lib.hid (HR.out.at hb)
  replace HX := Lib.hid (HX.out.at hb)
  have HB6 := Lib.hid (below_step hb HB5.out)
  clear hb
  go_wp2_with fail
  refine (RightR12_spec (HX.out.at Seq.way)).mono ?_
  rintro e w7 ⟨rfl, hb⟩
  replace hb := below_step hb (Seq.way : Below w6.heap.size w6 _)
  replace Hl := Lib.hid (Hl.out.at hb)
  replace Ht := Lib.hid (Ht.out.at hb)
  replace H0 := Lib.hid (H0.out.at hb)
  replace H1 := Lib.hid (H1.out.at hb)
  replace HR := Lib.hid (HR.out.at hb)
  replace HX := Lib.hid (HX.out.at hb)
  have HB7 := Lib.hid (below_step hb HB6.out)
  clear hb
  have hbc : (rowR R0 != rowR R0) = false := by simp
  go_wp2_with fail
  refine (RowR_spec (most := 40) (Hl.out.at Seq.way) (by decide)).mono ?_
  rintro e w8 ⟨v8, rfl, hb, hs⟩
  replace hs := hs.any
  obtain ⟨a8, c8, rfl⟩ := hs.shape
  replace hb := below_step hb (Seq.way : Below w7.heap.size w7 _)
  replace Hl := Lib.hid (Hl.out.at hb)
  replace Ht := Lib.hid (Ht.out.at hb)
  replace H0 := Lib.hid (H0.out.at hb)
  replace H1 := Lib.hid (H1.out.at hb)
  replace HR := Lib.hid (HR.out.at hb)
  replace HX := Lib.hid (HX.out.at hb)
  have HB8 := Lib.hid (below_step hb HB7.out)
  clear hb
  have HF := Lib.hid hs
  clear hs
  obtain ⟨hF1, hF2⟩ := rowF_rowT l (most := 40) (by omega)
  obtain ⟨F, hFF⟩ : ∃ F, F = rowF l 40 := ⟨_, rfl⟩
  rw [← hFF] at hF1 HF ⊢
  have HF1 := Lib.hid hF1
  have hF2 := hFF ▸ hF2
  have hhas := Lib.hid (show decide (t ∈ F) = (factT t && decide (t ∈ F)) from by
    by_cases h : t ∈ F
    · rw [HF1.out.fact t h, Bool.true_and]
    · rw [decide_eq_false h, Bool.and_false])
  clear hF1 hFF
  go_wp2_with fail
  refine (AddP_spec (HF.out.at Seq.way) (Ht.out.at Seq.way) HF1.out).mono ?_
  rintro e w9 ⟨v9, rfl, hb, hs⟩
  replace hs := hs.any
  obtain ⟨a9, c9, rfl⟩ := hs.shape
  replace hb := below_step hb (Seq.way : Below w8.heap.size w8 _)
  replace Hl := Lib.hid (Hl.out.at hb)
  replace Ht := Lib.hid (Ht.out.at hb)
  replace H0 := Lib.hid (H0.out.at hb)
  replace H1 := Lib.hid (H1.out.at hb)
  replace HR := Lib.hid (HR.out.at hb)
  replace HX := Lib.hid (HX.out.at hb)
  replace HF := Lib.hid (HF.out.at hb)
  have HB9 := Lib.hid (below_step hb HB8.out)
  clear hb
  have HA := Lib.hid hs
  clear hs
  go_wp2_with fail
  refine (AddR_spec (HF.out.at Seq.way) (Ht.out.at Seq.way)).mono ?_
  rintro e w10 ⟨v10, rfl, hb, hs⟩
  replace hs := hs.any
  obtain ⟨a10, c10, rfl⟩ := hs.shape
  replace hb := below_step hb (Seq.way : Below w9.heap.size w9 _)
  replace Hl := Lib.hid (Hl.out.at hb)
  replace Ht := Lib.hid (Ht.out.at hb)
  replace H0 := Lib.hid (H0.out.at hb)
  replace H1 := Lib.hid (H1.out.at hb)
  replace HR := Lib.hid (HR.out.at hb)
  replace HX := Lib.hid (HX.out.at hb)
  replace HF := Lib.hid (HF.out.at hb)
  replace HA := Lib.hid (HA.out.at hb)
  have HB10 := Lib.hid (below_step hb HB9.out)
  clear hb
  have HBB := Lib.hid hs
  clear hs
  go_wp2_with fail
  refine (DropP_spec (HF.out.at Seq.way) (Ht.out.at Seq.way) HF1.out).mono ?_
  rintro e w11 ⟨v11, rfl, hb, hs⟩
  replace hs := hs.any
  obtain ⟨a11, c11, rfl⟩ := hs.shape
  replace hb := below_step hb (Seq.way : Below w10.heap.size w10 _)
  replace Hl := Lib.hid (Hl.out.at hb)
  replace Ht := Lib.hid (Ht.out.at hb)
  replace H0 := Lib.hid (H0.out.at hb)
  replace H1 := Lib.hid (H1.out.at hb)
  replace HR := Lib.hid (HR.out.at hb)
  replace HX := Lib.hid (HX.out.at hb)
  replace HF := Lib.hid (HF.out.at hb)
  replace HA := Lib.hid (HA.out.at hb)
  replace HBB := Lib.hid (HBB.out.at hb)
  have HB11 := Lib.hid (below_step hb HB10.out)
  clear hb
  have HC := Lib.hid hs
  clear hs
  go_wp2_with fail
  refine (DropR_spec (HF.out.at Seq.way) (Ht.out.at Seq.way) (by have := HF1.out.len; omega)).mono ?_
  rintro e w12 ⟨v12, rfl, hb, hs⟩
  replace hs := hs.any
  obtain ⟨a12, c12, rfl⟩ := hs.shape
  replace hb := below_step hb (Seq.way : Below w11.heap.size w11 _)
  replace Hl := Lib.hid (Hl.out.at hb)
  replace Ht := Lib.hid (Ht.out.at hb)
  replace H0 := Lib.hid (H0.out.at hb)
  replace H1 := Lib.hid (H1.out.at hb)
  replace HR := Lib.hid (HR.out.at hb)
  replace HX := Lib.hid (HX.out.at hb)
  replace HF := Lib.hid (HF.out.at hb)
  replace HA := Lib.hid (HA.out.at hb)
  replace HBB := Lib.hid (HBB.out.at hb)
  replace HC := Lib.hid (HC.out.at hb)
  have HB12 := Lib.hid (below_step hb HB11.out)
  clear hb
  have HD := Lib.hid hs
  clear hs
  obtain ⟨r0, r1⟩ : w12.cell? ⟨w.heap.size, 0, none⟩ = some (.slice pa x.length pc) ∧ w12.cell? ⟨w.heap.size, 1, none⟩ = some (.slice qa y.length qc) := ⟨HR.out.row.cell (j := 0) (by simp), HR.out.row.cell (j := 1) (by simp)⟩
  go_wp2_with fail
  refine (AtomR_spec (most := 12) (H0.out.at Seq.way) (by omega) (by omega)).mono ?_
  rintro e w13 ⟨v13, rfl, hb, hs⟩
  replace hs := hs.any
  obtain ⟨a13, c13, rfl⟩ := hs.shape
  replace hb := below_step hb (Seq.way : Below w12.heap.size w12 _)
  replace Hl := Lib.hid (Hl.out.at hb)
  replace Ht := Lib.hid (Ht.out.at hb)
  replace H0 := Lib.hid (H0.out.at hb)
  replace H1 := Lib.hid (H1.out.at hb)
  replace HR := Lib.hid (HR.out.at hb)
  replace HX := Lib.hid (HX.out.at hb)
  replace HF := Lib.hid (HF.out.at hb)
  replace HA := Lib.hid (HA.out.at hb)
  replace HBB := Lib.hid (HBB.out.at hb)
  replace HC := Lib.hid (HC.out.at hb)
  replace HD := Lib.hid (HD.out.at hb)
  have HB13 := Lib.hid (below_step hb HB12.out)
  clear hb
  have HE := Lib.hid hs
  clear hs
  obtain ⟨CL, hCL⟩ : ∃ CL, CL = atomT 12 x := ⟨_, rfl⟩
  have hcr := Lib.hid (show RightT CL from by rw [hCL]; exact (atomT_right x (by omega) (by omega)).1)
  rw [← hCL] at HE ⊢
  clear hCL r0 r1
  obtain ⟨r0, r1⟩ : w13.cell? ⟨w.heap.size, 0, none⟩ = some (.slice pa x.length pc) ∧ w13.cell? ⟨w.heap.size, 1, none⟩ = some (.slice qa y.length qc) := ⟨HR.out.row.cell (j := 0) (by simp), HR.out.row.cell (j := 1) (by simp)⟩
  go_wp2_with fail
  refine (MadeR_spec (H1.out.at Seq.way)).mono ?_
  rintro e w14 ⟨v14, rfl, hb, hs⟩
  replace hs := hs.any
  obtain ⟨a14, c14, rfl⟩ := hs.shape
  replace hb := below_step hb (Seq.way : Below w13.heap.size w13 _)
  replace Hl := Lib.hid (Hl.out.at hb)
  replace Ht := Lib.hid (Ht.out.at hb)
  replace H0 := Lib.hid (H0.out.at hb)
  replace H1 := Lib.hid (H1.out.at hb)
  replace HR := Lib.hid (HR.out.at hb)
  replace HX := Lib.hid (HX.out.at hb)
  replace HF := Lib.hid (HF.out.at hb)
  replace HA := Lib.hid (HA.out.at hb)
  replace HBB := Lib.hid (HBB.out.at hb)
  replace HC := Lib.hid (HC.out.at hb)
  replace HD := Lib.hid (HD.out.at hb)
  replace HE := Lib.hid (HE.out.at hb)
  have HB14 := Lib.hid (below_step hb HB13.out)
  clear hb
  have HM := Lib.hid hs
  clear hs
  clear r0 r1
  go_wp2_with fail
  refine (AddR_spec (HF.out.at Seq.way) (HM.out.at Seq.way)).mono ?_
  rintro e w15 ⟨v15, rfl, hb, hs⟩
  replace hs := hs.any
  obtain ⟨a15, c15, rfl⟩ := hs.shape
  replace hb := below_step hb (Seq.way : Below w14.heap.size w14 _)
  replace Hl := Lib.hid (Hl.out.at hb)
  replace Ht := Lib.hid (Ht.out.at hb)
  replace H0 := Lib.hid (H0.out.at hb)
  replace H1 := Lib.hid (H1.out.at hb)
  replace HR := Lib.hid (HR.out.at hb)
  replace HX := Lib.hid (HX.out.at hb)
  replace HF := Lib.hid (HF.out.at hb)
  replace HA := Lib.hid (HA.out.at hb)
  replace HBB := Lib.hid (HBB.out.at hb)
  replace HC := Lib.hid (HC.out.at hb)
  replace HD := Lib.hid (HD.out.at hb)
  replace HE := Lib.hid (HE.out.at hb)
  replace HM := Lib.hid (HM.out.at hb)
  have HB15 := Lib.hid (below_step hb HB14.out)
  clear hb
  have HO := Lib.hid hs
  clear hs
  obtain ⟨O, hO⟩ : ∃ O, O = addO F (factM y) := ⟨_, rfl⟩
  have hOr := Lib.hid (show RowT O from by rw [hO]; exact addO_rowT' HF1.out (factM_fact y).1 (by have := hF2; omega) |>.1)
  have hOe := (addO_rowT' HF1.out (factM_fact y).1 (by have := hF2; omega)).2.2
  rw [← hO] at HO ⊢
  clear hO hOe
  go_wp2_with fail
  refine (DiffP_spec (HF.out.at Seq.way) (HO.out.at Seq.way) HF1.out hOr.out).mono ?_
  rintro e w16 ⟨v16, u16, rfl, hb, hs, hs2⟩
  replace hs := hs.any
  replace hs2 := hs2.any
  obtain ⟨a16, c16, rfl⟩ := hs.shape
  obtain ⟨b16, d16, rfl⟩ := hs2.shape
  replace hb := below_step hb (Seq.way : Below w15.heap.size w15 _)
  replace Hl := Lib.hid (Hl.out.at hb)
  replace Ht := Lib.hid (Ht.out.at hb)
  replace H0 := Lib.hid (H0.out.at hb)
  replace H1 := Lib.hid (H1.out.at hb)
  replace HR := Lib.hid (HR.out.at hb)
  replace HX := Lib.hid (HX.out.at hb)
  replace HF := Lib.hid (HF.out.at hb)
  replace HA := Lib.hid (HA.out.at hb)
  replace HBB := Lib.hid (HBB.out.at hb)
  replace HC := Lib.hid (HC.out.at hb)
  replace HD := Lib.hid (HD.out.at hb)
  replace HE := Lib.hid (HE.out.at hb)
  replace HM := Lib.hid (HM.out.at hb)
  replace HO := Lib.hid (HO.out.at hb)
  have HB16 := Lib.hid (below_step hb HB15.out)
  clear hb
  have HP := Lib.hid hs
  have HQ := Lib.hid hs2
  clear hs hs2
  go_wp2_with fail
  refine (DiffR_spec (HF.out.at Seq.way) (HO.out.at Seq.way) (by have := HF1.out.len; omega) (by have := hOr.out.len; omega)).mono ?_
  rintro e w17 ⟨v17, u17, rfl, hb, hs, hs2⟩
  replace hs := hs.any
  replace hs2 := hs2.any
  obtain ⟨a17, c17, rfl⟩ := hs.shape
  obtain ⟨b17, d17, rfl⟩ := hs2.shape
  replace hb := below_step hb (Seq.way : Below w16.heap.size w16 _)
  replace Hl := Lib.hid (Hl.out.at hb)
  replace Ht := Lib.hid (Ht.out.at hb)
  replace H0 := Lib.hid (H0.out.at hb)
  replace H1 := Lib.hid (H1.out.at hb)
  replace HR := Lib.hid (HR.out.at hb)
  replace HX := Lib.hid (HX.out.at hb)
  replace HF := Lib.hid (HF.out.at hb)
  replace HA := Lib.hid (HA.out.at hb)
  replace HBB := Lib.hid (HBB.out.at hb)
  replace HC := Lib.hid (HC.out.at hb)
  replace HD := Lib.hid (HD.out.at hb)
  replace HE := Lib.hid (HE.out.at hb)
  replace HM := Lib.hid (HM.out.at hb)
  replace HO := Lib.hid (HO.out.at hb)
  replace HP := Lib.hid (HP.out.at hb)
  replace HQ := Lib.hid (HQ.out.at hb)
  have HB17 := Lib.hid (below_step hb HB16.out)
  clear hb
  have HP2 := Lib.hid hs
  have HQ2 := Lib.hid hs2
  clear hs hs2
  go_wp2_with fail
  refine (SameR12_spec (HA.out.at Seq.way) (HBB.out.at Seq.way)).mono ?_
  rintro e w18 ⟨rfl, hq⟩
  have hb := hq.belowS
  clear hq
  rw [decide_eq_true rfl]
  replace hb := below_step hb (Seq.way : Below w17.heap.size w17 _)
  replace Hl := Lib.hid (Hl.out.at hb)
  replace Ht := Lib.hid (Ht.out.at hb)
  replace H0 := Lib.hid (H0.out.at hb)
  replace H1 := Lib.hid (H1.out.at hb)
  replace HR := Lib.hid (HR.out.at hb)
  replace HX := Lib.hid (HX.out.at hb)
  replace HF := Lib.hid (HF.out.at hb)
  replace HA := Lib.hid (HA.out.at hb)
  replace HBB := Lib.hid (HBB.out.at hb)
  replace HC := Lib.hid (HC.out.at hb)
  replace HD := Lib.hid (HD.out.at hb)
  replace HE := Lib.hid (HE.out.at hb)
  replace HM := Lib.hid (HM.out.at hb)
  replace HO := Lib.hid (HO.out.at hb)
  replace HP := Lib.hid (HP.out.at hb)
  replace HQ := Lib.hid (HQ.out.at hb)
  replace HP2 := Lib.hid (HP2.out.at hb)
  replace HQ2 := Lib.hid (HQ2.out.at hb)
  have HB18 := Lib.hid (below_step hb HB17.out)
  clear hb
  go_wp2_with fail
  refine (SameR12_spec (HC.out.at Seq.way) (HD.out.at Seq.way)).mono ?_
  rintro e w19 ⟨rfl, hq⟩
  have hb := hq.belowS
  clear hq
  rw [decide_eq_true rfl]
  replace hb := below_step hb (Seq.way : Below w18.heap.size w18 _)
  replace Hl := Lib.hid (Hl.out.at hb)
  replace Ht := Lib.hid (Ht.out.at hb)
  replace H0 := Lib.hid (H0.out.at hb)
  replace H1 := Lib.hid (H1.out.at hb)
  replace HR := Lib.hid (HR.out.at hb)
  replace HX := Lib.hid (HX.out.at hb)
  replace HF := Lib.hid (HF.out.at hb)
  replace HA := Lib.hid (HA.out.at hb)
  replace HBB := Lib.hid (HBB.out.at hb)
  replace HC := Lib.hid (HC.out.at hb)
  replace HD := Lib.hid (HD.out.at hb)
  replace HE := Lib.hid (HE.out.at hb)
  replace HM := Lib.hid (HM.out.at hb)
  replace HO := Lib.hid (HO.out.at hb)
  replace HP := Lib.hid (HP.out.at hb)
  replace HQ := Lib.hid (HQ.out.at hb)
  replace HP2 := Lib.hid (HP2.out.at hb)
  replace HQ2 := Lib.hid (HQ2.out.at hb)
  have HB19 := Lib.hid (below_step hb HB18.out)
  clear hb
  go_wp2_with fail
  refine (HasP_spec (HF.out.at Seq.way) (Ht.out.at Seq.way) HF1.out.sort HF1.out.len).mono ?_
  rintro e w20 ⟨rfl, hb⟩
  replace hb := below_step hb (Seq.way : Below w19.heap.size w19 _)
  replace Hl := Lib.hid (Hl.out.at hb)
  replace Ht := Lib.hid (Ht.out.at hb)
  replace H0 := Lib.hid (H0.out.at hb)
  replace H1 := Lib.hid (H1.out.at hb)
  replace HR := Lib.hid (HR.out.at hb)
  replace HX := Lib.hid (HX.out.at hb)
  replace HF := Lib.hid (HF.out.at hb)
  replace HA := Lib.hid (HA.out.at hb)
  replace HBB := Lib.hid (HBB.out.at hb)
  replace HC := Lib.hid (HC.out.at hb)
  replace HD := Lib.hid (HD.out.at hb)
  replace HE := Lib.hid (HE.out.at hb)
  replace HM := Lib.hid (HM.out.at hb)
  replace HO := Lib.hid (HO.out.at hb)
  replace HP := Lib.hid (HP.out.at hb)
  replace HQ := Lib.hid (HQ.out.at hb)
  replace HP2 := Lib.hid (HP2.out.at hb)
  replace HQ2 := Lib.hid (HQ2.out.at hb)
  have HB20 := Lib.hid (below_step hb HB19.out)
  clear hb
  obtain ⟨bb, hbv⟩ : ∃ b, b = (factT t && decide (t ∈ F)) := ⟨_, rfl⟩
  rw [← hbv]
  have Hbv := Lib.hid hbv
  clear hbv
  go_wp2_with fail
  refine (HasR_spec (HF.out.at Seq.way) (Ht.out.at Seq.way)).mono ?_
  rintro e w21 ⟨rfl, hq⟩
  have hb := hq.belowS
  clear hq
  rw [show decide (t ∈ F) = bb from hhas.out.trans Hbv.out.symm]
  replace hb := below_step hb (Seq.way : Below w20.heap.size w20 _)
  replace Hl := Lib.hid (Hl.out.at hb)
  replace Ht := Lib.hid (Ht.out.at hb)
  replace H0 := Lib.hid (H0.out.at hb)
  replace H1 := Lib.hid (H1.out.at hb)
  replace HR := Lib.hid (HR.out.at hb)
  replace HX := Lib.hid (HX.out.at hb)
  replace HF := Lib.hid (HF.out.at hb)
  replace HA := Lib.hid (HA.out.at hb)
  replace HBB := Lib.hid (HBB.out.at hb)
  replace HC := Lib.hid (HC.out.at hb)
  replace HD := Lib.hid (HD.out.at hb)
  replace HE := Lib.hid (HE.out.at hb)
  replace HM := Lib.hid (HM.out.at hb)
  replace HO := Lib.hid (HO.out.at hb)
  replace HP := Lib.hid (HP.out.at hb)
  replace HQ := Lib.hid (HQ.out.at hb)
  replace HP2 := Lib.hid (HP2.out.at hb)
  replace HQ2 := Lib.hid (HQ2.out.at hb)
  have HB21 := Lib.hid (below_step hb HB20.out)
  clear hb
  have hbd : (bb == bb) = true := by simp
  go_wp2_with fail
  refine (FindP_spec (HF.out.at Seq.way) (HE.out.at Seq.way) hcr.out (fun x hx => HF1.out.right x hx) (HF1.out.len)).mono ?_
  rintro e w22 ⟨v22, rfl, hb, hs⟩
  replace hs := hs.any
  obtain ⟨a22, c22, rfl⟩ := hs.shape
  replace hb := below_step hb (Seq.way : Below w21.heap.size w21 _)
  replace Hl := Lib.hid (Hl.out.at hb)
  replace Ht := Lib.hid (Ht.out.at hb)
  replace H0 := Lib.hid (H0.out.at hb)
  replace H1 := Lib.hid (H1.out.at hb)
  replace HR := Lib.hid (HR.out.at hb)
  replace HX := Lib.hid (HX.out.at hb)
  replace HF := Lib.hid (HF.out.at hb)
  replace HA := Lib.hid (HA.out.at hb)
  replace HBB := Lib.hid (HBB.out.at hb)
  replace HC := Lib.hid (HC.out.at hb)
  replace HD := Lib.hid (HD.out.at hb)
  replace HE := Lib.hid (HE.out.at hb)
  replace HM := Lib.hid (HM.out.at hb)
  replace HO := Lib.hid (HO.out.at hb)
  replace HP := Lib.hid (HP.out.at hb)
  replace HQ := Lib.hid (HQ.out.at hb)
  replace HP2 := Lib.hid (HP2.out.at hb)
  replace HQ2 := Lib.hid (HQ2.out.at hb)
  have HB22 := Lib.hid (below_step hb HB21.out)
  clear hb
  have HG := Lib.hid hs
  clear hs
  go_wp2_with fail
  refine (FindR_spec (HF.out.at Seq.way) (HE.out.at Seq.way) (by have := hcr.out.1; omega) (fun x hx => HF1.out.right x hx) (by have := HF1.out.len; omega)).mono ?_
  rintro e w23 ⟨v23, rfl, hb, hs⟩
  replace hs := hs.any
  obtain ⟨a23, c23, rfl⟩ := hs.shape
  replace hb := below_step hb (Seq.way : Below w22.heap.size w22 _)
  replace Hl := Lib.hid (Hl.out.at hb)
  replace Ht := Lib.hid (Ht.out.at hb)
  replace H0 := Lib.hid (H0.out.at hb)
  replace H1 := Lib.hid (H1.out.at hb)
  replace HR := Lib.hid (HR.out.at hb)
  replace HX := Lib.hid (HX.out.at hb)
  replace HF := Lib.hid (HF.out.at hb)
  replace HA := Lib.hid (HA.out.at hb)
  replace HBB := Lib.hid (HBB.out.at hb)
  replace HC := Lib.hid (HC.out.at hb)
  replace HD := Lib.hid (HD.out.at hb)
  replace HE := Lib.hid (HE.out.at hb)
  replace HM := Lib.hid (HM.out.at hb)
  replace HO := Lib.hid (HO.out.at hb)
  replace HP := Lib.hid (HP.out.at hb)
  replace HQ := Lib.hid (HQ.out.at hb)
  replace HP2 := Lib.hid (HP2.out.at hb)
  replace HQ2 := Lib.hid (HQ2.out.at hb)
  replace HG := Lib.hid (HG.out.at hb)
  have HB23 := Lib.hid (below_step hb HB22.out)
  clear hb
  have HG2 := Lib.hid hs
  clear hs
  go_wp2_with fail
  refine (SameR12_spec (HG.out.at Seq.way) (HG2.out.at Seq.way)).mono ?_
  rintro e w24 ⟨rfl, hq⟩
  have hb := hq.belowS
  clear hq
  rw [decide_eq_true rfl]
  replace hb := below_step hb (Seq.way : Below w23.heap.size w23 _)
  replace Hl := Lib.hid (Hl.out.at hb)
  replace Ht := Lib.hid (Ht.out.at hb)
  replace H0 := Lib.hid (H0.out.at hb)
  replace H1 := Lib.hid (H1.out.at hb)
  replace HR := Lib.hid (HR.out.at hb)
  replace HX := Lib.hid (HX.out.at hb)
  replace HF := Lib.hid (HF.out.at hb)
  replace HA := Lib.hid (HA.out.at hb)
  replace HBB := Lib.hid (HBB.out.at hb)
  replace HC := Lib.hid (HC.out.at hb)
  replace HD := Lib.hid (HD.out.at hb)
  replace HE := Lib.hid (HE.out.at hb)
  replace HM := Lib.hid (HM.out.at hb)
  replace HO := Lib.hid (HO.out.at hb)
  replace HP := Lib.hid (HP.out.at hb)
  replace HQ := Lib.hid (HQ.out.at hb)
  replace HP2 := Lib.hid (HP2.out.at hb)
  replace HQ2 := Lib.hid (HQ2.out.at hb)
  replace HG := Lib.hid (HG.out.at hb)
  replace HG2 := Lib.hid (HG2.out.at hb)
  have HB24 := Lib.hid (below_step hb HB23.out)
  clear hb
  go_wp2_with fail
  refine (SameR12_spec (HP.out.at Seq.way) (HP2.out.at Seq.way)).mono ?_
  rintro e w25 ⟨rfl, hq⟩
  have hb := hq.belowS
  clear hq
  rw [decide_eq_true rfl]
  replace hb := below_step hb (Seq.way : Below w24.heap.size w24 _)
  replace Hl := Lib.hid (Hl.out.at hb)
  replace Ht := Lib.hid (Ht.out.at hb)
  replace H0 := Lib.hid (H0.out.at hb)
  replace H1 := Lib.hid (H1.out.at hb)
  replace HR := Lib.hid (HR.out.at hb)
  replace HX := Lib.hid (HX.out.at hb)
  replace HF := Lib.hid (HF.out.at hb)
  replace HA := Lib.hid (HA.out.at hb)
  replace HBB := Lib.hid (HBB.out.at hb)
  replace HC := Lib.hid (HC.out.at hb)
  replace HD := Lib.hid (HD.out.at hb)
  replace HE := Lib.hid (HE.out.at hb)
  replace HM := Lib.hid (HM.out.at hb)
  replace HO := Lib.hid (HO.out.at hb)
  replace HP := Lib.hid (HP.out.at hb)
  replace HQ := Lib.hid (HQ.out.at hb)
  replace HP2 := Lib.hid (HP2.out.at hb)
  replace HQ2 := Lib.hid (HQ2.out.at hb)
  replace HG := Lib.hid (HG.out.at hb)
  replace HG2 := Lib.hid (HG2.out.at hb)
  have HB25 := Lib.hid (below_step hb HB24.out)
  clear hb
  go_wp2_with fail
  refine (SameR12_spec (HQ.out.at Seq.way) (HQ2.out.at Seq.way)).mono ?_
  rintro e w26 ⟨rfl, hq⟩
  have hb := hq.belowS
  clear hq
  rw [decide_eq_true rfl]
  replace hb := below_step hb (Seq.way : Below w25.heap.size w25 _)
  replace Hl := Lib.hid (Hl.out.at hb)
  replace Ht := Lib.hid (Ht.out.at hb)
  replace H0 := Lib.hid (H0.out.at hb)
  replace H1 := Lib.hid (H1.out.at hb)
  replace HR := Lib.hid (HR.out.at hb)
  replace HX := Lib.hid (HX.out.at hb)
  replace HF := Lib.hid (HF.out.at hb)
  replace HA := Lib.hid (HA.out.at hb)
  replace HBB := Lib.hid (HBB.out.at hb)
  replace HC := Lib.hid (HC.out.at hb)
  replace HD := Lib.hid (HD.out.at hb)
  replace HE := Lib.hid (HE.out.at hb)
  replace HM := Lib.hid (HM.out.at hb)
  replace HO := Lib.hid (HO.out.at hb)
  replace HP := Lib.hid (HP.out.at hb)
  replace HQ := Lib.hid (HQ.out.at hb)
  replace HP2 := Lib.hid (HP2.out.at hb)
  replace HQ2 := Lib.hid (HQ2.out.at hb)
  replace HG := Lib.hid (HG.out.at hb)
  replace HG2 := Lib.hid (HG2.out.at hb)
  have HB26 := Lib.hid (below_step hb HB25.out)
  clear hb
  go_wp2_with fail
  go_ret
  exact ⟨rfl, HB26.out⟩
end Go.Proofs.YtceipnlpofebmaaGreat
