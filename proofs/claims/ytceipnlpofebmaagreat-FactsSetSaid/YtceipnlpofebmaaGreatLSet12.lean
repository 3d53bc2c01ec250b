/-
  Layer 12: the walk of FactsSet.
-/
import Derived.Test.YtceipnlpofebmaaGreatMtR
namespace Go.Proofs.YtceipnlpofebmaaGreat
open Go Go.RowKit

set_option maxHeartbeats 16000000 in
set_option maxRecDepth 100000 in
theorem set_spec (hH : ∀ w, Calls Tryz.prog 9 #[] w (RetV (.bool true) w)) {S T U : Nat → Prop} {w : World} {v u z : Value} {l : List (List Cell)} {t x : List Cell} (hl : Seq (seqE cellE) S w v l) (ht : Seq cellE T w u t) (hx : Seq cellE U w z x) :
    Calls Tryz.prog 4 #[v, u, z] w (RetV (.bool true) w) := by
  have Hl := Lib.hid hl
  have Ht := Lib.hid ht
  have Hx := Lib.hid hx
  obtain ⟨la, lc, rfl, -⟩ := hl
  obtain ⟨ta, tc, rfl, -⟩ := ht
  obtain ⟨xa, xc, rfl, -⟩ := hx
  have HB0 := Lib.hid (Below.refl w.heap.size w)
  go_enter Tryz.func4, Tryz.ntmps4
  go_wp2_with fail
  refine (hH _).mono ?_
  rintro e w1 ⟨rfl, hb⟩
  replace hb := below_step hb (Seq.way : Below w.heap.size w _)
  replace Hl := Lib.hid (Hl.out.at hb)
  replace Ht := Lib.hid (Ht.out.at hb)
  replace Hx := Lib.hid (Hx.out.at hb)
  have HB1 := Lib.hid (below_step hb HB0.out)
  clear hb
  go_wp2_with fail
  refine (RowR_spec (most := 60) (Hl.out.at Seq.way) (by decide)).mono ?_
  rintro e w2 ⟨v2, rfl, hb, hs⟩
  replace hs := hs.any
  obtain ⟨a2, c2, rfl⟩ := hs.shape
  replace hb := below_step hb (Seq.way : Below w1.heap.size w1 _)
  replace Hl := Lib.hid (Hl.out.at hb)
  replace Ht := Lib.hid (Ht.out.at hb)
  replace Hx := Lib.hid (Hx.out.at hb)
  have HB2 := Lib.hid (below_step hb HB1.out)
  clear hb
  have HF := Lib.hid hs
  clear hs
  obtain ⟨hF1, hF2⟩ := rowF_rowT l (most := 60) (by omega)
  obtain ⟨F, hFF⟩ : ∃ F, F = rowF l 60 := ⟨_, rfl⟩
  rw [← hFF] at hF1 hF2 HF ⊢
  have HF1 := Lib.hid hF1
  clear hF1 hFF
  go_wp2_with fail
  refine (MadeR_spec (Ht.out.at Seq.way)).mono ?_
  rintro e w3 ⟨v3, rfl, hb, hs⟩
  replace hs := hs.any
  obtain ⟨a3, c3, rfl⟩ := hs.shape
  replace hb := below_step hb (Seq.way : Below w2.heap.size w2 _)
  replace Hl := Lib.hid (Hl.out.at hb)
  replace Ht := Lib.hid (Ht.out.at hb)
  replace Hx := Lib.hid (Hx.out.at hb)
  replace HF := Lib.hid (HF.out.at hb)
  have HB3 := Lib.hid (below_step hb HB2.out)
  clear hb
  have HM := Lib.hid hs
  clear hs
  go_wp2_with fail
  refine (MadeR_spec (Hx.out.at Seq.way)).mono ?_
  rintro e w4 ⟨v4, rfl, hb, hs⟩
  replace hs := hs.any
  obtain ⟨a4, c4, rfl⟩ := hs.shape
  replace hb := below_step hb (Seq.way : Below w3.heap.size w3 _)
  replace Hl := Lib.hid (Hl.out.at hb)
  replace Ht := Lib.hid (Ht.out.at hb)
  replace Hx := Lib.hid (Hx.out.at hb)
  replace HF := Lib.hid (HF.out.at hb)
  replace HM := Lib.hid (HM.out.at hb)
  have HB4 := Lib.hid (below_step hb HB3.out)
  clear hb
  have HN := Lib.hid hs
  clear hs
  have hM := (factM_fact t).1
  have hN := (factM_fact x).1
  obtain ⟨M, hMM⟩ : ∃ M, M = factM t := ⟨_, rfl⟩
  obtain ⟨N, hNN⟩ : ∃ N, N = factM x := ⟨_, rfl⟩
  rw [← hMM] at hM HM ⊢
  rw [← hNN] at hN HN ⊢
  have HfM := Lib.hid hM
  have HfN := Lib.hid hN
  clear hMM hNN hM hN Hl Ht Hx
  obtain ⟨hA1, hA2, hA3⟩ := addO_rowT' HF1.out HfM.out (by omega : F.length < 512)
  have hmem := Lib.hid (fun y => mem_addO (x := y) HF1.out HfM.out (by omega : F.length < 512))
  have hlen := Lib.hid (addO_len HF1.out HfM.out (by omega : F.length < 512))
  obtain ⟨A, hAA⟩ : ∃ A, A = addO F M := ⟨_, rfl⟩
  rw [← hAA] at hA1 hA2 hmem hlen
  have HA1 := Lib.hid hA1
  have HAA := Lib.hid hAA
  clear hA1 hAA
  go_wp2_with fail
  refine (AddP_spec (HF.out.at Seq.way) (HM.out.at Seq.way) HF1.out).mono ?_
  rintro e w5 ⟨v5, rfl, hb, hs⟩
  replace hs := hs.any
  obtain ⟨a5, c5, rfl⟩ := hs.shape
  replace hb := below_step hb (Seq.way : Below w4.heap.size w4 _)
  replace HF := Lib.hid (HF.out.at hb)
  replace HM := Lib.hid (HM.out.at hb)
  replace HN := Lib.hid (HN.out.at hb)
  have HB5 := Lib.hid (below_step hb HB4.out)
  clear hb
  have HA := Lib.hid hs
  clear hs
  rw [hA3, ← HAA.out]
  rw [← HAA.out] at HA
  clear hA3
  have hMA := (hmem.out M).2 (.inl rfl)
  have hD1 : dropE A M = 0 := by unfold dropE; rw [if_pos HfM.out, if_pos hMA]
  have hD2 := dropO_rowT HA1.out hD1
  have hD3 := Lib.hid (fun y => (mem_dropO (x := y) HfM.out hMA))
  have hD4 := Lib.hid (addDrop HF1.out HfM.out (by omega : F.length < 512))
  have hD5 := dropO_len A M
  obtain ⟨B, hBB⟩ : ∃ B, B = dropO A M := ⟨_, rfl⟩
  rw [← HAA.out, ← hBB] at hD4
  rw [← hBB] at hD2 hD3 hD5
  have HB1x := Lib.hid hD2
  have HBx := Lib.hid hBB
  clear hBB hD2 hMA
  go_wp2_with fail
  refine (DropP_spec (HA.out.at Seq.way) (HM.out.at Seq.way) HA1.out).mono ?_
  rintro e w6 ⟨v6, rfl, hb, hs⟩
  replace hs := hs.any
  obtain ⟨a6, c6, rfl⟩ := hs.shape
  replace hb := below_step hb (Seq.way : Below w5.heap.size w5 _)
  replace HF := Lib.hid (HF.out.at hb)
  replace HM := Lib.hid (HM.out.at hb)
  replace HN := Lib.hid (HN.out.at hb)
  replace HA := Lib.hid (HA.out.at hb)
  have HB6 := Lib.hid (below_step hb HB5.out)
  clear hb
  have HC := Lib.hid hs
  clear hs
  rw [hD1, ← HBx.out]
  rw [← HBx.out] at HC
  clear hD1
  go_wp2_with fail
  refine (RightP12_spec (HA.out.at Seq.way)).mono ?_
  rintro e w7 ⟨rfl, hb⟩
  rw [rowR_of HA1.out (by omega)]
  replace hb := below_step hb (Seq.way : Below w6.heap.size w6 _)
  replace HF := Lib.hid (HF.out.at hb)
  replace HM := Lib.hid (HM.out.at hb)
  replace HN := Lib.hid (HN.out.at hb)
  replace HA := Lib.hid (HA.out.at hb)
  replace HC := Lib.hid (HC.out.at hb)
  have HB7 := Lib.hid (below_step hb HB6.out)
  clear hb
  go_wp2_with fail
  refine (RightP12_spec (HC.out.at Seq.way)).mono ?_
  rintro e w8 ⟨rfl, hb⟩
  rw [rowR_of HB1x.out (by omega)]
  replace hb := below_step hb (Seq.way : Below w7.heap.size w7 _)
  replace HF := Lib.hid (HF.out.at hb)
  replace HM := Lib.hid (HM.out.at hb)
  replace HN := Lib.hid (HN.out.at hb)
  replace HA := Lib.hid (HA.out.at hb)
  replace HC := Lib.hid (HC.out.at hb)
  have HB8 := Lib.hid (below_step hb HB7.out)
  clear hb
  go_wp2_with fail
  refine (RightR12_spec (HA.out.at Seq.way)).mono ?_
  rintro e w9 ⟨rfl, hb⟩
  rw [rowR_of HA1.out (by omega)]
  replace hb := below_step hb (Seq.way : Below w8.heap.size w8 _)
  replace HF := Lib.hid (HF.out.at hb)
  replace HM := Lib.hid (HM.out.at hb)
  replace HN := Lib.hid (HN.out.at hb)
  replace HA := Lib.hid (HA.out.at hb)
  replace HC := Lib.hid (HC.out.at hb)
  have HB9 := Lib.hid (below_step hb HB8.out)
  clear hb
  go_wp2_with fail
  refine (HasP_spec (HA.out.at Seq.way) (HM.out.at Seq.way) HA1.out.sort HA1.out.len).mono ?_
  rintro e w10 ⟨rfl, hb⟩
  rw [HfM.out, decide_eq_true ((hmem.out M).2 (.inl rfl)), Bool.true_and]
  replace hb := below_step hb (Seq.way : Below w9.heap.size w9 _)
  replace HF := Lib.hid (HF.out.at hb)
  replace HM := Lib.hid (HM.out.at hb)
  replace HN := Lib.hid (HN.out.at hb)
  replace HA := Lib.hid (HA.out.at hb)
  replace HC := Lib.hid (HC.out.at hb)
  have HB10 := Lib.hid (below_step hb HB9.out)
  clear hb
  go_wp2_with fail
  refine (HasP_spec (HC.out.at Seq.way) (HM.out.at Seq.way) HB1x.out.sort HB1x.out.len).mono ?_
  rintro e w11 ⟨rfl, hb⟩
  rw [decide_eq_false (fun h => ((hD3.out M).1 h).2 rfl), Bool.and_false]
  replace hb := below_step hb (Seq.way : Below w10.heap.size w10 _)
  replace HF := Lib.hid (HF.out.at hb)
  replace HM := Lib.hid (HM.out.at hb)
  replace HN := Lib.hid (HN.out.at hb)
  replace HA := Lib.hid (HA.out.at hb)
  replace HC := Lib.hid (HC.out.at hb)
  have HB11 := Lib.hid (below_step hb HB10.out)
  clear hb
  go_wp2_with fail
  refine (SameT_spec (HM.out.at Seq.way) (HN.out.at Seq.way)).mono ?_
  rintro e w12 ⟨rfl, hq⟩
  have hb := hq.belowS
  clear hq
  replace hb := below_step hb (Seq.way : Below w11.heap.size w11 _)
  replace HF := Lib.hid (HF.out.at hb)
  replace HM := Lib.hid (HM.out.at hb)
  replace HN := Lib.hid (HN.out.at hb)
  replace HA := Lib.hid (HA.out.at hb)
  replace HC := Lib.hid (HC.out.at hb)
  have HB12 := Lib.hid (below_step hb HB11.out)
  clear hb
  go_wp2_with fail
  refine (HasR_spec (HF.out.at Seq.way) (HM.out.at Seq.way)).mono ?_
  rintro e w13 ⟨rfl, hq⟩
  have hb := hq.belowS
  clear hq
  replace hb := below_step hb (Seq.way : Below w12.heap.size w12 _)
  replace HF := Lib.hid (HF.out.at hb)
  replace HM := Lib.hid (HM.out.at hb)
  replace HN := Lib.hid (HN.out.at hb)
  replace HA := Lib.hid (HA.out.at hb)
  replace HC := Lib.hid (HC.out.at hb)
  have HB13 := Lib.hid (below_step hb HB12.out)
  clear hb
  by_cases hMF : M ∈ F
  · rw [decide_eq_true hMF]
    have hMFx := Lib.hid hMF
    have hAl : A.length = F.length := by have := hlen.out; rw [if_pos hMF] at this; exact this
    have hAn : ((A.length : Int) != (F.length : Int)) = false := by rw [hAl]; simp
    clear hMF hAl
    by_cases hMN : M = N
    · rw [decide_eq_true hMN]
      have hNA : N ∈ A := (hmem.out N).2 (.inl hMN.symm)
      have hNB : ¬ N ∈ B := fun h => ((hD3.out N).1 h).2 hMN.symm
      clear hMN
      go_wp2_with fail
      refine (HasP_spec (HA.out.at Seq.way) (HN.out.at Seq.way) HA1.out.sort HA1.out.len).mono ?_
      rintro e w14 ⟨rfl, hb⟩
      rw [HfN.out, decide_eq_true hNA, Bool.true_and]
      replace hb := below_step hb (Seq.way : Below w13.heap.size w13 _)
      replace HF := Lib.hid (HF.out.at hb)
      replace HM := Lib.hid (HM.out.at hb)
      replace HN := Lib.hid (HN.out.at hb)
      replace HA := Lib.hid (HA.out.at hb)
      replace HC := Lib.hid (HC.out.at hb)
      have HB14 := Lib.hid (below_step hb HB13.out)
      clear hb
      go_wp2_with fail
      refine (HasP_spec (HC.out.at Seq.way) (HN.out.at Seq.way) HB1x.out.sort HB1x.out.len).mono ?_
      rintro e w15 ⟨rfl, hb⟩
      rw [HfN.out, decide_eq_false hNB, Bool.true_and]
      replace hb := below_step hb (Seq.way : Below w14.heap.size w14 _)
      replace HF := Lib.hid (HF.out.at hb)
      replace HM := Lib.hid (HM.out.at hb)
      replace HN := Lib.hid (HN.out.at hb)
      replace HA := Lib.hid (HA.out.at hb)
      replace HC := Lib.hid (HC.out.at hb)
      have HB15 := Lib.hid (below_step hb HB14.out)
      clear hb
      go_wp2_with fail
      go_ret
      exact ⟨rfl, HB15.out⟩
    · rw [decide_eq_false hMN]
      by_cases hNF : N ∈ F
      · have hNA : N ∈ A := (hmem.out N).2 (.inr hNF)
        have hNB : N ∈ B := (hD3.out N).2 ⟨hNA, fun h => hMN h.symm⟩
        clear hMN
        go_wp2_with fail
        refine (HasP_spec (HA.out.at Seq.way) (HN.out.at Seq.way) HA1.out.sort HA1.out.len).mono ?_
        rintro e w14 ⟨rfl, hb⟩
        rw [HfN.out, decide_eq_true hNA, Bool.true_and]
        replace hb := below_step hb (Seq.way : Below w13.heap.size w13 _)
        replace HF := Lib.hid (HF.out.at hb)
        replace HM := Lib.hid (HM.out.at hb)
        replace HN := Lib.hid (HN.out.at hb)
        replace HA := Lib.hid (HA.out.at hb)
        replace HC := Lib.hid (HC.out.at hb)
        have HB14 := Lib.hid (below_step hb HB13.out)
        clear hb
        go_wp2_with fail
        refine (HasR_spec (HF.out.at Seq.way) (HN.out.at Seq.way)).mono ?_
        rintro e w15 ⟨rfl, hq⟩
        have hb := hq.belowS
        clear hq
        rw [decide_eq_true hNF]
        replace hb := below_step hb (Seq.way : Below w14.heap.size w14 _)
        replace HF := Lib.hid (HF.out.at hb)
        replace HM := Lib.hid (HM.out.at hb)
        replace HN := Lib.hid (HN.out.at hb)
        replace HA := Lib.hid (HA.out.at hb)
        replace HC := Lib.hid (HC.out.at hb)
        have HB15 := Lib.hid (below_step hb HB14.out)
        clear hb
        go_wp2_with fail
        refine (HasP_spec (HC.out.at Seq.way) (HN.out.at Seq.way) HB1x.out.sort HB1x.out.len).mono ?_
        rintro e w16 ⟨rfl, hb⟩
        rw [HfN.out, decide_eq_true hNB, Bool.true_and]
        replace hb := below_step hb (Seq.way : Below w15.heap.size w15 _)
        replace HF := Lib.hid (HF.out.at hb)
        replace HM := Lib.hid (HM.out.at hb)
        replace HN := Lib.hid (HN.out.at hb)
        replace HA := Lib.hid (HA.out.at hb)
        replace HC := Lib.hid (HC.out.at hb)
        have HB16 := Lib.hid (below_step hb HB15.out)
        clear hb
        go_wp2_with fail
        refine (HasR_spec (HF.out.at Seq.way) (HN.out.at Seq.way)).mono ?_
        rintro e w17 ⟨rfl, hq⟩
        have hb := hq.belowS
        clear hq
        rw [decide_eq_true hNF]
        replace hb := below_step hb (Seq.way : Below w16.heap.size w16 _)
        replace HF := Lib.hid (HF.out.at hb)
        replace HM := Lib.hid (HM.out.at hb)
        replace HN := Lib.hid (HN.out.at hb)
        replace HA := Lib.hid (HA.out.at hb)
        replace HC := Lib.hid (HC.out.at hb)
        have HB17 := Lib.hid (below_step hb HB16.out)
        clear hb
        go_wp2_with fail
        go_ret
        exact ⟨rfl, HB17.out⟩
      · have hNA : ¬ N ∈ A := fun h => ((hmem.out N).1 h).elim (fun h => hMN h.symm) hNF
        have hNB : ¬ N ∈ B := fun h => hNA ((hD3.out N).1 h).1
        clear hMN
        go_wp2_with fail
        refine (HasP_spec (HA.out.at Seq.way) (HN.out.at Seq.way) HA1.out.sort HA1.out.len).mono ?_
        rintro e w14 ⟨rfl, hb⟩
        rw [HfN.out, decide_eq_false hNA, Bool.true_and]
        replace hb := below_step hb (Seq.way : Below w13.heap.size w13 _)
        replace HF := Lib.hid (HF.out.at hb)
        replace HM := Lib.hid (HM.out.at hb)
        replace HN := Lib.hid (HN.out.at hb)
        replace HA := Lib.hid (HA.out.at hb)
        replace HC := Lib.hid (HC.out.at hb)
        have HB14 := Lib.hid (below_step hb HB13.out)
        clear hb
        go_wp2_with fail
        refine (HasR_spec (HF.out.at Seq.way) (HN.out.at Seq.way)).mono ?_
        rintro e w15 ⟨rfl, hq⟩
        have hb := hq.belowS
        clear hq
        rw [decide_eq_false hNF]
        replace hb := below_step hb (Seq.way : Below w14.heap.size w14 _)
        replace HF := Lib.hid (HF.out.at hb)
        replace HM := Lib.hid (HM.out.at hb)
        replace HN := Lib.hid (HN.out.at hb)
        replace HA := Lib.hid (HA.out.at hb)
        replace HC := Lib.hid (HC.out.at hb)
        have HB15 := Lib.hid (below_step hb HB14.out)
        clear hb
        go_wp2_with fail
        refine (HasP_spec (HC.out.at Seq.way) (HN.out.at Seq.way) HB1x.out.sort HB1x.out.len).mono ?_
        rintro e w16 ⟨rfl, hb⟩
        rw [HfN.out, decide_eq_false hNB, Bool.true_and]
        replace hb := below_step hb (Seq.way : Below w15.heap.size w15 _)
        replace HF := Lib.hid (HF.out.at hb)
        replace HM := Lib.hid (HM.out.at hb)
        replace HN := Lib.hid (HN.out.at hb)
        replace HA := Lib.hid (HA.out.at hb)
        replace HC := Lib.hid (HC.out.at hb)
        have HB16 := Lib.hid (below_step hb HB15.out)
        clear hb
        go_wp2_with fail
        refine (HasR_spec (HF.out.at Seq.way) (HN.out.at Seq.way)).mono ?_
        rintro e w17 ⟨rfl, hq⟩
        have hb := hq.belowS
        clear hq
        rw [decide_eq_false hNF]
        replace hb := below_step hb (Seq.way : Below w16.heap.size w16 _)
        replace HF := Lib.hid (HF.out.at hb)
        replace HM := Lib.hid (HM.out.at hb)
        replace HN := Lib.hid (HN.out.at hb)
        replace HA := Lib.hid (HA.out.at hb)
        replace HC := Lib.hid (HC.out.at hb)
        have HB17 := Lib.hid (below_step hb HB16.out)
        clear hb
        go_wp2_with fail
        go_ret
        exact ⟨rfl, HB17.out⟩
  · rw [decide_eq_false hMF]
    have hMFx := Lib.hid hMF
    have hAl : A.length = F.length + 1 := by have := hlen.out; rw [if_neg hMF] at this; exact this
    have hAn : ((A.length : Int) != (F.length : Int) + 1) = false := by rw [hAl]; simp
    clear hMF hAl
    by_cases hMN : M = N
    · rw [decide_eq_true hMN]
      have hNA : N ∈ A := (hmem.out N).2 (.inl hMN.symm)
      have hNB : ¬ N ∈ B := fun h => ((hD3.out N).1 h).2 hMN.symm
      clear hMN
      go_wp2_with fail
      refine (SameR12_spec (HC.out.at Seq.way) (HF.out.at Seq.way)).mono ?_
      rintro e w14 ⟨rfl, hq⟩
      have hb := hq.belowS
      clear hq
      rw [decide_eq_true (hD4.out hMFx.out)]
      replace hb := below_step hb (Seq.way : Below w13.heap.size w13 _)
      replace HF := Lib.hid (HF.out.at hb)
      replace HM := Lib.hid (HM.out.at hb)
      replace HN := Lib.hid (HN.out.at hb)
      replace HA := Lib.hid (HA.out.at hb)
      replace HC := Lib.hid (HC.out.at hb)
      have HB14 := Lib.hid (below_step hb HB13.out)
      clear hb
      go_wp2_with fail
      refine (HasP_spec (HA.out.at Seq.way) (HN.out.at Seq.way) HA1.out.sort HA1.out.len).mono ?_
      rintro e w15 ⟨rfl, hb⟩
      rw [HfN.out, decide_eq_true hNA, Bool.true_and]
      replace hb := below_step hb (Seq.way : Below w14.heap.size w14 _)
      replace HF := Lib.hid (HF.out.at hb)
      replace HM := Lib.hid (HM.out.at hb)
      replace HN := Lib.hid (HN.out.at hb)
      replace HA := Lib.hid (HA.out.at hb)
      replace HC := Lib.hid (HC.out.at hb)
      have HB15 := Lib.hid (below_step hb HB14.out)
      clear hb
      go_wp2_with fail
      refine (HasP_spec (HC.out.at Seq.way) (HN.out.at Seq.way) HB1x.out.sort HB1x.out.len).mono ?_
      rintro e w16 ⟨rfl, hb⟩
      rw [HfN.out, decide_eq_false hNB, Bool.true_and]
      replace hb := below_step hb (Seq.way : Below w15.heap.size w15 _)
      replace HF := Lib.hid (HF.out.at hb)
      replace HM := Lib.hid (HM.out.at hb)
      replace HN := Lib.hid (HN.out.at hb)
      replace HA := Lib.hid (HA.out.at hb)
      replace HC := Lib.hid (HC.out.at hb)
      have HB16 := Lib.hid (below_step hb HB15.out)
      clear hb
      go_wp2_with fail
      go_ret
      exact ⟨rfl, HB16.out⟩
    · rw [decide_eq_false hMN]
      by_cases hNF : N ∈ F
      · have hNA : N ∈ A := (hmem.out N).2 (.inr hNF)
        have hNB : N ∈ B := (hD3.out N).2 ⟨hNA, fun h => hMN h.symm⟩
        clear hMN
        go_wp2_with fail
        refine (SameR12_spec (HC.out.at Seq.way) (HF.out.at Seq.way)).mono ?_
        rintro e w14 ⟨rfl, hq⟩
        have hb := hq.belowS
        clear hq
        rw [decide_eq_true (hD4.out hMFx.out)]
        replace hb := below_step hb (Seq.way : Below w13.heap.size w13 _)
        replace HF := Lib.hid (HF.out.at hb)
        replace HM := Lib.hid (HM.out.at hb)
        replace HN := Lib.hid (HN.out.at hb)
        replace HA := Lib.hid (HA.out.at hb)
        replace HC := Lib.hid (HC.out.at hb)
        have HB14 := Lib.hid (below_step hb HB13.out)
        clear hb
        go_wp2_with fail
        refine (HasP_spec (HA.out.at Seq.way) (HN.out.at Seq.way) HA1.out.sort HA1.out.len).mono ?_
        rintro e w15 ⟨rfl, hb⟩
        rw [HfN.out, decide_eq_true hNA, Bool.true_and]
        replace hb := below_step hb (Seq.way : Below w14.heap.size w14 _)
        replace HF := Lib.hid (HF.out.at hb)
        replace HM := Lib.hid (HM.out.at hb)
        replace HN := Lib.hid (HN.out.at hb)
        replace HA := Lib.hid (HA.out.at hb)
        replace HC := Lib.hid (HC.out.at hb)
        have HB15 := Lib.hid (below_step hb HB14.out)
        clear hb
        go_wp2_with fail
        refine (HasR_spec (HF.out.at Seq.way) (HN.out.at Seq.way)).mono ?_
        rintro e w16 ⟨rfl, hq⟩
        have hb := hq.belowS
        clear hq
        rw [decide_eq_true hNF]
        replace hb := below_step hb (Seq.way : Below w15.heap.size w15 _)
        replace HF := Lib.hid (HF.out.at hb)
        replace HM := Lib.hid (HM.out.at hb)
        replace HN := Lib.hid (HN.out.at hb)
        replace HA := Lib.hid (HA.out.at hb)
        replace HC := Lib.hid (HC.out.at hb)
        have HB16 := Lib.hid (below_step hb HB15.out)
        clear hb
        go_wp2_with fail
        refine (HasP_spec (HC.out.at Seq.way) (HN.out.at Seq.way) HB1x.out.sort HB1x.out.len).mono ?_
        rintro e w17 ⟨rfl, hb⟩
        rw [HfN.out, decide_eq_true hNB, Bool.true_and]
        replace hb := below_step hb (Seq.way : Below w16.heap.size w16 _)
        replace HF := Lib.hid (HF.out.at hb)
        replace HM := Lib.hid (HM.out.at hb)
        replace HN := Lib.hid (HN.out.at hb)
        replace HA := Lib.hid (HA.out.at hb)
        replace HC := Lib.hid (HC.out.at hb)
        have HB17 := Lib.hid (below_step hb HB16.out)
        clear hb
        go_wp2_with fail
        refine (HasR_spec (HF.out.at Seq.way) (HN.out.at Seq.way)).mono ?_
        rintro e w18 ⟨rfl, hq⟩
        have hb := hq.belowS
        clear hq
        rw [decide_eq_true hNF]
        replace hb := below_step hb (Seq.way : Below w17.heap.size w17 _)
        replace HF := Lib.hid (HF.out.at hb)
        replace HM := Lib.hid (HM.out.at hb)
        replace HN := Lib.hid (HN.out.at hb)
        replace HA := Lib.hid (HA.out.at hb)
        replace HC := Lib.hid (HC.out.at hb)
        have HB18 := Lib.hid (below_step hb HB17.out)
        clear hb
        go_wp2_with fail
        go_ret
        exact ⟨rfl, HB18.out⟩
      · have hNA : ¬ N ∈ A := fun h => ((hmem.out N).1 h).elim (fun h => hMN h.symm) hNF
        have hNB : ¬ N ∈ B := fun h => hNA ((hD3.out N).1 h).1
        clear hMN
        go_wp2_with fail
        refine (SameR12_spec (HC.out.at Seq.way) (HF.out.at Seq.way)).mono ?_
        rintro e w14 ⟨rfl, hq⟩
        have hb := hq.belowS
        clear hq
        rw [decide_eq_true (hD4.out hMFx.out)]
        replace hb := below_step hb (Seq.way : Below w13.heap.size w13 _)
        replace HF := Lib.hid (HF.out.at hb)
        replace HM := Lib.hid (HM.out.at hb)
        replace HN := Lib.hid (HN.out.at hb)
        replace HA := Lib.hid (HA.out.at hb)
        replace HC := Lib.hid (HC.out.at hb)
        have HB14 := Lib.hid (below_step hb HB13.out)
        clear hb
        go_wp2_with fail
        refine (HasP_spec (HA.out.at Seq.way) (HN.out.at Seq.way) HA1.out.sort HA1.out.len).mono ?_
        rintro e w15 ⟨rfl, hb⟩
        rw [HfN.out, decide_eq_false hNA, Bool.true_and]
        replace hb := below_step hb (Seq.way : Below w14.heap.size w14 _)
        replace HF := Lib.hid (HF.out.at hb)
        replace HM := Lib.hid (HM.out.at hb)
        replace HN := Lib.hid (HN.out.at hb)
        replace HA := Lib.hid (HA.out.at hb)
        replace HC := Lib.hid (HC.out.at hb)
        have HB15 := Lib.hid (below_step hb HB14.out)
        clear hb
        go_wp2_with fail
        refine (HasR_spec (HF.out.at Seq.way) (HN.out.at Seq.way)).mono ?_
        rintro e w16 ⟨rfl, hq⟩
        have hb := hq.belowS
        clear hq
        rw [decide_eq_false hNF]
        replace hb := below_step hb (Seq.way : Below w15.heap.size w15 _)
        replace HF := Lib.hid (HF.out.at hb)
        replace HM := Lib.hid (HM.out.at hb)
        replace HN := Lib.hid (HN.out.at hb)
        replace HA := Lib.hid (HA.out.at hb)
        replace HC := Lib.hid (HC.out.at hb)
        have HB16 := Lib.hid (below_step hb HB15.out)
        clear hb
        go_wp2_with fail
        refine (HasP_spec (HC.out.at Seq.way) (HN.out.at Seq.way) HB1x.out.sort HB1x.out.len).mono ?_
        rintro e w17 ⟨rfl, hb⟩
        rw [HfN.out, decide_eq_false hNB, Bool.true_and]
        replace hb := below_step hb (Seq.way : Below w16.heap.size w16 _)
        replace HF := Lib.hid (HF.out.at hb)
        replace HM := Lib.hid (HM.out.at hb)
        replace HN := Lib.hid (HN.out.at hb)
        replace HA := Lib.hid (HA.out.at hb)
        replace HC := Lib.hid (HC.out.at hb)
        have HB17 := Lib.hid (below_step hb HB16.out)
        clear hb
        go_wp2_with fail
        refine (HasR_spec (HF.out.at Seq.way) (HN.out.at Seq.way)).mono ?_
        rintro e w18 ⟨rfl, hq⟩
        have hb := hq.belowS
        clear hq
        rw [decide_eq_false hNF]
        replace hb := below_step hb (Seq.way : Below w17.heap.size w17 _)
        replace HF := Lib.hid (HF.out.at hb)
        replace HM := Lib.hid (HM.out.at hb)
        replace HN := Lib.hid (HN.out.at hb)
        replace HA := Lib.hid (HA.out.at hb)
        replace HC := Lib.hid (HC.out.at hb)
        have HB18 := Lib.hid (below_step hb HB17.out)
        clear hb
        go_wp2_with fail
        go_ret
        exact ⟨rfl, HB18.out⟩
end Go.Proofs.YtceipnlpofebmaaGreat
