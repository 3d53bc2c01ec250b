/-
  Layer 14, the law: head.
-/
import Derived.Test.YtckkjjiaecnciaaGreatSpO
namespace Go.Proofs.YtckkjjiaecnciaaGreat
open Go Go.RowKit

set_option maxHeartbeats 102400000 in
set_option maxRecDepth 100000 in
theorem head_spec {w : World} : Calls Tryz.prog 7 #[] w (RetV (.bool true) w) := by
  go_enter Tryz.func7, Tryz.ntmps7
  go_wp2_with fail
  refine (fC_spec (nm := ⟨#[112]⟩) (n := 1)).mono ?_
  rintro e y1 ⟨rfl, hy1⟩
  have D1 := Lib.hid (below_step hy1 (Seq.way : Below w.heap.size w _))
  have B1 := Lib.hid (below_step D1.out (Below.refl _ _))
  clear hy1 D1
  go_wp2_with fail
  refine (vC_spec (n := 5)).mono ?_
  rintro e y2 ⟨rfl, hy2⟩
  have D2 := Lib.hid (below_step hy2 (Seq.way : Below y1.heap.size y1 _))
  have B2 := Lib.hid (below_step D2.out B1.out)
  clear B1
  clear hy2 D2
  go_wp2_with fail
  refine (open14 hd_1 (Seq.nil tabE (fun _ => False) _) (litC [cP, cV 5] (ok2 okP okV5) (by simp)) (by decide) (by decide) (by decide)).mono ?_
  rintro e y3 ⟨sa, sc, rfl, hy3, hs3⟩
  have D3 := Lib.hid (below_step hy3 (Seq.way : Below y2.heap.size y2 _))
  have B3 := Lib.hid (below_step D3.out B2.out)
  clear B2
  have S_3 := Lib.hid (hs3)
  clear hy3 D3
  clear hs3
  go_wp2_with fail
  refine (fC_spec (nm := ⟨#[112]⟩) (n := 1)).mono ?_
  rintro e y4 ⟨rfl, hy4⟩
  have D4 := Lib.hid (below_step hy4 (Seq.way : Below y3.heap.size y3 _))
  have S_4 := Lib.hid (S_3.out.at D4.out)
  have B4 := Lib.hid (below_step D4.out B3.out)
  clear B3
  clear S_3
  clear hy4 D4
  go_wp2_with fail
  refine (vC_spec (n := 1)).mono ?_
  rintro e y5 ⟨rfl, hy5⟩
  have D5 := Lib.hid (below_step hy5 (Seq.way : Below y4.heap.size y4 _))
  have S_5 := Lib.hid (S_4.out.at D5.out)
  have B5 := Lib.hid (below_step D5.out B4.out)
  clear B4
  clear S_4
  clear hy5 D5
  go_wp2_with fail
  refine (open14 hd_2 (S_5.out.at Seq.way) (litC [cP, cV 1] (ok2 okP okV1) (by simp)) (by decide) (by decide) (by decide)).mono ?_
  rintro e y6 ⟨ta, tc, rfl, hy6, hs6⟩
  have D6 := Lib.hid (below_step hy6 (Seq.way : Below y5.heap.size y5 _))
  have S_6 := Lib.hid (S_5.out.at D6.out)
  have B6 := Lib.hid (below_step D6.out B5.out)
  clear B5
  clear S_5
  clear hy6 D6
  clear hs6
  go_wp2_with fail
  refine (fC_spec (nm := ⟨#[113]⟩) (n := 0)).mono ?_
  rintro e y7 ⟨rfl, hy7⟩
  have D7 := Lib.hid (below_step hy7 (Seq.way : Below y6.heap.size y6 _))
  have S_7 := Lib.hid (S_6.out.at D7.out)
  have B7 := Lib.hid (below_step D7.out B6.out)
  clear B6
  clear S_6
  clear hy7 D7
  go_wp2_with fail
  refine (open14 hd_3 (S_7.out.at Seq.way) (litC [cQ] (ok1 okQ) (by simp)) (by decide) (by decide) (by decide)).mono ?_
  rintro e y8 ⟨ua, uc, rfl, hy8, hs8⟩
  have D8 := Lib.hid (below_step hy8 (Seq.way : Below y7.heap.size y7 _))
  have S_8 := Lib.hid (S_7.out.at D8.out)
  have B8 := Lib.hid (below_step D8.out B7.out)
  clear B7
  clear S_7
  have U_8 := Lib.hid (hs8)
  clear hy8 D8
  clear hs8
  go_wp2_with fail
  refine (sort14 hd_4 hd_4b (U_8.out.at Seq.way) hd_g).mono ?_
  rintro e y9 ⟨xa, xc, da, dc, rfl, hy9, hs9, ht9⟩
  have D9 := Lib.hid (below_step hy9 (Seq.way : Below y8.heap.size y8 _))
  have S_9 := Lib.hid (S_8.out.at D9.out)
  have U_9 := Lib.hid (U_8.out.at D9.out)
  have B9 := Lib.hid (below_step D9.out B8.out)
  clear B8
  clear S_8
  clear U_8
  have X_9 := Lib.hid (hs9)
  have D_9 := Lib.hid (ht9)
  clear hy9 D9
  clear hs9 ht9
  go_wp2_with fail
  refine (fC_spec (nm := ⟨#[112]⟩) (n := 1)).mono ?_
  rintro e y10 ⟨rfl, hy10⟩
  have D10 := Lib.hid (below_step hy10 (Seq.way : Below y9.heap.size y9 _))
  have S_10 := Lib.hid (S_9.out.at D10.out)
  have U_10 := Lib.hid (U_9.out.at D10.out)
  have X_10 := Lib.hid (X_9.out.at D10.out)
  have D_10 := Lib.hid (D_9.out.at D10.out)
  have B10 := Lib.hid (below_step D10.out B9.out)
  clear B9
  clear S_9
  clear U_9
  clear X_9
  clear D_9
  clear hy10 D10
  go_wp2_with fail
  refine (fC_spec (nm := ⟨#[97]⟩) (n := 0)).mono ?_
  rintro e y11 ⟨rfl, hy11⟩
  have D11 := Lib.hid (below_step hy11 (Seq.way : Below y10.heap.size y10 _))
  have S_11 := Lib.hid (S_10.out.at D11.out)
  have U_11 := Lib.hid (U_10.out.at D11.out)
  have X_11 := Lib.hid (X_10.out.at D11.out)
  have D_11 := Lib.hid (D_10.out.at D11.out)
  have B11 := Lib.hid (below_step D11.out B10.out)
  clear B10
  clear S_10
  clear U_10
  clear X_10
  clear D_10
  clear hy11 D11
  go_wp2_with fail
  refine (answer14 hd_5 hd_5b (S_11.out.at Seq.way) (litC [cP, cA] (ok2 okP okA) (by simp)) (by decide) (by decide)).mono ?_
  rintro e y12 ⟨wa, wc, rfl, hy12, hs12⟩
  have D12 := Lib.hid (below_step hy12 (Seq.way : Below y11.heap.size y11 _))
  have S_12 := Lib.hid (S_11.out.at D12.out)
  have U_12 := Lib.hid (U_11.out.at D12.out)
  have X_12 := Lib.hid (X_11.out.at D12.out)
  have D_12 := Lib.hid (D_11.out.at D12.out)
  have B12 := Lib.hid (below_step D12.out B11.out)
  clear B11
  clear S_11
  clear U_11
  clear X_11
  clear D_11
  have W_12 := Lib.hid (hs12)
  clear hy12 D12
  clear hs12
  go_wp2_with fail
  refine (fC_spec (nm := ⟨#[112]⟩) (n := 1)).mono ?_
  rintro e y13 ⟨rfl, hy13⟩
  have D13 := Lib.hid (below_step hy13 (Seq.way : Below y12.heap.size y12 _))
  have S_13 := Lib.hid (S_12.out.at D13.out)
  have U_13 := Lib.hid (U_12.out.at D13.out)
  have X_13 := Lib.hid (X_12.out.at D13.out)
  have D_13 := Lib.hid (D_12.out.at D13.out)
  have W_13 := Lib.hid (W_12.out.at D13.out)
  have B13 := Lib.hid (below_step D13.out B12.out)
  clear B12
  clear S_12
  clear U_12
  clear X_12
  clear D_12
  clear W_12
  clear hy13 D13
  go_wp2_with fail
  refine (fC_spec (nm := ⟨#[97]⟩) (n := 0)).mono ?_
  rintro e y14 ⟨rfl, hy14⟩
  have D14 := Lib.hid (below_step hy14 (Seq.way : Below y13.heap.size y13 _))
  have S_14 := Lib.hid (S_13.out.at D14.out)
  have U_14 := Lib.hid (U_13.out.at D14.out)
  have X_14 := Lib.hid (X_13.out.at D14.out)
  have D_14 := Lib.hid (D_13.out.at D14.out)
  have W_14 := Lib.hid (W_13.out.at D14.out)
  have B14 := Lib.hid (below_step D14.out B13.out)
  clear B13
  clear S_13
  clear U_13
  clear X_13
  clear D_13
  clear W_13
  clear hy14 D14
  go_wp2_with fail
  refine (answer14 hd_6 hd_6b (W_14.out.at Seq.way) (litC [cP, cA] (ok2 okP okA) (by simp)) (by decide) (by decide)).mono ?_
  rintro e y15 ⟨za, zc, rfl, hy15, hs15⟩
  have D15 := Lib.hid (below_step hy15 (Seq.way : Below y14.heap.size y14 _))
  have S_15 := Lib.hid (S_14.out.at D15.out)
  have U_15 := Lib.hid (U_14.out.at D15.out)
  have X_15 := Lib.hid (X_14.out.at D15.out)
  have D_15 := Lib.hid (D_14.out.at D15.out)
  have W_15 := Lib.hid (W_14.out.at D15.out)
  have B15 := Lib.hid (below_step D15.out B14.out)
  clear B14
  clear S_14
  clear U_14
  clear X_14
  clear D_14
  clear W_14
  have Z_15 := Lib.hid (hs15)
  clear hy15 D15
  clear hs15
  go_wp2_with fail
  refine (fC_spec (nm := ⟨#[112]⟩) (n := 1)).mono ?_
  rintro e y16 ⟨rfl, hy16⟩
  have D16 := Lib.hid (below_step hy16 (Seq.way : Below y15.heap.size y15 _))
  have S_16 := Lib.hid (S_15.out.at D16.out)
  have U_16 := Lib.hid (U_15.out.at D16.out)
  have X_16 := Lib.hid (X_15.out.at D16.out)
  have D_16 := Lib.hid (D_15.out.at D16.out)
  have W_16 := Lib.hid (W_15.out.at D16.out)
  have Z_16 := Lib.hid (Z_15.out.at D16.out)
  have B16 := Lib.hid (below_step D16.out B15.out)
  clear B15
  clear S_15
  clear U_15
  clear X_15
  clear D_15
  clear W_15
  clear Z_15
  clear hy16 D16
  go_wp2_with fail
  refine (fC_spec (nm := ⟨#[97]⟩) (n := 0)).mono ?_
  rintro e y17 ⟨rfl, hy17⟩
  have D17 := Lib.hid (below_step hy17 (Seq.way : Below y16.heap.size y16 _))
  have S_17 := Lib.hid (S_16.out.at D17.out)
  have U_17 := Lib.hid (U_16.out.at D17.out)
  have X_17 := Lib.hid (X_16.out.at D17.out)
  have D_17 := Lib.hid (D_16.out.at D17.out)
  have W_17 := Lib.hid (W_16.out.at D17.out)
  have Z_17 := Lib.hid (Z_16.out.at D17.out)
  have B17 := Lib.hid (below_step D17.out B16.out)
  clear B16
  clear S_16
  clear U_16
  clear X_16
  clear D_16
  clear W_16
  clear Z_16
  clear hy17 D17
  go_wp2_with fail
  refine (answer14 hd_7 hd_7b (S_17.out.at Seq.way) (litC [cP, cA] (ok2 okP okA) (by simp)) (by decide) (by decide)).mono ?_
  rintro e y18 ⟨ha, hc, rfl, hy18, hs18⟩
  have D18 := Lib.hid (below_step hy18 (Seq.way : Below y17.heap.size y17 _))
  have S_18 := Lib.hid (S_17.out.at D18.out)
  have U_18 := Lib.hid (U_17.out.at D18.out)
  have X_18 := Lib.hid (X_17.out.at D18.out)
  have D_18 := Lib.hid (D_17.out.at D18.out)
  have W_18 := Lib.hid (W_17.out.at D18.out)
  have Z_18 := Lib.hid (Z_17.out.at D18.out)
  have B18 := Lib.hid (below_step D18.out B17.out)
  clear B17
  clear S_17
  clear U_17
  clear X_17
  clear D_17
  clear W_17
  clear Z_17
  clear hy18 D18
  clear hs18
  go_upto_region 10 with fail
  obtain ⟨bi, oi, hia, hic, _, _, _, ei, li, pi, -, gi⟩ := tab0 S_18.out (k := 0) (by decide)
  simp only [Value.slice.injEq] at ei
  obtain ⟨rfl, -, rfl⟩ := ei
  have Ai := Lib.hid gi
  have ri : y18.cell? ⟨bi, oi, none⟩ = some (.slice hia 2 hic) := pi
  clear gi pi
  obtain ⟨bj, oj, hja, hjc, _, _, _, ej, lj, pj, -, gj⟩ := tab0 X_18.out (k := 0) (by decide)
  simp only [Value.slice.injEq] at ej
  obtain ⟨rfl, -, rfl⟩ := ej
  have Aj := Lib.hid gj
  have rj : y18.cell? ⟨bj, oj, none⟩ = some (.slice hja 1 hjc) := pj
  clear gj pj
  obtain ⟨bm, om, _, _, hma, hmc, _, em, lm, -, pm, -⟩ := tab0 W_18.out (k := 0) (by decide)
  simp only [Value.slice.injEq] at em
  obtain ⟨rfl, -, rfl⟩ := em
  have rm : y18.cell? ⟨bm, om + 1, none⟩ = some (.slice hma 1 hmc) := pm
  clear pm
  obtain ⟨bq, oq, _, _, hqa, hqc, _, eq, lq, -, pq, -⟩ := tab0 Z_18.out (k := 0) (by decide)
  simp only [Value.slice.injEq] at eq
  obtain ⟨rfl, -, rfl⟩ := eq
  have rq : y18.cell? ⟨bq, oq + 1, none⟩ = some (.slice hqa 1 hqc) := pq
  clear pq
  have Hkeep := fun {Wk : World} (hW : Below y18.heap.size y18 Wk) => Lib.hid (show Wk.cell? ⟨bi, oi, none⟩ = some (.slice hia 2 hic) ∧ Wk.cell? ⟨bj, oj, none⟩ = some (.slice hja 1 hjc) ∧ Wk.cell? ⟨bm, om + 1, none⟩ = some (.slice hma 1 hmc) ∧ Wk.cell? ⟨bq, oq + 1, none⟩ = some (.slice hqa 1 hqc) from ⟨(hW.cell (p := ⟨bi, oi, none⟩) li).trans ri, (hW.cell (p := ⟨bj, oj, none⟩) lj).trans rj, (hW.cell (p := ⟨bm, om + 1, none⟩) lm).trans rm, (hW.cell (p := ⟨bq, oq + 1, none⟩) lq).trans rq⟩)
  (try simp only [List.append_eq, List.cons_append, List.nil_append])
  refine wp_region_noPanic ?_
  refine wp_region_held_drew (S := fun w' => w'.cell? ⟨bi, oi, none⟩ = some (.slice hia 2 hic) ∧ w'.cell? ⟨bj, oj, none⟩ = some (.slice hja 1 hjc) ∧ w'.cell? ⟨bm, om + 1, none⟩ = some (.slice hma 1 hmc) ∧ w'.cell? ⟨bq, oq + 1, none⟩ = some (.slice hqa 1 hqc)) (by kernel_rfl) ?_ (fun hHeld => ?_)
  · exact (Hkeep (Below.drew (Below.refl _ _))).out
  refine wpAnyH_take1 (i := 0) (oi := _) (v := ?_) (by kernel_rfl) rfl (by kernel_rfl) (fun _ _ _ h => h) (Or.inl ⟨by rfl, ?_⟩) (by assumption) ?_
  rotate_left 1
  · intro w hSw; (try dsimp only at hSw); go_simp; (with_reducible rfl)
  (try simp only [Act.put, List.getElem_toArray, List.getElem_cons_zero, List.setIfInBounds_toArray, List.set_cons_zero, List.set_cons_succ])
  refine wpAnyH_take1 (i := 1) (oi := _) (v := ?_) (by kernel_rfl) rfl (by kernel_rfl) (fun _ _ _ h => h) (Or.inl ⟨by rfl, ?_⟩) (by assumption) ?_
  rotate_left 1
  · intro w hSw; (try dsimp only at hSw); go_simp; (with_reducible rfl)
  (try simp only [Act.put, List.getElem_toArray, List.getElem_cons_zero, List.getElem_cons_succ, List.setIfInBounds_toArray, List.set_cons_zero, List.set_cons_succ])
  refine wpAnyH_take1 (i := 2) (oi := _) (v := ?_) (by kernel_rfl) rfl (by kernel_rfl) (fun _ _ _ h => h) (Or.inl ⟨by rfl, ?_⟩) (by assumption) ?_
  rotate_left 1
  · intro w hSw; (try dsimp only at hSw); go_simp; (with_reducible rfl)
  (try simp only [Act.put, List.getElem_toArray, List.getElem_cons_zero, List.getElem_cons_succ, List.setIfInBounds_toArray, List.set_cons_zero, List.set_cons_succ])
  refine wpAnyH_take1 (i := 3) (oi := _) (v := ?_) (by kernel_rfl) rfl (by kernel_rfl) (fun _ _ _ h => h) (Or.inl ⟨by rfl, ?_⟩) (by assumption) ?_
  rotate_left 1
  · intro w hSw; (try dsimp only at hSw); go_simp; (with_reducible rfl)
  (try simp only [Act.put, List.getElem_toArray, List.getElem_cons_zero, List.getElem_cons_succ, List.setIfInBounds_toArray, List.set_cons_zero, List.set_cons_succ])
  refine wpAnyH_take1 (i := 4) (oi := _) (v := ?_) (by kernel_rfl) rfl (by kernel_rfl) (fun _ _ _ h => h) (Or.inl ⟨by rfl, ?_⟩) (by assumption) ?_
  rotate_left 1
  · intro w hSw; (try dsimp only at hSw); go_simp; (with_reducible rfl)
  (try simp only [Act.put, List.getElem_toArray, List.getElem_cons_zero, List.getElem_cons_succ, List.setIfInBounds_toArray, List.set_cons_zero, List.set_cons_succ])
  refine wpAnyH_take1 (i := 5) (oi := _) (v := ?_) (by kernel_rfl) rfl (by kernel_rfl) (fun _ _ _ h => h) (Or.inl ⟨by rfl, ?_⟩) (by assumption) ?_
  rotate_left 1
  · intro w hSw; (try dsimp only at hSw); go_simp; (with_reducible rfl)
  (try simp only [Act.put, List.getElem_toArray, List.getElem_cons_zero, List.getElem_cons_succ, List.setIfInBounds_toArray, List.set_cons_zero, List.set_cons_succ])
  refine wpAnyH_take1 (i := 6) (oi := _) (v := ?_) (by kernel_rfl) rfl (by kernel_rfl) (fun _ _ _ h => h) (Or.inl ⟨by rfl, ?_⟩) (by assumption) ?_
  rotate_left 1
  · intro w hSw; (try dsimp only at hSw); go_simp; (with_reducible rfl)
  (try simp only [Act.put, List.getElem_toArray, List.getElem_cons_zero, List.getElem_cons_succ, List.setIfInBounds_toArray, List.set_cons_zero, List.set_cons_succ])
  refine wpAnyH_take1 (i := 7) (oi := _) (v := ?_) (by kernel_rfl) rfl (by kernel_rfl) (fun _ _ _ h => h) (Or.inl ⟨by rfl, ?_⟩) (by assumption) ?_
  rotate_left 1
  · intro w hSw; (try dsimp only at hSw); go_simp; (with_reducible rfl)
  (try simp only [Act.put, List.getElem_toArray, List.getElem_cons_zero, List.getElem_cons_succ, List.setIfInBounds_toArray, List.set_cons_zero, List.set_cons_succ])
  refine wpAnyH_take1 (i := 8) (oi := _) (v := ?_) (by kernel_rfl) rfl (by kernel_rfl) (fun _ _ _ h => h) (Or.inl ⟨by rfl, ?_⟩) (by assumption) ?_
  rotate_left 1
  · intro w hSw; (try dsimp only at hSw); go_simp; (with_reducible rfl)
  (try simp only [Act.put, List.getElem_toArray, List.getElem_cons_zero, List.getElem_cons_succ, List.setIfInBounds_toArray, List.set_cons_zero, List.set_cons_succ])
  refine wpAnyH_take1 (i := 9) (oi := _) (v := ?_) (by kernel_rfl) rfl (by kernel_rfl) (fun _ _ _ h => h) (Or.inl ⟨by rfl, ?_⟩) (by assumption) ?_
  rotate_left 1
  · intro w hSw; (try dsimp only at hSw); go_simp; (with_reducible rfl)
  (try simp only [Act.put, List.getElem_toArray, List.getElem_cons_zero, List.getElem_cons_succ, List.setIfInBounds_toArray, List.set_cons_zero, List.set_cons_succ])
  refine wpAnyH_take1 (i := 10) (oi := _) (v := ?_) (by kernel_rfl) rfl (by kernel_rfl) (fun _ _ _ h => h) (Or.inl ⟨by rfl, ?_⟩) (by assumption) ?_
  rotate_left 1
  · intro w hSw; (try dsimp only at hSw); go_simp; (with_reducible rfl)
  (try simp only [Act.put, List.getElem_toArray, List.getElem_cons_zero, List.getElem_cons_succ, List.setIfInBounds_toArray, List.set_cons_zero, List.set_cons_succ])
  as_aux_lemma =>
    refine wpAnyH_take1 (i := 11) (oi := _) (v := ?_) (by kernel_rfl) rfl (by kernel_rfl) (fun _ _ _ h => h) (Or.inl ⟨by rfl, ?_⟩) (by assumption) ?_
    rotate_left 1
    · intro w hSw; (try dsimp only at hSw); go_simp; (with_reducible rfl)
    (try simp only [Act.put, List.getElem_toArray, List.getElem_cons_zero, List.getElem_cons_succ, List.setIfInBounds_toArray, List.set_cons_zero, List.set_cons_succ])
    refine wpAnyH_take1 (i := 12) (oi := _) (v := ?_) (by kernel_rfl) rfl (by kernel_rfl) (fun _ _ _ h => h) (Or.inl ⟨by rfl, ?_⟩) (by assumption) ?_
    rotate_left 1
    · intro w hSw; (try dsimp only at hSw); go_simp; (with_reducible rfl)
    (try simp only [Act.put, List.getElem_toArray, List.getElem_cons_zero, List.getElem_cons_succ, List.setIfInBounds_toArray, List.set_cons_zero, List.set_cons_succ])
    refine wpAnyH_take1 (i := 13) (oi := _) (v := ?_) (by kernel_rfl) rfl (by kernel_rfl) (fun _ _ _ h => h) (Or.inl ⟨by rfl, ?_⟩) (by assumption) ?_
    rotate_left 1
    · intro w hSw; (try dsimp only at hSw); go_simp; (with_reducible rfl)
    (try simp only [Act.put, List.getElem_toArray, List.getElem_cons_zero, List.getElem_cons_succ, List.setIfInBounds_toArray, List.set_cons_zero, List.set_cons_succ])
    refine wpAnyH_take1 (i := 14) (oi := _) (v := ?_) (by kernel_rfl) rfl (by kernel_rfl) (fun _ _ _ h => h) (Or.inl ⟨by rfl, ?_⟩) (by assumption) ?_
    rotate_left 1
    · intro w hSw; (try dsimp only at hSw); go_simp; (with_reducible rfl)
    (try simp only [Act.put, List.getElem_toArray, List.getElem_cons_zero, List.getElem_cons_succ, List.setIfInBounds_toArray, List.set_cons_zero, List.set_cons_succ])
    refine wpAnyH_one (i := 15) (by kernel_rfl) rfl (by rfl) fun K hK => ?_
    go_simp
    refine (fC_spec (nm := ⟨#[112]⟩) (n := 1)).mono ?_
    rintro e y101 ⟨rfl, hy101⟩
    have HY101 := below_step hy101 (Seq.way : Below y18.heap.size y18 _)
    have zy101 := HY101.size
    (try dsimp only)
    clear hHeld
    refine hK.out _ _ (Hkeep HY101).out fun hHeld => ?_
    clear hK K
    (try simp only [Act.put, List.getElem_toArray, List.getElem_cons_zero, List.getElem_cons_succ, List.setIfInBounds_toArray, List.set_cons_zero, List.set_cons_succ])
    refine wpAnyH_one (i := 16) (by kernel_rfl) rfl (by rfl) fun K hK => ?_
    go_simp
    refine (vC_spec (n := 0)).mono ?_
    rintro e y102 ⟨rfl, hy102⟩
    have HY102 := below_step hy102 (Seq.way : Below y18.heap.size y18 _)
    have zy102 := HY102.size
    (try dsimp only)
    clear hHeld
    refine hK.out _ _ (Hkeep HY102).out fun hHeld => ?_
    clear hK K
    (try simp only [Act.put, List.getElem_toArray, List.getElem_cons_zero, List.getElem_cons_succ, List.setIfInBounds_toArray, List.set_cons_zero, List.set_cons_succ])
    clear hy101 HY101 zy101
    refine wpAnyH_one (i := 17) (by kernel_rfl) rfl (by rfl) fun K hK => ?_
    refine wp_buildS 23 51 2 _ rfl [(0, .agg #[.int .i64 3, .string ⟨#[112]⟩, .int .i64 1]), (1, .agg #[.int .i64 1, .string ⟨#[]⟩, .int .i64 0])] #[.int .i64 3, .string ⟨#[112]⟩, .int .i64 1, .int .i64 1, .string ⟨#[]⟩, .int .i64 0] Tryz.underlying23 infoCellU (by decide) (by decide) ?_ (by kernel_rfl) ?_
    · (go_simp)
    clear hHeld
    refine hK.out _ _ (Hkeep Seq.way).out fun hHeld => ?_
    clear hK K
    (try simp only [Act.put, List.getElem_toArray, List.getElem_cons_zero, List.getElem_cons_succ, List.setIfInBounds_toArray, List.set_cons_zero, List.set_cons_succ])
    refine wpAnyH_one (i := 18) (by kernel_rfl) rfl (by rfl) fun K hK => ?_
    go_simp
    refine (same14 (a := [cP, cV 0]) (Ai.out.at Seq.way) (litC [cP, cV 0] (ok2 okP okV0) (by simp))).mono ?_
    rintro e y103 ⟨rfl, hy103⟩
    have HY103 := below_step hy103 (Seq.way : Below y18.heap.size y18 _)
    have zy103 := HY103.size
    (try dsimp only)
    clear hHeld
    refine hK.out _ _ (Hkeep HY103).out fun hHeld => ?_
    clear hK K
    (try simp only [Act.put, List.getElem_toArray, List.getElem_cons_zero, List.getElem_cons_succ, List.setIfInBounds_toArray, List.set_cons_zero, List.set_cons_succ])
    clear hy102 HY102 zy102
    refine wpAnyH_take1 (i := 19) (oi := _) (v := ?_) (by kernel_rfl) rfl (by kernel_rfl) (fun _ _ _ h => h) (Or.inl ⟨by rfl, ?_⟩) (by assumption) ?_
    rotate_left 1
    · intro w hSw; (try dsimp only at hSw); go_simp; (with_reducible rfl)
    (try simp only [Act.put, List.getElem_toArray, List.getElem_cons_zero, List.getElem_cons_succ, List.setIfInBounds_toArray, List.set_cons_zero, List.set_cons_succ])
    refine wpAnyH_take1 (i := 20) (oi := _) (v := ?_) (by kernel_rfl) rfl (by kernel_rfl) (fun _ _ _ h => h) (Or.inl ⟨by rfl, ?_⟩) (by assumption) ?_
    rotate_left 1
    · intro w hSw; (try dsimp only at hSw); go_simp; (with_reducible rfl)
    (try simp only [Act.put, List.getElem_toArray, List.getElem_cons_zero, List.getElem_cons_succ, List.setIfInBounds_toArray, List.set_cons_zero, List.set_cons_succ])
    refine wpAnyH_take1 (i := 21) (oi := _) (v := ?_) (by kernel_rfl) rfl (by kernel_rfl) (fun _ _ _ h => h) (Or.inl ⟨by rfl, ?_⟩) (by assumption) ?_
    rotate_left 1
    · intro w hSw; (try dsimp only at hSw); go_simp; (with_reducible rfl)
    (try simp only [Act.put, List.getElem_toArray, List.getElem_cons_zero, List.getElem_cons_succ, List.setIfInBounds_toArray, List.set_cons_zero, List.set_cons_succ])
    refine wpAnyH_take1 (i := 22) (oi := _) (v := ?_) (by kernel_rfl) rfl (by kernel_rfl) (fun _ _ _ h => h) (Or.inl ⟨by rfl, ?_⟩) (by assumption) ?_
    rotate_left 1
    · intro w hSw; (try dsimp only at hSw); go_simp; (with_reducible rfl)
    (try simp only [Act.put, List.getElem_toArray, List.getElem_cons_zero, List.getElem_cons_succ, List.setIfInBounds_toArray, List.set_cons_zero, List.set_cons_succ])
    as_aux_lemma =>
      refine wpAnyH_take1 (i := 23) (oi := _) (v := ?_) (by kernel_rfl) rfl (by kernel_rfl) (fun _ _ _ h => h) (Or.inl ⟨by rfl, ?_⟩) (by assumption) ?_
      rotate_left 1
      · intro w hSw; (try dsimp only at hSw); go_simp; (with_reducible rfl)
      (try simp only [Act.put, List.getElem_toArray, List.getElem_cons_zero, List.getElem_cons_succ, List.setIfInBounds_toArray, List.set_cons_zero, List.set_cons_succ])
      refine wpAnyH_take1 (i := 24) (oi := _) (v := ?_) (by kernel_rfl) rfl (by kernel_rfl) (fun _ _ _ h => h) (Or.inl ⟨by rfl, ?_⟩) (by assumption) ?_
      rotate_left 1
      · intro w hSw; (try dsimp only at hSw); go_simp; (with_reducible rfl)
      (try simp only [Act.put, List.getElem_toArray, List.getElem_cons_zero, List.getElem_cons_succ, List.setIfInBounds_toArray, List.set_cons_zero, List.set_cons_succ])
      refine wpAnyH_one (i := 25) (by kernel_rfl) rfl (by rfl) fun K hK => ?_
      go_simp
      refine (fC_spec (nm := ⟨#[113]⟩) (n := 0)).mono ?_
      rintro e y104 ⟨rfl, hy104⟩
      have HY104 := below_step hy104 (Seq.way : Below y18.heap.size y18 _)
      have zy104 := HY104.size
      (try dsimp only)
      clear hHeld
      refine hK.out _ _ (Hkeep HY104).out fun hHeld => ?_
      clear hK K
      (try simp only [Act.put, List.getElem_toArray, List.getElem_cons_zero, List.getElem_cons_succ, List.setIfInBounds_toArray, List.set_cons_zero, List.set_cons_succ])
      clear hy103 HY103 zy103
      refine wpAnyH_one (i := 26) (by kernel_rfl) rfl (by rfl) fun K hK => ?_
      refine wp_buildS 23 51 1 _ rfl [(0, .agg #[.int .i64 3, .string ⟨#[113]⟩, .int .i64 0])] #[.int .i64 3, .string ⟨#[113]⟩, .int .i64 0] Tryz.underlying23 infoCellU (by decide) (by decide) ?_ (by kernel_rfl) ?_
      · (go_simp)
      clear hHeld
      refine hK.out _ _ (Hkeep Seq.way).out fun hHeld => ?_
      clear hK K
      (try simp only [Act.put, List.getElem_toArray, List.getElem_cons_zero, List.getElem_cons_succ, List.setIfInBounds_toArray, List.set_cons_zero, List.set_cons_succ])
      refine wpAnyH_one (i := 27) (by kernel_rfl) rfl (by rfl) fun K hK => ?_
      go_simp
      refine (same14 (a := [cQ]) (Aj.out.at Seq.way) (litC [cQ] (ok1 okQ) (by simp))).mono ?_
      rintro e y105 ⟨rfl, hy105⟩
      have HY105 := below_step hy105 (Seq.way : Below y18.heap.size y18 _)
      have zy105 := HY105.size
      (try dsimp only)
      clear hHeld
      refine hK.out _ _ (Hkeep HY105).out fun hHeld => ?_
      clear hK K
      (try simp only [Act.put, List.getElem_toArray, List.getElem_cons_zero, List.getElem_cons_succ, List.setIfInBounds_toArray, List.set_cons_zero, List.set_cons_succ])
      clear hy104 HY104 zy104
      refine wpAnyH_take1 (i := 28) (oi := _) (v := ?_) (by kernel_rfl) rfl (by kernel_rfl) (fun _ _ _ h => h) (Or.inl ⟨by rfl, ?_⟩) (by assumption) ?_
      rotate_left 1
      · intro w hSw; (try dsimp only at hSw); go_simp; (with_reducible rfl)
      (try simp only [Act.put, List.getElem_toArray, List.getElem_cons_zero, List.getElem_cons_succ, List.setIfInBounds_toArray, List.set_cons_zero, List.set_cons_succ])
      refine wpAnyH_take1 (i := 29) (oi := _) (v := ?_) (by kernel_rfl) rfl (by kernel_rfl) (fun _ _ _ h => h) (Or.inl ⟨by rfl, ?_⟩) (by assumption) ?_
      rotate_left 1
      · intro w hSw; (try dsimp only at hSw); go_simp; (with_reducible rfl)
      (try simp only [Act.put, List.getElem_toArray, List.getElem_cons_zero, List.getElem_cons_succ, List.setIfInBounds_toArray, List.set_cons_zero, List.set_cons_succ])
      refine wpAnyH_take1 (i := 30) (oi := _) (v := ?_) (by kernel_rfl) rfl (by kernel_rfl) (fun _ _ _ h => h) (Or.inl ⟨by rfl, ?_⟩) (by assumption) ?_
      rotate_left 1
      · intro w hSw; (try dsimp only at hSw); go_simp; (with_reducible rfl)
      (try simp only [Act.put, List.getElem_toArray, List.getElem_cons_zero, List.getElem_cons_succ, List.setIfInBounds_toArray, List.set_cons_zero, List.set_cons_succ])
      refine wpAnyH_one (i := 31) (by kernel_rfl) rfl (by rfl) fun K hK => ?_
      refine wp_buildS 33 3 2 _ rfl [(0, .int .i64 1), (1, .int .i64 0)] #[.int .i64 1, .int .i64 0] Tryz.underlying33 infoIntM (by decide) (by decide) ?_ (by kernel_rfl) ?_
      · (go_simp)
      clear hHeld
      refine hK.out _ _ (Hkeep Seq.way).out fun hHeld => ?_
      clear hK K
      (try simp only [Act.put, List.getElem_toArray, List.getElem_cons_zero, List.getElem_cons_succ, List.setIfInBounds_toArray, List.set_cons_zero, List.set_cons_succ])
      refine wpAnyH_one (i := 32) (by kernel_rfl) rfl (by rfl) fun K hK => ?_
      go_simp
      refine (ints14 (a := [1, 0]) (D_18.out.at Seq.way) (litI14 [1, 0] ok10 (by simp))).mono ?_
      rintro e y106 ⟨rfl, hy106⟩
      have HY106 := below_step hy106 (Seq.way : Below y18.heap.size y18 _)
      have zy106 := HY106.size
      (try dsimp only)
      clear hHeld
      refine hK.out _ _ (Hkeep HY106).out fun hHeld => ?_
      clear hK K
      (try simp only [Act.put, List.getElem_toArray, List.getElem_cons_zero, List.getElem_cons_succ, List.setIfInBounds_toArray, List.set_cons_zero, List.set_cons_succ])
      clear hy105 HY105 zy105
      refine wpAnyH_take1 (i := 33) (oi := _) (v := ?_) (by kernel_rfl) rfl (by kernel_rfl) (fun _ _ _ h => h) (Or.inl ⟨by rfl, ?_⟩) (by assumption) ?_
      rotate_left 1
      · intro w hSw; (try dsimp only at hSw); go_simp; (with_reducible rfl)
      (try simp only [Act.put, List.getElem_toArray, List.getElem_cons_zero, List.getElem_cons_succ, List.setIfInBounds_toArray, List.set_cons_zero, List.set_cons_succ])
      refine wpAnyH_take1 (i := 34) (oi := _) (v := ?_) (by kernel_rfl) rfl (by kernel_rfl) (fun _ _ _ h => h) (Or.inl ⟨by rfl, ?_⟩) (by assumption) ?_
      rotate_left 1
      · intro w hSw; (try dsimp only at hSw); go_simp; (with_reducible rfl)
      (try simp only [Act.put, List.getElem_toArray, List.getElem_cons_zero, List.getElem_cons_succ, List.setIfInBounds_toArray, List.set_cons_zero, List.set_cons_succ])
      as_aux_lemma =>
        refine wpAnyH_take1 (i := 35) (oi := _) (v := ?_) (by kernel_rfl) rfl (by kernel_rfl) (fun _ _ _ h => h) (Or.inl ⟨by rfl, ?_⟩) (by assumption) ?_
        rotate_left 1
        · intro w hSw; (try dsimp only at hSw); go_simp; (with_reducible rfl)
        (try simp only [Act.put, List.getElem_toArray, List.getElem_cons_zero, List.getElem_cons_succ, List.setIfInBounds_toArray, List.set_cons_zero, List.set_cons_succ])
        refine wpAnyH_take1 (i := 36) (oi := _) (v := ?_) (by kernel_rfl) rfl (by kernel_rfl) (fun _ _ _ h => h) (Or.inl ⟨by rfl, ?_⟩) (by assumption) ?_
        rotate_left 1
        · intro w hSw; (try dsimp only at hSw); go_simp; (with_reducible rfl)
        (try simp only [Act.put, List.getElem_toArray, List.getElem_cons_zero, List.getElem_cons_succ, List.setIfInBounds_toArray, List.set_cons_zero, List.set_cons_succ])
        refine wpAnyH_take1 (i := 37) (oi := _) (v := ?_) (by kernel_rfl) rfl (by kernel_rfl) (fun _ _ _ h => h) (Or.inl ⟨by rfl, ?_⟩) (by assumption) ?_
        rotate_left 1
        · intro w hSw; (try dsimp only at hSw); go_simp; (with_reducible rfl)
        (try simp only [Act.put, List.getElem_toArray, List.getElem_cons_zero, List.getElem_cons_succ, List.setIfInBounds_toArray, List.set_cons_zero, List.set_cons_succ])
        refine wpAnyH_take1 (i := 38) (oi := _) (v := ?_) (by kernel_rfl) rfl (by kernel_rfl) (fun _ _ _ h => h) (Or.inl ⟨by rfl, ?_⟩) (by assumption) ?_
        rotate_left 1
        · intro w hSw; (try dsimp only at hSw); go_simp; (with_reducible rfl)
        (try simp only [Act.put, List.getElem_toArray, List.getElem_cons_zero, List.getElem_cons_succ, List.setIfInBounds_toArray, List.set_cons_zero, List.set_cons_succ])
        refine wpAnyH_take1 (i := 39) (oi := _) (v := ?_) (by kernel_rfl) rfl (by kernel_rfl) (fun _ _ _ h => h) (Or.inl ⟨by rfl, ?_⟩) (by assumption) ?_
        rotate_left 1
        · intro w hSw; (try dsimp only at hSw); go_simp; (with_reducible rfl)
        (try simp only [Act.put, List.getElem_toArray, List.getElem_cons_zero, List.getElem_cons_succ, List.setIfInBounds_toArray, List.set_cons_zero, List.set_cons_succ])
        refine wpAnyH_take1 (i := 40) (oi := _) (v := ?_) (by kernel_rfl) rfl (by kernel_rfl) (fun _ _ _ h => h) (Or.inl ⟨by rfl, ?_⟩) (by assumption) ?_
        rotate_left 1
        · intro w hSw; (try dsimp only at hSw); go_simp; (with_reducible rfl)
        (try simp only [Act.put, List.getElem_toArray, List.getElem_cons_zero, List.getElem_cons_succ, List.setIfInBounds_toArray, List.set_cons_zero, List.set_cons_succ])
        refine wpAnyH_take1 (i := 41) (oi := _) (v := ?_) (by kernel_rfl) rfl (by kernel_rfl) (fun _ _ _ h => h) (Or.inl ⟨by rfl, ?_⟩) (by assumption) ?_
        rotate_left 1
        · intro w hSw; (try dsimp only at hSw); go_simp; (with_reducible rfl)
        (try simp only [Act.put, List.getElem_toArray, List.getElem_cons_zero, List.getElem_cons_succ, List.setIfInBounds_toArray, List.set_cons_zero, List.set_cons_succ])
        refine wpAnyH_take1 (i := 42) (oi := _) (v := ?_) (by kernel_rfl) rfl (by kernel_rfl) (fun _ _ _ h => h) (Or.inl ⟨by rfl, ?_⟩) (by assumption) ?_
        rotate_left 1
        · intro w hSw; (try dsimp only at hSw); go_simp; (with_reducible rfl)
        (try simp only [Act.put, List.getElem_toArray, List.getElem_cons_zero, List.getElem_cons_succ, List.setIfInBounds_toArray, List.set_cons_zero, List.set_cons_succ])
        refine wpAnyH_take1 (i := 43) (oi := _) (v := ?_) (by kernel_rfl) rfl (by kernel_rfl) (fun _ _ _ h => h) (Or.inl ⟨by rfl, ?_⟩) (by assumption) ?_
        rotate_left 1
        · intro w hSw; (try dsimp only at hSw); go_simp; (with_reducible rfl)
        (try simp only [Act.put, List.getElem_toArray, List.getElem_cons_zero, List.getElem_cons_succ, List.setIfInBounds_toArray, List.set_cons_zero, List.set_cons_succ])
        refine wpAnyH_take1 (i := 44) (oi := _) (v := ?_) (by kernel_rfl) rfl (by kernel_rfl) (fun _ _ _ h => h) (Or.inl ⟨by rfl, ?_⟩) (by assumption) ?_
        rotate_left 1
        · intro w hSw; (try dsimp only at hSw); go_simp; (with_reducible rfl)
        (try simp only [Act.put, List.getElem_toArray, List.getElem_cons_zero, List.getElem_cons_succ, List.setIfInBounds_toArray, List.set_cons_zero, List.set_cons_succ])
        refine wpAnyH_take1 (i := 45) (oi := _) (v := ?_) (by kernel_rfl) rfl (by kernel_rfl) (fun _ _ _ h => h) (Or.inl ⟨by rfl, ?_⟩) (by assumption) ?_
        rotate_left 1
        · intro w hSw; (try dsimp only at hSw); go_simp; (with_reducible rfl)
        (try simp only [Act.put, List.getElem_toArray, List.getElem_cons_zero, List.getElem_cons_succ, List.setIfInBounds_toArray, List.set_cons_zero, List.set_cons_succ])
        refine wpAnyH_take1 (i := 46) (oi := _) (v := ?_) (by kernel_rfl) rfl (by kernel_rfl) (fun _ _ _ h => h) (Or.inl ⟨by rfl, ?_⟩) (by assumption) ?_
        rotate_left 1
        · intro w hSw; (try dsimp only at hSw); go_simp; (with_reducible rfl)
        (try simp only [Act.put, List.getElem_toArray, List.getElem_cons_zero, List.getElem_cons_succ, List.setIfInBounds_toArray, List.set_cons_zero, List.set_cons_succ])
        as_aux_lemma =>
          refine wpAnyH_take1 (i := 47) (oi := _) (v := ?_) (by kernel_rfl) rfl (by kernel_rfl) (fun _ _ _ h => h) (Or.inl ⟨by rfl, ?_⟩) (by assumption) ?_
          rotate_left 1
          · intro w hSw; (try dsimp only at hSw); go_simp; (with_reducible rfl)
          (try simp only [Act.put, List.getElem_toArray, List.getElem_cons_zero, List.getElem_cons_succ, List.setIfInBounds_toArray, List.set_cons_zero, List.set_cons_succ])
          refine wpAnyH_take1 (i := 48) (oi := _) (v := ?_) (by kernel_rfl) rfl (by kernel_rfl) (fun _ _ _ h => h) (Or.inl ⟨by rfl, ?_⟩) (by assumption) ?_
          rotate_left 1
          · intro w hSw; (try dsimp only at hSw); go_simp; (with_reducible rfl)
          (try simp only [Act.put, List.getElem_toArray, List.getElem_cons_zero, List.getElem_cons_succ, List.setIfInBounds_toArray, List.set_cons_zero, List.set_cons_succ])
          refine wpAnyH_take1 (i := 49) (oi := _) (v := ?_) (by kernel_rfl) rfl (by kernel_rfl) (fun _ _ _ h => h) (Or.inl ⟨by rfl, ?_⟩) (by assumption) ?_
          rotate_left 1
          · intro w hSw; (try dsimp only at hSw); go_simp; (with_reducible rfl)
          (try simp only [Act.put, List.getElem_toArray, List.getElem_cons_zero, List.getElem_cons_succ, List.setIfInBounds_toArray, List.set_cons_zero, List.set_cons_succ])
          refine wpAnyH_take1 (i := 50) (oi := _) (v := ?_) (by kernel_rfl) rfl (by kernel_rfl) (fun _ _ _ h => h) (Or.inl ⟨by rfl, ?_⟩) (by assumption) ?_
          rotate_left 1
          · intro w hSw; (try dsimp only at hSw); go_simp; (with_reducible rfl)
          (try simp only [Act.put, List.getElem_toArray, List.getElem_cons_zero, List.getElem_cons_succ, List.setIfInBounds_toArray, List.set_cons_zero, List.set_cons_succ])
          refine wpAnyH_take1 (i := 51) (oi := _) (v := ?_) (by kernel_rfl) rfl (by kernel_rfl) (fun _ _ _ h => h) (Or.inl ⟨by rfl, ?_⟩) (by assumption) ?_
          rotate_left 1
          · intro w hSw; (try dsimp only at hSw); go_simp; (with_reducible rfl)
          (try simp only [Act.put, List.getElem_toArray, List.getElem_cons_zero, List.getElem_cons_succ, List.setIfInBounds_toArray, List.set_cons_zero, List.set_cons_succ])
          refine wpAnyH_take1 (i := 52) (oi := _) (v := ?_) (by kernel_rfl) rfl (by kernel_rfl) (fun _ _ _ h => h) (Or.inl ⟨by rfl, ?_⟩) (by assumption) ?_
          rotate_left 1
          · intro w hSw; (try dsimp only at hSw); go_simp; (with_reducible rfl)
          (try simp only [Act.put, List.getElem_toArray, List.getElem_cons_zero, List.getElem_cons_succ, List.setIfInBounds_toArray, List.set_cons_zero, List.set_cons_succ])
          refine wpAnyH_take1 (i := 53) (oi := _) (v := ?_) (by kernel_rfl) rfl (by kernel_rfl) (fun _ _ _ h => h) (Or.inl ⟨by rfl, ?_⟩) (by assumption) ?_
          rotate_left 1
          · intro w hSw; (try dsimp only at hSw); go_simp; (with_reducible rfl)
          (try simp only [Act.put, List.getElem_toArray, List.getElem_cons_zero, List.getElem_cons_succ, List.setIfInBounds_toArray, List.set_cons_zero, List.set_cons_succ])
          refine wpAnyH_take1 (i := 54) (oi := _) (v := ?_) (by kernel_rfl) rfl (by kernel_rfl) (fun _ _ _ h => h) (Or.inl ⟨by rfl, ?_⟩) (by assumption) ?_
          rotate_left 1
          · intro w hSw; (try dsimp only at hSw); go_simp; (with_reducible rfl)
          (try simp only [Act.put, List.getElem_toArray, List.getElem_cons_zero, List.getElem_cons_succ, List.setIfInBounds_toArray, List.set_cons_zero, List.set_cons_succ])
          refine wpAnyH_take1 (i := 55) (oi := _) (v := ?_) (by kernel_rfl) rfl (by kernel_rfl) (fun _ _ _ h => h) (Or.inl ⟨by rfl, ?_⟩) (by assumption) ?_
          rotate_left 1
          · intro w hSw; (try dsimp only at hSw); go_simp; (with_reducible rfl)
          (try simp only [Act.put, List.getElem_toArray, List.getElem_cons_zero, List.getElem_cons_succ, List.setIfInBounds_toArray, List.set_cons_zero, List.set_cons_succ])
          refine wpAnyH_take1 (i := 56) (oi := _) (v := ?_) (by kernel_rfl) rfl (by kernel_rfl) (fun _ _ _ h => h) (Or.inl ⟨by rfl, ?_⟩) (by assumption) ?_
          rotate_left 1
          · intro w hSw; (try dsimp only at hSw); go_simp; (with_reducible rfl)
          (try simp only [Act.put, List.getElem_toArray, List.getElem_cons_zero, List.getElem_cons_succ, List.setIfInBounds_toArray, List.set_cons_zero, List.set_cons_succ])
          refine wpAnyH_take1 (i := 57) (oi := _) (v := ?_) (by kernel_rfl) rfl (by kernel_rfl) (fun _ _ _ h => h) (Or.inl ⟨by rfl, ?_⟩) (by assumption) ?_
          rotate_left 1
          · intro w hSw; (try dsimp only at hSw); go_simp; (with_reducible rfl)
          (try simp only [Act.put, List.getElem_toArray, List.getElem_cons_zero, List.getElem_cons_succ, List.setIfInBounds_toArray, List.set_cons_zero, List.set_cons_succ])
          refine wpAnyH_take1 (i := 58) (oi := _) (v := ?_) (by kernel_rfl) rfl (by kernel_rfl) (fun _ _ _ h => h) (Or.inl ⟨by rfl, ?_⟩) (by assumption) ?_
          rotate_left 1
          · intro w hSw; (try dsimp only at hSw); go_simp; (with_reducible rfl)
          (try simp only [Act.put, List.getElem_toArray, List.getElem_cons_zero, List.getElem_cons_succ, List.setIfInBounds_toArray, List.set_cons_zero, List.set_cons_succ])
          as_aux_lemma =>
            refine wpAnyH_take1 (i := 59) (oi := _) (v := ?_) (by kernel_rfl) rfl (by kernel_rfl) (fun _ _ _ h => h) (Or.inl ⟨by rfl, ?_⟩) (by assumption) ?_
            rotate_left 1
            · intro w hSw; (try dsimp only at hSw); go_simp; (with_reducible rfl)
            (try simp only [Act.put, List.getElem_toArray, List.getElem_cons_zero, List.getElem_cons_succ, List.setIfInBounds_toArray, List.set_cons_zero, List.set_cons_succ])
            refine wpAnyH_take1 (i := 60) (oi := _) (v := ?_) (by kernel_rfl) rfl (by kernel_rfl) (fun _ _ _ h => h) (Or.inl ⟨by rfl, ?_⟩) (by assumption) ?_
            rotate_left 1
            · intro w hSw; (try dsimp only at hSw); go_simp; (with_reducible rfl)
            (try simp only [Act.put, List.getElem_toArray, List.getElem_cons_zero, List.getElem_cons_succ, List.setIfInBounds_toArray, List.set_cons_zero, List.set_cons_succ])
            refine wpAnyH_take1 (i := 61) (oi := _) (v := ?_) (by kernel_rfl) rfl (by kernel_rfl) (fun _ _ _ h => h) (Or.inl ⟨by rfl, ?_⟩) (by assumption) ?_
            rotate_left 1
            · intro w hSw; (try dsimp only at hSw); go_simp; (with_reducible rfl)
            (try simp only [Act.put, List.getElem_toArray, List.getElem_cons_zero, List.getElem_cons_succ, List.setIfInBounds_toArray, List.set_cons_zero, List.set_cons_succ])
            refine wpAnyH_take1 (i := 62) (oi := _) (v := ?_) (by kernel_rfl) rfl (by kernel_rfl) (fun _ _ _ h => h) (Or.inl ⟨by rfl, ?_⟩) (by assumption) ?_
            rotate_left 1
            · intro w hSw; (try dsimp only at hSw); go_simp; (with_reducible rfl)
            (try simp only [Act.put, List.getElem_toArray, List.getElem_cons_zero, List.getElem_cons_succ, List.setIfInBounds_toArray, List.set_cons_zero, List.set_cons_succ])
            refine wpAnyH_one (i := 63) (by kernel_rfl) rfl (by rfl) fun K hK => ?_
            go_simp
            refine (fC_spec (nm := ⟨#[113]⟩) (n := 0)).mono ?_
            rintro e y107 ⟨rfl, hy107⟩
            have HY107 := below_step hy107 (Seq.way : Below y18.heap.size y18 _)
            have zy107 := HY107.size
            (try dsimp only)
            clear hHeld
            refine hK.out _ _ (Hkeep HY107).out fun hHeld => ?_
            clear hK K
            (try simp only [Act.put, List.getElem_toArray, List.getElem_cons_zero, List.getElem_cons_succ, List.setIfInBounds_toArray, List.set_cons_zero, List.set_cons_succ])
            clear hy106 HY106 zy106
            refine wpAnyH_one (i := 64) (by kernel_rfl) rfl (by rfl) fun K hK => ?_
            refine wp_buildS 23 51 1 _ rfl [(0, .agg #[.int .i64 3, .string ⟨#[113]⟩, .int .i64 0])] #[.int .i64 3, .string ⟨#[113]⟩, .int .i64 0] Tryz.underlying23 infoCellU (by decide) (by decide) ?_ (by kernel_rfl) ?_
            · (go_simp)
            clear hHeld
            refine hK.out _ _ (Hkeep Seq.way).out fun hHeld => ?_
            clear hK K
            (try simp only [Act.put, List.getElem_toArray, List.getElem_cons_zero, List.getElem_cons_succ, List.setIfInBounds_toArray, List.set_cons_zero, List.set_cons_succ])
            refine wpAnyH_one (i := 65) (by kernel_rfl) rfl (by rfl) fun K hK => ?_
            go_simp
            refine (find14 hd_8 (U_18.out.at Seq.way) (litC [cQ] (ok1 okQ) (by simp)) (by decide) (by decide)).mono ?_
            rintro e y108 ⟨rfl, hy108⟩
            have HY108 := below_step hy108 (Seq.way : Below y18.heap.size y18 _)
            have zy108 := HY108.size
            (try dsimp only)
            clear hHeld
            refine hK.out _ _ (Hkeep HY108).out fun hHeld => ?_
            clear hK K
            (try simp only [Act.put, List.getElem_toArray, List.getElem_cons_zero, List.getElem_cons_succ, List.setIfInBounds_toArray, List.set_cons_zero, List.set_cons_succ])
            clear hy107 HY107 zy107
            refine wpAnyH_take1 (i := 66) (oi := _) (v := ?_) (by kernel_rfl) rfl (by kernel_rfl) (fun _ _ _ h => h) (Or.inl ⟨by rfl, ?_⟩) (by assumption) ?_
            rotate_left 1
            · intro w hSw; (try dsimp only at hSw); go_simp; (with_reducible rfl)
            (try simp only [Act.put, List.getElem_toArray, List.getElem_cons_zero, List.getElem_cons_succ, List.setIfInBounds_toArray, List.set_cons_zero, List.set_cons_succ])
            refine wpAnyH_take1 (i := 67) (oi := _) (v := ?_) (by kernel_rfl) rfl (by kernel_rfl) (fun _ _ _ h => h) (Or.inl ⟨by rfl, ?_⟩) (by assumption) ?_
            rotate_left 1
            · intro w hSw; (try dsimp only at hSw); go_simp; (with_reducible rfl)
            (try simp only [Act.put, List.getElem_toArray, List.getElem_cons_zero, List.getElem_cons_succ, List.setIfInBounds_toArray, List.set_cons_zero, List.set_cons_succ])
            refine wpAnyH_take1 (i := 68) (oi := _) (v := ?_) (by kernel_rfl) rfl (by kernel_rfl) (fun _ _ _ h => h) (Or.inl ⟨by rfl, ?_⟩) (by assumption) ?_
            rotate_left 1
            · intro w hSw; (try dsimp only at hSw); go_simp; (with_reducible rfl)
            (try simp only [Act.put, List.getElem_toArray, List.getElem_cons_zero, List.getElem_cons_succ, List.setIfInBounds_toArray, List.set_cons_zero, List.set_cons_succ])
            refine wpAnyH_take1 (i := 69) (oi := _) (v := ?_) (by kernel_rfl) rfl (by kernel_rfl) (fun _ _ _ h => h) (Or.inl ⟨by rfl, ?_⟩) (by assumption) ?_
            rotate_left 1
            · intro w hSw; (try dsimp only at hSw); go_simp; (with_reducible rfl)
            (try simp only [Act.put, List.getElem_toArray, List.getElem_cons_zero, List.getElem_cons_succ, List.setIfInBounds_toArray, List.set_cons_zero, List.set_cons_succ])
            refine wpAnyH_one (i := 70) (by kernel_rfl) rfl (by rfl) fun K hK => ?_
            go_simp
            refine (fC_spec (nm := ⟨#[112]⟩) (n := 1)).mono ?_
            rintro e y109 ⟨rfl, hy109⟩
            have HY109 := below_step hy109 (Seq.way : Below y18.heap.size y18 _)
            have zy109 := HY109.size
            (try dsimp only)
            clear hHeld
            refine hK.out _ _ (Hkeep HY109).out fun hHeld => ?_
            clear hK K
            (try simp only [Act.put, List.getElem_toArray, List.getElem_cons_zero, List.getElem_cons_succ, List.setIfInBounds_toArray, List.set_cons_zero, List.set_cons_succ])
            clear hy108 HY108 zy108
            as_aux_lemma =>
              refine wpAnyH_one (i := 71) (by kernel_rfl) rfl (by rfl) fun K hK => ?_
              go_simp
              refine (fC_spec (nm := ⟨#[97]⟩) (n := 0)).mono ?_
              rintro e y110 ⟨rfl, hy110⟩
              have HY110 := below_step hy110 (Seq.way : Below y18.heap.size y18 _)
              have zy110 := HY110.size
              (try dsimp only)
              clear hHeld
              refine hK.out _ _ (Hkeep HY110).out fun hHeld => ?_
              clear hK K
              (try simp only [Act.put, List.getElem_toArray, List.getElem_cons_zero, List.getElem_cons_succ, List.setIfInBounds_toArray, List.set_cons_zero, List.set_cons_succ])
              clear hy109 HY109 zy109
              refine wpAnyH_one (i := 72) (by kernel_rfl) rfl (by rfl) fun K hK => ?_
              refine wp_buildS 23 51 2 _ rfl [(0, .agg #[.int .i64 3, .string ⟨#[112]⟩, .int .i64 1]), (1, .agg #[.int .i64 3, .string ⟨#[97]⟩, .int .i64 0])] #[.int .i64 3, .string ⟨#[112]⟩, .int .i64 1, .int .i64 3, .string ⟨#[97]⟩, .int .i64 0] Tryz.underlying23 infoCellU (by decide) (by decide) ?_ (by kernel_rfl) ?_
              · (go_simp)
              clear hHeld
              refine hK.out _ _ (Hkeep Seq.way).out fun hHeld => ?_
              clear hK K
              (try simp only [Act.put, List.getElem_toArray, List.getElem_cons_zero, List.getElem_cons_succ, List.setIfInBounds_toArray, List.set_cons_zero, List.set_cons_succ])
              refine wpAnyH_one (i := 73) (by kernel_rfl) rfl (by rfl) fun K hK => ?_
              go_simp
              refine (find14 hd_9 (U_18.out.at Seq.way) (litC [cP, cA] (ok2 okP okA) (by simp)) (by decide) (by decide)).mono ?_
              rintro e y111 ⟨rfl, hy111⟩
              have HY111 := below_step hy111 (Seq.way : Below y18.heap.size y18 _)
              have zy111 := HY111.size
              (try dsimp only)
              clear hHeld
              refine hK.out _ _ (Hkeep HY111).out fun hHeld => ?_
              clear hK K
              (try simp only [Act.put, List.getElem_toArray, List.getElem_cons_zero, List.getElem_cons_succ, List.setIfInBounds_toArray, List.set_cons_zero, List.set_cons_succ])
              clear hy110 HY110 zy110
              refine wpAnyH_take1 (i := 74) (oi := _) (v := ?_) (by kernel_rfl) rfl (by kernel_rfl) (fun _ _ _ h => h) (Or.inl ⟨by rfl, ?_⟩) (by assumption) ?_
              rotate_left 1
              · intro w hSw; (try dsimp only at hSw); go_simp; (with_reducible rfl)
              (try simp only [Act.put, List.getElem_toArray, List.getElem_cons_zero, List.getElem_cons_succ, List.setIfInBounds_toArray, List.set_cons_zero, List.set_cons_succ])
              refine wpAnyH_take1 (i := 75) (oi := _) (v := ?_) (by kernel_rfl) rfl (by kernel_rfl) (fun _ _ _ h => h) (Or.inl ⟨by rfl, ?_⟩) (by assumption) ?_
              rotate_left 1
              · intro w hSw; (try dsimp only at hSw); go_simp; (with_reducible rfl)
              (try simp only [Act.put, List.getElem_toArray, List.getElem_cons_zero, List.getElem_cons_succ, List.setIfInBounds_toArray, List.set_cons_zero, List.set_cons_succ])
              refine wpAnyH_take1 (i := 76) (oi := _) (v := ?_) (by kernel_rfl) rfl (by kernel_rfl) (fun _ _ _ h => h) (Or.inl ⟨by rfl, ?_⟩) (by assumption) ?_
              rotate_left 1
              · intro w hSw; (try dsimp only at hSw); go_simp; (with_reducible rfl)
              (try simp only [Act.put, List.getElem_toArray, List.getElem_cons_zero, List.getElem_cons_succ, List.setIfInBounds_toArray, List.set_cons_zero, List.set_cons_succ])
              refine wpAnyH_take1 (i := 77) (oi := _) (v := ?_) (by kernel_rfl) rfl (by kernel_rfl) (fun _ _ _ h => h) (Or.inl ⟨by rfl, ?_⟩) (by assumption) ?_
              rotate_left 1
              · intro w hSw; (try dsimp only at hSw); go_simp; (with_reducible rfl)
              (try simp only [Act.put, List.getElem_toArray, List.getElem_cons_zero, List.getElem_cons_succ, List.setIfInBounds_toArray, List.set_cons_zero, List.set_cons_succ])
              refine wpAnyH_one (i := 78) (by kernel_rfl) rfl (by rfl) fun K hK => ?_
              go_simp
              refine (total14 (W_18.out.at Seq.way)).mono ?_
              rintro e y112 ⟨rfl, hy112⟩
              have HY112 := below_step hy112 (Seq.way : Below y18.heap.size y18 _)
              have zy112 := HY112.size
              (try dsimp only)
              clear hHeld
              refine hK.out _ _ (Hkeep HY112).out fun hHeld => ?_
              clear hK K
              (try simp only [Act.put, List.getElem_toArray, List.getElem_cons_zero, List.getElem_cons_succ, List.setIfInBounds_toArray, List.set_cons_zero, List.set_cons_succ])
              clear hy111 HY111 zy111
              refine wpAnyH_take1 (i := 79) (oi := _) (v := ?_) (by kernel_rfl) rfl (by kernel_rfl) (fun _ _ _ h => h) (Or.inl ⟨by rfl, ?_⟩) (by assumption) ?_
              rotate_left 1
              · intro w hSw; (try dsimp only at hSw); go_simp; (with_reducible rfl)
              (try simp only [Act.put, List.getElem_toArray, List.getElem_cons_zero, List.getElem_cons_succ, List.setIfInBounds_toArray, List.set_cons_zero, List.set_cons_succ])
              refine wpAnyH_take1 (i := 80) (oi := _) (v := ?_) (by kernel_rfl) rfl (by kernel_rfl) (fun _ _ _ h => h) (Or.inl ⟨by rfl, ?_⟩) (by assumption) ?_
              rotate_left 1
              · intro w hSw; (try dsimp only at hSw); go_simp; (with_reducible rfl)
              (try simp only [Act.put, List.getElem_toArray, List.getElem_cons_zero, List.getElem_cons_succ, List.setIfInBounds_toArray, List.set_cons_zero, List.set_cons_succ])
              refine wpAnyH_take1 (i := 81) (oi := _) (v := ?_) (by kernel_rfl) rfl (by kernel_rfl) (fun _ _ _ h => h) (Or.inl ⟨by rfl, ?_⟩) (by assumption) ?_
              rotate_left 1
              · intro w hSw; (try dsimp only at hSw); go_simp; (with_reducible rfl)
              (try simp only [Act.put, List.getElem_toArray, List.getElem_cons_zero, List.getElem_cons_succ, List.setIfInBounds_toArray, List.set_cons_zero, List.set_cons_succ])
              refine wpAnyH_take1 (i := 82) (oi := _) (v := ?_) (by kernel_rfl) rfl (by kernel_rfl) (fun _ _ _ h => h) (Or.inl ⟨by rfl, ?_⟩) (by assumption) ?_
              rotate_left 1
              · intro w hSw; (try dsimp only at hSw); go_simp; (with_reducible rfl)
              (try simp only [Act.put, List.getElem_toArray, List.getElem_cons_zero, List.getElem_cons_succ, List.setIfInBounds_toArray, List.set_cons_zero, List.set_cons_succ])
              as_aux_lemma =>
                refine wpAnyH_one (i := 83) (by kernel_rfl) rfl (by rfl) fun K hK => ?_
                go_simp
                refine (right14 hd_11 (W_18.out.at Seq.way)).mono ?_
                rintro e y113 ⟨rfl, hy113⟩
                have HY113 := below_step hy113 (Seq.way : Below y18.heap.size y18 _)
                have zy113 := HY113.size
                (try dsimp only)
                clear hHeld
                refine hK.out _ _ (Hkeep HY113).out fun hHeld => ?_
                clear hK K
                (try simp only [Act.put, List.getElem_toArray, List.getElem_cons_zero, List.getElem_cons_succ, List.setIfInBounds_toArray, List.set_cons_zero, List.set_cons_succ])
                clear hy112 HY112 zy112
                refine wpAnyH_take1 (i := 84) (oi := _) (v := ?_) (by kernel_rfl) rfl (by kernel_rfl) (fun _ _ _ h => h) (Or.inl ⟨by rfl, ?_⟩) (by assumption) ?_
                rotate_left 1
                · intro w hSw; (try dsimp only at hSw); go_simp; (with_reducible rfl)
                (try simp only [Act.put, List.getElem_toArray, List.getElem_cons_zero, List.getElem_cons_succ, List.setIfInBounds_toArray, List.set_cons_zero, List.set_cons_succ])
                refine wpAnyH_take1 (i := 85) (oi := _) (v := ?_) (by kernel_rfl) rfl (by kernel_rfl) (fun _ _ _ h => h) (Or.inl ⟨by rfl, ?_⟩) (by assumption) ?_
                rotate_left 1
                · intro w hSw; (try dsimp only at hSw); go_simp; (with_reducible rfl)
                (try simp only [Act.put, List.getElem_toArray, List.getElem_cons_zero, List.getElem_cons_succ, List.setIfInBounds_toArray, List.set_cons_zero, List.set_cons_succ])
                refine wpAnyH_one (i := 86) (by kernel_rfl) rfl (by rfl) fun K hK => ?_
                go_simp
                refine (right14 (s := []) (b := true) rfl (Seq.nil tabE (fun _ => False) _)).mono ?_
                rintro e y114 ⟨rfl, hy114⟩
                have HY114 := below_step hy114 (Seq.way : Below y18.heap.size y18 _)
                have zy114 := HY114.size
                (try dsimp only)
                clear hHeld
                refine hK.out _ _ (Hkeep HY114).out fun hHeld => ?_
                clear hK K
                (try simp only [Act.put, List.getElem_toArray, List.getElem_cons_zero, List.getElem_cons_succ, List.setIfInBounds_toArray, List.set_cons_zero, List.set_cons_succ])
                clear hy113 HY113 zy113
                refine wpAnyH_take1 (i := 87) (oi := _) (v := ?_) (by kernel_rfl) rfl (by kernel_rfl) (fun _ _ _ h => h) (Or.inl ⟨by rfl, ?_⟩) (by assumption) ?_
                rotate_left 1
                · intro w hSw; (try dsimp only at hSw); go_simp; (with_reducible rfl)
                (try simp only [Act.put, List.getElem_toArray, List.getElem_cons_zero, List.getElem_cons_succ, List.setIfInBounds_toArray, List.set_cons_zero, List.set_cons_succ])
                refine wpAnyH_take1 (i := 88) (oi := _) (v := ?_) (by kernel_rfl) rfl (by kernel_rfl) (fun _ _ _ h => h) (Or.inl ⟨by rfl, ?_⟩) (by assumption) ?_
                rotate_left 1
                · intro w hSw; (try dsimp only at hSw); go_simp; (with_reducible rfl)
                (try simp only [Act.put, List.getElem_toArray, List.getElem_cons_zero, List.getElem_cons_succ, List.setIfInBounds_toArray, List.set_cons_zero, List.set_cons_succ])
                refine wpAnyH_one (i := 89) (by kernel_rfl) rfl (by rfl) fun K hK => ?_
                go_simp
                refine (vC_spec (n := 0)).mono ?_
                rintro e y115 ⟨rfl, hy115⟩
                have HY115 := below_step hy115 (Seq.way : Below y18.heap.size y18 _)
                have zy115 := HY115.size
                (try dsimp only)
                clear hHeld
                refine hK.out _ _ (Hkeep HY115).out fun hHeld => ?_
                clear hK K
                (try simp only [Act.put, List.getElem_toArray, List.getElem_cons_zero, List.getElem_cons_succ, List.setIfInBounds_toArray, List.set_cons_zero, List.set_cons_succ])
                clear hy114 HY114 zy114
                refine wpAnyH_one (i := 90) (by kernel_rfl) rfl (by rfl) fun K hK => ?_
                refine wp_buildS 23 51 1 _ rfl [(0, .agg #[.int .i64 1, .string ⟨#[]⟩, .int .i64 0])] #[.int .i64 1, .string ⟨#[]⟩, .int .i64 0] Tryz.underlying23 infoCellU (by decide) (by decide) ?_ (by kernel_rfl) ?_
                · (go_simp)
                clear hHeld
                refine hK.out _ _ (Hkeep Seq.way).out fun hHeld => ?_
                clear hK K
                (try simp only [Act.put, List.getElem_toArray, List.getElem_cons_zero, List.getElem_cons_succ, List.setIfInBounds_toArray, List.set_cons_zero, List.set_cons_succ])
                refine wpAnyH_take1 (i := 91) (oi := _) (v := ?_) (by kernel_rfl) rfl (by kernel_rfl) (fun _ _ _ h => h) (Or.inl ⟨by rfl, ?_⟩) (by assumption) ?_
                rotate_left 1
                · intro w hSw; (try dsimp only at hSw); go_simp; (with_reducible rfl)
                (try simp only [Act.put, List.getElem_toArray, List.getElem_cons_zero, List.getElem_cons_succ, List.setIfInBounds_toArray, List.set_cons_zero, List.set_cons_succ])
                refine wpAnyH_one (i := 92) (by kernel_rfl) rfl (by rfl) fun K hK => ?_
                refine wp_buildS 22 43 1 _ rfl [(0, .agg #[.slice (some ⟨y115.heap.size, 0, none⟩) 1 1, .slice none 0 0])] #[.slice (some ⟨y115.heap.size, 0, none⟩) 1 1, .slice none 0 0] Tryz.underlying22 infoTab (by decide) (by decide) ?_ (by kernel_rfl) ?_
                · (go_simp)
                clear hHeld
                refine hK.out _ _ (Hkeep Seq.way).out fun hHeld => ?_
                clear hK K
                (try simp only [Act.put, List.getElem_toArray, List.getElem_cons_zero, List.getElem_cons_succ, List.setIfInBounds_toArray, List.set_cons_zero, List.set_cons_succ])
                refine wpAnyH_one (i := 93) (by kernel_rfl) rfl (by rfl) fun K hK => ?_
                go_simp
                refine (right14 hd_12 (litTab (by simp) (litC [cV 0] (ok1 okV0) (by simp)))).mono ?_
                rintro e y116 ⟨rfl, hy116⟩
                have HY116 := below_step hy116 (Seq.way : Below y18.heap.size y18 _)
                have zy116 := HY116.size
                (try dsimp only)
                clear hHeld
                refine hK.out _ _ (Hkeep HY116).out fun hHeld => ?_
                clear hK K
                (try simp only [Act.put, List.getElem_toArray, List.getElem_cons_zero, List.getElem_cons_succ, List.setIfInBounds_toArray, List.set_cons_zero, List.set_cons_succ])
                clear hy115 HY115 zy115
                refine wpAnyH_take1 (i := 94) (oi := _) (v := ?_) (by kernel_rfl) rfl (by kernel_rfl) (fun _ _ _ h => h) (Or.inl ⟨by rfl, ?_⟩) (by assumption) ?_
                rotate_left 1
                · intro w hSw; (try dsimp only at hSw); go_simp; (with_reducible rfl)
                (try simp only [Act.put, List.getElem_toArray, List.getElem_cons_zero, List.getElem_cons_succ, List.setIfInBounds_toArray, List.set_cons_zero, List.set_cons_succ])
                as_aux_lemma =>
                  refine wpAnyH_take1 (i := 95) (oi := _) (v := ?_) (by kernel_rfl) rfl (by kernel_rfl) (fun _ _ _ h => h) (Or.inl ⟨by rfl, ?_⟩) (by assumption) ?_
                  rotate_left 1
                  · intro w hSw; (try dsimp only at hSw); go_simp; (with_reducible rfl)
                  (try simp only [Act.put, List.getElem_toArray, List.getElem_cons_zero, List.getElem_cons_succ, List.setIfInBounds_toArray, List.set_cons_zero, List.set_cons_succ])
                  refine wpAnyH_take1 (i := 96) (oi := _) (v := ?_) (by kernel_rfl) rfl (by kernel_rfl) (fun _ _ _ h => h) (Or.inl ⟨by rfl, ?_⟩) (by assumption) ?_
                  rotate_left 1
                  · intro w hSw; (try dsimp only at hSw); go_simp; (with_reducible rfl)
                  (try simp only [Act.put, List.getElem_toArray, List.getElem_cons_zero, List.getElem_cons_succ, List.setIfInBounds_toArray, List.set_cons_zero, List.set_cons_succ])
                  refine wpAnyH_one (i := 97) (by kernel_rfl) rfl (by rfl) fun K hK => ?_
                  go_simp
                  refine (fC_spec (nm := ⟨#[112]⟩) (n := 1)).mono ?_
                  rintro e y117 ⟨rfl, hy117⟩
                  have HY117 := below_step hy117 (Seq.way : Below y18.heap.size y18 _)
                  have zy117 := HY117.size
                  (try dsimp only)
                  clear hHeld
                  refine hK.out _ _ (Hkeep HY117).out fun hHeld => ?_
                  clear hK K
                  (try simp only [Act.put, List.getElem_toArray, List.getElem_cons_zero, List.getElem_cons_succ, List.setIfInBounds_toArray, List.set_cons_zero, List.set_cons_succ])
                  clear hy116 HY116 zy116
                  refine wpAnyH_one (i := 98) (by kernel_rfl) rfl (by rfl) fun K hK => ?_
                  go_simp
                  refine (vC_spec (n := 1)).mono ?_
                  rintro e y118 ⟨rfl, hy118⟩
                  have HY118 := below_step hy118 (Seq.way : Below y18.heap.size y18 _)
                  have zy118 := HY118.size
                  (try dsimp only)
                  clear hHeld
                  refine hK.out _ _ (Hkeep HY118).out fun hHeld => ?_
                  clear hK K
                  (try simp only [Act.put, List.getElem_toArray, List.getElem_cons_zero, List.getElem_cons_succ, List.setIfInBounds_toArray, List.set_cons_zero, List.set_cons_succ])
                  clear hy117 HY117 zy117
                  refine wpAnyH_one (i := 99) (by kernel_rfl) rfl (by rfl) fun K hK => ?_
                  refine wp_buildS 23 51 2 _ rfl [(0, .agg #[.int .i64 3, .string ⟨#[112]⟩, .int .i64 1]), (1, .agg #[.int .i64 1, .string ⟨#[]⟩, .int .i64 1])] #[.int .i64 3, .string ⟨#[112]⟩, .int .i64 1, .int .i64 1, .string ⟨#[]⟩, .int .i64 1] Tryz.underlying23 infoCellU (by decide) (by decide) ?_ (by kernel_rfl) ?_
                  · (go_simp)
                  clear hHeld
                  refine hK.out _ _ (Hkeep Seq.way).out fun hHeld => ?_
                  clear hK K
                  (try simp only [Act.put, List.getElem_toArray, List.getElem_cons_zero, List.getElem_cons_succ, List.setIfInBounds_toArray, List.set_cons_zero, List.set_cons_succ])
                  refine wpAnyH_take1 (i := 100) (oi := _) (v := ?_) (by kernel_rfl) rfl (by kernel_rfl) (fun _ _ _ h => h) (Or.inl ⟨by rfl, ?_⟩) (by assumption) ?_
                  rotate_left 1
                  · intro w hSw; (try dsimp only at hSw); go_simp; (with_reducible rfl)
                  (try simp only [Act.put, List.getElem_toArray, List.getElem_cons_zero, List.getElem_cons_succ, List.setIfInBounds_toArray, List.set_cons_zero, List.set_cons_succ])
                  refine wpAnyH_one (i := 101) (by kernel_rfl) rfl (by rfl) fun K hK => ?_
                  refine wp_buildS 22 43 1 _ rfl [(0, .agg #[.slice (some ⟨y118.heap.size, 0, none⟩) 2 2, .slice none 0 0])] #[.slice (some ⟨y118.heap.size, 0, none⟩) 2 2, .slice none 0 0] Tryz.underlying22 infoTab (by decide) (by decide) ?_ (by kernel_rfl) ?_
                  · (go_simp)
                  clear hHeld
                  refine hK.out _ _ (Hkeep Seq.way).out fun hHeld => ?_
                  clear hK K
                  (try simp only [Act.put, List.getElem_toArray, List.getElem_cons_zero, List.getElem_cons_succ, List.setIfInBounds_toArray, List.set_cons_zero, List.set_cons_succ])
                  refine wpAnyH_one (i := 102) (by kernel_rfl) rfl (by rfl) fun K hK => ?_
                  go_simp
                  refine (right14 hd_13 (litTab (by simp) (litC [cP, cV 1] (ok2 okP okV1) (by simp)))).mono ?_
                  rintro e y119 ⟨rfl, hy119⟩
                  have HY119 := below_step hy119 (Seq.way : Below y18.heap.size y18 _)
                  have zy119 := HY119.size
                  (try dsimp only)
                  clear hHeld
                  refine hK.out _ _ (Hkeep HY119).out fun hHeld => ?_
                  clear hK K
                  (try simp only [Act.put, List.getElem_toArray, List.getElem_cons_zero, List.getElem_cons_succ, List.setIfInBounds_toArray, List.set_cons_zero, List.set_cons_succ])
                  clear hy118 HY118 zy118
                  refine wpAnyH_take1 (i := 103) (oi := _) (v := ?_) (by kernel_rfl) rfl (by kernel_rfl) (fun _ _ _ h => h) (Or.inl ⟨by rfl, ?_⟩) (by assumption) ?_
                  rotate_left 1
                  · intro w hSw; (try dsimp only at hSw); go_simp; (with_reducible rfl)
                  (try simp only [Act.put, List.getElem_toArray, List.getElem_cons_zero, List.getElem_cons_succ, List.setIfInBounds_toArray, List.set_cons_zero, List.set_cons_succ])
                  refine wpAnyH_take1 (i := 104) (oi := _) (v := ?_) (by kernel_rfl) rfl (by kernel_rfl) (fun _ _ _ h => h) (Or.inl ⟨by rfl, ?_⟩) (by assumption) ?_
                  rotate_left 1
                  · intro w hSw; (try dsimp only at hSw); go_simp; (with_reducible rfl)
                  (try simp only [Act.put, List.getElem_toArray, List.getElem_cons_zero, List.getElem_cons_succ, List.setIfInBounds_toArray, List.set_cons_zero, List.set_cons_succ])
                  refine wpAnyH_take1 (i := 105) (oi := _) (v := ?_) (by kernel_rfl) rfl (by kernel_rfl) (fun _ _ _ h => h) (Or.inl ⟨by rfl, ?_⟩) (by assumption) ?_
                  rotate_left 1
                  · intro w hSw; (try dsimp only at hSw); go_simp; (with_reducible rfl)
                  (try simp only [Act.put, List.getElem_toArray, List.getElem_cons_zero, List.getElem_cons_succ, List.setIfInBounds_toArray, List.set_cons_zero])
                  refine wpAnyH_done (by kernel_rfl) ?_ _
                  refine NoPanic.normal ?_
                  clear Hkeep hHeld
                  go_wp2_with fail
                  go_ret
                  exact ⟨rfl, below_step HY119 B18.out⟩
end Go.Proofs.YtckkjjiaecnciaaGreat
