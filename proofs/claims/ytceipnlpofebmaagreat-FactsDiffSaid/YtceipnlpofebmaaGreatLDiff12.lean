/-
  Layer 12: the walk of FactsDiff.
-/
import Derived.Test.YtceipnlpofebmaaGreatMtR
namespace Go.Proofs.YtceipnlpofebmaaGreat
open Go Go.RowKit

set_option maxHeartbeats 16000000 in
set_option maxRecDepth 100000 in
theorem diff_spec (hH : ∀ w, Calls Tryz.prog 9 #[] w (RetV (.bool true) w)) {S T : Nat → Prop} {w : World} {v u : Value} {l t : List (List Cell)} (hl : Seq (seqE cellE) S w v l) (ht : Seq (seqE cellE) T w u t) :
    Calls Tryz.prog 7 #[v, u] w (RetV (.bool true) w) := by
  have Hl := Lib.hid hl
  have Ht := Lib.hid ht
  obtain ⟨la, lc, rfl, -⟩ := hl
  obtain ⟨ta, tc, rfl, -⟩ := ht
  have HB0 := Lib.hid (Below.refl w.heap.size w)
  go_enter Tryz.func7, Tryz.ntmps7
  go_wp2_with fail
  refine (hH _).mono ?_
  rintro e w1 ⟨rfl, hb⟩
  replace hb := below_step hb (Seq.way : Below w.heap.size w _)
  replace Hl := Lib.hid (Hl.out.at hb)
  replace Ht := Lib.hid (Ht.out.at hb)
  have HB1 := Lib.hid (below_step hb HB0.out)
  clear hb
  go_wp2_with fail
  refine (RowR_spec (most := 40) (Hl.out.at Seq.way) (by decide)).mono ?_
  rintro e w2 ⟨v2, rfl, hb, hs⟩
  replace hs := hs.any
  obtain ⟨a2, c2, rfl⟩ := hs.shape
  replace hb := below_step hb (Seq.way : Below w1.heap.size w1 _)
  replace Hl := Lib.hid (Hl.out.at hb)
  replace Ht := Lib.hid (Ht.out.at hb)
  have HB2 := Lib.hid (below_step hb HB1.out)
  clear hb
  have HF := Lib.hid hs
  clear hs
  go_wp2_with fail
  refine (RowR_spec (most := 40) (Ht.out.at Seq.way) (by decide)).mono ?_
  rintro e w3 ⟨v3, rfl, hb, hs⟩
  replace hs := hs.any
  obtain ⟨a3, c3, rfl⟩ := hs.shape
  replace hb := below_step hb (Seq.way : Below w2.heap.size w2 _)
  replace Hl := Lib.hid (Hl.out.at hb)
  replace Ht := Lib.hid (Ht.out.at hb)
  replace HF := Lib.hid (HF.out.at hb)
  have HB3 := Lib.hid (below_step hb HB2.out)
  clear hb
  have HG := Lib.hid hs
  clear hs
  obtain ⟨hF1, hF2⟩ := rowF_rowT l (most := 40) (by omega)
  obtain ⟨hG1, hG2⟩ := rowF_rowT t (most := 40) (by omega)
  obtain ⟨F, hFF⟩ : ∃ F, F = rowF l 40 := ⟨_, rfl⟩
  obtain ⟨G, hGG⟩ : ∃ F, F = rowF t 40 := ⟨_, rfl⟩
  rw [← hFF] at hF1 hF2 HF ⊢
  rw [← hGG] at hG1 hG2 HG ⊢
  have HF1 := Lib.hid hF1
  have HG1 := Lib.hid hG1
  clear hF1 hFF hG1 hGG Hl Ht
  go_wp2_with fail
  refine (DiffP_spec (HF.out.at Seq.way) (HG.out.at Seq.way) HF1.out HG1.out).mono ?_
  rintro e w4 ⟨v4, u4, rfl, hb, hs, hs2⟩
  replace hs := hs.any
  replace hs2 := hs2.any
  obtain ⟨a4, c4, rfl⟩ := hs.shape
  obtain ⟨b4, d4, rfl⟩ := hs2.shape
  replace hb := below_step hb (Seq.way : Below w3.heap.size w3 _)
  replace HF := Lib.hid (HF.out.at hb)
  replace HG := Lib.hid (HG.out.at hb)
  have HB4 := Lib.hid (below_step hb HB3.out)
  clear hb
  have HX := Lib.hid hs
  have HY := Lib.hid hs2
  clear hs hs2
  go_wp2_with fail
  refine (DiffP_spec (HG.out.at Seq.way) (HF.out.at Seq.way) HG1.out HF1.out).mono ?_
  rintro e w5 ⟨v5, u5, rfl, hb, hs, hs2⟩
  replace hs := hs.any
  replace hs2 := hs2.any
  obtain ⟨a5, c5, rfl⟩ := hs.shape
  obtain ⟨b5, d5, rfl⟩ := hs2.shape
  replace hb := below_step hb (Seq.way : Below w4.heap.size w4 _)
  replace HF := Lib.hid (HF.out.at hb)
  replace HG := Lib.hid (HG.out.at hb)
  replace HX := Lib.hid (HX.out.at hb)
  replace HY := Lib.hid (HY.out.at hb)
  have HB5 := Lib.hid (below_step hb HB4.out)
  clear hb
  have HU := Lib.hid hs
  have HV := Lib.hid hs2
  clear hs hs2
  go_wp2_with fail
  refine (DiffP_spec (HF.out.at Seq.way) (HF.out.at Seq.way) HF1.out HF1.out).mono ?_
  rintro e w6 ⟨v6, u6, rfl, hb, hs, hs2⟩
  replace hs := hs.any
  replace hs2 := hs2.any
  obtain ⟨a6, c6, rfl⟩ := hs.shape
  obtain ⟨b6, d6, rfl⟩ := hs2.shape
  replace hb := below_step hb (Seq.way : Below w5.heap.size w5 _)
  replace HF := Lib.hid (HF.out.at hb)
  replace HG := Lib.hid (HG.out.at hb)
  replace HX := Lib.hid (HX.out.at hb)
  replace HY := Lib.hid (HY.out.at hb)
  replace HU := Lib.hid (HU.out.at hb)
  replace HV := Lib.hid (HV.out.at hb)
  have HB6 := Lib.hid (below_step hb HB5.out)
  clear hb
  have HP := Lib.hid hs
  have HQ := Lib.hid hs2
  clear hs hs2
  have hself : lessT F F = [] := by
    refine List.eq_nil_iff_forall_not_mem.2 fun x hx => ?_
    have := mem_lessT.1 hx
    exact this.2 this.1
  rw [hself]
  have hmX := Lib.hid (fun (x : List Cell) => (mem_lessT : x ∈ lessT G F ↔ _))
  have hmY := Lib.hid (fun (x : List Cell) => (mem_lessT : x ∈ lessT F G ↔ _))
  have hndY := Lib.hid (show (lessT F G).Nodup from (sortT_nodup HF1.out.sort).filter _)
  have hlX : (lessT G F).length ≤ 40 := Nat.le_trans (List.length_filter_le _ _) hG2
  have hlY : (lessT F G).length ≤ 40 := Nat.le_trans (List.length_filter_le _ _) hF2
  obtain ⟨X, hX⟩ : ∃ X, X = lessT G F := ⟨_, rfl⟩
  obtain ⟨Y, hY⟩ : ∃ X, X = lessT F G := ⟨_, rfl⟩
  rw [← hX] at HX HV hmX hlX ⊢
  rw [← hY] at HY HU hmY hndY hlY ⊢
  clear hX hY hself HP HQ
  have hfX := fun {w' : World} (h : Below w6.heap.size w6 w') => Lib.hid (HX.out.at h)
  have hfY := fun {w' : World} (h : Below w6.heap.size w6 w') => Lib.hid (HY.out.at h)
  have hfF := fun {w' : World} (h : Below w6.heap.size w6 w') => Lib.hid (HF.out.at h)
  have hfG := fun {w' : World} (h : Below w6.heap.size w6 w') => Lib.hid (HG.out.at h)
  go_wp2_with fail
  go_loopw [12, 13] (fun o i wr => ∃ (k : Nat) (m : List (List Cell)), k ≤ X.length ∧ i = .int .i64 k ∧ Hid (RowT m) ∧ m.length ≤ 40 + k ∧ Hid (∀ x, x ∈ m ↔ x ∈ F ∨ x ∈ X.take k) ∧ Hid (Seq (seqE cellE) (fun _ => True) wr o m) ∧ Hid (Below w6.heap.size w6 wr)) (fun _ i _ => X.length - (intOf i).toNat)
  case atStart => exact ⟨0, F, Nat.zero_le _, rfl, HF1, by omega, Lib.hid (by simp), HF, Lib.hid (Below.refl _ _)⟩
  case round =>
    obtain ⟨k, m, hk, rfl, hR, hml, hm, hO, hbr⟩ := hrel
    obtain ⟨oa, oc, rfl⟩ := hO.out.shape
    by_cases hlt : k < X.length
    · obtain ⟨_, _, ee, -, -, -, -, x5⟩ := (hfX hbr.out).out
      simp only [Value.slice.injEq, true_and] at ee
      obtain ⟨rfl, rfl⟩ := ee
      obtain ⟨b1, o1, p1, n1, rfl, -, l1, c0, hX1⟩ := x5.seq hlt
      have hin := (hmX.out X[k]).1 (List.getElem_mem hlt)
      have hst := Lib.hid (show X.take (k + 1) = X.take k ++ [X[k]] from List.take_succ_eq_append_getElem hlt)
      have HX1 := Lib.hid hX1
      obtain ⟨x, hx⟩ : ∃ x, x = X[k] := ⟨_, rfl⟩
      rw [← hx] at c0 HX1 hin hst
      have hfx := HG1.out.fact x hin.1
      have hd1 := decide_eq_false hin.2
      have hd2 := decide_eq_true hin.1
      obtain ⟨g1, g2, g3⟩ := addO_rowT' hR.out hfx (by omega : m.length < 512)
      have g4 := Lib.hid (fun y => mem_addO (x := y) hR.out hfx (by omega : m.length < 512))
      have G1 := Lib.hid g1
      have hkl : (k : Int) < (X.length : Int) := by omega
      have hk0 : (0 : Int) ≤ (k : Int) := by omega
      have Hin := Lib.hid hin
      clear hx x5 hX1 hin g1 hfx
      go_wp2_with fail
      refine (HasR_spec (hfF hbr.out).out HX1.out).mono ?_
      rintro e y1 ⟨rfl, hq1⟩
      have hb1 := Lib.hid hq1.belowS
      have e0 : y1.cell? ⟨b1, o1 + k, none⟩ = _ := (hb1.out.cell (p := ⟨b1, o1 + k, none⟩) l1).trans c0
      have l2 : b1 < y1.heap.size := Nat.lt_of_lt_of_le l1 hb1.out.size
      rw [hd1]
      clear hq1 c0 hd1
      go_wp2_with fail
      refine (HasR_spec (hfG (below_step hb1.out hbr.out)).out (HX1.out.at hb1.out)).mono ?_
      rintro e y2 ⟨rfl, hq2⟩
      have hb2 := Lib.hid (below_step hq2.belowS hb1.out)
      have e2 : y2.cell? ⟨b1, o1 + k, none⟩ = _ := (hq2.belowS.cell (p := ⟨b1, o1 + k, none⟩) l2).trans e0
      rw [hd2]
      clear hq2 e0 hd2
      go_wp2_with fail
      refine (AddP_spec (hO.out.at hb2.out) (HX1.out.at hb2.out) hR.out).mono ?_
      rintro e y3 ⟨v3, rfl, hb3, hs3⟩
      have Hs3 := Lib.hid hs3.any
      obtain ⟨a3, c3, rfl⟩ := hs3.shape
      have Hb3 := Lib.hid (below_step hb3 hb2.out)
      rw [g3]
      clear hs3 hb3 e2 g3
      go_wp2_with fail
      go_roundw
      case rel => exact ⟨k + 1, addO m x, hlt, by go_num, G1, by omega, Lib.hid (fun y => by rw [g4.out, hm.out, hst.out]; simp only [List.mem_append, List.mem_singleton]; constructor <;> (intro h; rcases h with h | h | h <;> simp [h])), Hs3, Lib.hid (below_step Hb3.out hbr.out)⟩
      case measure => simp [intOf]; omega
    · obtain rfl : k = X.length := by omega
      rw [List.take_length] at hm
      clear hlt
      go_wp2_with fail
      go_loopw [12, 16] (fun o i wz => ∃ (k : Nat) (m : List (List Cell)), k ≤ Y.length ∧ i = .int .i64 k ∧ Hid (RowT m) ∧ Hid (∀ x, x ∈ m ↔ (x ∈ F ∨ x ∈ X) ∧ ¬ x ∈ Y.take k) ∧ Hid (Seq (seqE cellE) (fun _ => True) wz o m) ∧ Hid (Below w6.heap.size w6 wz)) (fun _ i _ => Y.length - (intOf i).toNat)
      case atStart => exact ⟨0, m, Nat.zero_le _, rfl, hR, Lib.hid (fun x => by rw [hm.out]; simp), hO, hbr⟩
      case round =>
        clear hR hml hm hO hbr
        obtain ⟨k, m, hk, rfl, hR, hm, hO, hbr⟩ := hrel
        obtain ⟨oa, oc, rfl⟩ := hO.out.shape
        by_cases hlt : k < Y.length
        · obtain ⟨_, _, ee, -, -, -, -, x5⟩ := (hfY hbr.out).out
          simp only [Value.slice.injEq, true_and] at ee
          obtain ⟨rfl, rfl⟩ := ee
          obtain ⟨b1, o1, p1, n1, rfl, -, l1, c0, hX1⟩ := x5.seq hlt
          have hin := (hmY.out Y[k]).1 (List.getElem_mem hlt)
          have hst := Lib.hid (show Y.take (k + 1) = Y.take k ++ [Y[k]] from List.take_succ_eq_append_getElem hlt)
          have hnt : ¬ Y[k] ∈ Y.take k := fun h => by
            obtain ⟨j, hj, he⟩ := List.mem_iff_getElem.1 h
            rw [List.length_take] at hj
            rw [List.getElem_take] at he
            exact absurd ((List.getElem_inj hndY.out).1 he) (by omega)
          have HX1 := Lib.hid hX1
          obtain ⟨x, hx⟩ : ∃ x, x = Y[k] := ⟨_, rfl⟩
          rw [← hx] at c0 HX1 hin hst hnt
          have hfx := HF1.out.fact x hin.1
          have hxm : x ∈ m := (hm.out x).2 ⟨.inl hin.1, hnt⟩
          have g3 : dropE m x = 0 := by unfold dropE; rw [if_pos hfx, if_pos hxm]
          have G1 := Lib.hid (dropO_rowT hR.out g3)
          have g4 := Lib.hid (fun y => mem_dropO (x := y) hfx hxm)
          have hkl : (k : Int) < (Y.length : Int) := by omega
          have hk0 : (0 : Int) ≤ (k : Int) := by omega
          clear hx x5 hX1 hin hfx hxm hnt
          go_wp2_with fail
          refine (DropP_spec hO.out HX1.out hR.out).mono ?_
          rintro e y3 ⟨v3, rfl, hb3, hs3⟩
          have Hs3 := Lib.hid hs3.any
          obtain ⟨a3, c3, rfl⟩ := hs3.shape
          have Hb3 := Lib.hid hb3
          rw [g3]
          clear hs3 hb3 g3
          go_wp2_with fail
          go_roundw
          case rel => exact ⟨k + 1, dropO m x, hlt, by go_num, G1, Lib.hid (fun y => by rw [g4.out, hm.out, hst.out]; simp only [List.mem_append, List.mem_singleton, not_or]; exact ⟨fun h => ⟨h.1.1, h.1.2, h.2⟩, fun h => ⟨⟨h.1, h.2.1⟩, h.2.2⟩⟩), Hs3, Lib.hid (below_step Hb3.out hbr.out)⟩
          case measure => simp [intOf]; omega
        · obtain rfl : k = Y.length := by omega
          rw [List.take_length] at hm
          have hmG := Lib.hid (show m = G from sortT_ext hR.out.sort HG1.out.sort fun x => by
            rw [hm.out, hmX.out, hmY.out]
            constructor
            · rintro ⟨h | h, h2⟩
              · exact Classical.byContradiction fun h3 => h2 ⟨h, h3⟩
              · exact h.1
            · intro h
              by_cases hf : x ∈ F
              · exact ⟨.inl hf, fun h2 => h2.2 h⟩
              · exact ⟨.inr ⟨h, hf⟩, fun h2 => hf h2.1⟩)
          have hU := Lib.hid (HU.out.at hbr.out)
          have hV := Lib.hid (HV.out.at hbr.out)
          clear hlt
          go_wp2_with fail
          refine (SameR12_spec hO.out (hfG hbr.out).out).mono ?_
          rintro e y1 ⟨rfl, hq1⟩
          have hb1 := Lib.hid hq1.belowS
          rw [decide_eq_true hmG.out]
          clear hq1
          go_wp2_with fail
          refine (SameR12_spec (hfX (below_step hb1.out hbr.out)).out (hV.out.at hb1.out)).mono ?_
          rintro e y2 ⟨rfl, hq2⟩
          have hb2 := Lib.hid (below_step hq2.belowS hb1.out)
          rw [decide_eq_true rfl]
          clear hq2
          go_wp2_with fail
          refine (SameR12_spec (hfY (below_step hb2.out hbr.out)).out (hU.out.at hb2.out)).mono ?_
          rintro e y3 ⟨rfl, hq3⟩
          have hb3 := Lib.hid (below_step hq3.belowS hb2.out)
          rw [decide_eq_true rfl]
          clear hq3
          go_wp2_with fail
          go_ret
          exact ⟨rfl, below_step hb3.out (below_step hbr.out HB6.out)⟩
end Go.Proofs.YtceipnlpofebmaaGreat
