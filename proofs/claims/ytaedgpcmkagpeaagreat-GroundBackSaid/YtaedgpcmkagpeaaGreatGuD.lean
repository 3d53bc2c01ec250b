/-
  Layer 16, the law: GroundBack.
-/
import Derived.Test.YtaedgpcmkagpeaaGreatGuP
namespace Go.Proofs.YtaedgpcmkagpeaaGreat
open Go Go.RowKit

set_option maxHeartbeats 12800000 in
set_option maxRecDepth 100000 in
theorem back_spec {S : Nat → Prop} {w : World} {v : Value} {g : Prog} (hg : ProgV S w v g) :
    Calls Tryz.prog 6 #[v] w (RetV (.bool true) w) := by
  replace hg := hg.bnd
  have HL := Lib.hid hg
  have HG := Lib.hid hg
  obtain ⟨va, vr, rfl, hA, hR⟩ := hg
  have HA := Lib.hid hA
  have HRl := Lib.hid hR
  obtain ⟨aa, ac, rfl⟩ := hA.shape
  obtain ⟨ra, rc, rfl⟩ := hR.shape
  obtain ⟨W, hW⟩ : ∃ W, W = w.alloc (.cells #[.slice aa g.atoms.length ac, .slice ra g.rules.length rc] 26) := ⟨_, rfl⟩
  have HB := Lib.hid (show Below w.heap.size w W by rw [hW]; exact Seq.way)
  have HP := Lib.hid (show Row 26 W w.heap.size [.slice aa g.atoms.length ac, .slice ra g.rules.length rc] by rw [hW]; exact Row.new w [_, _] _ rfl)
  have HW := Lib.hid hW
  clear hA hR hW HL
  go_enter Tryz.func6, Tryz.ntmps6
  go_upto_region 1 with fail
  rw [← HW.out]
  go_wp2_with fail
  refine head_spec.mono ?_
  rintro e w1 ⟨rfl, hb1⟩
  have HP1 := Lib.hid (rowTo HP.out hb1)
  have B1 := Lib.hid (below_step hb1 HB.out)
  clear hb1
  have d0 := HP1.out.cell (j := 0) (by simp)
  have d1 := HP1.out.cell (j := 1) (by simp)
  have lP := HP1.out.lt
  simp only [List.getElem_cons_zero, List.getElem_cons_succ] at d0 d1
  go_wp2_with fail
  refine (GreatL_spec (HG.out.at B1.out)).mono ?_
  rintro e w2 ⟨rfl, hb2⟩
  have HP2 := Lib.hid (rowTo HP1.out hb2)
  have B2 := Lib.hid (below_step hb2 B1.out)
  clear hb2 d0 d1 lP
  have d0 := HP2.out.cell (j := 0) (by simp)
  have d1 := HP2.out.cell (j := 1) (by simp)
  have lP := HP2.out.lt
  simp only [List.getElem_cons_zero, List.getElem_cons_succ] at d0 d1
  cases hbig : bigG g with
  | true =>
    clear hbig
    go_wp2_with fail
    go_ret
    exact ⟨rfl, B2.out⟩
  | false =>
    have hf := few_of hbig
    have HF := Lib.hid hf
    clear hf hbig
    go_wp2_with fail
    refine (RightG_spec (HG.out.at B2.out) (fun t ht => Nat.le_trans (HF.out.t t ht) (by omega)) (by have := HF.out.a; omega)).mono ?_
    rintro e w3 ⟨rfl, hb3⟩
    have HP3 := Lib.hid (rowTo HP2.out hb3)
    have B3 := Lib.hid (below_step hb3 B2.out)
    clear hb3 d0 d1 lP
    have d0 := HP3.out.cell (j := 0) (by simp)
    have d1 := HP3.out.cell (j := 1) (by simp)
    have lP := HP3.out.lt
    simp only [List.getElem_cons_zero, List.getElem_cons_succ] at d0 d1
    cases hrt : rightG g with
    | false =>
      clear hrt
      go_wp2_with fail
      go_ret
      exact ⟨rfl, B3.out⟩
    | true =>
      have HRg := Lib.hid (rightG_iff.1 hrt)
      clear hrt
      have hGF := HF.out
      have hn80 := hGF.a
      have hr200 := hGF.r
      clear hGF
      have hmk := run_make_row' (P := Tryz.prog) 44 4 (.bool false) 1 Tryz.underlying44 infoBool16 rfl .i64 .i64 g.atoms.length (by omega) (by omega)
      obtain ⟨W4, hW4⟩ : ∃ W4, W4 = (w3.alloc (.cells (madeCells #[.bool false] g.atoms.length) 4)).alloc (.cells #[] 41) := ⟨_, rfl⟩
      have BB4 := Lib.hid (show Below w3.heap.size w3 W4 by rw [hW4]; exact Seq.way)
      have hz41 : w3.heap.size + 2 ≤ W4.heap.size := by rw [hW4]; simp
      have HU4 := Lib.hid (show RowB 4 W4 w3.heap.size (List.replicate g.atoms.length false) by rw [hW4]; exact (RowB.made w3 g.atoms.length 4 rfl).alloc _)
      have HO4 := Lib.hid (show Own instE (fun b => b ≠ w3.heap.size) (w3.heap.size + 1) 41 W4 (.slice (some ⟨w3.heap.size + 1, 0, none⟩) 0 0) [] by rw [hW4]; exact Own.lit0 (by simp) (Nat.le_refl _) rfl)
      have HP4 := Lib.hid (rowTo HP3.out BB4.out)
      have B4 := Lib.hid (below_step BB4.out B3.out)
      have hzw3 := B3.out.size
      have hlP3 := HP3.out.lt
      have HW4 := Lib.hid hW4
      clear hW4
      go_upto_region 6 with fail
      clear hmk
      rw [← HW4.out]
      go_wp2_with fail
      clear d0 d1 lP
      go_loopw [5, 6] (fun o q wr => ∃ (k : Nat) (s : List Bool), k ≤ g.rules.length ∧ q = .int .i64 k ∧ Hid (s.length = g.atoms.length) ∧ Hid (∀ j, j < g.atoms.length → mkU s j = usedL (g.rules.take k) j) ∧ Hid (RowB 4 wr w3.heap.size s) ∧
          Hid (Own instE (fun b => b ≠ w3.heap.size) (w3.heap.size + 1) 41 wr o ((g.rules.take k).map (instG g))) ∧ Hid (Row 26 wr w.heap.size [.slice aa g.atoms.length ac, .slice ra g.rules.length rc]) ∧ Hid (Below w.heap.size w wr) ∧ w3.heap.size + 2 ≤ wr.heap.size) (fun _ q _ => g.rules.length - (intOf q).toNat)
      case atStart => exact ⟨0, _, Nat.zero_le _, rfl, Lib.hid (by simp), Lib.hid (fun j _ => by rw [mkU_rep]; rfl), HU4, HO4, HP4, B4, hz41⟩
      case round =>
        obtain ⟨k, s, hk, rfl, hsl, hsu, hU, hO, hPr, hbw, hzr⟩ := hrel
        have d0 := hPr.out.cell (j := 0) (by simp)
        have d1 := hPr.out.cell (j := 1) (by simp)
        have lP := hPr.out.lt
        simp only [List.getElem_cons_zero, List.getElem_cons_succ] at d0 d1
        by_cases hlt : k < g.rules.length
        · have hkI : (k : Int) < (g.rules.length : Int) := by omega
          have hk0 : (0 : Int) ≤ (k : Int) := by omega
          have hGr := Lib.hid (HG.out.at' hbw.out)
          obtain ⟨_, _, ee, hA5, hR5⟩ := hGr.out
          simp only [Value.agg.injEq, Array.mk.injEq, List.cons.injEq, and_true] at ee
          obtain ⟨rfl, rfl⟩ := ee
          obtain ⟨_, _, ee, -, -, -, -, x5⟩ := hR5
          simp only [Value.slice.injEq, true_and] at ee
          obtain ⟨rfl, rfl⟩ := ee
          obtain ⟨b, off, pa, pc, na, nc, rfl, -, hb, c0, c1, c2, hih, hp, hn⟩ := x5.rule hlt
          have hmem := List.getElem_mem hlt
          have hh1 := HRg.out.head _ hmem
          have hp1 := HRg.out.pos _ hmem
          have hn1 := HRg.out.neg _ hmem
          have hpl := (HF.out.p _ hmem).1
          have hnl := (HF.out.p _ hmem).2
          have hst := Lib.hid (show (g.rules.take (k + 1)).map (instG g) = (g.rules.take k).map (instG g) ++ [instG g g.rules[k]] by rw [List.take_succ_eq_append_getElem hlt, List.map_append]; rfl)
          have hus := Lib.hid (show ∀ j, usedL (g.rules.take (k + 1)) j = (usedL (g.rules.take k) j || usesB g.rules[k] j) from fun j => by rw [List.take_succ_eq_append_getElem hlt, usedL_snoc])
          have hQl : ((g.rules.take k).map (instG g)).length ≤ 200 := by simp; omega
          obtain ⟨Q, hQ⟩ : ∃ Q, Q = (g.rules.take k).map (instG g) := ⟨_, rfl⟩
          rw [← hQ] at hO hst hQl
          obtain ⟨f, hf⟩ : ∃ f, f = usedL (g.rules.take k) := ⟨_, rfl⟩
          rw [← hf] at hsu hus
          obtain ⟨r, hr⟩ : ∃ r, r = g.rules[k] := ⟨_, rfl⟩
          rw [← hr] at c0 c1 c2 hih hp hn hh1 hp1 hn1 hpl hnl hst hus
          have HPp := Lib.hid hp
          have HNn := Lib.hid hn
          have HP1 := Lib.hid hp1.1
          have HN1 := Lib.hid hn1.1
          have HH1 := Lib.hid hh1
          obtain ⟨hd, hhd⟩ : ∃ n : Nat, r.head = (n : Int) := Int.eq_ofNat_of_zero_le hh1.1
          have hdl : hd < g.atoms.length := by omega
          have hdI : (hd : Int) < (g.atoms.length : Int) := by omega
          have hd0 : (0 : Int) ≤ (hd : Int) := by omega
          have hdt : ((hd : Int)).toNat = hd := Int.toNat_natCast hd
          have Hhd := Lib.hid hhd
          rw [hhd] at c0
          obtain ⟨oa, oc, rfl, -, -⟩ := hO.out.shape
          have lU := Row.lt hU.out
          have fU := hU.out.frozen hd
          have u1 := hU.out.cell (j := hd) (by rw [hsl.out]; exact hdl)
          obtain ⟨W5, hW5⟩ : ∃ W5, W5 = (wr.setCell ⟨w3.heap.size, hd, none⟩ (.bool true)).alloc (.cells #[.int .i64 hd, .slice pa r.pos.length pc, .slice na r.neg.length nc] 46) := ⟨_, rfl⟩
          have hz5 : W5.heap.size ≤ wr.heap.size + 1 := by rw [hW5]; simp
          have hz51 : wr.heap.size + 1 ≤ W5.heap.size := by rw [hW5]; simp
          have gr5 := Lib.hid (show wr.grownBy W5 (some w3.heap.size) by rw [hW5]; exact gr_of (gr_set wr _ _ _) ((Seq.way : Below (wr.setCell ⟨w3.heap.size, hd, none⟩ (.bool true)).heap.size (wr.setCell ⟨w3.heap.size, hd, none⟩ (.bool true)) _).mono (by simp)))
          have HR5 := Lib.hid (show Row 46 W5 wr.heap.size [.int .i64 hd, .slice pa r.pos.length pc, .slice na r.neg.length nc] by rw [hW5]; exact Row.new _ [_, _, _] _ (by simp))
          have HU5 := Lib.hid (show RowB 4 W5 w3.heap.size (s.set hd true) by rw [hW5]; exact (hU.out.set _ _).alloc _)
          have hsu5 := Lib.hid (put_used (f' := fun j => f j || usesTo r 0 0 j) hsl.out hdl hsu.out fun j hj => by unfold usesTo; rw [Hhd.out, show decide ((hd : Int) = (j : Int)) = decide (j = hd) by rw [decide_eq_decide]; omega]; simp)
          have HW5 := Lib.hid hW5
          clear hr hQ hf x5 hp hn hh1 hp1 hn1 hih hA5 hhd hW5 hsu
          go_upto_region 11 with fail
          rw [← HW5.out]
          go_wp2_with fail
          clear c0 c1 c2 hb d0 d1 lP u1 fU lU
          obtain ⟨wo, rfl⟩ : ∃ wo, wo = wr := ⟨_, rfl⟩
          go_loopw [8] (fun q wz => ∃ (j : Nat) (s : List Bool), j ≤ r.pos.length ∧ q = .int .i64 j ∧ Hid (s.length = g.atoms.length) ∧ Hid (∀ x, x < g.atoms.length → mkU s x = (f x || usesTo r j 0 x)) ∧ Hid (RowB 4 wz w3.heap.size s) ∧ Hid (W5.grownBy wz (some w3.heap.size))) (fun q _ => r.pos.length - (intOf q).toNat)
          case atStart => exact ⟨0, _, Nat.zero_le _, rfl, Lib.hid (by rw [List.length_set]; exact hsl.out), hsu5, HU5, Lib.hid (gr_refl _ _)⟩
          case round =>
            obtain ⟨j, s2, hj, rfl, hsl2, hsu2, hU2, hg2⟩ := hrel
            have hgo := Lib.hid (gr_trans gr5.out hg2.out)
            have HRr := Lib.hid (HR5.out.at (hg2.out.block _ HR5.out.lt (by simp; omega)))
            have r1 := HRr.out.cell (j := 1) (by simp)
            have lR := HRr.out.lt
            simp only [List.getElem_cons_zero, List.getElem_cons_succ] at r1
            by_cases hjl : j < r.pos.length
            · have HPz := Lib.hid (gr_seq HPp.out hgo.out (fun b hb e => by have := hb.2; simp at e; omega))
              obtain ⟨_, _, ee, -, -, -, -, x6⟩ := HPz.out
              simp only [Value.slice.injEq, true_and] at ee
              obtain ⟨rfl, rfl⟩ := ee
              obtain ⟨b2, off2, rfl, -, hb2, i0, hio⟩ := x6.int hjl
              have hx := HP1.out _ (List.getElem_mem hjl)
              obtain ⟨x, hxe⟩ := Int.eq_ofNat_of_zero_le hx.1
              have hut := Lib.hid (fun i => usesTo_pos hjl i)
              have Hxe := Lib.hid hxe
              rw [hxe] at i0 hx
              have hxl : x < g.atoms.length := by omega
              have hxI : (x : Int) < (g.atoms.length : Int) := by omega
              have hx0 : (0 : Int) ≤ (x : Int) := by omega
              have hxt : ((x : Int)).toNat = x := Int.toNat_natCast x
              have hjI : (j : Int) < (r.pos.length : Int) := by omega
              have hj0 : (0 : Int) ≤ (j : Int) := by omega
              have lU := Row.lt hU2.out
              have fU := hU2.out.frozen x
              have u1 := hU2.out.cell (j := x) (by rw [hsl2.out]; exact hxl)
              clear x6 hx hxe hio
              go_wp2_with fail
              go_roundw
              case rel => exact ⟨j + 1, _, hjl, by go_num, Lib.hid (by rw [List.length_set]; exact hsl2.out), Lib.hid (put_used hsl2.out hxl hsu2.out fun i _ => by rw [hut.out i, Hxe.out, show decide ((i : Int) = (x : Int)) = decide (i = x) by rw [decide_eq_decide]; omega, Bool.or_assoc]), Lib.hid (hU2.out.set _ _), Lib.hid (gr_trans hg2.out (gr_set _ _ _ _))⟩
              case measure => simp [intOf]; omega
            · obtain rfl : j = r.pos.length := by omega
              have hjI : ¬ (r.pos.length : Int) < (r.pos.length : Int) := by omega
              obtain ⟨wp, rfl⟩ : ∃ wp, wp = wr := ⟨_, rfl⟩
              have r2 := HRr.out.cell (j := 2) (by simp)
              simp only [List.getElem_cons_zero, List.getElem_cons_succ] at r2
              go_wp2_with fail
              clear r1 r2 lR
              go_loopw [9] (fun q wz => ∃ (j : Nat) (s : List Bool), j ≤ r.neg.length ∧ q = .int .i64 j ∧ Hid (s.length = g.atoms.length) ∧ Hid (∀ x, x < g.atoms.length → mkU s x = (f x || usesTo r r.pos.length j x)) ∧ Hid (RowB 4 wz w3.heap.size s) ∧ Hid (W5.grownBy wz (some w3.heap.size))) (fun q _ => r.neg.length - (intOf q).toNat)
              case atStart => exact ⟨0, s2, Nat.zero_le _, rfl, hsl2, hsu2, hU2, hg2⟩
              case round =>
                clear hU2 hg2 hsl2 hsu2 hgo HRr
                obtain ⟨j, s2, hj, rfl, hsl2, hsu2, hU2, hg2⟩ := hrel
                have hgo := Lib.hid (gr_trans gr5.out hg2.out)
                have HRr := Lib.hid (HR5.out.at (hg2.out.block _ HR5.out.lt (by simp; omega)))
                have r1 := HRr.out.cell (j := 2) (by simp)
                have lR := HRr.out.lt
                simp only [List.getElem_cons_zero, List.getElem_cons_succ] at r1
                by_cases hjl : j < r.neg.length
                · have HPz := Lib.hid (gr_seq HNn.out hgo.out (fun b hb e => by have := hb.2; simp at e; omega))
                  obtain ⟨_, _, ee, -, -, -, -, x6⟩ := HPz.out
                  simp only [Value.slice.injEq, true_and] at ee
                  obtain ⟨rfl, rfl⟩ := ee
                  obtain ⟨b2, off2, rfl, -, hb2, i0, hio⟩ := x6.int hjl
                  have hx := HN1.out _ (List.getElem_mem hjl)
                  obtain ⟨x, hxe⟩ := Int.eq_ofNat_of_zero_le hx.1
                  have hut := Lib.hid (fun i => usesTo_neg hjl i)
                  have Hxe := Lib.hid hxe
                  rw [hxe] at i0 hx
                  have hxl : x < g.atoms.length := by omega
                  have hxI : (x : Int) < (g.atoms.length : Int) := by omega
                  have hx0 : (0 : Int) ≤ (x : Int) := by omega
                  have hxt : ((x : Int)).toNat = x := Int.toNat_natCast x
                  have hjI : (j : Int) < (r.neg.length : Int) := by omega
                  have hj0 : (0 : Int) ≤ (j : Int) := by omega
                  have lU := Row.lt hU2.out
                  have fU := hU2.out.frozen x
                  have u1 := hU2.out.cell (j := x) (by rw [hsl2.out]; exact hxl)
                  clear x6 hx hxe hio
                  go_wp2_with fail
                  go_roundw
                  case rel => exact ⟨j + 1, _, hjl, by go_num, Lib.hid (by rw [List.length_set]; exact hsl2.out), Lib.hid (put_used hsl2.out hxl hsu2.out fun i _ => by rw [hut.out i, Hxe.out, show decide ((i : Int) = (x : Int)) = decide (i = x) by rw [decide_eq_decide]; omega, Bool.or_assoc]), Lib.hid (hU2.out.set _ _), Lib.hid (gr_trans hg2.out (gr_set _ _ _ _))⟩
                  case measure => simp [intOf]; omega
                · obtain rfl : j = r.neg.length := by omega
                  have hjI : ¬ (r.neg.length : Int) < (r.neg.length : Int) := by omega
                  have HQi := Lib.hid (gr_seq HPp.out hgo.out (fun b hb e => by have := hb.2; simp at e; omega))
                  have HQn := Lib.hid (gr_seq HNn.out hgo.out (fun b hb e => by have := hb.2; simp at e; omega))
                  have hgb := Lib.hid (gr_below hgo.out (B := w.heap.size) (by omega) (by omega))
                  have BWr := Lib.hid (hbw.out.trans hgb.out)
                  have HPs := Lib.hid (hPr.out.at (hgo.out.block _ hPr.out.lt (by simp; omega)))
                  have HGs := Lib.hid (HG.out.at' BWr.out)
                  have hOr := Lib.hid (gr_own hO.out hgo.out (fun b hb e => by have := (hO.out.blk hb).1; simp at e; omega) fun b hb e => hb (by simpa using e.symm))
                  have r0 := HRr.out.cell (j := 0) (by simp)
                  have r1 := HRr.out.cell (j := 1) (by simp)
                  have r2 := HRr.out.cell (j := 2) (by simp)
                  have d0 := HPs.out.cell (j := 0) (by simp)
                  have d1 := HPs.out.cell (j := 1) (by simp)
                  have lP := HPs.out.lt
                  simp only [List.getElem_cons_zero, List.getElem_cons_succ] at r0 r1 r2 d0 d1
                  have hzo := hgo.out.size
                  have HRv := Lib.hid (show RulV (fun b => S b ∧ b < w.heap.size) wr (.agg #[.int .i64 hd, .slice pa r.pos.length pc, .slice na r.neg.length nc]) r from ⟨_, _, by rw [Hhd.out], by rw [Hhd.out]; unfold IntOK; omega, HQi.out, HQn.out⟩)
                  go_wp2_with fail
                  refine (InstR_spec HGs.out HRv.out HH1.out HP1.out HN1.out (by omega) (by omega)).mono ?_
                  rintro e y1 ⟨v5, rfl, hb5, t1, t2, t3, rfl, hT1, hT2, hT3⟩
                  have HY := Lib.hid hb5
                  have HT1 := Lib.hid hT1.bnd
                  have HT2 := Lib.hid hT2.bnd
                  have HT3 := Lib.hid hT3.bnd
                  obtain ⟨p1, n1, rfl⟩ := hT1.shape
                  obtain ⟨p2, n2, rfl⟩ := hT2.shape
                  obtain ⟨p3, n3, rfl⟩ := hT3.shape
                  have hyz := hb5.size
                  clear hb5 hT1 hT2 hT3 r0 r1 r2 d0 d1 lP lR
                  obtain ⟨ins, hins⟩ : ∃ j, j = instG g r := ⟨_, rfl⟩
                  rw [← hins] at HT1 HT2 HT3 hst ⊢
                  clear hins
                  go_wp2_with (at_builtin; (refine wpList_app_ins (S := fun b => b ≠ w3.heap.size) (base := w3.heap.size + 1) (wm := wr) (y := ins) rfl _ _ 22 rfl Tryz.underlying22 infoIns rfl hOr.out rfl (below_step Seq.way HY.out) (HT1.out.at Seq.way) (HT2.out.at Seq.way) (HT3.out.at Seq.way) (fun b h _ => h.1.elim (fun h1 => ⟨by have := h1.2; omega, .inl (by have := h1.2; omega)⟩) fun h1 => ⟨by omega, .inr h1⟩) (by go_simp) (by go_simp) (by go_simp) (by omega) (by omega) ?_))
                  intro ao cap w5 hown5 hk5
                  have H5 := Lib.hid hown5
                  have K5 := Lib.hid (Below.trans (Below.mono (below_step Seq.way HY.out) (show w3.heap.size + 1 ≤ wr.heap.size by omega)) hk5.below)
                  clear hown5 hk5
                  go_wp2_with fail
                  go_roundw
                  case rel =>
                    refine ⟨k + 1, s2, hlt, by go_num, hsl2, Lib.hid fun i hi => ?_, Lib.hid (Row.at hU2.out (K5.out.block _ (Nat.lt_succ_self _))), Lib.hid (by rw [hst.out]; simpa using H5.out), Lib.hid (HPs.out.at (K5.out.block _ (by omega))), Lib.hid (BWr.out.trans (K5.out.mono (by omega))), Nat.le_trans (by omega) K5.out.size⟩
                    rw [hsu2.out i hi, hus.out, usesTo_all]
                  case measure => simp [intOf]; omega
        · obtain rfl : k = g.rules.length := by omega
          have hkI : ¬ (g.rules.length : Int) < (g.rules.length : Int) := by omega
          rw [List.take_length] at hsu hO
          have HOx := Lib.hid (hO.out.seq (T := fun _ => True) (by simp; omega) fun _ _ _ => trivial)
          obtain ⟨L, hLe⟩ : ∃ L, L = g.rules.map (instG g) := ⟨_, rfl⟩
          rw [← hLe] at HOx
          have HLe := Lib.hid hLe
          clear hO hLe
          obtain ⟨oa, oc, rfl⟩ := HOx.out.shape
          obtain ⟨wo, rfl⟩ : ∃ wo, wo = wr := ⟨_, rfl⟩
          go_wp2_with fail
          clear d0 d1 lP
          go_loopw [10] (fun q wz => ∃ j : Nat, j ≤ g.atoms.length ∧ q = .int .i64 j ∧ Hid (∀ x, x < j → usedL g.rules x = true) ∧ Hid (Below wo.heap.size wo wz)) (fun q _ => g.atoms.length - (intOf q).toNat)
          case atStart => exact ⟨0, Nat.zero_le _, rfl, Lib.hid (fun x hx => absurd hx (by omega)), Lib.hid (Below.refl _ _)⟩
          case round =>
            obtain ⟨j, hj, rfl, hall, hwe⟩ := hrel
            replace hU := Lib.hid (show RowB 4 wr w3.heap.size s from Row.below hU.out hwe.out (Row.lt hU.out))
            replace hPr := Lib.hid (rowTo hPr.out hwe.out)
            replace HOx := Lib.hid (HOx.out.at hwe.out)
            replace hbw := Lib.hid (below_step hwe.out hbw.out)
            by_cases hjl : j < g.atoms.length
            · have hjI : (j : Int) < (g.atoms.length : Int) := by omega
              have hj0 : (0 : Int) ≤ (j : Int) := by omega
              have lU := Row.lt hU.out
              have u1 := hU.out.cell (j := j) (by rw [hsl.out]; exact hjl)
              have hu2 := Lib.hid (hsu.out j hjl)
              rw [mkU_get (by rw [hsl.out]; exact hjl)] at u1
              obtain ⟨bb, hbb⟩ : ∃ bb, bb = mkU s j := ⟨_, rfl⟩
              rw [← hbb] at u1 hu2
              clear hbb
              cases bb with
              | false =>
                go_wp2_with fail
                go_ret
                exact ⟨rfl, hbw.out⟩
              | true =>
                go_wp2_with fail
                go_roundw
                case rel => exact ⟨j + 1, hjl, by go_num, Lib.hid (fun x hx => by rcases Nat.lt_or_ge x j with h | h; exact hall.out x h; obtain rfl : x = j := (by omega); exact hu2.out.symm), hwe⟩
                case measure => simp [intOf]; omega
            · obtain rfl : j = g.atoms.length := by omega
              have hjI : ¬ (g.atoms.length : Int) < (g.atoms.length : Int) := by omega
              have hfr := Lib.hid (show fromT L = g by rw [HLe.out]; exact back_from HRg.out hall.out)
              have htl := Lib.hid (show (allT L).length ≤ 100000 by rw [HLe.out]; exact inst_terms hr200 HF.out.p)
              have hLl := Lib.hid (show L.length ≤ 100000 by rw [HLe.out, List.length_map]; omega)
              have hsm := Lib.hid (right_sm HRg.out (by omega))
              have HGr := Lib.hid (HG.out.at' hbw.out)
              have d0 := hPr.out.cell (j := 0) (by simp)
              have d1 := hPr.out.cell (j := 1) (by simp)
              have lP := hPr.out.lt
              simp only [List.getElem_cons_zero, List.getElem_cons_succ] at d0 d1
              go_upto_region 25 with fail
              have Hkeep := fun {Wk : World} (hW : Below wr.heap.size wr Wk) => Lib.hid (show Wk.cell? ⟨w.heap.size, 0, none⟩ = some (.slice aa g.atoms.length ac) ∧ Wk.cell? ⟨w.heap.size, 1, none⟩ = some (.slice ra g.rules.length rc) from ⟨(hW.cell (p := ⟨w.heap.size, 0, none⟩) lP).trans d0, (hW.cell (p := ⟨w.heap.size, 1, none⟩) lP).trans d1⟩)
              (try simp only [List.append_eq, List.cons_append, List.nil_append])
              refine wp_region_noPanic ?_
              refine wp_region_held_drew (S := fun w' => w'.cell? ⟨w.heap.size, 0, none⟩ = some (.slice aa g.atoms.length ac) ∧ w'.cell? ⟨w.heap.size, 1, none⟩ = some (.slice ra g.rules.length rc)) (by kernel_rfl) ?_ (fun hHeld => ?_)
              · exact (Hkeep (Below.drew (Below.refl _ _))).out
              refine wpAnyH_take1 (i := 0) (oi := _) (v := ?_) (by kernel_rfl) rfl (by kernel_rfl) (fun _ _ _ h => h) (Or.inl ⟨by rfl, ?_⟩) (by assumption) ?_
              rotate_left 1
              · intro w hSw; (try dsimp only at hSw); go_simp; (with_reducible rfl)
              (try simp only [Act.put, List.getElem_toArray, List.getElem_cons_zero, List.setIfInBounds_toArray, List.set_cons_zero, List.set_cons_succ])
              refine wpAnyH_take1 (i := 1) (oi := _) (v := ?_) (by kernel_rfl) rfl (by kernel_rfl) (fun _ _ _ h => h) (Or.inl ⟨by rfl, ?_⟩) (by assumption) ?_
              rotate_left 1
              · intro w hSw; (try dsimp only at hSw); go_simp; (with_reducible rfl)
              (try simp only [Act.put, List.getElem_toArray, List.getElem_cons_zero, List.getElem_cons_succ, List.setIfInBounds_toArray, List.set_cons_zero, List.set_cons_succ])
              refine wpAnyH_take1 (i := 2) (oi := _) (v := ?_) (by kernel_rfl) rfl (by kernel_rfl) (fun _ _ _ h => h) (Or.inl ⟨by rfl, ?_⟩) (by assumption) ?_
              rotate_left 1
              · intro w hSw; (try dsimp only at hSw); go_simp; (with_reducible rfl)
              (try simp only [Act.put, List.getElem_toArray, List.getElem_cons_zero, List.getElem_cons_succ, List.setIfInBounds_toArray, List.set_cons_zero, List.set_cons_succ])
              refine wpAnyH_take1 (i := 4) (oi := _) (v := ?_) (by kernel_rfl) rfl (by kernel_rfl) (fun _ _ _ h => h) (Or.inl ⟨by rfl, ?_⟩) (by assumption) ?_
              rotate_left 1
              · intro w hSw; (try dsimp only at hSw); go_simp; (with_reducible rfl)
              (try simp only [Act.put, List.getElem_toArray, List.getElem_cons_zero, List.getElem_cons_succ, List.setIfInBounds_toArray, List.set_cons_zero, List.set_cons_succ])
              refine wpAnyH_one (i := 3) (by kernel_rfl) rfl (by rfl) fun K hK => ?_
              go_simp
              refine ((FromP_spec (HOx.out.at Seq.way) htl.out hLl.out)).mono ?_
              rintro e y1 ⟨v1, rfl, hy1, hg1⟩
              have HY1 := below_step hy1 (Seq.way : Below wr.heap.size wr _)
              have zy1 := HY1.size
              (try dsimp only)
              clear hHeld
              refine hK.out _ _ (Hkeep HY1).out fun hHeld => ?_
              clear hK K
              (try simp only [Act.put, List.getElem_toArray, List.getElem_cons_zero, List.getElem_cons_succ, List.setIfInBounds_toArray, List.set_cons_zero, List.set_cons_succ])
              rw [hfr.out] at hg1
              have HG1 := Lib.hid hg1
              obtain ⟨x1, x2, rfl, -, -⟩ := hg1
              refine wpAnyH_one (i := 5) (by kernel_rfl) rfl (by rfl) fun K hK => ?_
              go_simp
              refine ((sameg_as rfl (HG1.out.at Seq.way) (HGr.out.at' Seq.way) hsm.out hsm.out)).mono ?_
              rintro e y2 ⟨rfl, hy2⟩
              have HY2 := below_step hy2 (Seq.way : Below wr.heap.size wr _)
              have zy2 := HY2.size
              (try dsimp only)
              clear hHeld
              refine hK.out _ _ (Hkeep HY2).out fun hHeld => ?_
              clear hK K
              (try simp only [Act.put, List.getElem_toArray, List.getElem_cons_zero, List.getElem_cons_succ, List.setIfInBounds_toArray, List.set_cons_zero, List.set_cons_succ])
              refine wpAnyH_take1 (i := 6) (oi := _) (v := ?_) (by kernel_rfl) rfl (by kernel_rfl) (fun _ _ _ h => h) (Or.inl ⟨by rfl, ?_⟩) (by assumption) ?_
              rotate_left 1
              · intro w hSw; (try dsimp only at hSw); go_simp; (with_reducible rfl)
              (try simp only [Act.put, List.getElem_toArray, List.getElem_cons_zero, List.getElem_cons_succ, List.setIfInBounds_toArray, List.set_cons_zero, List.set_cons_succ])
              refine wpAnyH_take1 (i := 7) (oi := _) (v := ?_) (by kernel_rfl) rfl (by kernel_rfl) (fun _ _ _ h => h) (Or.inl ⟨by rfl, ?_⟩) (by assumption) ?_
              rotate_left 1
              · intro w hSw; (try dsimp only at hSw); go_simp; (with_reducible rfl)
              (try simp only [Act.put, List.getElem_toArray, List.getElem_cons_zero, List.getElem_cons_succ, List.setIfInBounds_toArray, List.set_cons_zero, List.set_cons_succ])
              refine wpAnyH_done (by kernel_rfl) ?_ _
              refine NoPanic.normal ?_
              go_wp2_with fail
              go_ret
              exact ⟨rfl, hbw.out.trans (HY2.mono hbw.out.size)⟩
end Go.Proofs.YtaedgpcmkagpeaaGreat
