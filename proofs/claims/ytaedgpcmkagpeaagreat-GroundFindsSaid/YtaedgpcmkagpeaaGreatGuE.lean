/-
  Layer 16, the law: GroundFinds.
-/
import Derived.Test.YtaedgpcmkagpeaaGreatBxi
import Derived.Deep.DeepCutAuto
namespace Go.Proofs.YtaedgpcmkagpeaaGreat
open Go Go.RowKit

theorem sumOf_le (g : Prog) {k n : Nat} (h : k ≤ n) : sumOf g k ≤ sumOf g n := by
  induction n with
  | zero => obtain rfl : k = 0 := by omega
            exact Nat.le_refl _
  | succ n ih =>
    rcases Nat.lt_or_ge n k with h1 | h1
    · obtain rfl : k = n + 1 := by omega
      exact Nat.le_refl _
    · rw [sumOf_succ]; have := ih h1; omega
theorem ofR_at {g : Prog} {a : Int} {k : Nat} (hk : k < (ofR g a).length) : ∃ x : Nat, (ofR g a)[k] = (x : Int) ∧ ∃ h : x < g.rules.length, g.rules[x].head = a := by
  obtain ⟨h0, h1, h2⟩ := mem_ofR.1 (List.getElem_mem hk)
  exact ⟨_, (Int.toNat_of_nonneg h0).symm, h1, h2⟩
theorem ofR_lt {g : Prog} {a : Int} {k : Nat} (hk : k + 1 < (ofR g a).length) : (ofR g a)[k] < (ofR g a)[k + 1] := List.pairwise_iff_getElem.1 (ofR_rise g a) _ _ _ _ (by omega)
theorem any_eq_mem {A : List (List Cell)} {t : List Cell} : (A.any fun x => decide (x = t)) = decide (0 ≤ posT A t) := by
  rw [Bool.eq_iff_iff, List.any_eq_true, decide_eq_true_eq, posT_nonneg]
  constructor
  · rintro ⟨x, hx, e⟩; rw [← of_decide_eq_true e]; exact hx
  · intro h; exact ⟨t, h, by simp⟩
theorem any_snocT (f : List Cell → Bool) {l : List (List Cell)} {k : Nat} (hk : k < l.length) : (l.take (k + 1)).any f = ((l.take k).any f || f l[k]) := by
  rw [List.take_succ_eq_append_getElem hk, List.any_append]; simp

set_option maxHeartbeats 12800000 in
set_option maxRecDepth 100000 in
theorem finds_spec {S T : Nat → Prop} {w : World} {v u : Value} {g : Prog} {t : List Cell} (hg : ProgV S w v g) (ht : Seq cellE T w u t) :
    Calls Tryz.prog 7 #[v, u] w (RetV (.bool true) w) := by
  have HT := Lib.hid ht
  obtain ⟨ta, tc, rfl⟩ := ht.shape
  clear ht
  have HL := Lib.hid hg
  have HG := Lib.hid hg
  obtain ⟨va, vr, rfl, hA, hR⟩ := hg
  have HA := Lib.hid hA
  have HRl := Lib.hid hR
  obtain ⟨aa, ac, rfl⟩ := hA.shape
  obtain ⟨ra, rc, rfl⟩ := hR.shape
  obtain ⟨W, hW⟩ : ∃ W, W = w.alloc (.cells #[.slice aa g.atoms.length ac, .slice ra g.rules.length rc] 26) := ⟨_, rfl⟩
  have HB := Lib.hid (show Below w.heap.size w W by rw [hW]; exact Seq.way)
  have HP := Lib.hid (show Row 26 W w.heap.size [.slice aa g.atoms.length ac, .slice ra g.rules.length rc] by rw [hW]; exact Row.new w [_, _] _ rfl)
  have HW := Lib.hid hW
  clear hA hR hW HL
  go_enter Tryz.func7, Tryz.ntmps7
  go_upto_region 1 with fail
  rw [← HW.out]
  go_wp2_with fail
  refine head_spec.mono ?_
  rintro e w1 ⟨rfl, hb1⟩
  have HP1 := Lib.hid (rowTo HP.out hb1)
  have B1 := Lib.hid (below_step hb1 HB.out)
  clear hb1
  have d0 := HP1.out.cell (j := 0) (by simp)
  have d1 := HP1.out.cell (j := 1) (by simp)
  have lP := HP1.out.lt
  simp only [List.getElem_cons_zero, List.getElem_cons_succ] at d0 d1
  go_wp2_with fail
  refine (GreatL_spec (HG.out.at B1.out)).mono ?_
  rintro e w2 ⟨rfl, hb2⟩
  have HP2 := Lib.hid (rowTo HP1.out hb2)
  have B2 := Lib.hid (below_step hb2 B1.out)
  clear hb2 d0 d1 lP
  have d0 := HP2.out.cell (j := 0) (by simp)
  have d1 := HP2.out.cell (j := 1) (by simp)
  have lP := HP2.out.lt
  simp only [List.getElem_cons_zero, List.getElem_cons_succ] at d0 d1
  cases hbig : bigG g with
  | true =>
    clear hbig
    go_wp2_with fail
    go_ret
    exact ⟨rfl, B2.out⟩
  | false =>
    have hf := few_of hbig
    have HF := Lib.hid hf
    clear hf hbig
    go_wp2_with fail
    refine (RightG_spec (HG.out.at B2.out) (fun t ht => Nat.le_trans (HF.out.t t ht) (by omega)) (by have := HF.out.a; omega)).mono ?_
    rintro e w3 ⟨rfl, hb3⟩
    have HP3 := Lib.hid (rowTo HP2.out hb3)
    have B3 := Lib.hid (below_step hb3 B2.out)
    clear hb3 d0 d1 lP
    have d0 := HP3.out.cell (j := 0) (by simp)
    have d1 := HP3.out.cell (j := 1) (by simp)
    have lP := HP3.out.lt
    simp only [List.getElem_cons_zero, List.getElem_cons_succ] at d0 d1
    cases hrt : rightG g with
    | false =>
      clear hrt
      go_wp2_with fail
      go_ret
      exact ⟨rfl, B3.out⟩
    | true =>
      have HRg := Lib.hid (rightG_iff.1 hrt)
      clear hrt
      by_cases h200 : 200 < t.length
      · have h2I : (t.length : Int) > 200 := by omega
        go_wp2_with fail
        go_ret
        exact ⟨rfl, B3.out⟩
      · have h2I : ¬ (t.length : Int) > 200 := by omega
        have hn := Lib.hid HF.out.a
        have hrl := HF.out.r
        have hsum := Lib.hid (sumOf_all HRg.out.head)
        go_wp2_with fail
        clear d0 d1 lP h2I
        go_loopw [6, 7, 8] (fun m b q wr => ∃ k : Nat, k ≤ g.atoms.length ∧ q = .int .i64 k ∧ m = .int .i64 (sumOf g k) ∧ b = .bool ((g.atoms.take k).any fun x => decide (x = t)) ∧ Hid (Below w3.heap.size w3 wr)) (fun _ _ q _ => g.atoms.length - (intOf q).toNat)
        case atStart => exact ⟨0, Nat.zero_le _, rfl, rfl, rfl, Lib.hid (Below.refl _ _)⟩
        case round =>
          obtain ⟨k, hk, rfl, rfl, rfl, hbr⟩ := hrel
          have hnn := hn.out
          have HQr := Lib.hid (rowTo HP3.out hbr.out)
          have hbw := Lib.hid (below_step hbr.out B3.out)
          have d0 := HQr.out.cell (j := 0) (by simp)
          have d1 := HQr.out.cell (j := 1) (by simp)
          have lP := HQr.out.lt
          simp only [List.getElem_cons_zero, List.getElem_cons_succ] at d0 d1
          have HGr := Lib.hid (HG.out.at' hbw.out)
          have HTr := Lib.hid (HT.out.at hbw.out)
          by_cases hlt : k < g.atoms.length
          · have hkI : (k : Int) < (g.atoms.length : Int) := by omega
            have hk0 : (0 : Int) ≤ (k : Int) := by omega
            obtain ⟨_, _, ee, hA5, hR5⟩ := HGr.out
            simp only [Value.agg.injEq, Array.mk.injEq, List.cons.injEq, and_true] at ee
            obtain ⟨rfl, rfl⟩ := ee
            obtain ⟨_, _, ee, -, -, -, -, x5⟩ := hA5
            simp only [Value.slice.injEq, true_and] at ee
            obtain ⟨rfl, rfl⟩ := ee
            obtain ⟨b, off, p1, n1, rfl, -, hb, c0, hX⟩ := x5.seq hlt
            have hpos := Lib.hid (posT_at HRg.out.srt hlt)
            have hst := Lib.hid (any_snocT (fun x => decide (x = t)) hlt)
            have hss := Lib.hid (sumOf_succ g k)
            have hsl := sumOf_le g (show k + 1 ≤ g.atoms.length from hlt)
            rw [hsum.out, sumOf_succ] at hsl
            obtain ⟨bb, hbb⟩ : ∃ bb, bb = (g.atoms.take k).any fun x => decide (x = t) := ⟨_, rfl⟩
            rw [← hbb] at hst ⊢
            obtain ⟨x, hx⟩ : ∃ x, x = g.atoms[k] := ⟨_, rfl⟩
            rw [← hx] at c0 hX hpos hst
            obtain ⟨O, hO⟩ : ∃ O, O = ofR g (k : Int) := ⟨_, rfl⟩
            rw [← hO] at hss hsl
            obtain ⟨sm, hsm⟩ : ∃ m, m = sumOf g k := ⟨_, rfl⟩
            rw [← hsm] at hss hsl ⊢
            have HX := Lib.hid hX
            have HO := Lib.hid hO
            obtain ⟨wo, rfl⟩ : ∃ wo, wo = wr := ⟨_, rfl⟩
            clear hx hX x5 hR5 hbb hO hsm
            go_upto_region 9 with fail
            have Hkeep := fun {Wk : World} (hW : Below wo.heap.size wo Wk) => Lib.hid (show Wk.cell? ⟨w.heap.size, 0, none⟩ = some (.slice (some ⟨b, off, none⟩) g.atoms.length ac) ∧ Wk.cell? ⟨w.heap.size, 1, none⟩ = some (.slice ra g.rules.length rc) ∧ Wk.cell? ⟨b, off + k, none⟩ = some (.slice p1 x.length n1) from ⟨(hW.cell (p := ⟨w.heap.size, 0, none⟩) lP).trans d0, (hW.cell (p := ⟨w.heap.size, 1, none⟩) lP).trans d1, (hW.cell (p := ⟨b, off + k, none⟩) hb).trans c0⟩)
            (try simp only [List.append_eq, List.cons_append, List.nil_append])
            refine wp_region_noPanic ?_
            refine wp_region_held_drew (S := fun w' => w'.cell? ⟨w.heap.size, 0, none⟩ = some (.slice (some ⟨b, off, none⟩) g.atoms.length ac) ∧ w'.cell? ⟨w.heap.size, 1, none⟩ = some (.slice ra g.rules.length rc) ∧ w'.cell? ⟨b, off + k, none⟩ = some (.slice p1 x.length n1)) (by kernel_rfl) ?_ (fun hHeld => ?_)
            · exact (Hkeep (Below.drew (Below.refl _ _))).out
            refine wpAnyH_take1 (i := 0) (oi := _) (v := ?_) (by kernel_rfl) rfl (by kernel_rfl) (fun _ _ _ h => h) (Or.inl ⟨by rfl, ?_⟩) (by assumption) ?_
            rotate_left 1
            · intro w hSw; (try dsimp only at hSw); go_simp; (with_reducible rfl)
            (try simp only [Act.put, List.getElem_toArray, List.getElem_cons_zero, List.setIfInBounds_toArray, List.set_cons_zero, List.set_cons_succ])
            refine wpAnyH_take1 (i := 1) (oi := _) (v := ?_) (by kernel_rfl) rfl (by kernel_rfl) (fun _ _ _ h => h) (Or.inl ⟨by rfl, ?_⟩) (by assumption) ?_
            rotate_left 1
            · intro w hSw; (try dsimp only at hSw); go_simp; (with_reducible rfl)
            (try simp only [Act.put, List.getElem_toArray, List.getElem_cons_zero, List.getElem_cons_succ, List.setIfInBounds_toArray, List.set_cons_zero, List.set_cons_succ])
            refine wpAnyH_take1 (i := 2) (oi := _) (v := ?_) (by kernel_rfl) rfl (by kernel_rfl) (fun _ _ _ h => h) (Or.inl ⟨by rfl, ?_⟩) (by assumption) ?_
            rotate_left 1
            · intro w hSw; (try dsimp only at hSw); go_simp; (with_reducible rfl)
            (try simp only [Act.put, List.getElem_toArray, List.getElem_cons_zero, List.getElem_cons_succ, List.setIfInBounds_toArray, List.set_cons_zero, List.set_cons_succ])
            refine wpAnyH_take1 (i := 3) (oi := _) (v := ?_) (by kernel_rfl) rfl (by kernel_rfl) (fun _ _ _ h => h) (Or.inl ⟨by rfl, ?_⟩) (by assumption) ?_
            rotate_left 1
            · intro w hSw; (try dsimp only at hSw); go_simp; (with_reducible rfl)
            (try simp only [Act.put, List.getElem_toArray, List.getElem_cons_zero, List.getElem_cons_succ, List.setIfInBounds_toArray, List.set_cons_zero, List.set_cons_succ])
            refine wpAnyH_take1 (i := 4) (oi := _) (v := ?_) (by kernel_rfl) rfl (by kernel_rfl) (fun _ _ _ h => h) (Or.inl ⟨by rfl, ?_⟩) (by assumption) ?_
            rotate_left 1
            · intro w hSw; (try dsimp only at hSw); go_simp; (with_reducible rfl)
            (try simp only [Act.put, List.getElem_toArray, List.getElem_cons_zero, List.getElem_cons_succ, List.setIfInBounds_toArray, List.set_cons_zero, List.set_cons_succ])
            refine wpAnyH_take1 (i := 5) (oi := _) (v := ?_) (by kernel_rfl) rfl (by kernel_rfl) (fun _ _ _ h => h) (Or.inl ⟨by rfl, ?_⟩) (by assumption) ?_
            rotate_left 1
            · intro w hSw; (try dsimp only at hSw); go_simp; (with_reducible rfl)
            (try simp only [Act.put, List.getElem_toArray, List.getElem_cons_zero, List.getElem_cons_succ, List.setIfInBounds_toArray, List.set_cons_zero, List.set_cons_succ])
            refine wpAnyH_take1 (i := 7) (oi := _) (v := ?_) (by kernel_rfl) rfl (by kernel_rfl) (fun _ _ _ h => h) (Or.inl ⟨by rfl, ?_⟩) (by assumption) ?_
            rotate_left 1
            · intro w hSw; (try dsimp only at hSw); go_simp; (with_reducible rfl)
            (try simp only [Act.put, List.getElem_toArray, List.getElem_cons_zero, List.getElem_cons_succ, List.setIfInBounds_toArray, List.set_cons_zero, List.set_cons_succ])
            refine wpAnyH_one (i := 6) (by kernel_rfl) rfl (by rfl) fun K hK => ?_
            go_simp
            refine ((find_as hpos.out (HGr.out.at' Seq.way) (HX.out.at Seq.way) HRg.out.srt (by omega))).mono ?_
            rintro e y1 ⟨rfl, hy1⟩
            have HY1 := below_step hy1 (Seq.way : Below wo.heap.size wo _)
            have zy1 := HY1.size
            (try dsimp only)
            clear hHeld
            refine hK.out _ _ (Hkeep HY1).out fun hHeld => ?_
            clear hK K
            (try simp only [Act.put, List.getElem_toArray, List.getElem_cons_zero, List.getElem_cons_succ, List.setIfInBounds_toArray, List.set_cons_zero, List.set_cons_succ])
            refine wpAnyH_take1 (i := 8) (oi := _) (v := ?_) (by kernel_rfl) rfl (by kernel_rfl) (fun _ _ _ h => h) (Or.inl ⟨by rfl, ?_⟩) (by assumption) ?_
            rotate_left 1
            · intro w hSw; (try dsimp only at hSw); go_simp; (with_reducible rfl)
            (try simp only [Act.put, List.getElem_toArray, List.getElem_cons_zero, List.getElem_cons_succ, List.setIfInBounds_toArray, List.set_cons_zero, List.set_cons_succ])
            refine wpAnyH_done (by kernel_rfl) ?_ _
            refine NoPanic.normal ?_
            have H1 := Lib.hid HY1
            have lP0 := Lib.hid lP
            have d00 := Lib.hid d0
            have d10 := Lib.hid d1
            have c1 := (H1.out.cell (p := ⟨b, off + k, none⟩) hb).trans c0
            have e0 := (H1.out.cell (p := ⟨w.heap.size, 0, none⟩) lP).trans d0
            have e1 := (H1.out.cell (p := ⟨w.heap.size, 1, none⟩) lP).trans d1
            have lb := Nat.lt_of_lt_of_le hb H1.out.size
            have lp := Nat.lt_of_lt_of_le lP H1.out.size
            clear HY1 zy1 c0 d0 d1 hb lP Hkeep
            go_upto_region 11 with fail
            go_cut [7] (fun b wc => b = .bool (bb || decide (x = t)) ∧ Hid (Below y1.heap.size y1 wc))
            case first =>
              cases bb with
              | true =>
                go_wp2_with fail
                go_meet
                exact ⟨rfl, Lib.hid (by first | exact Below.refl _ _ | exact Seq.way)⟩
              | false =>
                go_wp2_with fail
                refine (SameT_spec ((HX.out.at H1.out).at Seq.way) ((HTr.out.at H1.out).at Seq.way)).mono ?_
                rintro e u1 ⟨rfl, hq1⟩
                obtain ⟨nn, rfl⟩ := hq1
                go_wp2_with fail
                go_meet
                exact ⟨by rw [Bool.false_or], Lib.hid Seq.way⟩
            case rest =>
              obtain ⟨rfl, hbc⟩ := hcut
              have H2 := Lib.hid (below_step hbc.out H1.out)
              have e0 := (H2.out.cell (p := ⟨w.heap.size, 0, none⟩) lP0.out).trans d00.out
              have e1 := (H2.out.cell (p := ⟨w.heap.size, 1, none⟩) lP0.out).trans d10.out
              have lp := Nat.lt_of_lt_of_le lP0.out H2.out.size
              rw [← hst.out]
              go_wp2_with fail
              refine (OfP_spec ((HGr.out.at' H2.out).at' Seq.way) (by omega)).mono ?_
              rintro e y2 ⟨v2, rfl, hb2, hs2⟩
              rw [← HO.out] at hs2
              have H3 := Lib.hid (below_step hb2 (below_step Seq.way H2.out))
              have HS := Lib.hid hs2
              obtain ⟨oa, oc, rfl⟩ := hs2.shape
              clear hb2 hs2 e0 e1 lp
              have hOl : O.length ≤ 200 := by omega
              go_wp2_with fail
              go_loopw [10] (fun q wr => ∃ j : Nat, j ≤ O.length ∧ q = .int .i64 j ∧ Hid (Below y2.heap.size y2 wr)) (fun q _ => O.length - (intOf q).toNat)
              case atStart => exact ⟨0, Nat.zero_le _, rfl, Lib.hid (Below.refl _ _)⟩
              case round =>
                obtain ⟨j, hj, rfl, hbz⟩ := hrel
                have H4 := Lib.hid (below_step hbz.out H3.out)
                have e0 := (H4.out.cell (p := ⟨w.heap.size, 0, none⟩) lP0.out).trans d00.out
                have e1 := (H4.out.cell (p := ⟨w.heap.size, 1, none⟩) lP0.out).trans d10.out
                have lp := Nat.lt_of_lt_of_le lP0.out H4.out.size
                have HSr := Lib.hid (HS.out.at hbz.out)
                by_cases hjl : j < O.length
                · have hjI : (j : Int) < (O.length : Int) := by omega
                  have hj0 : (0 : Int) ≤ (j : Int) := by omega
                  obtain ⟨_, _, ee, -, -, -, -, x5⟩ := HSr.out
                  simp only [Value.slice.injEq, true_and] at ee
                  obtain ⟨rfl, rfl⟩ := ee
                  obtain ⟨bo, oo, rfl, -, hbo, i0, -⟩ := x5.int hjl
                  have hat := ofR_at (g := g) (a := (k : Int)) (k := j) (by rw [← HO.out]; exact hjl)
                  simp only [← HO.out] at hat
                  obtain ⟨q, hq, hql, hqh⟩ := hat
                  rw [hq] at i0
                  have HGz := Lib.hid (HGr.out.at' H4.out)
                  obtain ⟨_, _, ee, -, hR5⟩ := HGz.out
                  simp only [Value.agg.injEq, Array.mk.injEq, List.cons.injEq, and_true] at ee
                  obtain ⟨rfl, rfl⟩ := ee
                  obtain ⟨_, _, ee, -, -, -, -, x6⟩ := hR5
                  simp only [Value.slice.injEq, true_and] at ee
                  obtain ⟨rfl, rfl⟩ := ee
                  obtain ⟨br, fr, pa, pc, na, nc, rfl, -, hbr2, r0, -, -, -, -, -⟩ := x6.rule hql
                  rw [hqh] at r0
                  have hq0 : ¬ (q : Int) < 0 := by omega
                  have hqI : ¬ (q : Int) ≥ (g.rules.length : Int) := by omega
                  have hqi : (q : Int) < (g.rules.length : Int) := by omega
                  have hq00 : (0 : Int) ≤ (q : Int) := by omega
                  have hqt : ((q : Int)).toNat = q := Int.toNat_natCast q
                  rcases Nat.eq_zero_or_pos j with rfl | hjp
                  · have hj1 : ¬ ((0 : Nat) : Int) > 0 := by omega
                    clear x5 x6 hqh
                    go_upto_region 16 with fail
                    have Hkeep := fun {Wk : World} (hW : Below wr.heap.size wr Wk) => Lib.hid (show Wk.cell? ⟨bo, oo, none⟩ = some (.int .i64 q) ∧ Wk.cell? ⟨w.heap.size, 1, none⟩ = some (.slice (some ⟨br, fr, none⟩) g.rules.length rc) ∧ Wk.cell? ⟨br, fr + q * 3, none⟩ = some (.int .i64 k) from ⟨(hW.cell (p := ⟨bo, oo, none⟩) hbo).trans i0, (hW.cell (p := ⟨w.heap.size, 1, none⟩) lp).trans e1, (hW.cell (p := ⟨br, fr + q * 3, none⟩) hbr2).trans r0⟩)
                    (try simp only [List.append_eq, List.cons_append, List.nil_append])
                    refine wp_region_noPanic ?_
                    refine wp_region_held_drew (S := fun w' => w'.cell? ⟨bo, oo, none⟩ = some (.int .i64 q) ∧ w'.cell? ⟨w.heap.size, 1, none⟩ = some (.slice (some ⟨br, fr, none⟩) g.rules.length rc) ∧ w'.cell? ⟨br, fr + q * 3, none⟩ = some (.int .i64 k)) (by kernel_rfl) ?_ (fun hHeld => ?_)
                    · exact (Hkeep (Below.drew (Below.refl _ _))).out
                    refine wpAnyH_take1 (i := 0) (oi := _) (v := ?_) (by kernel_rfl) rfl (by kernel_rfl) (fun _ _ _ h => h) (Or.inl ⟨by rfl, ?_⟩) (by assumption) ?_
                    rotate_left 1
                    · intro w hSw; (try dsimp only at hSw); go_simp; (with_reducible rfl)
                    (try simp only [Act.put, List.getElem_toArray, List.getElem_cons_zero, List.setIfInBounds_toArray, List.set_cons_zero, List.set_cons_succ])
                    refine wpAnyH_take1 (i := 1) (oi := _) (v := ?_) (by kernel_rfl) rfl (by kernel_rfl) (fun _ _ _ h => h) (Or.inl ⟨by rfl, ?_⟩) (by assumption) ?_
                    rotate_left 1
                    · intro w hSw; (try dsimp only at hSw); go_simp; (with_reducible rfl)
                    (try simp only [Act.put, List.getElem_toArray, List.getElem_cons_zero, List.getElem_cons_succ, List.setIfInBounds_toArray, List.set_cons_zero, List.set_cons_succ])
                    refine wpAnyH_take1 (i := 2) (oi := _) (v := ?_) (by kernel_rfl) rfl (by kernel_rfl) (fun _ _ _ h => h) (Or.inl ⟨by rfl, ?_⟩) (by assumption) ?_
                    rotate_left 1
                    · intro w hSw; (try dsimp only at hSw); go_simp; (with_reducible rfl)
                    (try simp only [Act.put, List.getElem_toArray, List.getElem_cons_zero, List.getElem_cons_succ, List.setIfInBounds_toArray, List.set_cons_zero, List.set_cons_succ])
                    refine wpAnyH_take1 (i := 3) (oi := _) (v := ?_) (by kernel_rfl) rfl (by kernel_rfl) (fun _ _ _ h => h) (Or.inl ⟨by rfl, ?_⟩) (by assumption) ?_
                    rotate_left 1
                    · intro w hSw; (try dsimp only at hSw); go_simp; (with_reducible rfl)
                    (try simp only [Act.put, List.getElem_toArray, List.getElem_cons_zero, List.getElem_cons_succ, List.setIfInBounds_toArray, List.set_cons_zero, List.set_cons_succ])
                    refine wpAnyH_take1 (i := 4) (oi := _) (v := ?_) (by kernel_rfl) rfl (by kernel_rfl) (fun _ _ _ h => h) (Or.inl ⟨by rfl, ?_⟩) (by assumption) ?_
                    rotate_left 1
                    · intro w hSw; (try dsimp only at hSw); go_simp; (with_reducible rfl)
                    (try simp only [Act.put, List.getElem_toArray, List.getElem_cons_zero, List.getElem_cons_succ, List.setIfInBounds_toArray, List.set_cons_zero, List.set_cons_succ])
                    refine wpAnyH_take1 (i := 5) (oi := _) (v := ?_) (by kernel_rfl) rfl (by kernel_rfl) (fun _ _ _ h => h) (Or.inl ⟨by rfl, ?_⟩) (by assumption) ?_
                    rotate_left 1
                    · intro w hSw; (try dsimp only at hSw); go_simp; (with_reducible rfl)
                    (try simp only [Act.put, List.getElem_toArray, List.getElem_cons_zero, List.getElem_cons_succ, List.setIfInBounds_toArray, List.set_cons_zero, List.set_cons_succ])
                    refine wpAnyH_take1 (i := 6) (oi := _) (v := ?_) (by kernel_rfl) rfl (by kernel_rfl) (fun _ _ _ h => h) (Or.inl ⟨by rfl, ?_⟩) (by assumption) ?_
                    rotate_left 1
                    · intro w hSw; (try dsimp only at hSw); go_simp; (with_reducible rfl)
                    (try simp only [Act.put, List.getElem_toArray, List.getElem_cons_zero, List.getElem_cons_succ, List.setIfInBounds_toArray, List.set_cons_zero, List.set_cons_succ])
                    refine wpAnyH_take1 (i := 7) (oi := _) (v := ?_) (by kernel_rfl) rfl (by kernel_rfl) (fun _ _ _ h => h) (Or.inl ⟨by rfl, ?_⟩) (by assumption) ?_
                    rotate_left 1
                    · intro w hSw; (try dsimp only at hSw); go_simp; (with_reducible rfl)
                    (try simp only [Act.put, List.getElem_toArray, List.getElem_cons_zero, List.getElem_cons_succ, List.setIfInBounds_toArray, List.set_cons_zero, List.set_cons_succ])
                    refine wpAnyH_take1 (i := 8) (oi := _) (v := ?_) (by kernel_rfl) rfl (by kernel_rfl) (fun _ _ _ h => h) (Or.inl ⟨by rfl, ?_⟩) (by assumption) ?_
                    rotate_left 1
                    · intro w hSw; (try dsimp only at hSw); go_simp; (with_reducible rfl)
                    (try simp only [Act.put, List.getElem_toArray, List.getElem_cons_zero, List.getElem_cons_succ, List.setIfInBounds_toArray, List.set_cons_zero, List.set_cons_succ])
                    refine wpAnyH_take1 (i := 9) (oi := _) (v := ?_) (by kernel_rfl) rfl (by kernel_rfl) (fun _ _ _ h => h) (Or.inl ⟨by rfl, ?_⟩) (by assumption) ?_
                    rotate_left 1
                    · intro w hSw; (try dsimp only at hSw); go_simp; (with_reducible rfl)
                    (try simp only [Act.put, List.getElem_toArray, List.getElem_cons_zero, List.getElem_cons_succ, List.setIfInBounds_toArray, List.set_cons_zero, List.set_cons_succ])
                    refine wpAnyH_take1 (i := 10) (oi := _) (v := ?_) (by kernel_rfl) rfl (by kernel_rfl) (fun _ _ _ h => h) (Or.inl ⟨by rfl, ?_⟩) (by assumption) ?_
                    rotate_left 1
                    · intro w hSw; (try dsimp only at hSw); go_simp; (with_reducible rfl)
                    (try simp only [Act.put, List.getElem_toArray, List.getElem_cons_zero, List.getElem_cons_succ, List.setIfInBounds_toArray, List.set_cons_zero, List.set_cons_succ])
                    as_aux_lemma =>
                      refine wpAnyH_take1 (i := 11) (oi := _) (v := ?_) (by kernel_rfl) rfl (by kernel_rfl) (fun _ _ _ h => h) (Or.inl ⟨by rfl, ?_⟩) (by assumption) ?_
                      rotate_left 1
                      · intro w hSw; (try dsimp only at hSw); go_simp; (with_reducible rfl)
                      (try simp only [Act.put, List.getElem_toArray, List.getElem_cons_zero, List.getElem_cons_succ, List.setIfInBounds_toArray, List.set_cons_zero, List.set_cons_succ])
                      refine wpAnyH_take1 (i := 12) (oi := _) (v := ?_) (by kernel_rfl) rfl (by kernel_rfl) (fun _ _ _ h => h) (Or.inl ⟨by rfl, ?_⟩) (by assumption) ?_
                      rotate_left 1
                      · intro w hSw; (try dsimp only at hSw); go_simp; (with_reducible rfl)
                      (try simp only [Act.put, List.getElem_toArray, List.getElem_cons_zero, List.getElem_cons_succ, List.setIfInBounds_toArray, List.set_cons_zero, List.set_cons_succ])
                      refine wpAnyH_take1 (i := 13) (oi := _) (v := ?_) (by kernel_rfl) rfl (by kernel_rfl) (fun _ _ _ h => h) (Or.inl ⟨by rfl, ?_⟩) (by assumption) ?_
                      rotate_left 1
                      · intro w hSw; (try dsimp only at hSw); go_simp; (with_reducible rfl)
                      (try simp only [Act.put, List.getElem_toArray, List.getElem_cons_zero, List.getElem_cons_succ, List.setIfInBounds_toArray, List.set_cons_zero, List.set_cons_succ])
                      refine wpAnyH_take1 (i := 14) (oi := _) (v := ?_) (by kernel_rfl) rfl (by kernel_rfl) (fun _ _ _ h => h) (Or.inl ⟨by rfl, ?_⟩) (by assumption) ?_
                      rotate_left 1
                      · intro w hSw; (try dsimp only at hSw); go_simp; (with_reducible rfl)
                      (try simp only [Act.put, List.getElem_toArray, List.getElem_cons_zero, List.getElem_cons_succ, List.setIfInBounds_toArray, List.set_cons_zero, List.set_cons_succ])
                      refine wpAnyH_take1 (i := 15) (oi := _) (v := ?_) (by kernel_rfl) rfl (by kernel_rfl) (fun _ _ _ h => h) (Or.inl ⟨by rfl, ?_⟩) (by assumption) ?_
                      rotate_left 1
                      · intro w hSw; (try dsimp only at hSw); go_simp; (with_reducible rfl)
                      (try simp only [Act.put, List.getElem_toArray, List.getElem_cons_zero, List.getElem_cons_succ, List.setIfInBounds_toArray, List.set_cons_zero, List.set_cons_succ])
                      refine wpAnyH_take1 (i := 16) (oi := _) (v := ?_) (by kernel_rfl) rfl (by kernel_rfl) (fun _ _ _ h => h) (Or.inl ⟨by rfl, ?_⟩) (by assumption) ?_
                      rotate_left 1
                      · intro w hSw; (try dsimp only at hSw); go_simp; (with_reducible rfl)
                      (try simp only [Act.put, List.getElem_toArray, List.getElem_cons_zero, List.getElem_cons_succ, List.setIfInBounds_toArray, List.set_cons_zero, List.set_cons_succ])
                      refine wpAnyH_take1 (i := 17) (oi := _) (v := ?_) (by kernel_rfl) rfl (by kernel_rfl) (fun _ _ _ h => h) (Or.inl ⟨by rfl, ?_⟩) (by assumption) ?_
                      rotate_left 1
                      · intro w hSw; (try dsimp only at hSw); go_simp; (with_reducible rfl)
                      (try simp only [Act.put, List.getElem_toArray, List.getElem_cons_zero, List.getElem_cons_succ, List.setIfInBounds_toArray, List.set_cons_zero, List.set_cons_succ])
                      refine wpAnyH_take1 (i := 18) (oi := _) (v := ?_) (by kernel_rfl) rfl (by kernel_rfl) (fun _ _ _ h => h) (Or.inl ⟨by rfl, ?_⟩) (by assumption) ?_
                      rotate_left 1
                      · intro w hSw; (try dsimp only at hSw); go_simp; (with_reducible rfl)
                      (try simp only [Act.put, List.getElem_toArray, List.getElem_cons_zero, List.getElem_cons_succ, List.setIfInBounds_toArray, List.set_cons_zero, List.set_cons_succ])
                      refine wpAnyH_take1 (i := 19) (oi := _) (v := ?_) (by kernel_rfl) rfl (by kernel_rfl) (fun _ _ _ h => h) (Or.inl ⟨by rfl, ?_⟩) (by assumption) ?_
                      rotate_left 1
                      · intro w hSw; (try dsimp only at hSw); go_simp; (with_reducible rfl)
                      (try simp only [Act.put, List.getElem_toArray, List.getElem_cons_zero, List.getElem_cons_succ, List.setIfInBounds_toArray, List.set_cons_zero, List.set_cons_succ])
                      refine wpAnyH_take1 (i := 20) (oi := _) (v := ?_) (by kernel_rfl) rfl (by kernel_rfl) (fun _ _ _ h => h) (Or.inl ⟨by rfl, ?_⟩) (by assumption) ?_
                      rotate_left 1
                      · intro w hSw; (try dsimp only at hSw); go_simp; (with_reducible rfl)
                      (try simp only [Act.put, List.getElem_toArray, List.getElem_cons_zero, List.getElem_cons_succ, List.setIfInBounds_toArray, List.set_cons_zero, List.set_cons_succ])
                      refine wpAnyH_take1 (i := 21) (oi := _) (v := ?_) (by kernel_rfl) rfl (by kernel_rfl) (fun _ _ _ h => h) (Or.inl ⟨by rfl, ?_⟩) (by assumption) ?_
                      rotate_left 1
                      · intro w hSw; (try dsimp only at hSw); go_simp; (with_reducible rfl)
                      (try simp only [Act.put, List.getElem_toArray, List.getElem_cons_zero, List.getElem_cons_succ, List.setIfInBounds_toArray, List.set_cons_zero, List.set_cons_succ])
                      refine wpAnyH_take1 (i := 22) (oi := _) (v := ?_) (by kernel_rfl) rfl (by kernel_rfl) (fun _ _ _ h => h) (Or.inl ⟨by rfl, ?_⟩) (by assumption) ?_
                      rotate_left 1
                      · intro w hSw; (try dsimp only at hSw); go_simp; (with_reducible rfl)
                      (try simp only [Act.put, List.getElem_toArray, List.getElem_cons_zero, List.getElem_cons_succ, List.setIfInBounds_toArray, List.set_cons_zero, List.set_cons_succ])
                      as_aux_lemma =>
                        refine wpAnyH_take1 (i := 23) (oi := _) (v := ?_) (by kernel_rfl) rfl (by kernel_rfl) (fun _ _ _ h => h) (Or.inl ⟨by rfl, ?_⟩) (by assumption) ?_
                        rotate_left 1
                        · intro w hSw; (try dsimp only at hSw); go_simp; (with_reducible rfl)
                        (try simp only [Act.put, List.getElem_toArray, List.getElem_cons_zero, List.getElem_cons_succ, List.setIfInBounds_toArray, List.set_cons_zero, List.set_cons_succ])
                        refine wpAnyH_take1 (i := 24) (oi := _) (v := ?_) (by kernel_rfl) rfl (by kernel_rfl) (fun _ _ _ h => h) (Or.inl ⟨by rfl, ?_⟩) (by assumption) ?_
                        rotate_left 1
                        · intro w hSw; (try dsimp only at hSw); go_simp; (with_reducible rfl)
                        (try simp only [Act.put, List.getElem_toArray, List.getElem_cons_zero, List.getElem_cons_succ, List.setIfInBounds_toArray, List.set_cons_zero, List.set_cons_succ])
                        refine wpAnyH_take1 (i := 25) (oi := _) (v := ?_) (by kernel_rfl) rfl (by kernel_rfl) (fun _ _ _ h => h) (Or.inl ⟨by rfl, ?_⟩) (by assumption) ?_
                        rotate_left 1
                        · intro w hSw; (try dsimp only at hSw); go_simp; (with_reducible rfl)
                        (try simp only [Act.put, List.getElem_toArray, List.getElem_cons_zero, List.getElem_cons_succ, List.setIfInBounds_toArray, List.set_cons_zero, List.set_cons_succ])
                        refine wpAnyH_take1 (i := 26) (oi := _) (v := ?_) (by kernel_rfl) rfl (by kernel_rfl) (fun _ _ _ h => h) (Or.inl ⟨by rfl, ?_⟩) (by assumption) ?_
                        rotate_left 1
                        · intro w hSw; (try dsimp only at hSw); go_simp; (with_reducible rfl)
                        (try simp only [Act.put, List.getElem_toArray, List.getElem_cons_zero, List.getElem_cons_succ, List.setIfInBounds_toArray, List.set_cons_zero, List.set_cons_succ])
                        refine wpAnyH_take1 (i := 27) (oi := _) (v := ?_) (by kernel_rfl) rfl (by kernel_rfl) (fun _ _ _ h => h) (Or.inl ⟨by rfl, ?_⟩) (by assumption) ?_
                        rotate_left 1
                        · intro w hSw; (try dsimp only at hSw); go_simp; (with_reducible rfl)
                        (try simp only [Act.put, List.getElem_toArray, List.getElem_cons_zero, List.getElem_cons_succ, List.setIfInBounds_toArray, List.set_cons_zero, List.set_cons_succ])
                        refine wpAnyH_take1 (i := 28) (oi := _) (v := ?_) (by kernel_rfl) rfl (by kernel_rfl) (fun _ _ _ h => h) (Or.inl ⟨by rfl, ?_⟩) (by assumption) ?_
                        rotate_left 1
                        · intro w hSw; (try dsimp only at hSw); go_simp; (with_reducible rfl)
                        (try simp only [Act.put, List.getElem_toArray, List.getElem_cons_zero, List.getElem_cons_succ, List.setIfInBounds_toArray, List.set_cons_zero, List.set_cons_succ])
                        refine wpAnyH_take1 (i := 29) (oi := _) (v := ?_) (by kernel_rfl) rfl (by kernel_rfl) (fun _ _ _ h => h) (Or.inl ⟨by rfl, ?_⟩) (by assumption) ?_
                        rotate_left 1
                        · intro w hSw; (try dsimp only at hSw); go_simp; (with_reducible rfl)
                        (try simp only [Act.put, List.getElem_toArray, List.getElem_cons_zero, List.getElem_cons_succ, List.setIfInBounds_toArray, List.set_cons_zero, List.set_cons_succ])
                        refine wpAnyH_take1 (i := 30) (oi := _) (v := ?_) (by kernel_rfl) rfl (by kernel_rfl) (fun _ _ _ h => h) (Or.inl ⟨by rfl, ?_⟩) (by assumption) ?_
                        rotate_left 1
                        · intro w hSw; (try dsimp only at hSw); go_simp; (with_reducible rfl)
                        (try simp only [Act.put, List.getElem_toArray, List.getElem_cons_zero, List.getElem_cons_succ, List.setIfInBounds_toArray, List.set_cons_zero, List.set_cons_succ])
                        refine wpAnyH_take1 (i := 31) (oi := _) (v := ?_) (by kernel_rfl) rfl (by kernel_rfl) (fun _ _ _ h => h) (Or.inl ⟨by rfl, ?_⟩) (by assumption) ?_
                        rotate_left 1
                        · intro w hSw; (try dsimp only at hSw); go_simp; (with_reducible rfl)
                        (try simp only [Act.put, List.getElem_toArray, List.getElem_cons_zero, List.getElem_cons_succ, List.setIfInBounds_toArray, List.set_cons_zero, List.set_cons_succ])
                        refine wpAnyH_take1 (i := 32) (oi := _) (v := undef) (by kernel_rfl) rfl (by kernel_rfl) (fun _ _ _ h => h) (Or.inr ⟨by rfl, rfl⟩) (by assumption) ?_
                        (try simp only [Act.put, List.getElem_toArray, List.getElem_cons_zero, List.getElem_cons_succ, List.setIfInBounds_toArray, List.set_cons_zero, List.set_cons_succ])
                        refine wpAnyH_take1 (i := 33) (oi := _) (v := undef) (by kernel_rfl) rfl (by kernel_rfl) (fun _ _ _ h => h) (Or.inr ⟨by rfl, rfl⟩) (by assumption) ?_
                        (try simp only [Act.put, List.getElem_toArray, List.getElem_cons_zero, List.getElem_cons_succ, List.setIfInBounds_toArray, List.set_cons_zero, List.set_cons_succ])
                        refine wpAnyH_take1 (i := 34) (oi := _) (v := undef) (by kernel_rfl) rfl (by kernel_rfl) (fun _ _ _ h => h) (Or.inr ⟨by rfl, rfl⟩) (by assumption) ?_
                        (try simp only [Act.put, List.getElem_toArray, List.getElem_cons_zero, List.getElem_cons_succ, List.setIfInBounds_toArray, List.set_cons_zero, List.set_cons_succ])
                        as_aux_lemma =>
                          refine wpAnyH_take1 (i := 35) (oi := _) (v := undef) (by kernel_rfl) rfl (by kernel_rfl) (fun _ _ _ h => h) (Or.inr ⟨by rfl, rfl⟩) (by assumption) ?_
                          (try simp only [Act.put, List.getElem_toArray, List.getElem_cons_zero, List.getElem_cons_succ, List.setIfInBounds_toArray, List.set_cons_zero, List.set_cons_succ])
                          refine wpAnyH_take1 (i := 36) (oi := _) (v := undef) (by kernel_rfl) rfl (by kernel_rfl) (fun _ _ _ h => h) (Or.inr ⟨by rfl, rfl⟩) (by assumption) ?_
                          (try simp only [Act.put, List.getElem_toArray, List.getElem_cons_zero, List.getElem_cons_succ, List.setIfInBounds_toArray, List.set_cons_zero, List.set_cons_succ])
                          refine wpAnyH_take1 (i := 37) (oi := _) (v := undef) (by kernel_rfl) rfl (by kernel_rfl) (fun _ _ _ h => h) (Or.inr ⟨by rfl, rfl⟩) (by assumption) ?_
                          (try simp only [Act.put, List.getElem_toArray, List.getElem_cons_zero, List.getElem_cons_succ, List.setIfInBounds_toArray, List.set_cons_zero, List.set_cons_succ])
                          refine wpAnyH_take1 (i := 38) (oi := _) (v := undef) (by kernel_rfl) rfl (by kernel_rfl) (fun _ _ _ h => h) (Or.inr ⟨by rfl, rfl⟩) (by assumption) ?_
                          (try simp only [Act.put, List.getElem_toArray, List.getElem_cons_zero, List.getElem_cons_succ, List.setIfInBounds_toArray, List.set_cons_zero, List.set_cons_succ])
                          refine wpAnyH_take1 (i := 39) (oi := _) (v := undef) (by kernel_rfl) rfl (by kernel_rfl) (fun _ _ _ h => h) (Or.inr ⟨by rfl, rfl⟩) (by assumption) ?_
                          (try simp only [Act.put, List.getElem_toArray, List.getElem_cons_zero, List.getElem_cons_succ, List.setIfInBounds_toArray, List.set_cons_zero, List.set_cons_succ])
                          refine wpAnyH_take1 (i := 40) (oi := _) (v := undef) (by kernel_rfl) rfl (by kernel_rfl) (fun _ _ _ h => h) (Or.inr ⟨by rfl, rfl⟩) (by assumption) ?_
                          (try simp only [Act.put, List.getElem_toArray, List.getElem_cons_zero, List.getElem_cons_succ, List.setIfInBounds_toArray, List.set_cons_zero, List.set_cons_succ])
                          refine wpAnyH_take1 (i := 41) (oi := _) (v := undef) (by kernel_rfl) rfl (by kernel_rfl) (fun _ _ _ h => h) (Or.inr ⟨by rfl, rfl⟩) (by assumption) ?_
                          (try simp only [Act.put, List.getElem_toArray, List.getElem_cons_zero, List.getElem_cons_succ, List.setIfInBounds_toArray, List.set_cons_zero, List.set_cons_succ])
                          refine wpAnyH_take1 (i := 42) (oi := _) (v := ?_) (by kernel_rfl) rfl (by kernel_rfl) (fun _ _ _ h => h) (Or.inl ⟨by rfl, ?_⟩) (by assumption) ?_
                          rotate_left 1
                          · intro w hSw; (try dsimp only at hSw); go_simp; (with_reducible rfl)
                          (try simp only [Act.put, List.getElem_toArray, List.getElem_cons_zero, List.getElem_cons_succ, List.setIfInBounds_toArray, List.set_cons_zero, List.set_cons_succ])
                          refine wpAnyH_take1 (i := 43) (oi := _) (v := ?_) (by kernel_rfl) rfl (by kernel_rfl) (fun _ _ _ h => h) (Or.inl ⟨by rfl, ?_⟩) (by assumption) ?_
                          rotate_left 1
                          · intro w hSw; (try dsimp only at hSw); go_simp; (with_reducible rfl)
                          (try simp only [Act.put, List.getElem_toArray, List.getElem_cons_zero, List.getElem_cons_succ, List.setIfInBounds_toArray, List.set_cons_zero, List.set_cons_succ])
                          refine wpAnyH_done (by kernel_rfl) ?_ _
                          refine NoPanic.normal ?_
                          go_wp2_with fail
                          go_roundw
                          case rel => exact ⟨1, hjl, by go_num, Lib.hid (below_step (Seq.way) hbz.out)⟩
                          case measure => simp [intOf]; omega
                  · have hj1 : (j : Int) > 0 := by omega
                    obtain ⟨p, hpj⟩ : ∃ p, p + 1 = j := ⟨j - 1, by omega⟩
                    have hlt2 := ofR_lt (g := g) (a := (k : Int)) (k := p) (by rw [← HO.out, hpj]; exact hjl)
                    simp only [← HO.out] at hlt2
                    obtain ⟨_, _, e5, -, -, j0, -⟩ := x5.int (show p < O.length by omega)
                    obtain ⟨z, hz⟩ : ∃ z, z = O[p]'(by omega) := ⟨_, rfl⟩
                    have hzq : ¬ (q : Int) ≤ z := by
                      have e : O[p + 1]'(by omega) = (q : Int) := by rw [← hq]; congr 1
                      rw [← hz, e] at hlt2; omega
                    rw [← hz] at j0
                    simp only [Option.some.injEq, Addr.mk.injEq, and_true] at e5
                    obtain ⟨rfl, rfl⟩ := e5
                    have hp0 : (0 : Int) ≤ (j : Int) - 1 := by omega
                    have hp1 : (j : Int) - 1 < (O.length : Int) := by omega
                    have hpw : wrap64 ((j : Int) - 1) = (p : Int) := by unfold wrap64; omega
                    have hpw2 : IntKind.i64.wrap ((j : Int) - 1) = (p : Int) := by rw [IntKind.wrap_i64]; omega
                    have hpp : ((p : Int)).toNat = p := Int.toNat_natCast p
                    have hpp0 : (0 : Int) ≤ (p : Int) := by omega
                    have hppl : (p : Int) < (O.length : Int) := by omega
                    have hjt : ((j : Int)).toNat = j := Int.toNat_natCast j
                    clear hz hpj hlt2
                    clear x5 x6 hqh
                    go_upto_region 16 with fail
                    have Hkeep := fun {Wk : World} (hW : Below wr.heap.size wr Wk) => Lib.hid (show Wk.cell? ⟨bo, oo + j, none⟩ = some (.int .i64 q) ∧ Wk.cell? ⟨bo, oo + p, none⟩ = some (.int .i64 z) ∧ Wk.cell? ⟨w.heap.size, 1, none⟩ = some (.slice (some ⟨br, fr, none⟩) g.rules.length rc) ∧ Wk.cell? ⟨br, fr + q * 3, none⟩ = some (.int .i64 k) from ⟨(hW.cell (p := ⟨bo, oo + j, none⟩) hbo).trans i0, (hW.cell (p := ⟨bo, oo + p, none⟩) hbo).trans j0, (hW.cell (p := ⟨w.heap.size, 1, none⟩) lp).trans e1, (hW.cell (p := ⟨br, fr + q * 3, none⟩) hbr2).trans r0⟩)
                    (try simp only [List.append_eq, List.cons_append, List.nil_append])
                    refine wp_region_noPanic ?_
                    refine wp_region_held_drew (S := fun w' => w'.cell? ⟨bo, oo + j, none⟩ = some (.int .i64 q) ∧ w'.cell? ⟨bo, oo + p, none⟩ = some (.int .i64 z) ∧ w'.cell? ⟨w.heap.size, 1, none⟩ = some (.slice (some ⟨br, fr, none⟩) g.rules.length rc) ∧ w'.cell? ⟨br, fr + q * 3, none⟩ = some (.int .i64 k)) (by kernel_rfl) ?_ (fun hHeld => ?_)
                    · exact (Hkeep (Below.drew (Below.refl _ _))).out
                    refine wpAnyH_take1 (i := 0) (oi := _) (v := ?_) (by kernel_rfl) rfl (by kernel_rfl) (fun _ _ _ h => h) (Or.inl ⟨by rfl, ?_⟩) (by assumption) ?_
                    rotate_left 1
                    · intro w hSw; (try dsimp only at hSw); go_simp; (with_reducible rfl)
                    (try simp only [Act.put, List.getElem_toArray, List.getElem_cons_zero, List.setIfInBounds_toArray, List.set_cons_zero, List.set_cons_succ])
                    refine wpAnyH_take1 (i := 1) (oi := _) (v := ?_) (by kernel_rfl) rfl (by kernel_rfl) (fun _ _ _ h => h) (Or.inl ⟨by rfl, ?_⟩) (by assumption) ?_
                    rotate_left 1
                    · intro w hSw; (try dsimp only at hSw); go_simp; (with_reducible rfl)
                    (try simp only [Act.put, List.getElem_toArray, List.getElem_cons_zero, List.getElem_cons_succ, List.setIfInBounds_toArray, List.set_cons_zero, List.set_cons_succ])
                    refine wpAnyH_take1 (i := 2) (oi := _) (v := ?_) (by kernel_rfl) rfl (by kernel_rfl) (fun _ _ _ h => h) (Or.inl ⟨by rfl, ?_⟩) (by assumption) ?_
                    rotate_left 1
                    · intro w hSw; (try dsimp only at hSw); go_simp; (with_reducible rfl)
                    (try simp only [Act.put, List.getElem_toArray, List.getElem_cons_zero, List.getElem_cons_succ, List.setIfInBounds_toArray, List.set_cons_zero, List.set_cons_succ])
                    refine wpAnyH_take1 (i := 3) (oi := _) (v := ?_) (by kernel_rfl) rfl (by kernel_rfl) (fun _ _ _ h => h) (Or.inl ⟨by rfl, ?_⟩) (by assumption) ?_
                    rotate_left 1
                    · intro w hSw; (try dsimp only at hSw); go_simp; (with_reducible rfl)
                    (try simp only [Act.put, List.getElem_toArray, List.getElem_cons_zero, List.getElem_cons_succ, List.setIfInBounds_toArray, List.set_cons_zero, List.set_cons_succ])
                    refine wpAnyH_take1 (i := 4) (oi := _) (v := ?_) (by kernel_rfl) rfl (by kernel_rfl) (fun _ _ _ h => h) (Or.inl ⟨by rfl, ?_⟩) (by assumption) ?_
                    rotate_left 1
                    · intro w hSw; (try dsimp only at hSw); go_simp; (with_reducible rfl)
                    (try simp only [Act.put, List.getElem_toArray, List.getElem_cons_zero, List.getElem_cons_succ, List.setIfInBounds_toArray, List.set_cons_zero, List.set_cons_succ])
                    refine wpAnyH_take1 (i := 5) (oi := _) (v := ?_) (by kernel_rfl) rfl (by kernel_rfl) (fun _ _ _ h => h) (Or.inl ⟨by rfl, ?_⟩) (by assumption) ?_
                    rotate_left 1
                    · intro w hSw; (try dsimp only at hSw); go_simp; (with_reducible rfl)
                    (try simp only [Act.put, List.getElem_toArray, List.getElem_cons_zero, List.getElem_cons_succ, List.setIfInBounds_toArray, List.set_cons_zero, List.set_cons_succ])
                    refine wpAnyH_take1 (i := 6) (oi := _) (v := ?_) (by kernel_rfl) rfl (by kernel_rfl) (fun _ _ _ h => h) (Or.inl ⟨by rfl, ?_⟩) (by assumption) ?_
                    rotate_left 1
                    · intro w hSw; (try dsimp only at hSw); go_simp; (with_reducible rfl)
                    (try simp only [Act.put, List.getElem_toArray, List.getElem_cons_zero, List.getElem_cons_succ, List.setIfInBounds_toArray, List.set_cons_zero, List.set_cons_succ])
                    refine wpAnyH_take1 (i := 7) (oi := _) (v := ?_) (by kernel_rfl) rfl (by kernel_rfl) (fun _ _ _ h => h) (Or.inl ⟨by rfl, ?_⟩) (by assumption) ?_
                    rotate_left 1
                    · intro w hSw; (try dsimp only at hSw); go_simp; (with_reducible rfl)
                    (try simp only [Act.put, List.getElem_toArray, List.getElem_cons_zero, List.getElem_cons_succ, List.setIfInBounds_toArray, List.set_cons_zero, List.set_cons_succ])
                    refine wpAnyH_take1 (i := 8) (oi := _) (v := ?_) (by kernel_rfl) rfl (by kernel_rfl) (fun _ _ _ h => h) (Or.inl ⟨by rfl, ?_⟩) (by assumption) ?_
                    rotate_left 1
                    · intro w hSw; (try dsimp only at hSw); go_simp; (with_reducible rfl)
                    (try simp only [Act.put, List.getElem_toArray, List.getElem_cons_zero, List.getElem_cons_succ, List.setIfInBounds_toArray, List.set_cons_zero, List.set_cons_succ])
                    refine wpAnyH_take1 (i := 9) (oi := _) (v := ?_) (by kernel_rfl) rfl (by kernel_rfl) (fun _ _ _ h => h) (Or.inl ⟨by rfl, ?_⟩) (by assumption) ?_
                    rotate_left 1
                    · intro w hSw; (try dsimp only at hSw); go_simp; (with_reducible rfl)
                    (try simp only [Act.put, List.getElem_toArray, List.getElem_cons_zero, List.getElem_cons_succ, List.setIfInBounds_toArray, List.set_cons_zero, List.set_cons_succ])
                    refine wpAnyH_take1 (i := 10) (oi := _) (v := ?_) (by kernel_rfl) rfl (by kernel_rfl) (fun _ _ _ h => h) (Or.inl ⟨by rfl, ?_⟩) (by assumption) ?_
                    rotate_left 1
                    · intro w hSw; (try dsimp only at hSw); go_simp; (with_reducible rfl)
                    (try simp only [Act.put, List.getElem_toArray, List.getElem_cons_zero, List.getElem_cons_succ, List.setIfInBounds_toArray, List.set_cons_zero, List.set_cons_succ])
                    as_aux_lemma =>
                      refine wpAnyH_take1 (i := 11) (oi := _) (v := ?_) (by kernel_rfl) rfl (by kernel_rfl) (fun _ _ _ h => h) (Or.inl ⟨by rfl, ?_⟩) (by assumption) ?_
                      rotate_left 1
                      · intro w hSw; (try dsimp only at hSw); go_simp; (with_reducible rfl)
                      (try simp only [Act.put, List.getElem_toArray, List.getElem_cons_zero, List.getElem_cons_succ, List.setIfInBounds_toArray, List.set_cons_zero, List.set_cons_succ])
                      refine wpAnyH_take1 (i := 12) (oi := _) (v := ?_) (by kernel_rfl) rfl (by kernel_rfl) (fun _ _ _ h => h) (Or.inl ⟨by rfl, ?_⟩) (by assumption) ?_
                      rotate_left 1
                      · intro w hSw; (try dsimp only at hSw); go_simp; (with_reducible rfl)
                      (try simp only [Act.put, List.getElem_toArray, List.getElem_cons_zero, List.getElem_cons_succ, List.setIfInBounds_toArray, List.set_cons_zero, List.set_cons_succ])
                      refine wpAnyH_take1 (i := 13) (oi := _) (v := ?_) (by kernel_rfl) rfl (by kernel_rfl) (fun _ _ _ h => h) (Or.inl ⟨by rfl, ?_⟩) (by assumption) ?_
                      rotate_left 1
                      · intro w hSw; (try dsimp only at hSw); go_simp; (with_reducible rfl)
                      (try simp only [Act.put, List.getElem_toArray, List.getElem_cons_zero, List.getElem_cons_succ, List.setIfInBounds_toArray, List.set_cons_zero, List.set_cons_succ])
                      refine wpAnyH_take1 (i := 14) (oi := _) (v := ?_) (by kernel_rfl) rfl (by kernel_rfl) (fun _ _ _ h => h) (Or.inl ⟨by rfl, ?_⟩) (by assumption) ?_
                      rotate_left 1
                      · intro w hSw; (try dsimp only at hSw); go_simp; (with_reducible rfl)
                      (try simp only [Act.put, List.getElem_toArray, List.getElem_cons_zero, List.getElem_cons_succ, List.setIfInBounds_toArray, List.set_cons_zero, List.set_cons_succ])
                      refine wpAnyH_take1 (i := 15) (oi := _) (v := ?_) (by kernel_rfl) rfl (by kernel_rfl) (fun _ _ _ h => h) (Or.inl ⟨by rfl, ?_⟩) (by assumption) ?_
                      rotate_left 1
                      · intro w hSw; (try dsimp only at hSw); go_simp; (with_reducible rfl)
                      (try simp only [Act.put, List.getElem_toArray, List.getElem_cons_zero, List.getElem_cons_succ, List.setIfInBounds_toArray, List.set_cons_zero, List.set_cons_succ])
                      refine wpAnyH_take1 (i := 16) (oi := _) (v := ?_) (by kernel_rfl) rfl (by kernel_rfl) (fun _ _ _ h => h) (Or.inl ⟨by rfl, ?_⟩) (by assumption) ?_
                      rotate_left 1
                      · intro w hSw; (try dsimp only at hSw); go_simp; (with_reducible rfl)
                      (try simp only [Act.put, List.getElem_toArray, List.getElem_cons_zero, List.getElem_cons_succ, List.setIfInBounds_toArray, List.set_cons_zero, List.set_cons_succ])
                      refine wpAnyH_take1 (i := 17) (oi := _) (v := ?_) (by kernel_rfl) rfl (by kernel_rfl) (fun _ _ _ h => h) (Or.inl ⟨by rfl, ?_⟩) (by assumption) ?_
                      rotate_left 1
                      · intro w hSw; (try dsimp only at hSw); go_simp; (with_reducible rfl)
                      (try simp only [Act.put, List.getElem_toArray, List.getElem_cons_zero, List.getElem_cons_succ, List.setIfInBounds_toArray, List.set_cons_zero, List.set_cons_succ])
                      refine wpAnyH_take1 (i := 18) (oi := _) (v := ?_) (by kernel_rfl) rfl (by kernel_rfl) (fun _ _ _ h => h) (Or.inl ⟨by rfl, ?_⟩) (by assumption) ?_
                      rotate_left 1
                      · intro w hSw; (try dsimp only at hSw); go_simp; (with_reducible rfl)
                      (try simp only [Act.put, List.getElem_toArray, List.getElem_cons_zero, List.getElem_cons_succ, List.setIfInBounds_toArray, List.set_cons_zero, List.set_cons_succ])
                      refine wpAnyH_take1 (i := 19) (oi := _) (v := ?_) (by kernel_rfl) rfl (by kernel_rfl) (fun _ _ _ h => h) (Or.inl ⟨by rfl, ?_⟩) (by assumption) ?_
                      rotate_left 1
                      · intro w hSw; (try dsimp only at hSw); go_simp; (with_reducible rfl)
                      (try simp only [Act.put, List.getElem_toArray, List.getElem_cons_zero, List.getElem_cons_succ, List.setIfInBounds_toArray, List.set_cons_zero, List.set_cons_succ])
                      refine wpAnyH_take1 (i := 20) (oi := _) (v := ?_) (by kernel_rfl) rfl (by kernel_rfl) (fun _ _ _ h => h) (Or.inl ⟨by rfl, ?_⟩) (by assumption) ?_
                      rotate_left 1
                      · intro w hSw; (try dsimp only at hSw); go_simp; (with_reducible rfl)
                      (try simp only [Act.put, List.getElem_toArray, List.getElem_cons_zero, List.getElem_cons_succ, List.setIfInBounds_toArray, List.set_cons_zero, List.set_cons_succ])
                      refine wpAnyH_take1 (i := 21) (oi := _) (v := ?_) (by kernel_rfl) rfl (by kernel_rfl) (fun _ _ _ h => h) (Or.inl ⟨by rfl, ?_⟩) (by assumption) ?_
                      rotate_left 1
                      · intro w hSw; (try dsimp only at hSw); go_simp; (with_reducible rfl)
                      (try simp only [Act.put, List.getElem_toArray, List.getElem_cons_zero, List.getElem_cons_succ, List.setIfInBounds_toArray, List.set_cons_zero, List.set_cons_succ])
                      refine wpAnyH_take1 (i := 22) (oi := _) (v := ?_) (by kernel_rfl) rfl (by kernel_rfl) (fun _ _ _ h => h) (Or.inl ⟨by rfl, ?_⟩) (by assumption) ?_
                      rotate_left 1
                      · intro w hSw; (try dsimp only at hSw); go_simp; (with_reducible rfl)
                      (try simp only [Act.put, List.getElem_toArray, List.getElem_cons_zero, List.getElem_cons_succ, List.setIfInBounds_toArray, List.set_cons_zero, List.set_cons_succ])
                      as_aux_lemma =>
                        refine wpAnyH_take1 (i := 23) (oi := _) (v := ?_) (by kernel_rfl) rfl (by kernel_rfl) (fun _ _ _ h => h) (Or.inl ⟨by rfl, ?_⟩) (by assumption) ?_
                        rotate_left 1
                        · intro w hSw; (try dsimp only at hSw); go_simp; (with_reducible rfl)
                        (try simp only [Act.put, List.getElem_toArray, List.getElem_cons_zero, List.getElem_cons_succ, List.setIfInBounds_toArray, List.set_cons_zero, List.set_cons_succ])
                        refine wpAnyH_take1 (i := 24) (oi := _) (v := ?_) (by kernel_rfl) rfl (by kernel_rfl) (fun _ _ _ h => h) (Or.inl ⟨by rfl, ?_⟩) (by assumption) ?_
                        rotate_left 1
                        · intro w hSw; (try dsimp only at hSw); go_simp; (with_reducible rfl)
                        (try simp only [Act.put, List.getElem_toArray, List.getElem_cons_zero, List.getElem_cons_succ, List.setIfInBounds_toArray, List.set_cons_zero, List.set_cons_succ])
                        refine wpAnyH_take1 (i := 25) (oi := _) (v := ?_) (by kernel_rfl) rfl (by kernel_rfl) (fun _ _ _ h => h) (Or.inl ⟨by rfl, ?_⟩) (by assumption) ?_
                        rotate_left 1
                        · intro w hSw; (try dsimp only at hSw); go_simp; (with_reducible rfl)
                        (try simp only [Act.put, List.getElem_toArray, List.getElem_cons_zero, List.getElem_cons_succ, List.setIfInBounds_toArray, List.set_cons_zero, List.set_cons_succ])
                        refine wpAnyH_take1 (i := 26) (oi := _) (v := ?_) (by kernel_rfl) rfl (by kernel_rfl) (fun _ _ _ h => h) (Or.inl ⟨by rfl, ?_⟩) (by assumption) ?_
                        rotate_left 1
                        · intro w hSw; (try dsimp only at hSw); go_simp; (with_reducible rfl)
                        (try simp only [Act.put, List.getElem_toArray, List.getElem_cons_zero, List.getElem_cons_succ, List.setIfInBounds_toArray, List.set_cons_zero, List.set_cons_succ])
                        refine wpAnyH_take1 (i := 27) (oi := _) (v := ?_) (by kernel_rfl) rfl (by kernel_rfl) (fun _ _ _ h => h) (Or.inl ⟨by rfl, ?_⟩) (by assumption) ?_
                        rotate_left 1
                        · intro w hSw; (try dsimp only at hSw); go_simp; (with_reducible rfl)
                        (try simp only [Act.put, List.getElem_toArray, List.getElem_cons_zero, List.getElem_cons_succ, List.setIfInBounds_toArray, List.set_cons_zero, List.set_cons_succ])
                        refine wpAnyH_take1 (i := 28) (oi := _) (v := ?_) (by kernel_rfl) rfl (by kernel_rfl) (fun _ _ _ h => h) (Or.inl ⟨by rfl, ?_⟩) (by assumption) ?_
                        rotate_left 1
                        · intro w hSw; (try dsimp only at hSw); go_simp; (with_reducible rfl)
                        (try simp only [Act.put, List.getElem_toArray, List.getElem_cons_zero, List.getElem_cons_succ, List.setIfInBounds_toArray, List.set_cons_zero, List.set_cons_succ])
                        refine wpAnyH_take1 (i := 29) (oi := _) (v := ?_) (by kernel_rfl) rfl (by kernel_rfl) (fun _ _ _ h => h) (Or.inl ⟨by rfl, ?_⟩) (by assumption) ?_
                        rotate_left 1
                        · intro w hSw; (try dsimp only at hSw); go_simp; (with_reducible rfl)
                        (try simp only [Act.put, List.getElem_toArray, List.getElem_cons_zero, List.getElem_cons_succ, List.setIfInBounds_toArray, List.set_cons_zero, List.set_cons_succ])
                        refine wpAnyH_take1 (i := 30) (oi := _) (v := ?_) (by kernel_rfl) rfl (by kernel_rfl) (fun _ _ _ h => h) (Or.inl ⟨by rfl, ?_⟩) (by assumption) ?_
                        rotate_left 1
                        · intro w hSw; (try dsimp only at hSw); go_simp; (with_reducible rfl)
                        (try simp only [Act.put, List.getElem_toArray, List.getElem_cons_zero, List.getElem_cons_succ, List.setIfInBounds_toArray, List.set_cons_zero, List.set_cons_succ])
                        refine wpAnyH_take1 (i := 31) (oi := _) (v := ?_) (by kernel_rfl) rfl (by kernel_rfl) (fun _ _ _ h => h) (Or.inl ⟨by rfl, ?_⟩) (by assumption) ?_
                        rotate_left 1
                        · intro w hSw; (try dsimp only at hSw); go_simp; (with_reducible rfl)
                        (try simp only [Act.put, List.getElem_toArray, List.getElem_cons_zero, List.getElem_cons_succ, List.setIfInBounds_toArray, List.set_cons_zero, List.set_cons_succ])
                        refine wpAnyH_take1 (i := 32) (oi := _) (v := ?_) (by kernel_rfl) rfl (by kernel_rfl) (fun _ _ _ h => h) (Or.inl ⟨by rfl, ?_⟩) (by assumption) ?_
                        rotate_left 1
                        · intro w hSw; (try dsimp only at hSw); go_simp; (with_reducible rfl)
                        (try simp only [Act.put, List.getElem_toArray, List.getElem_cons_zero, List.getElem_cons_succ, List.setIfInBounds_toArray, List.set_cons_zero, List.set_cons_succ])
                        refine wpAnyH_take1 (i := 33) (oi := _) (v := ?_) (by kernel_rfl) rfl (by kernel_rfl) (fun _ _ _ h => h) (Or.inl ⟨by rfl, ?_⟩) (by assumption) ?_
                        rotate_left 1
                        · intro w hSw; (try dsimp only at hSw); go_simp; (with_reducible rfl)
                        (try simp only [Act.put, List.getElem_toArray, List.getElem_cons_zero, List.getElem_cons_succ, List.setIfInBounds_toArray, List.set_cons_zero, List.set_cons_succ])
                        refine wpAnyH_take1 (i := 34) (oi := _) (v := ?_) (by kernel_rfl) rfl (by kernel_rfl) (fun _ _ _ h => h) (Or.inl ⟨by rfl, ?_⟩) (by assumption) ?_
                        rotate_left 1
                        · intro w hSw; (try dsimp only at hSw); go_simp; (with_reducible rfl)
                        (try simp only [Act.put, List.getElem_toArray, List.getElem_cons_zero, List.getElem_cons_succ, List.setIfInBounds_toArray, List.set_cons_zero, List.set_cons_succ])
                        as_aux_lemma =>
                          refine wpAnyH_take1 (i := 35) (oi := _) (v := ?_) (by kernel_rfl) rfl (by kernel_rfl) (fun _ _ _ h => h) (Or.inl ⟨by rfl, ?_⟩) (by assumption) ?_
                          rotate_left 1
                          · intro w hSw; (try dsimp only at hSw); go_simp; (with_reducible rfl)
                          (try simp only [Act.put, List.getElem_toArray, List.getElem_cons_zero, List.getElem_cons_succ, List.setIfInBounds_toArray, List.set_cons_zero, List.set_cons_succ])
                          refine wpAnyH_take1 (i := 36) (oi := _) (v := ?_) (by kernel_rfl) rfl (by kernel_rfl) (fun _ _ _ h => h) (Or.inl ⟨by rfl, ?_⟩) (by assumption) ?_
                          rotate_left 1
                          · intro w hSw; (try dsimp only at hSw); go_simp; (with_reducible rfl)
                          (try simp only [Act.put, List.getElem_toArray, List.getElem_cons_zero, List.getElem_cons_succ, List.setIfInBounds_toArray, List.set_cons_zero, List.set_cons_succ])
                          refine wpAnyH_take1 (i := 37) (oi := _) (v := ?_) (by kernel_rfl) rfl (by kernel_rfl) (fun _ _ _ h => h) (Or.inl ⟨by rfl, ?_⟩) (by assumption) ?_
                          rotate_left 1
                          · intro w hSw; (try dsimp only at hSw); go_simp; (with_reducible rfl)
                          (try simp only [Act.put, List.getElem_toArray, List.getElem_cons_zero, List.getElem_cons_succ, List.setIfInBounds_toArray, List.set_cons_zero, List.set_cons_succ])
                          refine wpAnyH_take1 (i := 38) (oi := _) (v := ?_) (by kernel_rfl) rfl (by kernel_rfl) (fun _ _ _ h => h) (Or.inl ⟨by rfl, ?_⟩) (by assumption) ?_
                          rotate_left 1
                          · intro w hSw; (try dsimp only at hSw); go_simp; (with_reducible rfl)
                          (try simp only [Act.put, List.getElem_toArray, List.getElem_cons_zero, List.getElem_cons_succ, List.setIfInBounds_toArray, List.set_cons_zero, List.set_cons_succ])
                          refine wpAnyH_take1 (i := 39) (oi := _) (v := ?_) (by kernel_rfl) rfl (by kernel_rfl) (fun _ _ _ h => h) (Or.inl ⟨by rfl, ?_⟩) (by assumption) ?_
                          rotate_left 1
                          · intro w hSw; (try dsimp only at hSw); go_simp; (with_reducible rfl)
                          (try simp only [Act.put, List.getElem_toArray, List.getElem_cons_zero, List.getElem_cons_succ, List.setIfInBounds_toArray, List.set_cons_zero, List.set_cons_succ])
                          refine wpAnyH_take1 (i := 40) (oi := _) (v := ?_) (by kernel_rfl) rfl (by kernel_rfl) (fun _ _ _ h => h) (Or.inl ⟨by rfl, ?_⟩) (by assumption) ?_
                          rotate_left 1
                          · intro w hSw; (try dsimp only at hSw); go_simp; (with_reducible rfl)
                          (try simp only [Act.put, List.getElem_toArray, List.getElem_cons_zero, List.getElem_cons_succ, List.setIfInBounds_toArray, List.set_cons_zero, List.set_cons_succ])
                          refine wpAnyH_take1 (i := 41) (oi := _) (v := ?_) (by kernel_rfl) rfl (by kernel_rfl) (fun _ _ _ h => h) (Or.inl ⟨by rfl, ?_⟩) (by assumption) ?_
                          rotate_left 1
                          · intro w hSw; (try dsimp only at hSw); go_simp; (with_reducible rfl)
                          (try simp only [Act.put, List.getElem_toArray, List.getElem_cons_zero, List.getElem_cons_succ, List.setIfInBounds_toArray, List.set_cons_zero, List.set_cons_succ])
                          refine wpAnyH_take1 (i := 42) (oi := _) (v := ?_) (by kernel_rfl) rfl (by kernel_rfl) (fun _ _ _ h => h) (Or.inl ⟨by rfl, ?_⟩) (by assumption) ?_
                          rotate_left 1
                          · intro w hSw; (try dsimp only at hSw); go_simp; (with_reducible rfl)
                          (try simp only [Act.put, List.getElem_toArray, List.getElem_cons_zero, List.getElem_cons_succ, List.setIfInBounds_toArray, List.set_cons_zero, List.set_cons_succ])
                          refine wpAnyH_take1 (i := 43) (oi := _) (v := ?_) (by kernel_rfl) rfl (by kernel_rfl) (fun _ _ _ h => h) (Or.inl ⟨by rfl, ?_⟩) (by assumption) ?_
                          rotate_left 1
                          · intro w hSw; (try dsimp only at hSw); go_simp; (with_reducible rfl)
                          (try simp only [Act.put, List.getElem_toArray, List.getElem_cons_zero, List.getElem_cons_succ, List.setIfInBounds_toArray, List.set_cons_zero, List.set_cons_succ])
                          refine wpAnyH_done (by kernel_rfl) ?_ _
                          refine NoPanic.normal ?_
                          clear hp0 hp1 hpw hpp hpp0 hppl hj1 hjp j0 hzq hq0 hqI hqi hq00 hqt hjt
                          go_wp2_with fail
                          go_roundw
                          case rel => exact ⟨j + 1, hjl, by go_num, Lib.hid (below_step (Seq.way) hbz.out)⟩
                          case measure => simp [intOf]; omega
                · obtain rfl : j = O.length := by omega
                  have hjI : ¬ (O.length : Int) < (O.length : Int) := by omega
                  have hw1 : wrap64 ((sm : Int) + (O.length : Int)) = (sm : Int) + (O.length : Int) := by unfold wrap64; omega
                  go_wp2_with fail
                  go_roundw
                  case rel => exact ⟨k + 1, hlt, by go_num, by rw [hss.out, Int.natCast_add]; first | rfl | rw [hw1], rfl, Lib.hid (below_step H4.out hbr.out)⟩
                  case measure => simp [intOf]; omega
          · obtain rfl : k = g.atoms.length := by omega
            have hkI : ¬ (g.atoms.length : Int) < (g.atoms.length : Int) := by omega
            rw [hsum.out, List.take_length, any_eq_mem]
            obtain ⟨pz, hpz⟩ : ∃ pz, pz = posT g.atoms t := ⟨_, rfl⟩
            have Hpz := Lib.hid hpz.symm
            rw [← hpz]
            have hoe1 := Lib.hid (show ofR g (-1) = [] from ofR_empty fun r hr e => by have := HRg.out.head r hr; omega)
            have hoe2 := Lib.hid (show ofR g (g.atoms.length : Int) = [] from ofR_empty fun r hr e => by have := HRg.out.head r hr; omega)
            clear hpz
            obtain ⟨wo, rfl⟩ : ∃ wo, wo = wr := ⟨_, rfl⟩
            by_cases hp : pz ≥ 0
            · have hp2 : (0 : Int) ≤ pz := hp
              rw [decide_eq_true hp2]
              go_wp2_with fail
              refine (find_as Hpz.out (HGr.out.at' Seq.way) (HTr.out.at Seq.way) HRg.out.srt (by omega)).mono ?_
              rintro e y1 ⟨rfl, hy1⟩
              have HY1 := Lib.hid (below_step hy1 (Seq.way : Below wo.heap.size wo _))
              clear hy1
              have c0 := (HY1.out.cell (p := ⟨w.heap.size, 0, none⟩) lP).trans d0
              have q0 := Nat.lt_of_lt_of_le lP HY1.out.size
              have c1 := (HY1.out.cell (p := ⟨w.heap.size, 1, none⟩) lP).trans d1
              have q1 := Nat.lt_of_lt_of_le lP HY1.out.size
              go_wp2_with fail
              refine (OfP_spec (a := -1) ((HGr.out.at' HY1.out).at' Seq.way) (by omega)).mono ?_
              rintro e y2 ⟨v2, rfl, hy2, hs2⟩
              have HY2 := Lib.hid (below_step hy2 (below_step Seq.way HY1.out : Below wo.heap.size wo _))
              clear hy2
              clear c0 q0
              clear c1 q1
              have c0 := (HY2.out.cell (p := ⟨w.heap.size, 0, none⟩) lP).trans d0
              have q0 := Nat.lt_of_lt_of_le lP HY2.out.size
              have c1 := (HY2.out.cell (p := ⟨w.heap.size, 1, none⟩) lP).trans d1
              have q1 := Nat.lt_of_lt_of_le lP HY2.out.size
              rw [hoe1.out] at hs2
              obtain ⟨o1, o2, rfl⟩ := hs2.shape
              clear hs2
              simp only [List.length_nil]
              go_wp2_with fail
              refine (OfP_spec (a := (g.atoms.length : Int)) ((HGr.out.at' HY2.out).at' Seq.way) (by omega)).mono ?_
              rintro e y3 ⟨v3, rfl, hy3, hs3⟩
              have HY3 := Lib.hid (below_step hy3 (below_step Seq.way HY2.out : Below wo.heap.size wo _))
              clear hy3
              clear c0 q0
              clear c1 q1
              have c0 := (HY3.out.cell (p := ⟨w.heap.size, 0, none⟩) lP).trans d0
              have q0 := Nat.lt_of_lt_of_le lP HY3.out.size
              have c1 := (HY3.out.cell (p := ⟨w.heap.size, 1, none⟩) lP).trans d1
              have q1 := Nat.lt_of_lt_of_le lP HY3.out.size
              rw [hoe2.out] at hs3
              obtain ⟨o3, o4, rfl⟩ := hs3.shape
              clear hs3
              simp only [List.length_nil]
              go_wp2_with fail
              go_ret
              exact ⟨rfl, below_step HY3.out hbw.out⟩
            · have hp2 : ¬ (0 : Int) ≤ pz := hp
              have hpd : decide ((0 : Int) ≤ pz) = false := decide_eq_false hp2
              rw [hpd]
              go_wp2_with fail
              refine (find_as Hpz.out (HGr.out.at' Seq.way) (HTr.out.at Seq.way) HRg.out.srt (by omega)).mono ?_
              rintro e y1 ⟨rfl, hy1⟩
              have HY1 := Lib.hid (below_step hy1 (Seq.way : Below wo.heap.size wo _))
              clear hy1
              have c0 := (HY1.out.cell (p := ⟨w.heap.size, 0, none⟩) lP).trans d0
              have q0 := Nat.lt_of_lt_of_le lP HY1.out.size
              have c1 := (HY1.out.cell (p := ⟨w.heap.size, 1, none⟩) lP).trans d1
              have q1 := Nat.lt_of_lt_of_le lP HY1.out.size
              go_wp2_with fail
              refine (OfP_spec (a := -1) ((HGr.out.at' HY1.out).at' Seq.way) (by omega)).mono ?_
              rintro e y2 ⟨v2, rfl, hy2, hs2⟩
              have HY2 := Lib.hid (below_step hy2 (below_step Seq.way HY1.out : Below wo.heap.size wo _))
              clear hy2
              clear c0 q0
              clear c1 q1
              have c0 := (HY2.out.cell (p := ⟨w.heap.size, 0, none⟩) lP).trans d0
              have q0 := Nat.lt_of_lt_of_le lP HY2.out.size
              have c1 := (HY2.out.cell (p := ⟨w.heap.size, 1, none⟩) lP).trans d1
              have q1 := Nat.lt_of_lt_of_le lP HY2.out.size
              rw [hoe1.out] at hs2
              obtain ⟨o1, o2, rfl⟩ := hs2.shape
              clear hs2
              simp only [List.length_nil]
              go_wp2_with fail
              refine (OfP_spec (a := (g.atoms.length : Int)) ((HGr.out.at' HY2.out).at' Seq.way) (by omega)).mono ?_
              rintro e y3 ⟨v3, rfl, hy3, hs3⟩
              have HY3 := Lib.hid (below_step hy3 (below_step Seq.way HY2.out : Below wo.heap.size wo _))
              clear hy3
              clear c0 q0
              clear c1 q1
              have c0 := (HY3.out.cell (p := ⟨w.heap.size, 0, none⟩) lP).trans d0
              have q0 := Nat.lt_of_lt_of_le lP HY3.out.size
              have c1 := (HY3.out.cell (p := ⟨w.heap.size, 1, none⟩) lP).trans d1
              have q1 := Nat.lt_of_lt_of_le lP HY3.out.size
              rw [hoe2.out] at hs3
              obtain ⟨o3, o4, rfl⟩ := hs3.shape
              clear hs3
              simp only [List.length_nil]
              go_wp2_with fail
              go_ret
              exact ⟨rfl, below_step HY3.out hbw.out⟩
end Go.Proofs.YtaedgpcmkagpeaaGreat
