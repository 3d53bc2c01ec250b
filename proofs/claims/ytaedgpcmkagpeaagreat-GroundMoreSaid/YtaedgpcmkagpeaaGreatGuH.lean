/-
  Layer 16, the law: GroundMore.
-/
import Derived.Test.YtaedgpcmkagpeaaGreatBxi
namespace Go.Proofs.YtaedgpcmkagpeaaGreat
open Go Go.RowKit

theorem from_lens {l : List Ins} (h : ∀ i ∈ l, okI i = true) (h60 : l.length ≤ 60) : (fromT l).atoms.length ≤ 1260 ∧ (fromT l).rules.length ≤ 60 ∧ ∀ r ∈ (fromT l).rules, r.pos.length ≤ 10 ∧ r.neg.length ≤ 10 := by
  refine ⟨?_, Nat.le_trans (from_len l) h60, fun r hr => ?_⟩
  · have := okI_terms h
    exact Nat.le_trans (setL_le (c := cmpT) (allT l)) (by omega)
  · obtain ⟨i, hi, rfl⟩ := mem_fromR.1 hr
    have := okI_len (h i hi)
    have key : ∀ m : List (List Cell), (placesT (fromT l).atoms m).length ≤ m.length := fun m => by
      have := setL_le (c := cmpZ) (m.map (posT (fromT l).atoms)); rw [List.length_map] at this; exact this
    exact ⟨Nat.le_trans (key i.pos) this.1, Nat.le_trans (key i.neg) this.2⟩
theorem any_snoc {α : Type} (f : α → Bool) {l : List α} {k : Nat} (hk : k < l.length) : (l.take (k + 1)).any f = ((l.take k).any f || f l[k]) := by
  rw [List.take_succ_eq_append_getElem hk, List.any_append]; simp
structure SameL (g : Prog) : Prop where
  a : g.atoms.length ≤ 1260
  r : g.rules.length ≤ 60
  p : ∀ r ∈ g.rules, r.pos.length ≤ 10 ∧ r.neg.length ≤ 10
  t : ∀ t ∈ g.atoms, t.length ≤ 200
theorem from_small {l : List Ins} (h : ∀ i ∈ l, okI i = true) (h60 : l.length ≤ 60) : SameL (fromT l) := by
  obtain ⟨h1, h2, h3⟩ := from_lens h h60
  refine ⟨h1, h2, h3, fun t ht => ?_⟩
  obtain ⟨i, hi, hit⟩ := mem_fromA.1 ht
  exact (okT_iff.1 ((okI_iff.1 (h i hi)).1 t hit)).1

set_option maxHeartbeats 12800000 in
set_option maxRecDepth 100000 in
theorem more_spec {S : Nat → Prop} {w : World} {v : Value} {l : List Ins} {a : Nat} (hl : Seq instE S w v l) (ha : a < 256) :
    Calls Tryz.prog 10 #[v, .int .u8 a] w (RetV (.bool true) w) := by
  have HL := Lib.hid hl
  obtain ⟨la, lc, rfl⟩ := hl.shape
  clear hl
  go_enter Tryz.func10, Tryz.ntmps10
  go_wp2_with fail
  refine head_spec.mono ?_
  rintro e w1 ⟨rfl, hb1⟩
  have B1 := Lib.hid hb1
  clear hb1
  go_wp2_with fail
  refine (MadeL_spec (HL.out.at B1.out)).mono ?_
  rintro e w2 ⟨v2, rfl, hb2, hs2⟩
  have B2 := Lib.hid (below_step hb2 B1.out)
  have HM := Lib.hid hs2.bnd
  obtain ⟨ma, mc, rfl⟩ := hs2.shape
  have hok := Lib.hid (fun i (hi : i ∈ madeG l) => (made_mem hi).1)
  have hml := made_len l
  obtain ⟨M, hMe⟩ : ∃ M, M = madeG l := ⟨_, rfl⟩
  rw [← hMe] at HM hok hml ⊢
  have hmt := okI_terms hok.out
  have hmt2 := Lib.hid (show (allT M).length ≤ 100000 by omega)
  have hml2 := Lib.hid (show M.length ≤ 100000 by omega)
  clear hb2 hs2 hMe hmt
  obtain ⟨_, _, ee, hcp, -, -, -, -⟩ := HM.out
  simp only [Value.slice.injEq, true_and] at ee
  obtain ⟨rfl, rfl⟩ := ee
  obtain ⟨kk, hkv⟩ : ∃ kk, kk = a % (M.length + 1) := ⟨_, rfl⟩
  have hkl : kk ≤ M.length := by have : kk < M.length + 1 := by rw [hkv]; exact Nat.mod_lt _ (by omega)
                                 omega
  have hmI : (0 : Int) < (M.length : Int) + 1 := by omega
  have hmw : wrap64 ((M.length : Int) + 1) = (M.length : Int) + 1 := by unfold wrap64; omega
  have hmw2 : IntKind.i64.wrap ((M.length : Int) + 1) = (M.length : Int) + 1 := by rw [IntKind.wrap_i64]; omega
  have hm1 : (1 : Int) ≤ (M.length : Int) + 1 := by omega
  have hrem : (a : Int) % ((M.length : Int) + 1) = (kk : Int) := by rw [hkv]; rfl
  have hrem2 : (a : Int).tmod ((M.length : Int) + 1) = (kk : Int) := by rw [Int.tmod_eq_emod_of_nonneg (by omega)]; exact hrem
  have hk0 : (0 : Int) ≤ (kk : Int) := by omega
  have hkc : (kk : Int) ≤ (mc : Int) := by omega
  have hkt : ((kk : Int)).toNat = kk := Int.toNat_natCast kk
  have HMk := Lib.hid (HM.out.take (j := kk) hkl)
  have hsub := Lib.hid (fun i (hi : i ∈ M.take kk) => List.mem_of_mem_take hi)
  have hokk := Lib.hid (fun i (hi : i ∈ M.take kk) => hok.out i (List.mem_of_mem_take hi))
  have hkl2 : (M.take kk).length ≤ 60 := by rw [List.length_take]; omega
  have hkl3 : (M.take kk).length = kk := by rw [List.length_take]; omega
  have hmk1 := Lib.hid (from_more hsub.out)
  have Hmk := hmk1.out
  obtain ⟨MK, hMK⟩ : ∃ MK, MK = M.take kk := ⟨_, rfl⟩
  rw [← hMK] at HMk hokk hkl2 Hmk
  have htk := okI_terms hokk.out
  have hF := Lib.hid (from_small hokk.out hkl2)
  have hG := Lib.hid (from_small hok.out hml)
  have rF := Lib.hid (from_right hokk.out)
  have rG := Lib.hid (from_right hok.out)
  have bF := Lib.hid (from_rightB hokk.out)
  have bG := Lib.hid (from_rightB hok.out)
  obtain ⟨F, hFe⟩ : ∃ F, F = fromT MK := ⟨_, rfl⟩
  obtain ⟨G, hGe⟩ : ∃ G, G = fromT M := ⟨_, rfl⟩
  have hm2 := Lib.hid Hmk
  rw [← hFe] at hF rF bF hm2
  rw [← hGe] at hG rG bG hm2
  have hFe2 := Lib.hid hFe
  have hGe2 := Lib.hid hGe
  clear hkv hMK hcp hsub hkl hmk1 Hmk hFe hGe hkl3
  go_wp2_with fail
  refine (FromP_spec HMk.out (by omega) (by omega)).mono ?_
  rintro e w3 ⟨v3, rfl, hb3, hg3⟩
  rw [← hFe2.out] at hg3
  have HM3 := Lib.hid (HM.out.at hb3)
  have B3 := Lib.hid (below_step hb3 B2.out)
  obtain ⟨va, vr, rfl, hA, hR⟩ := hg3
  have HGA3 := Lib.hid hA.bnd
  have HGR3 := Lib.hid hR.bnd
  obtain ⟨aa3, ac3, rfl⟩ := hA.shape
  obtain ⟨ra3, rc3, rfl⟩ := hR.shape
  have Hb3 := Lib.hid hb3
  clear hb3 hA hR
  obtain ⟨W3, hW3⟩ : ∃ W, W = w3.alloc (.cells #[.slice aa3 F.atoms.length ac3, .slice ra3 F.rules.length rc3] 26) := ⟨_, rfl⟩
  have BB3 := Lib.hid (show Below w3.heap.size w3 W3 by rw [hW3]; exact Seq.way)
  have HQ3 := Lib.hid (show Row 26 W3 w3.heap.size [.slice aa3 F.atoms.length ac3, .slice ra3 F.rules.length rc3] by rw [hW3]; exact Row.new w3 [_, _] _ rfl)
  have HG3 := Lib.hid (show ProgV (fun b => b < w3.heap.size) W3 (.agg #[.slice aa3 F.atoms.length ac3, .slice ra3 F.rules.length rc3]) F from ⟨_, _, rfl, (HGA3.out.at BB3.out).mono (fun _ h _ => h.2) fun _ _ _ => rfl, (HGR3.out.at BB3.out).mono (fun _ h _ => h.2) fun _ _ _ => rfl⟩)
  have BW3 := Lib.hid (below_step BB3.out B3.out)
  have HW3 := Lib.hid hW3
  clear hW3
  go_upto_region 4 with fail
  rw [← HW3.out]
  have HM4 := Lib.hid (HM3.out.at BB3.out)
  clear hmI hmw hmw2 hm1 hrem hrem2 hk0 hkc hkt
  go_wp2_with fail
  refine (FromP_spec HM4.out hmt2.out hml2.out).mono ?_
  rintro e w4 ⟨v4, rfl, hb4, hg4⟩
  rw [← hGe2.out] at hg4
  have HQ3b := Lib.hid (rowTo HQ3.out hb4)
  have HG3b := Lib.hid (HG3.out.at hb4)
  have B4 := Lib.hid (below_step hb4 BW3.out)
  obtain ⟨va, vr, rfl, hA, hR⟩ := hg4
  have HGA4 := Lib.hid hA.bnd
  have HGR4 := Lib.hid hR.bnd
  obtain ⟨aa4, ac4, rfl⟩ := hA.shape
  obtain ⟨ra4, rc4, rfl⟩ := hR.shape
  have Hb4 := Lib.hid hb4
  clear hb4 hA hR
  obtain ⟨W4, hW4⟩ : ∃ W, W = w4.alloc (.cells #[.slice aa4 G.atoms.length ac4, .slice ra4 G.rules.length rc4] 26) := ⟨_, rfl⟩
  have BB4 := Lib.hid (show Below w4.heap.size w4 W4 by rw [hW4]; exact Seq.way)
  have HQ4 := Lib.hid (show Row 26 W4 w4.heap.size [.slice aa4 G.atoms.length ac4, .slice ra4 G.rules.length rc4] by rw [hW4]; exact Row.new w4 [_, _] _ rfl)
  have HG4 := Lib.hid (show ProgV (fun b => b < w4.heap.size) W4 (.agg #[.slice aa4 G.atoms.length ac4, .slice ra4 G.rules.length rc4]) G from ⟨_, _, rfl, (HGA4.out.at BB4.out).mono (fun _ h _ => h.2) fun _ _ _ => rfl, (HGR4.out.at BB4.out).mono (fun _ h _ => h.2) fun _ _ _ => rfl⟩)
  have BW4 := Lib.hid (below_step BB4.out B4.out)
  have HW4 := Lib.hid hW4
  clear hW4
  go_upto_region 5 with fail
  rw [← HW4.out]
  have HQf := Lib.hid (rowTo HQ3b.out BB4.out)
  have HF := Lib.hid (HG3b.out.at BB4.out)
  have hz4 : w4.heap.size < W4.heap.size := HQ4.out.lt
  have hz3 : w3.heap.size < w4.heap.size := HQ3b.out.lt
  have d0 := HQf.out.cell (j := 0) (by simp)
  have d1 := HQf.out.cell (j := 1) (by simp)
  have e0 := HQ4.out.cell (j := 0) (by simp)
  have e1 := HQ4.out.cell (j := 1) (by simp)
  have lP := HQf.out.lt
  have lE := HQ4.out.lt
  simp only [List.getElem_cons_zero, List.getElem_cons_succ] at d0 d1 e0 e1
  clear HQ3 HQ3b HG3 HG3b HM3 HM4 HGA3 HGR3 HGA4 HGR4 HMk
  go_wp2_with fail
  refine (right_as bF.out (HF.out.at Seq.way)).mono ?_
  rintro e y1 ⟨rfl, hy1⟩
  have HY1 := Lib.hid (below_step hy1 (Seq.way : Below W4.heap.size W4 _))
  clear hy1
  have c0 := (HY1.out.cell (p := ⟨w3.heap.size, 0, none⟩) lP).trans d0
  have q0 := Nat.lt_of_lt_of_le lP HY1.out.size
  have c1 := (HY1.out.cell (p := ⟨w3.heap.size, 1, none⟩) lP).trans d1
  have q1 := Nat.lt_of_lt_of_le lP HY1.out.size
  have c2 := (HY1.out.cell (p := ⟨w4.heap.size, 0, none⟩) lE).trans e0
  have q2 := Nat.lt_of_lt_of_le lE HY1.out.size
  have c3 := (HY1.out.cell (p := ⟨w4.heap.size, 1, none⟩) lE).trans e1
  have q3 := Nat.lt_of_lt_of_le lE HY1.out.size
  go_wp2_with fail
  refine (right_as bG.out ((HG4.out.at HY1.out).at Seq.way)).mono ?_
  rintro e y2 ⟨rfl, hy2⟩
  have HY2 := Lib.hid (below_step hy2 (below_step Seq.way HY1.out : Below W4.heap.size W4 _))
  clear hy2
  clear c0 q0
  clear c1 q1
  clear c2 q2
  clear c3 q3
  have c0 := (HY2.out.cell (p := ⟨w3.heap.size, 0, none⟩) lP).trans d0
  have q0 := Nat.lt_of_lt_of_le lP HY2.out.size
  have c1 := (HY2.out.cell (p := ⟨w3.heap.size, 1, none⟩) lP).trans d1
  have q1 := Nat.lt_of_lt_of_le lP HY2.out.size
  have c2 := (HY2.out.cell (p := ⟨w4.heap.size, 0, none⟩) lE).trans e0
  have q2 := Nat.lt_of_lt_of_le lE HY2.out.size
  have c3 := (HY2.out.cell (p := ⟨w4.heap.size, 1, none⟩) lE).trans e1
  have q3 := Nat.lt_of_lt_of_le lE HY2.out.size
  go_wp2_with fail
  refine (RightG_spec ((HF.out.at HY2.out).at Seq.way) (fun t ht => Nat.le_trans (hF.out.t t ht) (by omega)) (by have := hF.out.a; omega)).mono ?_
  rintro e y3 ⟨he3, hy3⟩
  have HY3 := Lib.hid (below_step hy3 (below_step Seq.way HY2.out : Below W4.heap.size W4 _))
  clear hy3
  clear c0 q0
  clear c1 q1
  clear c2 q2
  clear c3 q3
  have c0 := (HY3.out.cell (p := ⟨w3.heap.size, 0, none⟩) lP).trans d0
  have q0 := Nat.lt_of_lt_of_le lP HY3.out.size
  have c1 := (HY3.out.cell (p := ⟨w3.heap.size, 1, none⟩) lP).trans d1
  have q1 := Nat.lt_of_lt_of_le lP HY3.out.size
  have c2 := (HY3.out.cell (p := ⟨w4.heap.size, 0, none⟩) lE).trans e0
  have q2 := Nat.lt_of_lt_of_le lE HY3.out.size
  have c3 := (HY3.out.cell (p := ⟨w4.heap.size, 1, none⟩) lE).trans e1
  have q3 := Nat.lt_of_lt_of_le lE HY3.out.size
  rw [bF.out] at he3
  subst he3
  go_wp2_with fail
  refine (RightG_spec ((HG4.out.at HY3.out).at Seq.way) (fun t ht => Nat.le_trans (hG.out.t t ht) (by omega)) (by have := hG.out.a; omega)).mono ?_
  rintro e y4 ⟨he4, hy4⟩
  have HY4 := Lib.hid (below_step hy4 (below_step Seq.way HY3.out : Below W4.heap.size W4 _))
  clear hy4
  clear c0 q0
  clear c1 q1
  clear c2 q2
  clear c3 q3
  have c0 := (HY4.out.cell (p := ⟨w3.heap.size, 0, none⟩) lP).trans d0
  have q0 := Nat.lt_of_lt_of_le lP HY4.out.size
  have c1 := (HY4.out.cell (p := ⟨w3.heap.size, 1, none⟩) lP).trans d1
  have q1 := Nat.lt_of_lt_of_le lP HY4.out.size
  have c2 := (HY4.out.cell (p := ⟨w4.heap.size, 0, none⟩) lE).trans e0
  have q2 := Nat.lt_of_lt_of_le lE HY4.out.size
  have c3 := (HY4.out.cell (p := ⟨w4.heap.size, 1, none⟩) lE).trans e1
  have q3 := Nat.lt_of_lt_of_le lE HY4.out.size
  rw [bG.out] at he4
  subst he4
  have BQ := Lib.hid HY4.out
  obtain ⟨w5, rfl⟩ : ∃ w5, w5 = y4 := ⟨_, rfl⟩
  have HQ5 := Lib.hid (rowTo HQ4.out BQ.out)
  have HQ5f := Lib.hid (rowTo HQf.out BQ.out)
  have HF5 := Lib.hid (HF.out.at BQ.out)
  have HG5 := Lib.hid (HG4.out.at BQ.out)
  have BW5 := Lib.hid (below_step BQ.out BW4.out)
  clear d0 d1 e0 e1 lP lE HY1 HY2 HY3 HY4 BQ HQ4 HQf HF HG4
  go_wp2_with fail
  clear c0 c1 c2 c3 q0 q1 q2 q3
  go_loopw [9] (fun q wr => ∃ k : Nat, k ≤ F.atoms.length ∧ q = .int .i64 k ∧ Hid (Below w5.heap.size w5 wr)) (fun q _ => F.atoms.length - (intOf q).toNat)
  case atStart => exact ⟨0, Nat.zero_le _, rfl, Lib.hid (Below.refl _ _)⟩
  case round =>
    obtain ⟨k, hk, rfl, hbr⟩ := hrel
    have hFl := hF.out.a
    have HQr := Lib.hid (rowTo HQ5f.out hbr.out)
    have HQg := Lib.hid (rowTo HQ5.out hbr.out)
    have d0 := HQr.out.cell (j := 0) (by simp)
    have d1 := HQr.out.cell (j := 1) (by simp)
    have e0 := HQg.out.cell (j := 0) (by simp)
    have e1 := HQg.out.cell (j := 1) (by simp)
    have lP := HQr.out.lt
    have lE := HQg.out.lt
    simp only [List.getElem_cons_zero, List.getElem_cons_succ] at d0 d1 e0 e1
    by_cases hlt : k < F.atoms.length
    · have hkI : (k : Int) < (F.atoms.length : Int) := by omega
      have hk0 : (0 : Int) ≤ (k : Int) := by omega
      have HFr := Lib.hid (HF5.out.at hbr.out)
      have HGr := Lib.hid (HG5.out.at hbr.out)
      obtain ⟨_, _, ee, hA5, hR5⟩ := HFr.out
      simp only [Value.agg.injEq, Array.mk.injEq, List.cons.injEq, and_true] at ee
      obtain ⟨rfl, rfl⟩ := ee
      obtain ⟨_, _, ee, -, -, -, -, x5⟩ := hA5
      simp only [Value.slice.injEq, true_and] at ee
      obtain ⟨rfl, rfl⟩ := ee
      obtain ⟨b, off, p1, n1, rfl, -, hb, c0, hX⟩ := x5.seq hlt
      have hpz := posT_nonneg.2 (hm2.out.1 _ (List.getElem_mem hlt))
      obtain ⟨x, hx⟩ : ∃ x, x = F.atoms[k] := ⟨_, rfl⟩
      rw [← hx] at c0 hX hpz
      have HX := Lib.hid hX
      obtain ⟨pz, hpe⟩ : ∃ pz, pz = posT G.atoms x := ⟨_, rfl⟩
      rw [← hpe] at hpz
      have hpz2 : ¬ pz < 0 := by omega
      have Hpe := Lib.hid hpe.symm
      clear hx hX x5 hR5 hpe hpz
      go_upto_region 10 with fail
      have Hkeep := fun {Wk : World} (hW : Below wr.heap.size wr Wk) => Lib.hid (show Wk.cell? ⟨w3.heap.size, 0, none⟩ = some (.slice (some ⟨b, off, none⟩) F.atoms.length ac3) ∧ Wk.cell? ⟨w3.heap.size, 1, none⟩ = some (.slice ra3 F.rules.length rc3) ∧ Wk.cell? ⟨w4.heap.size, 0, none⟩ = some (.slice aa4 G.atoms.length ac4) ∧ Wk.cell? ⟨w4.heap.size, 1, none⟩ = some (.slice ra4 G.rules.length rc4) ∧ Wk.cell? ⟨b, off + k, none⟩ = some (.slice p1 x.length n1) from ⟨(hW.cell (p := ⟨w3.heap.size, 0, none⟩) lP).trans d0, (hW.cell (p := ⟨w3.heap.size, 1, none⟩) lP).trans d1, (hW.cell (p := ⟨w4.heap.size, 0, none⟩) lE).trans e0, (hW.cell (p := ⟨w4.heap.size, 1, none⟩) lE).trans e1, (hW.cell (p := ⟨b, off + k, none⟩) hb).trans c0⟩)
      (try simp only [List.append_eq, List.cons_append, List.nil_append])
      refine wp_region_noPanic ?_
      refine wp_region_held_drew (S := fun w' => w'.cell? ⟨w3.heap.size, 0, none⟩ = some (.slice (some ⟨b, off, none⟩) F.atoms.length ac3) ∧ w'.cell? ⟨w3.heap.size, 1, none⟩ = some (.slice ra3 F.rules.length rc3) ∧ w'.cell? ⟨w4.heap.size, 0, none⟩ = some (.slice aa4 G.atoms.length ac4) ∧ w'.cell? ⟨w4.heap.size, 1, none⟩ = some (.slice ra4 G.rules.length rc4) ∧ w'.cell? ⟨b, off + k, none⟩ = some (.slice p1 x.length n1)) (by kernel_rfl) ?_ (fun hHeld => ?_)
      · exact (Hkeep (Below.drew (Below.refl _ _))).out
      refine wpAnyH_take1 (i := 0) (oi := _) (v := ?_) (by kernel_rfl) rfl (by kernel_rfl) (fun _ _ _ h => h) (Or.inl ⟨by rfl, ?_⟩) (by assumption) ?_
      rotate_left 1
      · intro w hSw; (try dsimp only at hSw); go_simp; (with_reducible rfl)
      (try simp only [Act.put, List.getElem_toArray, List.getElem_cons_zero, List.setIfInBounds_toArray, List.set_cons_zero, List.set_cons_succ])
      refine wpAnyH_take1 (i := 1) (oi := _) (v := ?_) (by kernel_rfl) rfl (by kernel_rfl) (fun _ _ _ h => h) (Or.inl ⟨by rfl, ?_⟩) (by assumption) ?_
      rotate_left 1
      · intro w hSw; (try dsimp only at hSw); go_simp; (with_reducible rfl)
      (try simp only [Act.put, List.getElem_toArray, List.getElem_cons_zero, List.getElem_cons_succ, List.setIfInBounds_toArray, List.set_cons_zero, List.set_cons_succ])
      refine wpAnyH_take1 (i := 2) (oi := _) (v := ?_) (by kernel_rfl) rfl (by kernel_rfl) (fun _ _ _ h => h) (Or.inl ⟨by rfl, ?_⟩) (by assumption) ?_
      rotate_left 1
      · intro w hSw; (try dsimp only at hSw); go_simp; (with_reducible rfl)
      (try simp only [Act.put, List.getElem_toArray, List.getElem_cons_zero, List.getElem_cons_succ, List.setIfInBounds_toArray, List.set_cons_zero, List.set_cons_succ])
      refine wpAnyH_take1 (i := 3) (oi := _) (v := ?_) (by kernel_rfl) rfl (by kernel_rfl) (fun _ _ _ h => h) (Or.inl ⟨by rfl, ?_⟩) (by assumption) ?_
      rotate_left 1
      · intro w hSw; (try dsimp only at hSw); go_simp; (with_reducible rfl)
      (try simp only [Act.put, List.getElem_toArray, List.getElem_cons_zero, List.getElem_cons_succ, List.setIfInBounds_toArray, List.set_cons_zero, List.set_cons_succ])
      refine wpAnyH_take1 (i := 4) (oi := _) (v := ?_) (by kernel_rfl) rfl (by kernel_rfl) (fun _ _ _ h => h) (Or.inl ⟨by rfl, ?_⟩) (by assumption) ?_
      rotate_left 1
      · intro w hSw; (try dsimp only at hSw); go_simp; (with_reducible rfl)
      (try simp only [Act.put, List.getElem_toArray, List.getElem_cons_zero, List.getElem_cons_succ, List.setIfInBounds_toArray, List.set_cons_zero, List.set_cons_succ])
      refine wpAnyH_take1 (i := 5) (oi := _) (v := ?_) (by kernel_rfl) rfl (by kernel_rfl) (fun _ _ _ h => h) (Or.inl ⟨by rfl, ?_⟩) (by assumption) ?_
      rotate_left 1
      · intro w hSw; (try dsimp only at hSw); go_simp; (with_reducible rfl)
      (try simp only [Act.put, List.getElem_toArray, List.getElem_cons_zero, List.getElem_cons_succ, List.setIfInBounds_toArray, List.set_cons_zero, List.set_cons_succ])
      refine wpAnyH_one (i := 6) (by kernel_rfl) rfl (by rfl) fun K hK => ?_
      go_simp
      refine ((find_as Hpe.out (HGr.out.at Seq.way) (HX.out.at Seq.way) rG.out.srt (by have := hG.out.a; omega))).mono ?_
      rintro e y1 ⟨rfl, hy1⟩
      have HY1 := below_step hy1 (Seq.way : Below wr.heap.size wr _)
      have zy1 := HY1.size
      (try dsimp only)
      clear hHeld
      refine hK.out _ _ (Hkeep HY1).out fun hHeld => ?_
      clear hK K
      (try simp only [Act.put, List.getElem_toArray, List.getElem_cons_zero, List.getElem_cons_succ, List.setIfInBounds_toArray, List.set_cons_zero, List.set_cons_succ])
      refine wpAnyH_take1 (i := 7) (oi := _) (v := ?_) (by kernel_rfl) rfl (by kernel_rfl) (fun _ _ _ h => h) (Or.inl ⟨by rfl, ?_⟩) (by assumption) ?_
      rotate_left 1
      · intro w hSw; (try dsimp only at hSw); go_simp; (with_reducible rfl)
      (try simp only [Act.put, List.getElem_toArray, List.getElem_cons_zero, List.getElem_cons_succ, List.setIfInBounds_toArray, List.set_cons_zero, List.set_cons_succ])
      refine wpAnyH_done (by kernel_rfl) ?_ _
      refine NoPanic.normal ?_
      go_wp2_with fail
      go_roundw
      case rel => exact ⟨k + 1, hlt, by go_num, Lib.hid (below_step HY1 hbr.out)⟩
      case measure => simp [intOf]; omega
    · obtain rfl : k = F.atoms.length := by omega
      have hkI : ¬ (F.atoms.length : Int) < (F.atoms.length : Int) := by omega
      obtain ⟨wo, rfl⟩ : ∃ wo, wo = wr := ⟨_, rfl⟩
      go_wp2_with fail
      clear d0 d1 e0 e1 lP lE
      go_loopw [10] (fun q wr => ∃ k : Nat, k ≤ F.rules.length ∧ q = .int .i64 k ∧ Hid (Below w5.heap.size w5 wr)) (fun q _ => F.rules.length - (intOf q).toNat)
      case atStart => exact ⟨0, Nat.zero_le _, rfl, hbr⟩
      case round =>
        clear hbr
        obtain ⟨k, hk, rfl, hbr⟩ := hrel
        have hrl := hF.out.r
        have hgl := hG.out.r
        have HQr := Lib.hid (rowTo HQ5f.out hbr.out)
        have HQg := Lib.hid (rowTo HQ5.out hbr.out)
        have d0 := HQr.out.cell (j := 0) (by simp)
        have d1 := HQr.out.cell (j := 1) (by simp)
        have e0 := HQg.out.cell (j := 0) (by simp)
        have e1 := HQg.out.cell (j := 1) (by simp)
        have lP := HQr.out.lt
        have lE := HQg.out.lt
        simp only [List.getElem_cons_zero, List.getElem_cons_succ] at d0 d1 e0 e1
        by_cases hlt : k < F.rules.length
        · have hkI : (k : Int) < (F.rules.length : Int) := by omega
          have hk0 : (0 : Int) ≤ (k : Int) := by omega
          have HFr := Lib.hid (HF5.out.at hbr.out)
          obtain ⟨_, _, ee, hA5, hR5⟩ := HFr.out
          simp only [Value.agg.injEq, Array.mk.injEq, List.cons.injEq, and_true] at ee
          obtain ⟨rfl, rfl⟩ := ee
          obtain ⟨_, _, ee, -, -, -, -, x5⟩ := hR5
          simp only [Value.slice.injEq, true_and] at ee
          obtain ⟨rfl, rfl⟩ := ee
          obtain ⟨b, off, pa, pc, na, nc, rfl, -, hb, c0, c1, c2, hih, hp, hn⟩ := x5.rule hlt
          have hmem := List.getElem_mem hlt
          have HX0 := Lib.hid (rF.out.head _ hmem)
          have HX1 := Lib.hid (rF.out.pos _ hmem)
          have HX2 := Lib.hid (rF.out.neg _ hmem)
          have HX3 := Lib.hid (hF.out.p _ hmem)
          have hex := Lib.hid (hm2.out.2 _ hmem)
          obtain ⟨r, hr⟩ : ∃ r, r = F.rules[k] := ⟨_, rfl⟩
          rw [← hr] at c0 c1 c2 hih hp hn HX0 HX1 HX2 HX3 hex
          have HRv := Lib.hid (show RulV _ wr (.agg #[.int .i64 r.head, .slice pa r.pos.length pc, .slice na r.neg.length nc]) r from ⟨_, _, rfl, hih, hp, hn⟩)
          clear hr hp hn x5 hih hmem hA5
          go_upto_region 15 with fail
          have Hkeep := fun {Wk : World} (hW : Below wr.heap.size wr Wk) => Lib.hid (show Wk.cell? ⟨w3.heap.size, 0, none⟩ = some (.slice aa3 F.atoms.length ac3) ∧ Wk.cell? ⟨w3.heap.size, 1, none⟩ = some (.slice (some ⟨b, off, none⟩) F.rules.length rc3) ∧ Wk.cell? ⟨b, off + k * 3, none⟩ = some (.int .i64 r.head) ∧ Wk.cell? ⟨b, off + k * 3 + 1, none⟩ = some (.slice pa r.pos.length pc) ∧ Wk.cell? ⟨b, off + k * 3 + 2, none⟩ = some (.slice na r.neg.length nc) from ⟨(hW.cell (p := ⟨w3.heap.size, 0, none⟩) lP).trans d0, (hW.cell (p := ⟨w3.heap.size, 1, none⟩) lP).trans d1, (hW.cell (p := ⟨b, off + k * 3, none⟩) hb).trans c0, (hW.cell (p := ⟨b, off + k * 3 + 1, none⟩) hb).trans c1, (hW.cell (p := ⟨b, off + k * 3 + 2, none⟩) hb).trans c2⟩)
          (try simp only [List.append_eq, List.cons_append, List.nil_append])
          refine wp_region_noPanic ?_
          refine wp_region_held_drew (S := fun w' => w'.cell? ⟨w3.heap.size, 0, none⟩ = some (.slice aa3 F.atoms.length ac3) ∧ w'.cell? ⟨w3.heap.size, 1, none⟩ = some (.slice (some ⟨b, off, none⟩) F.rules.length rc3) ∧ w'.cell? ⟨b, off + k * 3, none⟩ = some (.int .i64 r.head) ∧ w'.cell? ⟨b, off + k * 3 + 1, none⟩ = some (.slice pa r.pos.length pc) ∧ w'.cell? ⟨b, off + k * 3 + 2, none⟩ = some (.slice na r.neg.length nc)) (by kernel_rfl) ?_ (fun hHeld => ?_)
          · exact (Hkeep (Below.drew (Below.refl _ _))).out
          refine wpAnyH_take1 (i := 0) (oi := _) (v := ?_) (by kernel_rfl) rfl (by kernel_rfl) (fun _ _ _ h => h) (Or.inl ⟨by rfl, ?_⟩) (by assumption) ?_
          rotate_left 1
          · intro w hSw; (try dsimp only at hSw); go_simp; (with_reducible rfl)
          (try simp only [Act.put, List.getElem_toArray, List.getElem_cons_zero, List.setIfInBounds_toArray, List.set_cons_zero, List.set_cons_succ])
          refine wpAnyH_take1 (i := 1) (oi := _) (v := ?_) (by kernel_rfl) rfl (by kernel_rfl) (fun _ _ _ h => h) (Or.inl ⟨by rfl, ?_⟩) (by assumption) ?_
          rotate_left 1
          · intro w hSw; (try dsimp only at hSw); go_simp; (with_reducible rfl)
          (try simp only [Act.put, List.getElem_toArray, List.getElem_cons_zero, List.getElem_cons_succ, List.setIfInBounds_toArray, List.set_cons_zero, List.set_cons_succ])
          refine wpAnyH_take1 (i := 2) (oi := _) (v := ?_) (by kernel_rfl) rfl (by kernel_rfl) (fun _ _ _ h => h) (Or.inl ⟨by rfl, ?_⟩) (by assumption) ?_
          rotate_left 1
          · intro w hSw; (try dsimp only at hSw); go_simp; (with_reducible rfl)
          (try simp only [Act.put, List.getElem_toArray, List.getElem_cons_zero, List.getElem_cons_succ, List.setIfInBounds_toArray, List.set_cons_zero, List.set_cons_succ])
          refine wpAnyH_take1 (i := 3) (oi := _) (v := ?_) (by kernel_rfl) rfl (by kernel_rfl) (fun _ _ _ h => h) (Or.inl ⟨by rfl, ?_⟩) (by assumption) ?_
          rotate_left 1
          · intro w hSw; (try dsimp only at hSw); go_simp; (with_reducible rfl)
          (try simp only [Act.put, List.getElem_toArray, List.getElem_cons_zero, List.getElem_cons_succ, List.setIfInBounds_toArray, List.set_cons_zero, List.set_cons_succ])
          refine wpAnyH_take1 (i := 4) (oi := _) (v := ?_) (by kernel_rfl) rfl (by kernel_rfl) (fun _ _ _ h => h) (Or.inl ⟨by rfl, ?_⟩) (by assumption) ?_
          rotate_left 1
          · intro w hSw; (try dsimp only at hSw); go_simp; (with_reducible rfl)
          (try simp only [Act.put, List.getElem_toArray, List.getElem_cons_zero, List.getElem_cons_succ, List.setIfInBounds_toArray, List.set_cons_zero, List.set_cons_succ])
          refine wpAnyH_take1 (i := 5) (oi := _) (v := ?_) (by kernel_rfl) rfl (by kernel_rfl) (fun _ _ _ h => h) (Or.inl ⟨by rfl, ?_⟩) (by assumption) ?_
          rotate_left 1
          · intro w hSw; (try dsimp only at hSw); go_simp; (with_reducible rfl)
          (try simp only [Act.put, List.getElem_toArray, List.getElem_cons_zero, List.getElem_cons_succ, List.setIfInBounds_toArray, List.set_cons_zero, List.set_cons_succ])
          refine wpAnyH_boxIns (ic := 6) (ia := 7) (is := 8) (dc := 75) (da := 11) (i := instG F r) (by kernel_rfl) (by kernel_rfl) (by kernel_rfl) (by kernel_rfl) (by decide) rfl rfl rfl rfl rfl rfl (by decide) rfl rfl rfl (of_decide_eq_true (by kernel_rfl)) (of_decide_eq_true (by kernel_rfl)) rfl rfl (fun w' hb => (Hkeep (below_step hb (Seq.way : Below wr.heap.size wr _))).out) ?_ ?_ ?_
          · intro K hK
            go_simp
            refine (InstR_spec (HFr.out.at Seq.way) (HRv.out.at Seq.way) HX0.out HX1.out.1 HX2.out.1 (by have := HX3.out; omega) (by have := HX3.out; omega)).mono ?_
            rintro e y1 ⟨v1, rfl, hy1, hi1⟩
            exact hK.out _ _ hy1 hi1.ltW
          · intro K hK
            (try simp only [Act.put, List.getElem_toArray, List.getElem_cons_zero, List.getElem_cons_succ, List.setIfInBounds_toArray, List.set_cons_zero, List.set_cons_succ])
            go_simp
            refine (InstR_spec (HFr.out.at Seq.way) (HRv.out.at Seq.way) HX0.out HX1.out.1 HX2.out.1 (by have := HX3.out; omega) (by have := HX3.out; omega)).mono ?_
            rintro e y1 ⟨v1, rfl, hy1, hi1⟩
            exact hK.out _ _ hy1 (hi1.neB (fun b hb => by simp at hb ⊢; omega) (by simp [zIns]))
          clear hHeld
          intro B t1 t2 t3 wx hBx hrow hbx hins
          (try simp only [Act.put, List.setIfInBounds_toArray, List.set_cons_zero, List.set_cons_succ])
          refine wpAnyH_done (by kernel_rfl) ?_ _
          refine NoPanic.normal ?_
          have HXi := Lib.hid hins
          have HXr := Lib.hid hrow
          have HXb := Lib.hid (below_step hbx (Seq.way : Below wr.heap.size wr _))
          have hwx := hrow.lt
          have HbX := Lib.hid (below_step HXb.out hbr.out)
          obtain ⟨I, hI⟩ : ∃ I, I = instG F r := ⟨_, rfl⟩
          have HI := Lib.hid hI
          rw [← hI] at HXi
          obtain ⟨_, _, _, ee, i1, i2, i3⟩ := HXi.out
          simp only [Value.agg.injEq, Array.mk.injEq, List.cons.injEq, and_true] at ee
          obtain ⟨rfl, rfl, rfl⟩ := ee
          obtain ⟨h1a, h1c, rfl⟩ := i1.shape
          obtain ⟨h2a, h2c, rfl⟩ := i2.shape
          obtain ⟨h3a, h3c, rfl⟩ := i3.shape
          have HI1 := Lib.hid i1
          have HI2 := Lib.hid i2
          have HI3 := Lib.hid i3
          clear hins hrow hbx hI c0 c1 c2 d0 d1 e0 e1 lP lE i1 i2 i3 hb
          obtain ⟨wo2, rfl⟩ : ∃ wo2, wo2 = wr := ⟨_, rfl⟩
          go_wp2_with fail
          go_loopw [12, 13] (fun o q wr => ∃ j : Nat, j ≤ G.rules.length ∧ q = .int .i64 j ∧ o = .bool ((G.rules.take j).any fun s => sameI I (instG G s)) ∧ Hid (Below wx.heap.size wx wr)) (fun _ q _ => G.rules.length - (intOf q).toNat)
          case atStart => exact ⟨0, Nat.zero_le _, rfl, rfl, Lib.hid (Below.refl _ _)⟩
          case round =>
            obtain ⟨j, hj, rfl, rfl, hbz⟩ := hrel
            have hbr2 := Lib.hid (below_step hbz.out HbX.out)
            have HQr := Lib.hid (rowTo HQ5f.out hbr2.out)
            have HQg := Lib.hid (rowTo HQ5.out hbr2.out)
            have d0 := HQr.out.cell (j := 0) (by simp)
            have d1 := HQr.out.cell (j := 1) (by simp)
            have e0 := HQg.out.cell (j := 0) (by simp)
            have e1 := HQg.out.cell (j := 1) (by simp)
            have lP := HQr.out.lt
            have lE := HQg.out.lt
            simp only [List.getElem_cons_zero, List.getElem_cons_succ] at d0 d1 e0 e1
            by_cases hjl : j < G.rules.length
            · have hjI : (j : Int) < (G.rules.length : Int) := by omega
              have hj0 : (0 : Int) ≤ (j : Int) := by omega
              have HGr := Lib.hid (HG5.out.at hbr2.out)
              obtain ⟨_, _, ee, hA5, hR5⟩ := HGr.out
              simp only [Value.agg.injEq, Array.mk.injEq, List.cons.injEq, and_true] at ee
              obtain ⟨rfl, rfl⟩ := ee
              obtain ⟨_, _, ee, -, -, -, -, x5⟩ := hR5
              simp only [Value.slice.injEq, true_and] at ee
              obtain ⟨rfl, rfl⟩ := ee
              obtain ⟨b2, off2, pa, pc, na, nc, rfl, -, hb2, f0, f1, f2, hih, hp, hn⟩ := x5.rule hjl
              have hmem := List.getElem_mem hjl
              have HX0 := Lib.hid (rG.out.head _ hmem)
              have HX1 := Lib.hid (rG.out.pos _ hmem)
              have HX2 := Lib.hid (rG.out.neg _ hmem)
              have HX3 := Lib.hid (hG.out.p _ hmem)
              have hst := Lib.hid (any_snoc (fun s => sameI I (instG G s)) hjl)
              obtain ⟨r2, hr⟩ : ∃ r, r = G.rules[j] := ⟨_, rfl⟩
              rw [← hr] at f0 f1 f2 hih hp hn HX0 HX1 HX2 HX3 hst
              have HRv := Lib.hid (show RulV _ wr (.agg #[.int .i64 r2.head, .slice pa r2.pos.length pc, .slice na r2.neg.length nc]) r2 from ⟨_, _, rfl, hih, hp, hn⟩)
              clear hr hp hn x5 hih hmem hA5
              obtain ⟨bb, hbb⟩ : ∃ bb, bb = (G.rules.take j).any fun s => sameI I (instG G s) := ⟨_, rfl⟩
              rw [← hbb] at hst ⊢
              clear hbb
              obtain ⟨wq, rfl⟩ : ∃ wq, wq = wr := ⟨_, rfl⟩
              go_upto_region 20 with fail
              have Hkeep := fun {Wk : World} (hW : Below wq.heap.size wq Wk) => Lib.hid (show Wk.cell? ⟨w4.heap.size, 0, none⟩ = some (.slice aa4 G.atoms.length ac4) ∧ Wk.cell? ⟨w4.heap.size, 1, none⟩ = some (.slice (some ⟨b2, off2, none⟩) G.rules.length rc4) ∧ Wk.cell? ⟨b2, off2 + j * 3, none⟩ = some (.int .i64 r2.head) ∧ Wk.cell? ⟨b2, off2 + j * 3 + 1, none⟩ = some (.slice pa r2.pos.length pc) ∧ Wk.cell? ⟨b2, off2 + j * 3 + 2, none⟩ = some (.slice na r2.neg.length nc) from ⟨(hW.cell (p := ⟨w4.heap.size, 0, none⟩) lE).trans e0, (hW.cell (p := ⟨w4.heap.size, 1, none⟩) lE).trans e1, (hW.cell (p := ⟨b2, off2 + j * 3, none⟩) hb2).trans f0, (hW.cell (p := ⟨b2, off2 + j * 3 + 1, none⟩) hb2).trans f1, (hW.cell (p := ⟨b2, off2 + j * 3 + 2, none⟩) hb2).trans f2⟩)
              (try simp only [List.append_eq, List.cons_append, List.nil_append])
              refine wp_region_noPanic ?_
              refine wp_region_held_drew (S := fun w' => w'.cell? ⟨w4.heap.size, 0, none⟩ = some (.slice aa4 G.atoms.length ac4) ∧ w'.cell? ⟨w4.heap.size, 1, none⟩ = some (.slice (some ⟨b2, off2, none⟩) G.rules.length rc4) ∧ w'.cell? ⟨b2, off2 + j * 3, none⟩ = some (.int .i64 r2.head) ∧ w'.cell? ⟨b2, off2 + j * 3 + 1, none⟩ = some (.slice pa r2.pos.length pc) ∧ w'.cell? ⟨b2, off2 + j * 3 + 2, none⟩ = some (.slice na r2.neg.length nc)) (by kernel_rfl) ?_ (fun hHeld => ?_)
              · exact (Hkeep (Below.drew (Below.refl _ _))).out
              refine wpAnyH_take1 (i := 0) (oi := _) (v := ?_) (by kernel_rfl) rfl (by kernel_rfl) (fun _ _ _ h => h) (Or.inl ⟨by rfl, ?_⟩) (by assumption) ?_
              rotate_left 1
              · intro w hSw; (try dsimp only at hSw); go_simp; (with_reducible rfl)
              (try simp only [Act.put, List.getElem_toArray, List.getElem_cons_zero, List.setIfInBounds_toArray, List.set_cons_zero, List.set_cons_succ])
              refine wpAnyH_take1 (i := 1) (oi := _) (v := ?_) (by kernel_rfl) rfl (by kernel_rfl) (fun _ _ _ h => h) (Or.inl ⟨by rfl, ?_⟩) (by assumption) ?_
              rotate_left 1
              · intro w hSw; (try dsimp only at hSw); go_simp; (with_reducible rfl)
              (try simp only [Act.put, List.getElem_toArray, List.getElem_cons_zero, List.getElem_cons_succ, List.setIfInBounds_toArray, List.set_cons_zero, List.set_cons_succ])
              refine wpAnyH_take1 (i := 2) (oi := _) (v := ?_) (by kernel_rfl) rfl (by kernel_rfl) (fun _ _ _ h => h) (Or.inl ⟨by rfl, ?_⟩) (by assumption) ?_
              rotate_left 1
              · intro w hSw; (try dsimp only at hSw); go_simp; (with_reducible rfl)
              (try simp only [Act.put, List.getElem_toArray, List.getElem_cons_zero, List.getElem_cons_succ, List.setIfInBounds_toArray, List.set_cons_zero, List.set_cons_succ])
              refine wpAnyH_take1 (i := 3) (oi := _) (v := ?_) (by kernel_rfl) rfl (by kernel_rfl) (fun _ _ _ h => h) (Or.inl ⟨by rfl, ?_⟩) (by assumption) ?_
              rotate_left 1
              · intro w hSw; (try dsimp only at hSw); go_simp; (with_reducible rfl)
              (try simp only [Act.put, List.getElem_toArray, List.getElem_cons_zero, List.getElem_cons_succ, List.setIfInBounds_toArray, List.set_cons_zero, List.set_cons_succ])
              refine wpAnyH_take1 (i := 4) (oi := _) (v := ?_) (by kernel_rfl) rfl (by kernel_rfl) (fun _ _ _ h => h) (Or.inl ⟨by rfl, ?_⟩) (by assumption) ?_
              rotate_left 1
              · intro w hSw; (try dsimp only at hSw); go_simp; (with_reducible rfl)
              (try simp only [Act.put, List.getElem_toArray, List.getElem_cons_zero, List.getElem_cons_succ, List.setIfInBounds_toArray, List.set_cons_zero, List.set_cons_succ])
              refine wpAnyH_take1 (i := 5) (oi := _) (v := ?_) (by kernel_rfl) rfl (by kernel_rfl) (fun _ _ _ h => h) (Or.inl ⟨by rfl, ?_⟩) (by assumption) ?_
              rotate_left 1
              · intro w hSw; (try dsimp only at hSw); go_simp; (with_reducible rfl)
              (try simp only [Act.put, List.getElem_toArray, List.getElem_cons_zero, List.getElem_cons_succ, List.setIfInBounds_toArray, List.set_cons_zero, List.set_cons_succ])
              refine wpAnyH_boxIns (ic := 6) (ia := 7) (is := 8) (dc := 89) (da := 14) (i := instG G r2) (by kernel_rfl) (by kernel_rfl) (by kernel_rfl) (by kernel_rfl) (by decide) rfl rfl rfl rfl rfl rfl (by decide) rfl rfl rfl (of_decide_eq_true (by kernel_rfl)) (of_decide_eq_true (by kernel_rfl)) rfl rfl (fun w' hb => (Hkeep (below_step hb (Seq.way : Below wq.heap.size wq _))).out) ?_ ?_ ?_
              · intro K hK
                go_simp
                refine (InstR_spec (HGr.out.at Seq.way) (HRv.out.at Seq.way) HX0.out HX1.out.1 HX2.out.1 (by have := HX3.out; omega) (by have := HX3.out; omega)).mono ?_
                rintro e y1 ⟨v1, rfl, hy1, hi1⟩
                exact hK.out _ _ hy1 hi1.ltW
              · intro K hK
                (try simp only [Act.put, List.getElem_toArray, List.getElem_cons_zero, List.getElem_cons_succ, List.setIfInBounds_toArray, List.set_cons_zero, List.set_cons_succ])
                go_simp
                refine (InstR_spec (HGr.out.at Seq.way) (HRv.out.at Seq.way) HX0.out HX1.out.1 HX2.out.1 (by have := HX3.out; omega) (by have := HX3.out; omega)).mono ?_
                rintro e y1 ⟨v1, rfl, hy1, hi1⟩
                exact hK.out _ _ hy1 (hi1.neB (fun b hb => by simp at hb ⊢; omega) (by simp [zIns]))
              clear hHeld
              intro B t1 t2 t3 wy hBx hrow hbx hins
              (try simp only [Act.put, List.setIfInBounds_toArray, List.set_cons_zero, List.set_cons_succ])
              refine wpAnyH_done (by kernel_rfl) ?_ _
              refine NoPanic.normal ?_
              have HYi := Lib.hid hins
              have hwy := hrow.lt
              have HYb := Lib.hid (below_step hbx (Seq.way : Below wq.heap.size wq _))
              have HbY := Lib.hid (below_step HYb.out hbz.out)
              have HXy := Lib.hid (rowTo HXr.out HbY.out)
              obtain ⟨J, hJ⟩ : ∃ J, J = instG G r2 := ⟨_, rfl⟩
              rw [← hJ] at HYi hst
              obtain ⟨_, _, _, ee, i1, i2, i3⟩ := HYi.out
              simp only [Value.agg.injEq, Array.mk.injEq, List.cons.injEq, and_true] at ee
              obtain ⟨rfl, rfl, rfl⟩ := ee
              obtain ⟨k1a, k1c, rfl⟩ := i1.shape
              obtain ⟨k2a, k2c, rfl⟩ := i2.shape
              obtain ⟨k3a, k3c, rfl⟩ := i3.shape
              have HJ1 := Lib.hid i1
              have HJ2 := Lib.hid i2
              have HJ3 := Lib.hid i3
              have HI1y := Lib.hid (HI1.out.at HbY.out)
              have HI2y := Lib.hid (HI2.out.at HbY.out)
              have HI3y := Lib.hid (HI3.out.at HbY.out)
              have g0 := HXy.out.cell (j := 0) (by simp)
              have g1 := HXy.out.cell (j := 1) (by simp)
              have g2 := HXy.out.cell (j := 2) (by simp)
              have lX := HXy.out.lt
              have k0 := hrow.cell (j := 0) (by simp)
              have k1 := hrow.cell (j := 1) (by simp)
              have k2 := hrow.cell (j := 2) (by simp)
              simp only [List.getElem_cons_zero, List.getElem_cons_succ] at g0 g1 g2 k0 k1 k2
              clear hins hrow hbx hJ f0 f1 f2 d0 d1 e0 e1 lP lE i1 i2 i3 hb2
              cases bb with
              | true =>
                rw [Bool.true_or] at hst
                go_wp2_with fail
                go_roundw
                case rel => exact ⟨j + 1, hjl, by go_num, by rw [hst.out], HbY⟩
                case measure => simp [intOf]; omega
              | false =>
                rw [Bool.false_or, show sameI I J = (decide (I.head = J.head) && (decide (I.pos = J.pos) && decide (I.neg = J.neg))) from rfl] at hst
                go_wp2_with fail
                refine (SameT_spec (HI1y.out.at Seq.way) (HJ1.out.at Seq.way)).mono ?_
                rintro e u1 ⟨rfl, hq1⟩
                have Q1 := Lib.hid (hq1.below wy.heap.size)
                obtain ⟨b1, hb1⟩ : ∃ b1, b1 = decide (I.head = J.head) := ⟨_, rfl⟩
                rw [← hb1] at hst ⊢
                obtain ⟨nn, rfl⟩ := hq1
                clear hb1
                cases b1 with
                | false =>
                  rw [Bool.false_and] at hst
                  go_wp2_with fail
                  go_roundw
                  case rel => exact ⟨j + 1, hjl, by go_num, by rw [hst.out], Lib.hid (below_step (Seq.way) HbY.out)⟩
                  case measure => simp [intOf]; omega
                | true =>
                  rw [Bool.true_and] at hst
                  go_wp2_with fail
                  refine (SameAll_spec (HI2y.out.at Seq.way) (HJ2.out.at Seq.way)).mono ?_
                  rintro e u2 ⟨rfl, hq2⟩
                  obtain ⟨b2, hb2⟩ : ∃ b2, b2 = decide (I.pos = J.pos) := ⟨_, rfl⟩
                  rw [← hb2] at hst ⊢
                  obtain ⟨mm, rfl⟩ := hq2
                  clear hb2
                  cases b2 with
                  | false =>
                    rw [Bool.false_and] at hst
                    go_wp2_with fail
                    go_roundw
                    case rel => exact ⟨j + 1, hjl, by go_num, by rw [hst.out], Lib.hid (below_step (Seq.way) HbY.out)⟩
                    case measure => simp [intOf]; omega
                  | true =>
                    rw [Bool.true_and] at hst
                    go_wp2_with fail
                    refine (SameAll_spec (HI3y.out.at Seq.way) (HJ3.out.at Seq.way)).mono ?_
                    rintro e u3 ⟨rfl, hq3⟩
                    obtain ⟨pp, rfl⟩ := hq3
                    go_wp2_with fail
                    go_roundw
                    case rel => exact ⟨j + 1, hjl, by go_num, by rw [hst.out], Lib.hid (below_step (Seq.way) HbY.out)⟩
                    case measure => simp [intOf]; omega
            · obtain rfl : j = G.rules.length := by omega
              have hjI : ¬ (G.rules.length : Int) < (G.rules.length : Int) := by omega
              have hyes : ((G.rules.take G.rules.length).any fun s => sameI I (instG G s)) = true := by
                rw [List.take_length, List.any_eq_true]
                obtain ⟨s, hs, he⟩ := hex.out
                exact ⟨s, hs, by rw [HI.out, he]; exact sameI_self _⟩
              rw [hyes]
              go_wp2_with fail
              go_roundw
              case rel => exact ⟨k + 1, hlt, by go_num, hbr2⟩
              case measure => simp [intOf]; omega
        · obtain rfl : k = F.rules.length := by omega
          have hkI : ¬ (F.rules.length : Int) < (F.rules.length : Int) := by omega
          go_wp2_with fail
          go_ret
          exact ⟨rfl, below_step hbr.out BW5.out⟩
end Go.Proofs.YtaedgpcmkagpeaaGreat
