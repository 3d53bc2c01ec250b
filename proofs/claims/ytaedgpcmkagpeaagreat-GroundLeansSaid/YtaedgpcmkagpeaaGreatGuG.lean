/-
  Layer 16, the law: GroundLeans.
-/
import Derived.Test.YtaedgpcmkagpeaaGreatGuF
namespace Go.Proofs.YtaedgpcmkagpeaaGreat
open Go Go.RowKit

theorem same_b {S T : Nat → Prop} {w : World} {v u : Value} {a b : List Cell} (ha : Seq cellE S w v a) (hb : Seq cellE T w u b) : Calls Tryz.prog 28 #[v, u] w (RetV (.bool (decide (a = b))) w) :=
  (SameT_spec ha hb).mono fun _ _ h => ⟨by rw [h.1], h.2.below _⟩
def litB (i : Nat) (r : Rule) : Bool := decide ((i : Int) ∈ r.pos) || decide ((i : Int) ∈ r.neg)
theorem any_snocU (f : Rule → Bool) {l : List Rule} {k : Nat} (hk : k < l.length) : (l.take (k + 1)).any f = ((l.take k).any f || f l[k]) := by
  rw [List.take_succ_eq_append_getElem hk, List.any_append]; simp

set_option maxHeartbeats 12800000 in
set_option maxRecDepth 100000 in
theorem leans_spec {S : Nat → Prop} {w : World} {v : Value} {g : Prog} {a b : Nat} (hg : ProgV S w v g) (ha : a < 256) (hbb : b < 256) :
    Calls Tryz.prog 9 #[v, .int .u8 a, .int .u8 b] w (RetV (.bool true) w) := by
  replace hg := hg.bnd
  have HL := Lib.hid hg
  have HG := Lib.hid hg
  obtain ⟨va, vr, rfl, hA, hR⟩ := hg
  have HA := Lib.hid hA
  have HRl := Lib.hid hR
  obtain ⟨aa, ac, rfl⟩ := hA.shape
  obtain ⟨ra, rc, rfl⟩ := hR.shape
  obtain ⟨W, hW⟩ : ∃ W, W = w.alloc (.cells #[.slice aa g.atoms.length ac, .slice ra g.rules.length rc] 26) := ⟨_, rfl⟩
  have HB := Lib.hid (show Below w.heap.size w W by rw [hW]; exact Seq.way)
  have HP := Lib.hid (show Row 26 W w.heap.size [.slice aa g.atoms.length ac, .slice ra g.rules.length rc] by rw [hW]; exact Row.new w [_, _] _ rfl)
  have HW := Lib.hid hW
  clear hA hR hW HL
  go_enter Tryz.func9, Tryz.ntmps9
  go_upto_region 1 with fail
  rw [← HW.out]
  go_wp2_with fail
  refine head_spec.mono ?_
  rintro e w1 ⟨rfl, hb1⟩
  have HP1 := Lib.hid (rowTo HP.out hb1)
  have B1 := Lib.hid (below_step hb1 HB.out)
  clear hb1
  have d0 := HP1.out.cell (j := 0) (by simp)
  have d1 := HP1.out.cell (j := 1) (by simp)
  have lP := HP1.out.lt
  simp only [List.getElem_cons_zero, List.getElem_cons_succ] at d0 d1
  go_wp2_with fail
  refine (GreatL_spec (HG.out.at B1.out)).mono ?_
  rintro e w2 ⟨rfl, hb2⟩
  have HP2 := Lib.hid (rowTo HP1.out hb2)
  have B2 := Lib.hid (below_step hb2 B1.out)
  clear hb2 d0 d1 lP
  have d0 := HP2.out.cell (j := 0) (by simp)
  have d1 := HP2.out.cell (j := 1) (by simp)
  have lP := HP2.out.lt
  simp only [List.getElem_cons_zero, List.getElem_cons_succ] at d0 d1
  cases hbig : bigG g with
  | true =>
    clear hbig
    go_wp2_with fail
    go_ret
    exact ⟨rfl, B2.out⟩
  | false =>
    have hf := few_of hbig
    have HF := Lib.hid hf
    clear hf hbig
    go_wp2_with fail
    refine (RightG_spec (HG.out.at B2.out) (fun t ht => Nat.le_trans (HF.out.t t ht) (by omega)) (by have := HF.out.a; omega)).mono ?_
    rintro e w3 ⟨rfl, hb3⟩
    have HP3 := Lib.hid (rowTo HP2.out hb3)
    have B3 := Lib.hid (below_step hb3 B2.out)
    clear hb3 d0 d1 lP
    have d0 := HP3.out.cell (j := 0) (by simp)
    have d1 := HP3.out.cell (j := 1) (by simp)
    have lP := HP3.out.lt
    simp only [List.getElem_cons_zero, List.getElem_cons_succ] at d0 d1
    cases hrt : rightG g with
    | false =>
      clear hrt
      go_wp2_with fail
      go_ret
      exact ⟨rfl, B3.out⟩
    | true =>
      have HRg := Lib.hid (rightG_iff.1 hrt)
      clear hrt
      by_cases hn0 : g.atoms.length = 0
      · have hnI : (g.atoms.length : Int) = 0 := by omega
        go_wp2_with fail
        go_ret
        exact ⟨rfl, B3.out⟩
      · have hnI : ¬ (g.atoms.length : Int) = 0 := by omega
        obtain ⟨n, hnv⟩ : ∃ n, n = a % g.atoms.length := ⟨_, rfl⟩
        have hnl : n < g.atoms.length := by rw [hnv]; exact Nat.mod_lt _ (by omega)
        have hmI : (0 : Int) < (g.atoms.length : Int) := by omega
        have hm1 : (1 : Int) ≤ (g.atoms.length : Int) := by omega
        have hrem : (a : Int) % (g.atoms.length : Int) = (n : Int) := by rw [hnv]; rfl
        have hrem2 : (a : Int).tmod (g.atoms.length : Int) = (n : Int) := by rw [Int.tmod_eq_emod_of_nonneg (by omega)]; exact hrem
        have hL := Lib.hid (cut_law HRg.out HF.out hnl)
        have hself := hL.out.self HRg.out hnl
        have hal := HF.out.a
        have hrl := HF.out.r
        clear hnv hn0
        go_wp2_with fail
        refine (CutP_spec ((HG.out.at' B3.out).at' Seq.way) HRg.out (by omega) (by omega)).mono ?_
        rintro e w4 ⟨v4, rfl, hb4, hg4⟩
        replace hb4 := below_step hb4 (Seq.way : Below w3.heap.size w3 _)
        obtain ⟨C, hC⟩ : ∃ C, C = cutG g (n : Int) := ⟨_, rfl⟩
        rw [← hC] at hg4 hL hself
        clear hC hnI hmI hm1 hrem hrem2
        have HP4 := Lib.hid (rowTo HP3.out hb4)
        have B4 := Lib.hid (below_step hb4 B3.out)
        obtain ⟨va, vr, rfl, hA, hR⟩ := hg4
        have HGA4 := Lib.hid hA.bnd
        have HGR4 := Lib.hid hR.bnd
        obtain ⟨aa4, ac4, rfl⟩ := hA.shape
        obtain ⟨ra4, rc4, rfl⟩ := hR.shape
        have Hb4 := Lib.hid hb4
        clear hb4 hA hR
        obtain ⟨W4, hW4⟩ : ∃ W, W = w4.alloc (.cells #[.slice aa4 C.atoms.length ac4, .slice ra4 C.rules.length rc4] 26) := ⟨_, rfl⟩
        have BB4 := Lib.hid (show Below w4.heap.size w4 W4 by rw [hW4]; exact Seq.way)
        have HQ4 := Lib.hid (show Row 26 W4 w4.heap.size [.slice aa4 C.atoms.length ac4, .slice ra4 C.rules.length rc4] by rw [hW4]; exact Row.new w4 [_, _] _ rfl)
        have HG4 := Lib.hid (show ProgV (fun b => b < w4.heap.size) W4 (.agg #[.slice aa4 C.atoms.length ac4, .slice ra4 C.rules.length rc4]) C from ⟨_, _, rfl, (HGA4.out.at BB4.out).mono (fun _ h _ => h.2) fun _ _ _ => rfl, (HGR4.out.at BB4.out).mono (fun _ h _ => h.2) fun _ _ _ => rfl⟩)
        have BW4 := Lib.hid (below_step BB4.out B4.out)
        have HW4 := Lib.hid hW4
        clear hW4
        go_upto_region 6 with fail
        rw [← HW4.out]
        have HQa := Lib.hid (rowTo HP4.out BB4.out)
        have HGa := Lib.hid (HG.out.at' BW4.out)
        clear d0 d1 lP HGA4 HGR4 hself
        have hca := hL.out.few.a
        have hcr := hL.out.few.r
        have hc0 : 0 < C.atoms.length := by obtain ⟨i, hi, -⟩ := hL.out.atom; omega
        have hcI : ¬ (C.atoms.length : Int) = 0 := by omega
        obtain ⟨k, hkv⟩ : ∃ k, k = b % C.atoms.length := ⟨_, rfl⟩
        have hkl : k < C.atoms.length := by rw [hkv]; exact Nat.mod_lt _ hc0
        have hmI : (0 : Int) < (C.atoms.length : Int) := by omega
        have hm1 : (1 : Int) ≤ (C.atoms.length : Int) := by omega
        have hrem : (b : Int) % (C.atoms.length : Int) = (k : Int) := by rw [hkv]; rfl
        have hrem2 : (b : Int).tmod (C.atoms.length : Int) = (k : Int) := by rw [Int.tmod_eq_emod_of_nonneg (by omega)]; exact hrem
        have hkI : (k : Int) < (C.atoms.length : Int) := by omega
        have hk0 : (0 : Int) ≤ (k : Int) := by omega
        have hkt : ((k : Int)).toNat = k := Int.toNat_natCast k
        obtain ⟨f, hfl, -, hfp, -, -⟩ := hL.out.find k hkl
        have hbk := Lib.hid (hL.out.back k hkl)
        rw [hfp] at hbk
        have hf0 : ¬ (f : Int) < 0 := by omega
        have hcl := cut_len C (k : Int)
        obtain ⟨D, hD⟩ : ∃ D, D = cutG C (k : Int) := ⟨_, rfl⟩
        have HD := Lib.hid hD
        rw [← hD] at hcl hbk
        have hclI : ¬ (D.atoms.length : Int) > (C.atoms.length : Int) := by omega
        have hsm := Lib.hid (show SmG D by rw [HD.out]; exact right_sm (cut_right hL.out.right _) (Nat.le_trans (cut_len C _) (by omega)))
        clear hkv hD
        have d0 := HQa.out.cell (j := 0) (by simp)
        have d1 := HQa.out.cell (j := 1) (by simp)
        have e0 := HQ4.out.cell (j := 0) (by simp)
        have e1 := HQ4.out.cell (j := 1) (by simp)
        have lP := HQa.out.lt
        have lE := HQ4.out.lt
        simp only [List.getElem_cons_zero, List.getElem_cons_succ] at d0 d1 e0 e1
        go_upto_region 9 with fail
        clear hcI hmI hm1 hrem hrem2
        obtain ⟨_, _, ee, hA5, hR5⟩ := HG4.out
        simp only [Value.agg.injEq, Array.mk.injEq, List.cons.injEq, and_true] at ee
        obtain ⟨rfl, rfl⟩ := ee
        obtain ⟨_, _, ee, -, -, -, -, x5⟩ := hA5
        simp only [Value.slice.injEq, true_and] at ee
        obtain ⟨rfl, rfl⟩ := ee
        obtain ⟨b4, off4, p1, n1, rfl, -, hb, c0, hX⟩ := x5.seq hkl
        obtain ⟨x, hx⟩ : ∃ x, x = C.atoms[k] := ⟨_, rfl⟩
        rw [← hx] at c0 hX hfp
        have HX := Lib.hid hX
        have Hfp := Lib.hid hfp
        clear hx hX x5 hR5 hfp
        have Hkeep := fun {Wk : World} (hW : Below W4.heap.size W4 Wk) => Lib.hid (show Wk.cell? ⟨w.heap.size, 0, none⟩ = some (.slice aa g.atoms.length ac) ∧ Wk.cell? ⟨w.heap.size, 1, none⟩ = some (.slice ra g.rules.length rc) ∧ Wk.cell? ⟨w4.heap.size, 0, none⟩ = some (.slice (some ⟨b4, off4, none⟩) C.atoms.length ac4) ∧ Wk.cell? ⟨w4.heap.size, 1, none⟩ = some (.slice ra4 C.rules.length rc4) ∧ Wk.cell? ⟨b4, off4 + k, none⟩ = some (.slice p1 x.length n1) from ⟨(hW.cell (p := ⟨w.heap.size, 0, none⟩) lP).trans d0, (hW.cell (p := ⟨w.heap.size, 1, none⟩) lP).trans d1, (hW.cell (p := ⟨w4.heap.size, 0, none⟩) lE).trans e0, (hW.cell (p := ⟨w4.heap.size, 1, none⟩) lE).trans e1, (hW.cell (p := ⟨b4, off4 + k, none⟩) hb).trans c0⟩)
        (try simp only [List.append_eq, List.cons_append, List.nil_append])
        refine wp_region_noPanic ?_
        refine wp_region_held_drew (S := fun w' => w'.cell? ⟨w.heap.size, 0, none⟩ = some (.slice aa g.atoms.length ac) ∧ w'.cell? ⟨w.heap.size, 1, none⟩ = some (.slice ra g.rules.length rc) ∧ w'.cell? ⟨w4.heap.size, 0, none⟩ = some (.slice (some ⟨b4, off4, none⟩) C.atoms.length ac4) ∧ w'.cell? ⟨w4.heap.size, 1, none⟩ = some (.slice ra4 C.rules.length rc4) ∧ w'.cell? ⟨b4, off4 + k, none⟩ = some (.slice p1 x.length n1)) (by kernel_rfl) ?_ (fun hHeld => ?_)
        · exact (Hkeep (Below.drew (Below.refl _ _))).out
        refine wpAnyH_take1 (i := 0) (oi := _) (v := ?_) (by kernel_rfl) rfl (by kernel_rfl) (fun _ _ _ h => h) (Or.inl ⟨by rfl, ?_⟩) (by assumption) ?_
        rotate_left 1
        · intro w hSw; (try dsimp only at hSw); go_simp; (with_reducible rfl)
        (try simp only [Act.put, List.getElem_toArray, List.getElem_cons_zero, List.setIfInBounds_toArray, List.set_cons_zero, List.set_cons_succ])
        refine wpAnyH_take1 (i := 1) (oi := _) (v := ?_) (by kernel_rfl) rfl (by kernel_rfl) (fun _ _ _ h => h) (Or.inl ⟨by rfl, ?_⟩) (by assumption) ?_
        rotate_left 1
        · intro w hSw; (try dsimp only at hSw); go_simp; (with_reducible rfl)
        (try simp only [Act.put, List.getElem_toArray, List.getElem_cons_zero, List.getElem_cons_succ, List.setIfInBounds_toArray, List.set_cons_zero, List.set_cons_succ])
        refine wpAnyH_take1 (i := 2) (oi := _) (v := ?_) (by kernel_rfl) rfl (by kernel_rfl) (fun _ _ _ h => h) (Or.inl ⟨by rfl, ?_⟩) (by assumption) ?_
        rotate_left 1
        · intro w hSw; (try dsimp only at hSw); go_simp; (with_reducible rfl)
        (try simp only [Act.put, List.getElem_toArray, List.getElem_cons_zero, List.getElem_cons_succ, List.setIfInBounds_toArray, List.set_cons_zero, List.set_cons_succ])
        refine wpAnyH_take1 (i := 3) (oi := _) (v := ?_) (by kernel_rfl) rfl (by kernel_rfl) (fun _ _ _ h => h) (Or.inl ⟨by rfl, ?_⟩) (by assumption) ?_
        rotate_left 1
        · intro w hSw; (try dsimp only at hSw); go_simp; (with_reducible rfl)
        (try simp only [Act.put, List.getElem_toArray, List.getElem_cons_zero, List.getElem_cons_succ, List.setIfInBounds_toArray, List.set_cons_zero, List.set_cons_succ])
        refine wpAnyH_take1 (i := 4) (oi := _) (v := ?_) (by kernel_rfl) rfl (by kernel_rfl) (fun _ _ _ h => h) (Or.inl ⟨by rfl, ?_⟩) (by assumption) ?_
        rotate_left 1
        · intro w hSw; (try dsimp only at hSw); go_simp; (with_reducible rfl)
        (try simp only [Act.put, List.getElem_toArray, List.getElem_cons_zero, List.getElem_cons_succ, List.setIfInBounds_toArray, List.set_cons_zero, List.set_cons_succ])
        refine wpAnyH_take1 (i := 5) (oi := _) (v := ?_) (by kernel_rfl) rfl (by kernel_rfl) (fun _ _ _ h => h) (Or.inl ⟨by rfl, ?_⟩) (by assumption) ?_
        rotate_left 1
        · intro w hSw; (try dsimp only at hSw); go_simp; (with_reducible rfl)
        (try simp only [Act.put, List.getElem_toArray, List.getElem_cons_zero, List.getElem_cons_succ, List.setIfInBounds_toArray, List.set_cons_zero, List.set_cons_succ])
        refine wpAnyH_one (i := 6) (by kernel_rfl) rfl (by rfl) fun K hK => ?_
        go_simp
        refine ((find_as Hfp.out (HGa.out.at' Seq.way) (HX.out.at Seq.way) HRg.out.srt (by omega))).mono ?_
        rintro e y1 ⟨rfl, hy1⟩
        have HY1 := below_step hy1 (Seq.way : Below W4.heap.size W4 _)
        have zy1 := HY1.size
        (try dsimp only)
        clear hHeld
        refine hK.out _ _ (Hkeep HY1).out fun hHeld => ?_
        clear hK K
        (try simp only [Act.put, List.getElem_toArray, List.getElem_cons_zero, List.getElem_cons_succ, List.setIfInBounds_toArray, List.set_cons_zero, List.set_cons_succ])
        refine wpAnyH_take1 (i := 7) (oi := _) (v := ?_) (by kernel_rfl) rfl (by kernel_rfl) (fun _ _ _ h => h) (Or.inl ⟨by rfl, ?_⟩) (by assumption) ?_
        rotate_left 1
        · intro w hSw; (try dsimp only at hSw); go_simp; (with_reducible rfl)
        (try simp only [Act.put, List.getElem_toArray, List.getElem_cons_zero, List.getElem_cons_succ, List.setIfInBounds_toArray, List.set_cons_zero, List.set_cons_succ])
        refine wpAnyH_done (by kernel_rfl) ?_ _
        refine NoPanic.normal ?_
        have K6 := Lib.hid HY1
        have HGy := Lib.hid (HGa.out.at' K6.out)
        have HCy := Lib.hid (HG4.out.at' K6.out)
        have HQy := Lib.hid (rowTo HQa.out K6.out)
        have HDy := Lib.hid (rowTo HQ4.out K6.out)
        have BWy := Lib.hid (below_step K6.out BW4.out)
        obtain ⟨w6, rfl⟩ : ∃ w6, w6 = y1 := ⟨_, rfl⟩
        clear HY1 zy1 c0 hb Hkeep K6 d0 d1 e0 e1 lP lE
        have d0 := HQy.out.cell (j := 0) (by simp)
        have d1 := HQy.out.cell (j := 1) (by simp)
        have e0 := HDy.out.cell (j := 0) (by simp)
        have e1 := HDy.out.cell (j := 1) (by simp)
        have lP := HQy.out.lt
        have lE := HDy.out.lt
        simp only [List.getElem_cons_zero, List.getElem_cons_succ] at d0 d1 e0 e1
        have hfd := fun (w : World) (a b : Option Addr) (n c m d : Nat) => field_atoms w a b n c m d
        go_upto_region 10 with fail
        have Hkeep := fun {Wk : World} (hW : Below w6.heap.size w6 Wk) => Lib.hid (show Wk.cell? ⟨w.heap.size, 0, none⟩ = some (.slice aa g.atoms.length ac) ∧ Wk.cell? ⟨w.heap.size, 1, none⟩ = some (.slice ra g.rules.length rc) ∧ Wk.cell? ⟨w4.heap.size, 0, none⟩ = some (.slice (some ⟨b4, off4, none⟩) C.atoms.length ac4) ∧ Wk.cell? ⟨w4.heap.size, 1, none⟩ = some (.slice ra4 C.rules.length rc4) from ⟨(hW.cell (p := ⟨w.heap.size, 0, none⟩) lP).trans d0, (hW.cell (p := ⟨w.heap.size, 1, none⟩) lP).trans d1, (hW.cell (p := ⟨w4.heap.size, 0, none⟩) lE).trans e0, (hW.cell (p := ⟨w4.heap.size, 1, none⟩) lE).trans e1⟩)
        (try simp only [List.append_eq, List.cons_append, List.nil_append])
        refine wp_region_noPanic ?_
        refine wp_region_held_drew (S := fun w' => w'.cell? ⟨w.heap.size, 0, none⟩ = some (.slice aa g.atoms.length ac) ∧ w'.cell? ⟨w.heap.size, 1, none⟩ = some (.slice ra g.rules.length rc) ∧ w'.cell? ⟨w4.heap.size, 0, none⟩ = some (.slice (some ⟨b4, off4, none⟩) C.atoms.length ac4) ∧ w'.cell? ⟨w4.heap.size, 1, none⟩ = some (.slice ra4 C.rules.length rc4)) (by kernel_rfl) ?_ (fun hHeld => ?_)
        · exact (Hkeep (Below.drew (Below.refl _ _))).out
        refine wpAnyH_take1 (i := 0) (oi := _) (v := ?_) (by kernel_rfl) rfl (by kernel_rfl) (fun _ _ _ h => h) (Or.inl ⟨by rfl, ?_⟩) (by assumption) ?_
        rotate_left 1
        · intro w hSw; (try dsimp only at hSw); go_simp; (with_reducible rfl)
        (try simp only [Act.put, List.getElem_toArray, List.getElem_cons_zero, List.setIfInBounds_toArray, List.set_cons_zero, List.set_cons_succ])
        refine wpAnyH_take1 (i := 1) (oi := _) (v := ?_) (by kernel_rfl) rfl (by kernel_rfl) (fun _ _ _ h => h) (Or.inl ⟨by rfl, ?_⟩) (by assumption) ?_
        rotate_left 1
        · intro w hSw; (try dsimp only at hSw); go_simp; (with_reducible rfl)
        (try simp only [Act.put, List.getElem_toArray, List.getElem_cons_zero, List.getElem_cons_succ, List.setIfInBounds_toArray, List.set_cons_zero, List.set_cons_succ])
        refine wpAnyH_take1 (i := 2) (oi := _) (v := ?_) (by kernel_rfl) rfl (by kernel_rfl) (fun _ _ _ h => h) (Or.inl ⟨by rfl, ?_⟩) (by assumption) ?_
        rotate_left 1
        · intro w hSw; (try dsimp only at hSw); go_simp; (with_reducible rfl)
        (try simp only [Act.put, List.getElem_toArray, List.getElem_cons_zero, List.getElem_cons_succ, List.setIfInBounds_toArray, List.set_cons_zero, List.set_cons_succ])
        refine wpAnyH_take1 (i := 3) (oi := _) (v := ?_) (by kernel_rfl) rfl (by kernel_rfl) (fun _ _ _ h => h) (Or.inl ⟨by rfl, ?_⟩) (by assumption) ?_
        rotate_left 1
        · intro w hSw; (try dsimp only at hSw); go_simp; (with_reducible rfl)
        (try simp only [Act.put, List.getElem_toArray, List.getElem_cons_zero, List.getElem_cons_succ, List.setIfInBounds_toArray, List.set_cons_zero, List.set_cons_succ])
        refine wpAnyH_take1 (i := 4) (oi := _) (v := ?_) (by kernel_rfl) rfl (by kernel_rfl) (fun _ _ _ h => h) (Or.inl ⟨by rfl, ?_⟩) (by assumption) ?_
        rotate_left 1
        · intro w hSw; (try dsimp only at hSw); go_simp; (with_reducible rfl)
        (try simp only [Act.put, List.getElem_toArray, List.getElem_cons_zero, List.getElem_cons_succ, List.setIfInBounds_toArray, List.set_cons_zero, List.set_cons_succ])
        refine wpAnyH_take1 (i := 6) (oi := _) (v := ?_) (by kernel_rfl) rfl (by kernel_rfl) (fun _ _ _ h => h) (Or.inl ⟨by rfl, ?_⟩) (by assumption) ?_
        rotate_left 1
        · intro w hSw; (try dsimp only at hSw); go_simp; (with_reducible rfl)
        (try simp only [Act.put, List.getElem_toArray, List.getElem_cons_zero, List.getElem_cons_succ, List.setIfInBounds_toArray, List.set_cons_zero, List.set_cons_succ])
        refine wpAnyH_take1 (i := 7) (oi := _) (v := ?_) (by kernel_rfl) rfl (by kernel_rfl) (fun _ _ _ h => h) (Or.inl ⟨by rfl, ?_⟩) (by assumption) ?_
        rotate_left 1
        · intro w hSw; (try dsimp only at hSw); go_simp; (with_reducible rfl)
        (try simp only [Act.put, List.getElem_toArray, List.getElem_cons_zero, List.getElem_cons_succ, List.setIfInBounds_toArray, List.set_cons_zero, List.set_cons_succ])
        refine wpAnyH_one (i := 5) (by kernel_rfl) rfl (by rfl) fun K hK => ?_
        go_simp
        refine ((CutP_spec (HCy.out.at' Seq.way) hL.out.right (by omega) (by omega))).mono ?_
        rintro e y1 ⟨v1, rfl, hy1, hg1⟩
        have HY1 := below_step hy1 (Seq.way : Below w6.heap.size w6 _)
        have zy1 := HY1.size
        (try dsimp only)
        clear hHeld
        refine hK.out _ _ (Hkeep HY1).out fun hHeld => ?_
        clear hK K
        (try simp only [Act.put, List.getElem_toArray, List.getElem_cons_zero, List.getElem_cons_succ, List.setIfInBounds_toArray, List.set_cons_zero, List.set_cons_succ])
        rw [← HD.out] at hg1
        have HG1c := Lib.hid hg1
        obtain ⟨x1, x2, rfl, -, -⟩ := hg1
        refine wpAnyH_one (i := 8) (by kernel_rfl) rfl (by rfl) fun K hK => ?_
        go_simp
        refine ((CutP_spec (HGy.out.at' Seq.way) HRg.out (by omega) (by omega))).mono ?_
        rintro e y2 ⟨v2, rfl, hy2, hg2⟩
        have HY2 := below_step hy2 (Seq.way : Below w6.heap.size w6 _)
        have zy2 := HY2.size
        (try dsimp only)
        clear hHeld
        refine hK.out _ _ (Hkeep HY2).out fun hHeld => ?_
        clear hK K
        (try simp only [Act.put, List.getElem_toArray, List.getElem_cons_zero, List.getElem_cons_succ, List.setIfInBounds_toArray, List.set_cons_zero, List.set_cons_succ])
        rw [← hbk.out] at hg2
        have HG2c := Lib.hid hg2
        obtain ⟨x3, x4, rfl, -, -⟩ := hg2
        refine wpAnyH_one (i := 9) (by kernel_rfl) rfl (by rfl) fun K hK => ?_
        go_simp
        refine ((sameg_as rfl (HG1c.out.at' Seq.way) (HG2c.out.at' Seq.way) hsm.out hsm.out)).mono ?_
        rintro e y3 ⟨rfl, hy3⟩
        have HY3 := below_step hy3 (Seq.way : Below w6.heap.size w6 _)
        have zy3 := HY3.size
        (try dsimp only)
        clear hHeld
        refine hK.out _ _ (Hkeep HY3).out fun hHeld => ?_
        clear hK K
        (try simp only [Act.put, List.getElem_toArray, List.getElem_cons_zero, List.getElem_cons_succ, List.setIfInBounds_toArray, List.set_cons_zero, List.set_cons_succ])
        refine wpAnyH_take1 (i := 10) (oi := _) (v := ?_) (by kernel_rfl) rfl (by kernel_rfl) (fun _ _ _ h => h) (Or.inl ⟨by rfl, ?_⟩) (by assumption) ?_
        rotate_left 1
        · intro w hSw; (try dsimp only at hSw); go_simp; (with_reducible rfl)
        (try simp only [Act.put, List.getElem_toArray, List.getElem_cons_zero, List.getElem_cons_succ, List.setIfInBounds_toArray, List.set_cons_zero, List.set_cons_succ])
        refine wpAnyH_take1 (i := 11) (oi := _) (v := ?_) (by kernel_rfl) rfl (by kernel_rfl) (fun _ _ _ h => h) (Or.inl ⟨by rfl, ?_⟩) (by assumption) ?_
        rotate_left 1
        · intro w hSw; (try dsimp only at hSw); go_simp; (with_reducible rfl)
        (try simp only [Act.put, List.getElem_toArray, List.getElem_cons_zero, List.getElem_cons_succ, List.setIfInBounds_toArray, List.set_cons_zero, List.set_cons_succ])
        refine wpAnyH_take1 (i := 12) (oi := _) (v := ?_) (by kernel_rfl) rfl (by kernel_rfl) (fun _ _ _ h => h) (Or.inl ⟨by rfl, ?_⟩) (by assumption) ?_
        rotate_left 1
        · intro w hSw; (try dsimp only at hSw); go_simp; (with_reducible rfl)
        (try simp only [Act.put, List.getElem_toArray, List.getElem_cons_zero, List.getElem_cons_succ, List.setIfInBounds_toArray, List.set_cons_zero, List.set_cons_succ])
        refine wpAnyH_take1 (i := 13) (oi := _) (v := ?_) (by kernel_rfl) rfl (by kernel_rfl) (fun _ _ _ h => h) (Or.inl ⟨by rfl, ?_⟩) (by assumption) ?_
        rotate_left 1
        · intro w hSw; (try dsimp only at hSw); go_simp; (with_reducible rfl)
        (try simp only [Act.put, List.getElem_toArray, List.getElem_cons_zero, List.getElem_cons_succ, List.setIfInBounds_toArray, List.set_cons_zero, List.set_cons_succ])
        refine wpAnyH_take1 (i := 14) (oi := _) (v := ?_) (by kernel_rfl) rfl (by kernel_rfl) (fun _ _ _ h => h) (Or.inl ⟨by rfl, ?_⟩) (by assumption) ?_
        rotate_left 1
        · intro w hSw; (try dsimp only at hSw); go_simp; (with_reducible rfl)
        (try simp only [Act.put, List.getElem_toArray, List.getElem_cons_zero, List.getElem_cons_succ, List.setIfInBounds_toArray, List.set_cons_zero, List.set_cons_succ])
        refine wpAnyH_take1 (i := 18) (oi := _) (v := ?_) (by kernel_rfl) rfl (by kernel_rfl) (fun _ _ _ h => h) (Or.inl ⟨by rfl, ?_⟩) (by assumption) ?_
        rotate_left 1
        · intro w hSw; (try dsimp only at hSw); go_simp; (with_reducible rfl)
        (try simp only [Act.put, List.getElem_toArray, List.getElem_cons_zero, List.getElem_cons_succ, List.setIfInBounds_toArray, List.set_cons_zero, List.set_cons_succ])
        refine wpAnyH_take1 (i := 19) (oi := _) (v := ?_) (by kernel_rfl) rfl (by kernel_rfl) (fun _ _ _ h => h) (Or.inl ⟨by rfl, ?_⟩) (by assumption) ?_
        rotate_left 1
        · intro w hSw; (try dsimp only at hSw); go_simp; (with_reducible rfl)
        (try simp only [Act.put, List.getElem_toArray, List.getElem_cons_zero, List.getElem_cons_succ, List.setIfInBounds_toArray, List.set_cons_zero, List.set_cons_succ])
        refine wpAnyH_take1 (i := 20) (oi := _) (v := ?_) (by kernel_rfl) rfl (by kernel_rfl) (fun _ _ _ h => h) (Or.inl ⟨by rfl, ?_⟩) (by assumption) ?_
        rotate_left 1
        · intro w hSw; (try dsimp only at hSw); go_simp; (with_reducible rfl)
        (try simp only [Act.put, List.getElem_toArray, List.getElem_cons_zero, List.getElem_cons_succ, List.setIfInBounds_toArray, List.set_cons_zero, List.set_cons_succ])
        refine wpAnyH_one (i := 15) (by kernel_rfl) rfl (by rfl) fun K hK => ?_
        go_simp
        refine ((CutP_spec (HCy.out.at' Seq.way) hL.out.right (by omega) (by omega))).mono ?_
        rintro e y4 ⟨v4, rfl, hy4, hg4⟩
        have HY4 := below_step hy4 (Seq.way : Below w6.heap.size w6 _)
        have zy4 := HY4.size
        (try dsimp only)
        clear hHeld
        refine hK.out _ _ (Hkeep HY4).out fun hHeld => ?_
        clear hK K
        (try simp only [Act.put, List.getElem_toArray, List.getElem_cons_zero, List.getElem_cons_succ, List.setIfInBounds_toArray, List.set_cons_zero, List.set_cons_succ])
        rw [← HD.out] at hg4
        obtain ⟨x5, x6, rfl, hg5, hg6⟩ := hg4
        obtain ⟨s1, s2, rfl⟩ := hg5.shape
        obtain ⟨s3, s4, rfl⟩ := hg6.shape
        clear hg5 hg6
        refine wpAnyH_take1 (i := 16) (oi := _) (v := ?_) (by kernel_rfl) rfl (by kernel_rfl) (fun _ _ _ h => h) (Or.inl ⟨by rfl, ?_⟩) (by assumption) ?_
        rotate_left 1
        · intro w hSw; (try dsimp only at hSw); go_simp; (with_reducible rfl)
        (try simp only [Act.put, List.getElem_toArray, List.getElem_cons_zero, List.getElem_cons_succ, List.setIfInBounds_toArray, List.set_cons_zero, List.set_cons_succ])
        refine wpAnyH_take1 (i := 17) (oi := _) (v := ?_) (by kernel_rfl) rfl (by kernel_rfl) (fun _ _ _ h => h) (Or.inl ⟨by rfl, ?_⟩) (by assumption) ?_
        rotate_left 1
        · intro w hSw; (try dsimp only at hSw); go_simp; (with_reducible rfl)
        (try simp only [Act.put, List.getElem_toArray, List.getElem_cons_zero, List.getElem_cons_succ, List.setIfInBounds_toArray, List.set_cons_zero, List.set_cons_succ])
        refine wpAnyH_take1 (i := 21) (oi := _) (v := ?_) (by kernel_rfl) rfl (by kernel_rfl) (fun _ _ _ h => h) (Or.inl ⟨by rfl, ?_⟩) (by assumption) ?_
        rotate_left 1
        · intro w hSw; (try dsimp only at hSw); go_simp; (with_reducible rfl)
        (try simp only [Act.put, List.getElem_toArray, List.getElem_cons_zero, List.getElem_cons_succ, List.setIfInBounds_toArray, List.set_cons_zero, List.set_cons_succ])
        refine wpAnyH_take1 (i := 22) (oi := _) (v := ?_) (by kernel_rfl) rfl (by kernel_rfl) (fun _ _ _ h => h) (Or.inl ⟨by rfl, ?_⟩) (by assumption) ?_
        rotate_left 1
        · intro w hSw; (try dsimp only at hSw); go_simp; (with_reducible rfl)
        (try simp only [Act.put, List.getElem_toArray, List.getElem_cons_zero, List.getElem_cons_succ, List.setIfInBounds_toArray, List.set_cons_zero, List.set_cons_succ])
        refine wpAnyH_done (by kernel_rfl) ?_ _
        refine NoPanic.normal ?_
        have K7 := Lib.hid HY4
        have HG5 := Lib.hid (HGy.out.at' K7.out)
        have HC5 := Lib.hid (HCy.out.at' K7.out)
        have HQ5 := Lib.hid (rowTo HQy.out K7.out)
        have HD5 := Lib.hid (rowTo HDy.out K7.out)
        have BW5 := Lib.hid (below_step K7.out BWy.out)
        obtain ⟨w5, rfl⟩ : ∃ w5, w5 = y4 := ⟨_, rfl⟩
        have d0 := HQ5.out.cell (j := 0) (by simp)
        have d1 := HQ5.out.cell (j := 1) (by simp)
        have e0 := HD5.out.cell (j := 0) (by simp)
        have e1 := HD5.out.cell (j := 1) (by simp)
        have lP := HQ5.out.lt
        have lE := HD5.out.lt
        simp only [List.getElem_cons_zero, List.getElem_cons_succ] at d0 d1 e0 e1
        clear HY1 HY2 HY3 HY4 K7 HQy HDy HGy HCy Hkeep zy1 zy2 zy3 zy4 hfd hclI hkI hk0 hkt
        go_wp2_with fail
        clear d0 d1 e0 e1 lP lE
        go_loopw [12] (fun q wr => ∃ i : Nat, i ≤ C.atoms.length ∧ q = .int .i64 i ∧ Hid (Below w5.heap.size w5 wr)) (fun q _ => C.atoms.length - (intOf q).toNat)
        case atStart => exact ⟨0, Nat.zero_le _, rfl, Lib.hid (Below.refl _ _)⟩
        case round =>
          obtain ⟨i, hi, rfl, hbr⟩ := hrel
          have HGr := Lib.hid (HG5.out.at' hbr.out)
          have HCr := Lib.hid (HC5.out.at' hbr.out)
          have HQr := Lib.hid (rowTo HQ5.out hbr.out)
          have HDr := Lib.hid (rowTo HD5.out hbr.out)
          have d0 := HQr.out.cell (j := 0) (by simp)
          have d1 := HQr.out.cell (j := 1) (by simp)
          have e0 := HDr.out.cell (j := 0) (by simp)
          have e1 := HDr.out.cell (j := 1) (by simp)
          have lP := HQr.out.lt
          have lE := HDr.out.lt
          simp only [List.getElem_cons_zero, List.getElem_cons_succ] at d0 d1 e0 e1
          by_cases hlt : i < C.atoms.length
          · have hiI : (i : Int) < (C.atoms.length : Int) := by omega
            have hi0 : (0 : Int) ≤ (i : Int) := by omega
            obtain ⟨_, _, ee, hA5, hR5⟩ := HCr.out
            simp only [Value.agg.injEq, Array.mk.injEq, List.cons.injEq, and_true] at ee
            obtain ⟨rfl, rfl⟩ := ee
            obtain ⟨_, _, ee, -, -, -, -, x5⟩ := hA5
            simp only [Value.slice.injEq, true_and] at ee
            obtain ⟨rfl, rfl⟩ := ee
            obtain ⟨bi, offi, p2, n2, ebi, -, hbi, c0, hX⟩ := x5.seq hlt
            simp only [Option.some.injEq, Addr.mk.injEq, and_true] at ebi
            obtain ⟨rfl, rfl⟩ := ebi
            obtain ⟨_, _, ee, hA6, hR6⟩ := HGr.out
            simp only [Value.agg.injEq, Array.mk.injEq, List.cons.injEq, and_true] at ee
            obtain ⟨rfl, rfl⟩ := ee
            obtain ⟨_, _, ee, -, -, -, -, x6⟩ := hA6
            simp only [Value.slice.injEq, true_and] at ee
            obtain ⟨rfl, rfl⟩ := ee
            obtain ⟨bg, offg, p3, n3, rfl, -, hbg, f0, hZ⟩ := x6.seq hnl
            have hnI : (n : Int) < (g.atoms.length : Int) := by omega
            have hn0 : (0 : Int) ≤ (n : Int) := by omega
            have hnt : ((n : Int)).toNat = n := Int.toNat_natCast n
            have hlit := Lib.hid (hL.out.lit i hlt)
            obtain ⟨x, hx⟩ : ∃ x, x = C.atoms[i] := ⟨_, rfl⟩
            obtain ⟨z, hz⟩ : ∃ z, z = g.atoms[n] := ⟨_, rfl⟩
            have hlit2 := Lib.hid (show x = z ∨ (C.rules.any (litB i)) = true from hlit.out.elim (fun ⟨_, e⟩ => .inl (by rw [hx, hz, e])) fun ⟨r, hr, h⟩ => .inr (List.any_eq_true.2 ⟨r, hr, by unfold litB; simpa using h⟩))
            rw [← hx] at c0 hX
            rw [← hz] at f0 hZ
            have HX2 := Lib.hid hX
            have HZ := Lib.hid hZ
            obtain ⟨wo, rfl⟩ : ∃ wo, wo = wr := ⟨_, rfl⟩
            clear hx hX x5 hR5 hz hZ x6 hR6 hlit
            go_upto_region 15 with fail
            have Hkeep := fun {Wk : World} (hW : Below wo.heap.size wo Wk) => Lib.hid (show Wk.cell? ⟨w.heap.size, 0, none⟩ = some (.slice (some ⟨bg, offg, none⟩) g.atoms.length ac) ∧ Wk.cell? ⟨w4.heap.size, 0, none⟩ = some (.slice (some ⟨b4, off4, none⟩) C.atoms.length ac4) ∧ Wk.cell? ⟨b4, off4 + i, none⟩ = some (.slice p2 x.length n2) ∧ Wk.cell? ⟨bg, offg + n, none⟩ = some (.slice p3 z.length n3) from ⟨(hW.cell (p := ⟨w.heap.size, 0, none⟩) lP).trans d0, (hW.cell (p := ⟨w4.heap.size, 0, none⟩) lE).trans e0, (hW.cell (p := ⟨b4, off4 + i, none⟩) hbi).trans c0, (hW.cell (p := ⟨bg, offg + n, none⟩) hbg).trans f0⟩)
            (try simp only [List.append_eq, List.cons_append, List.nil_append])
            refine wp_region_noPanic ?_
            refine wp_region_held_drew (S := fun w' => w'.cell? ⟨w.heap.size, 0, none⟩ = some (.slice (some ⟨bg, offg, none⟩) g.atoms.length ac) ∧ w'.cell? ⟨w4.heap.size, 0, none⟩ = some (.slice (some ⟨b4, off4, none⟩) C.atoms.length ac4) ∧ w'.cell? ⟨b4, off4 + i, none⟩ = some (.slice p2 x.length n2) ∧ w'.cell? ⟨bg, offg + n, none⟩ = some (.slice p3 z.length n3)) (by kernel_rfl) ?_ (fun hHeld => ?_)
            · exact (Hkeep (Below.drew (Below.refl _ _))).out
            refine wpAnyH_take1 (i := 0) (oi := _) (v := ?_) (by kernel_rfl) rfl (by kernel_rfl) (fun _ _ _ h => h) (Or.inl ⟨by rfl, ?_⟩) (by assumption) ?_
            rotate_left 1
            · intro w hSw; (try dsimp only at hSw); go_simp; (with_reducible rfl)
            (try simp only [Act.put, List.getElem_toArray, List.getElem_cons_zero, List.setIfInBounds_toArray, List.set_cons_zero, List.set_cons_succ])
            refine wpAnyH_take1 (i := 1) (oi := _) (v := ?_) (by kernel_rfl) rfl (by kernel_rfl) (fun _ _ _ h => h) (Or.inl ⟨by rfl, ?_⟩) (by assumption) ?_
            rotate_left 1
            · intro w hSw; (try dsimp only at hSw); go_simp; (with_reducible rfl)
            (try simp only [Act.put, List.getElem_toArray, List.getElem_cons_zero, List.getElem_cons_succ, List.setIfInBounds_toArray, List.set_cons_zero, List.set_cons_succ])
            refine wpAnyH_take1 (i := 2) (oi := _) (v := ?_) (by kernel_rfl) rfl (by kernel_rfl) (fun _ _ _ h => h) (Or.inl ⟨by rfl, ?_⟩) (by assumption) ?_
            rotate_left 1
            · intro w hSw; (try dsimp only at hSw); go_simp; (with_reducible rfl)
            (try simp only [Act.put, List.getElem_toArray, List.getElem_cons_zero, List.getElem_cons_succ, List.setIfInBounds_toArray, List.set_cons_zero, List.set_cons_succ])
            refine wpAnyH_take1 (i := 3) (oi := _) (v := ?_) (by kernel_rfl) rfl (by kernel_rfl) (fun _ _ _ h => h) (Or.inl ⟨by rfl, ?_⟩) (by assumption) ?_
            rotate_left 1
            · intro w hSw; (try dsimp only at hSw); go_simp; (with_reducible rfl)
            (try simp only [Act.put, List.getElem_toArray, List.getElem_cons_zero, List.getElem_cons_succ, List.setIfInBounds_toArray, List.set_cons_zero, List.set_cons_succ])
            refine wpAnyH_take1 (i := 4) (oi := _) (v := ?_) (by kernel_rfl) rfl (by kernel_rfl) (fun _ _ _ h => h) (Or.inl ⟨by rfl, ?_⟩) (by assumption) ?_
            rotate_left 1
            · intro w hSw; (try dsimp only at hSw); go_simp; (with_reducible rfl)
            (try simp only [Act.put, List.getElem_toArray, List.getElem_cons_zero, List.getElem_cons_succ, List.setIfInBounds_toArray, List.set_cons_zero, List.set_cons_succ])
            refine wpAnyH_take1 (i := 5) (oi := _) (v := ?_) (by kernel_rfl) rfl (by kernel_rfl) (fun _ _ _ h => h) (Or.inl ⟨by rfl, ?_⟩) (by assumption) ?_
            rotate_left 1
            · intro w hSw; (try dsimp only at hSw); go_simp; (with_reducible rfl)
            (try simp only [Act.put, List.getElem_toArray, List.getElem_cons_zero, List.getElem_cons_succ, List.setIfInBounds_toArray, List.set_cons_zero, List.set_cons_succ])
            refine wpAnyH_take1 (i := 6) (oi := _) (v := ?_) (by kernel_rfl) rfl (by kernel_rfl) (fun _ _ _ h => h) (Or.inl ⟨by rfl, ?_⟩) (by assumption) ?_
            rotate_left 1
            · intro w hSw; (try dsimp only at hSw); go_simp; (with_reducible rfl)
            (try simp only [Act.put, List.getElem_toArray, List.getElem_cons_zero, List.getElem_cons_succ, List.setIfInBounds_toArray, List.set_cons_zero, List.set_cons_succ])
            refine wpAnyH_take1 (i := 7) (oi := _) (v := ?_) (by kernel_rfl) rfl (by kernel_rfl) (fun _ _ _ h => h) (Or.inl ⟨by rfl, ?_⟩) (by assumption) ?_
            rotate_left 1
            · intro w hSw; (try dsimp only at hSw); go_simp; (with_reducible rfl)
            (try simp only [Act.put, List.getElem_toArray, List.getElem_cons_zero, List.getElem_cons_succ, List.setIfInBounds_toArray, List.set_cons_zero, List.set_cons_succ])
            refine wpAnyH_take1 (i := 8) (oi := _) (v := ?_) (by kernel_rfl) rfl (by kernel_rfl) (fun _ _ _ h => h) (Or.inl ⟨by rfl, ?_⟩) (by assumption) ?_
            rotate_left 1
            · intro w hSw; (try dsimp only at hSw); go_simp; (with_reducible rfl)
            (try simp only [Act.put, List.getElem_toArray, List.getElem_cons_zero, List.getElem_cons_succ, List.setIfInBounds_toArray, List.set_cons_zero, List.set_cons_succ])
            refine wpAnyH_take1 (i := 9) (oi := _) (v := ?_) (by kernel_rfl) rfl (by kernel_rfl) (fun _ _ _ h => h) (Or.inl ⟨by rfl, ?_⟩) (by assumption) ?_
            rotate_left 1
            · intro w hSw; (try dsimp only at hSw); go_simp; (with_reducible rfl)
            (try simp only [Act.put, List.getElem_toArray, List.getElem_cons_zero, List.getElem_cons_succ, List.setIfInBounds_toArray, List.set_cons_zero, List.set_cons_succ])
            refine wpAnyH_one (i := 10) (by kernel_rfl) rfl (by rfl) fun K hK => ?_
            go_simp
            refine ((same_b (HX2.out.at Seq.way) (HZ.out.at Seq.way))).mono ?_
            rintro e y1 ⟨rfl, hy1⟩
            have HY1 := below_step hy1 (Seq.way : Below wo.heap.size wo _)
            have zy1 := HY1.size
            (try dsimp only)
            clear hHeld
            refine hK.out _ _ (Hkeep HY1).out fun hHeld => ?_
            clear hK K
            (try simp only [Act.put, List.getElem_toArray, List.getElem_cons_zero, List.getElem_cons_succ, List.setIfInBounds_toArray, List.set_cons_zero, List.set_cons_succ])
            refine wpAnyH_take1 (i := 11) (oi := _) (v := ?_) (by kernel_rfl) rfl (by kernel_rfl) (fun _ _ _ h => h) (Or.inl ⟨by rfl, ?_⟩) (by assumption) ?_
            rotate_left 1
            · intro w hSw; (try dsimp only at hSw); go_simp; (with_reducible rfl)
            (try simp only [Act.put, List.getElem_toArray, List.getElem_cons_zero, List.getElem_cons_succ, List.setIfInBounds_toArray, List.set_cons_zero, List.set_cons_succ])
            refine wpAnyH_done (by kernel_rfl) ?_ _
            refine NoPanic.normal ?_
            have K1 := Lib.hid (below_step HY1 hbr.out)
            obtain ⟨w7, rfl⟩ : ∃ w7, w7 = y1 := ⟨_, rfl⟩
            have HQr := Lib.hid (rowTo HQ5.out K1.out)
            have HDr := Lib.hid (rowTo HD5.out K1.out)
            have d0 := HQr.out.cell (j := 0) (by simp)
            have d1 := HQr.out.cell (j := 1) (by simp)
            have e0 := HDr.out.cell (j := 0) (by simp)
            have e1 := HDr.out.cell (j := 1) (by simp)
            have lP := HQr.out.lt
            have lE := HDr.out.lt
            simp only [List.getElem_cons_zero, List.getElem_cons_succ] at d0 d1 e0 e1
            obtain ⟨b0, hb0⟩ : ∃ b0, b0 = decide (x = z) := ⟨_, rfl⟩
            have Hb0 := Lib.hid hb0
            clear HY1 zy1 c0 f0 hbi hbg Hkeep hnI hn0 hnt
            rw [← hb0]
            clear hb0
            go_wp2_with fail
            clear d0 d1 e0 e1 lP lE
            go_loopw [13, 14] (fun o q wr => ∃ j : Nat, j ≤ C.rules.length ∧ q = .int .i64 j ∧ o = .bool (b0 || (C.rules.take j).any (litB i)) ∧ Hid (Below w7.heap.size w7 wr)) (fun _ q _ => C.rules.length - (intOf q).toNat)
            case atStart => exact ⟨0, Nat.zero_le _, rfl, by simp, Lib.hid (Below.refl _ _)⟩
            case round =>
              obtain ⟨j, hj, rfl, rfl, hbz⟩ := hrel
              have K4 := Lib.hid (below_step hbz.out K1.out)
              have HQr := Lib.hid (rowTo HQ5.out K4.out)
              have HDr := Lib.hid (rowTo HD5.out K4.out)
              have d0 := HQr.out.cell (j := 0) (by simp)
              have d1 := HQr.out.cell (j := 1) (by simp)
              have e0 := HDr.out.cell (j := 0) (by simp)
              have e1 := HDr.out.cell (j := 1) (by simp)
              have lP := HQr.out.lt
              have lE := HDr.out.lt
              simp only [List.getElem_cons_zero, List.getElem_cons_succ] at d0 d1 e0 e1
              by_cases hjl : j < C.rules.length
              · have hjI : (j : Int) < (C.rules.length : Int) := by omega
                have hj0 : (0 : Int) ≤ (j : Int) := by omega
                have HCz := Lib.hid (HC5.out.at' K4.out)
                obtain ⟨_, _, ee, -, hR5⟩ := HCz.out
                simp only [Value.agg.injEq, Array.mk.injEq, List.cons.injEq, and_true] at ee
                obtain ⟨rfl, rfl⟩ := ee
                obtain ⟨_, _, ee, -, -, -, -, x7⟩ := hR5
                simp only [Value.slice.injEq, true_and] at ee
                obtain ⟨rfl, rfl⟩ := ee
                obtain ⟨br, fr, pa, pc, na, nc, rfl, -, hbr1, -, r1, r2, -, rp, rn⟩ := x7.rule hjl
                have hst := Lib.hid (any_snocU (litB i) hjl)
                obtain ⟨r, hr⟩ : ∃ r, r = C.rules[j] := ⟨_, rfl⟩
                rw [← hr] at r1 r2 rp rn hst
                have HRp := Lib.hid rp
                have HRn := Lib.hid rn
                obtain ⟨b1, hb1⟩ : ∃ b1, b1 = (C.rules.take j).any (litB i) := ⟨_, rfl⟩
                rw [← hb1] at hst ⊢
                have hlb := Lib.hid (show litB i r = (decide ((i : Int) ∈ r.pos) || decide ((i : Int) ∈ r.neg)) from rfl)
                obtain ⟨b2, hb2⟩ : ∃ b2, b2 = (b0 || b1) := ⟨_, rfl⟩
                have hst2 := Lib.hid (show (b0 || (C.rules.take (j + 1)).any (litB i)) = (b2 || litB i r) by rw [hst.out, hb2, Bool.or_assoc])
                rw [← hb2]
                clear hr rp rn x7 hb1 hb2 hst
                cases b2 with
                | true =>
                  rw [Bool.true_or] at hst2
                  go_wp2_with fail
                  go_roundw
                  case rel => exact ⟨j + 1, hjl, by go_num, by rw [hst2.out], hbz⟩
                  case measure => simp [intOf]; omega
                | false =>
                  rw [Bool.false_or, hlb.out] at hst2
                  go_wp2_with fail
                  refine (InT_spec (HRp.out.at Seq.way)).mono ?_
                  rintro e _ ⟨rfl, rfl⟩
                  obtain ⟨c1, hc1⟩ : ∃ c, c = decide ((i : Int) ∈ r.pos) := ⟨_, rfl⟩
                  rw [← hc1] at hst2 ⊢
                  clear hc1
                  cases c1 with
                  | true =>
                    rw [Bool.true_or] at hst2
                    go_wp2_with fail
                    go_roundw
                    case rel => exact ⟨j + 1, hjl, by go_num, by rw [hst2.out], Lib.hid (by first | exact hbz.out | exact below_step Seq.way hbz.out)⟩
                    case measure => simp [intOf]; omega
                  | false =>
                    rw [Bool.false_or] at hst2
                    go_wp2_with fail
                    refine (InT_spec (HRn.out.at Seq.way)).mono ?_
                    rintro e _ ⟨rfl, rfl⟩
                    go_wp2_with fail
                    go_roundw
                    case rel => exact ⟨j + 1, hjl, by go_num, by rw [hst2.out], Lib.hid (by first | exact hbz.out | exact below_step Seq.way hbz.out)⟩
                    case measure => simp [intOf]; omega
              · obtain rfl : j = C.rules.length := by omega
                have hjI : ¬ (C.rules.length : Int) < (C.rules.length : Int) := by omega
                have hyes : (b0 || (C.rules.take C.rules.length).any (litB i)) = true := by
                  rw [List.take_length, Hb0.out]
                  rcases hlit2.out with h | h
                  · rw [decide_eq_true h, Bool.true_or]
                  · rw [h, Bool.or_true]
                rw [hyes]
                clear hyes
                go_wp2_with fail
                go_roundw
                case rel => exact ⟨i + 1, hlt, by go_num, K4⟩
                case measure => simp [intOf]; omega
          · obtain rfl : i = C.atoms.length := by omega
            have hiI : ¬ (C.atoms.length : Int) < (C.atoms.length : Int) := by omega
            go_wp2_with fail
            go_ret
            exact ⟨rfl, below_step hbr.out BW5.out⟩
end Go.Proofs.YtaedgpcmkagpeaaGreat
