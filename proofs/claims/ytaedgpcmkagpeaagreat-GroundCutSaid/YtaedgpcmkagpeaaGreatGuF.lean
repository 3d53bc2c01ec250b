/-
  Layer 16, the law: GroundCut.
-/
import Derived.Test.YtaedgpcmkagpeaaGreatBxi
namespace Go.Proofs.YtaedgpcmkagpeaaGreat
open Go Go.RowKit

theorem sameall_true {S T : Nat → Prop} {w : World} {v u : Value} {a b : List (List Cell)} (e : a = b) (ha : Seq (seqE cellE) S w v a) (hb : Seq (seqE cellE) T w u b) : Calls Tryz.prog 29 #[v, u] w (RetV (.bool true) w) :=
  (SameAll_spec ha hb).mono fun _ _ h => ⟨by rw [h.1, decide_eq_true e], h.2.below _⟩
theorem same_as {S T : Nat → Prop} {w : World} {v u : Value} {a b : List Cell} (e : a = b) (ha : Seq cellE S w v a) (hb : Seq cellE T w u b) : Calls Tryz.prog 28 #[v, u] w (RetV (.bool true) w) :=
  (SameT_spec ha hb).mono fun _ _ h => ⟨by rw [h.1, decide_eq_true e], h.2.below _⟩
theorem rightR_as {S : Nat → Prop} {w : World} {v : Value} {g : Prog} {b : Bool} (h : rightG g = b) (hg : ProgV S w v g) (hs : ∀ t ∈ g.atoms, t.length ≤ 1000000000) (hn : g.atoms.length ≤ 1000000) :
    Calls Tryz.prog 18 #[v] w (RetV (.bool b) w) := h ▸ RightG_spec hg hs hn
theorem leads_self {g : Prog} (h : RightG g) {n : Nat} (hn : n < g.atoms.length) : n ∈ leadsG g n := (mem_leads h hn).2 .refl
/-- What is so of a cut program. -/
structure CutLaw (g C : Prog) (n : Nat) : Prop where
  eq : cutG g (n : Int) = C
  right : RightG C
  few : FewG C
  find : ∀ i (hi : i < C.atoms.length), ∃ k : Nat, ∃ hk : k < g.atoms.length, g.atoms[k] = C.atoms[i] ∧ posT g.atoms C.atoms[i] = (k : Int) ∧ (ofR C (i : Int)).length = (ofR g (k : Int)).length ∧
    ∀ (j : Nat) (a b : Int), (ofR C (i : Int))[j]? = some a → (ofR g (k : Int))[j]? = some b →
      ∃ ha : a.toNat < C.rules.length, ∃ hb : b.toNat < g.rules.length, 0 ≤ a ∧ 0 ≤ b ∧ instG C C.rules[a.toNat] = instG g g.rules[b.toNat]
  back : ∀ i (hi : i < C.atoms.length), cutG C (i : Int) = cutG g (posT g.atoms C.atoms[i])
  lit : ∀ i (hi : i < C.atoms.length), (∃ hn : n < g.atoms.length, C.atoms[i] = g.atoms[n]) ∨ ∃ r ∈ C.rules, (i : Int) ∈ r.pos ∨ (i : Int) ∈ r.neg
  atom : ∃ i, ∃ hi : i < C.atoms.length, ∃ hn : n < g.atoms.length, C.atoms[i] = g.atoms[n]
theorem cut_law {g : Prog} (h : RightG g) (hf : FewG g) {n : Nat} (hn : n < g.atoms.length) : CutLaw g (cutG g (n : Int)) n := by
  have hcl := leads_closed h hn
  have heq : cutG g (n : Int) = onlyG g (leadsG g n) := by
    unfold cutG
    rw [if_pos ⟨by omega, by omega⟩]; rfl
  have hlen := leads_len g n
  have hat : ∀ i (hi : i < (onlyG g (leadsG g n)).atoms.length), ∃ hl : i < (leadsG g n).length, (onlyG g (leadsG g n)).atoms[i] = g.atoms[(leadsG g n)[i]]'(hcl.sub.lt _ (List.getElem_mem hl)) := fun i hi => by
    have hl : i < (leadsG g n).length := by rw [only_len] at hi; exact hi
    refine ⟨hl, ?_⟩
    rw [only_atom' hcl hi]
  rw [heq]
  refine ⟨heq, only_right h hcl, ⟨?_, ?_, fun t ht => ?_, fun r hr => ?_⟩, fun i hi => ?_, fun i hi => ?_, fun i hi => ?_, ?_⟩
  · rw [only_len]; exact Nat.le_trans hlen hf.a
  · have : (onlyG g (leadsG g n)).rules.length ≤ g.rules.length := by
      show (List.map _ _).length ≤ _
      rw [List.length_map]; exact List.length_filter_le _ _
    exact Nat.le_trans this hf.r
  · obtain ⟨i, hi, rfl⟩ := List.mem_iff_getElem.1 ht
    obtain ⟨hl, e⟩ := hat i hi
    rw [e]; exact hf.t _ (List.getElem_mem _)
  · obtain ⟨s, hs, -, rfl⟩ := mem_onlyR.1 hr
    have := hf.p s hs
    unfold onlyR
    simpa using this
  · obtain ⟨hl, e⟩ := hat i hi
    have hk := hcl.sub.lt _ (List.getElem_mem hl)
    obtain ⟨h1, h2⟩ := only_of_at hcl hl
    refine ⟨(leadsG g n)[i], hk, e.symm, by rw [e]; exact posT_at h.srt hk, h1, h2⟩
  · obtain ⟨hl, e⟩ := hat i hi
    have hk := hcl.sub.lt _ (List.getElem_mem hl)
    rw [e, posT_at h.srt hk]
    have e1 : cutG (onlyG g (leadsG g n)) (i : Int) = onlyG (onlyG g (leadsG g n)) (leadsG (onlyG g (leadsG g n)) i) := by
      unfold cutG; rw [if_pos ⟨by omega, by omega⟩]; rfl
    have e2 : cutG g ((leadsG g n)[i] : Int) = onlyG g (leadsG g (leadsG g n)[i]) := by
      unfold cutG; rw [if_pos ⟨by omega, by omega⟩]; rfl
    rw [e1, e2]
    exact only_only h hcl hl
  · obtain ⟨hl, e⟩ := hat i hi
    rcases leads_lit h hn hl with h1 | h1
    · left
      refine ⟨hn, ?_⟩
      rw [e]; congr 1
    · exact .inr h1
  · obtain ⟨i, hi, e⟩ := List.mem_iff_getElem.1 (leads_self h hn)
    have hi2 : i < (onlyG g (leadsG g n)).atoms.length := by rw [only_len]; exact hi
    obtain ⟨hl, e2⟩ := hat i hi2
    refine ⟨i, hi2, hn, ?_⟩
    rw [e2]; congr 1
/-- The atom itself stands in it, and cut again it is the same. -/
theorem CutLaw.self {g C : Prog} {n : Nat} (h : CutLaw g C n) (hg : RightG g) (hn : n < g.atoms.length) : ∃ z : Nat, z < C.atoms.length ∧ posT C.atoms g.atoms[n] = (z : Int) ∧ cutG C (z : Int) = C := by
  obtain ⟨i, hi, hn2, e⟩ := h.atom
  refine ⟨i, hi, by rw [← e]; exact posT_at h.right.srt hi, ?_⟩
  rw [h.back i hi, e, posT_at hg.srt hn2, h.eq]

set_option maxHeartbeats 12800000 in
set_option maxRecDepth 100000 in
theorem cut_spec {S : Nat → Prop} {w : World} {v : Value} {g : Prog} {a : Nat} (hg : ProgV S w v g) (ha : a < 256) :
    Calls Tryz.prog 8 #[v, .int .u8 a] w (RetV (.bool true) w) := by
  replace hg := hg.bnd
  have HL := Lib.hid hg
  have HG := Lib.hid hg
  obtain ⟨va, vr, rfl, hA, hR⟩ := hg
  have HA := Lib.hid hA
  have HRl := Lib.hid hR
  obtain ⟨aa, ac, rfl⟩ := hA.shape
  obtain ⟨ra, rc, rfl⟩ := hR.shape
  obtain ⟨W, hW⟩ : ∃ W, W = w.alloc (.cells #[.slice aa g.atoms.length ac, .slice ra g.rules.length rc] 26) := ⟨_, rfl⟩
  have HB := Lib.hid (show Below w.heap.size w W by rw [hW]; exact Seq.way)
  have HP := Lib.hid (show Row 26 W w.heap.size [.slice aa g.atoms.length ac, .slice ra g.rules.length rc] by rw [hW]; exact Row.new w [_, _] _ rfl)
  have HW := Lib.hid hW
  clear hA hR hW HL
  go_enter Tryz.func8, Tryz.ntmps8
  go_upto_region 1 with fail
  rw [← HW.out]
  go_wp2_with fail
  refine head_spec.mono ?_
  rintro e w1 ⟨rfl, hb1⟩
  have HP1 := Lib.hid (rowTo HP.out hb1)
  have B1 := Lib.hid (below_step hb1 HB.out)
  clear hb1
  have d0 := HP1.out.cell (j := 0) (by simp)
  have d1 := HP1.out.cell (j := 1) (by simp)
  have lP := HP1.out.lt
  simp only [List.getElem_cons_zero, List.getElem_cons_succ] at d0 d1
  go_wp2_with fail
  refine (GreatL_spec (HG.out.at B1.out)).mono ?_
  rintro e w2 ⟨rfl, hb2⟩
  have HP2 := Lib.hid (rowTo HP1.out hb2)
  have B2 := Lib.hid (below_step hb2 B1.out)
  clear hb2 d0 d1 lP
  have d0 := HP2.out.cell (j := 0) (by simp)
  have d1 := HP2.out.cell (j := 1) (by simp)
  have lP := HP2.out.lt
  simp only [List.getElem_cons_zero, List.getElem_cons_succ] at d0 d1
  cases hbig : bigG g with
  | true =>
    clear hbig
    go_wp2_with fail
    go_ret
    exact ⟨rfl, B2.out⟩
  | false =>
    have hf := few_of hbig
    have HF := Lib.hid hf
    clear hf hbig
    go_wp2_with fail
    refine (RightG_spec (HG.out.at B2.out) (fun t ht => Nat.le_trans (HF.out.t t ht) (by omega)) (by have := HF.out.a; omega)).mono ?_
    rintro e w3 ⟨rfl, hb3⟩
    have HP3 := Lib.hid (rowTo HP2.out hb3)
    have B3 := Lib.hid (below_step hb3 B2.out)
    clear hb3 d0 d1 lP
    have d0 := HP3.out.cell (j := 0) (by simp)
    have d1 := HP3.out.cell (j := 1) (by simp)
    have lP := HP3.out.lt
    simp only [List.getElem_cons_zero, List.getElem_cons_succ] at d0 d1
    cases hrt : rightG g with
    | false =>
      clear hrt
      go_wp2_with fail
      go_ret
      exact ⟨rfl, B3.out⟩
    | true =>
      have HRg := Lib.hid (rightG_iff.1 hrt)
      clear hrt
      by_cases hn0 : g.atoms.length = 0
      · have hnI : (g.atoms.length : Int) = 0 := by omega
        go_wp2_with fail
        go_ret
        exact ⟨rfl, B3.out⟩
      · have hnI : ¬ (g.atoms.length : Int) = 0 := by omega
        obtain ⟨n, hnv⟩ : ∃ n, n = a % g.atoms.length := ⟨_, rfl⟩
        have hnl : n < g.atoms.length := by rw [hnv]; exact Nat.mod_lt _ (by omega)
        have hmI : (0 : Int) < (g.atoms.length : Int) := by omega
        have hm1 : (1 : Int) ≤ (g.atoms.length : Int) := by omega
        have hrem : (a : Int) % (g.atoms.length : Int) = (n : Int) := by rw [hnv]; rfl
        have hrem2 : (a : Int).tmod (g.atoms.length : Int) = (n : Int) := by rw [Int.tmod_eq_emod_of_nonneg (by omega)]; exact hrem
        have hL := Lib.hid (cut_law HRg.out HF.out hnl)
        have hself := hL.out.self HRg.out hnl
        have hal := HF.out.a
        have hrl := HF.out.r
        clear hnv hn0
        go_wp2_with fail
        refine (CutP_spec ((HG.out.at' B3.out).at' Seq.way) HRg.out (by omega) (by omega)).mono ?_
        rintro e w4 ⟨v4, rfl, hb4, hg4⟩
        replace hb4 := below_step hb4 (Seq.way : Below w3.heap.size w3 _)
        obtain ⟨C, hC⟩ : ∃ C, C = cutG g (n : Int) := ⟨_, rfl⟩
        rw [← hC] at hg4 hL hself
        clear hC hnI hmI hm1 hrem hrem2
        have HP4 := Lib.hid (rowTo HP3.out hb4)
        have B4 := Lib.hid (below_step hb4 B3.out)
        obtain ⟨va, vr, rfl, hA, hR⟩ := hg4
        have HGA4 := Lib.hid hA.bnd
        have HGR4 := Lib.hid hR.bnd
        obtain ⟨aa4, ac4, rfl⟩ := hA.shape
        obtain ⟨ra4, rc4, rfl⟩ := hR.shape
        have Hb4 := Lib.hid hb4
        clear hb4 hA hR
        obtain ⟨W4, hW4⟩ : ∃ W, W = w4.alloc (.cells #[.slice aa4 C.atoms.length ac4, .slice ra4 C.rules.length rc4] 26) := ⟨_, rfl⟩
        have BB4 := Lib.hid (show Below w4.heap.size w4 W4 by rw [hW4]; exact Seq.way)
        have HQ4 := Lib.hid (show Row 26 W4 w4.heap.size [.slice aa4 C.atoms.length ac4, .slice ra4 C.rules.length rc4] by rw [hW4]; exact Row.new w4 [_, _] _ rfl)
        have HG4 := Lib.hid (show ProgV (fun b => b < w4.heap.size) W4 (.agg #[.slice aa4 C.atoms.length ac4, .slice ra4 C.rules.length rc4]) C from ⟨_, _, rfl, (HGA4.out.at BB4.out).mono (fun _ h _ => h.2) fun _ _ _ => rfl, (HGR4.out.at BB4.out).mono (fun _ h _ => h.2) fun _ _ _ => rfl⟩)
        have BW4 := Lib.hid (below_step BB4.out B4.out)
        have HW4 := Lib.hid hW4
        clear hW4
        go_upto_region 6 with fail
        rw [← HW4.out]
        have HQa := Lib.hid (rowTo HP4.out BB4.out)
        have HGa := Lib.hid (HG.out.at' BW4.out)
        clear d0 d1 lP HGA4 HGR4
        obtain ⟨z, hzl, hzp, hzc⟩ := hself
        have Hzp := Lib.hid hzp
        have Hzc := Lib.hid hzc
        have hsmC := Lib.hid (right_sm hL.out.right (by have := hL.out.few.a; omega))
        have bC := Lib.hid (rightG_iff.2 hL.out.right)
        have hca := hL.out.few.a
        have hcr := hL.out.few.r
        have hz0 : ¬ (z : Int) < 0 := by omega
        have hnI : (n : Int) < (g.atoms.length : Int) := by omega
        have hn0 : (0 : Int) ≤ (n : Int) := by omega
        have hnt : ((n : Int)).toNat = n := Int.toNat_natCast n
        have d0 := HQa.out.cell (j := 0) (by simp)
        have d1 := HQa.out.cell (j := 1) (by simp)
        have e0 := HQ4.out.cell (j := 0) (by simp)
        have e1 := HQ4.out.cell (j := 1) (by simp)
        have lP := HQa.out.lt
        have lE := HQ4.out.lt
        simp only [List.getElem_cons_zero, List.getElem_cons_succ] at d0 d1 e0 e1
        obtain ⟨_, _, ee, hA5, hR5⟩ := HGa.out
        simp only [Value.agg.injEq, Array.mk.injEq, List.cons.injEq, and_true] at ee
        obtain ⟨rfl, rfl⟩ := ee
        obtain ⟨_, _, ee, -, -, -, -, x5⟩ := hA5
        simp only [Value.slice.injEq, true_and] at ee
        obtain ⟨rfl, rfl⟩ := ee
        obtain ⟨b, off, p1, n1, rfl, -, hb, c0, hX⟩ := x5.seq hnl
        obtain ⟨x, hx⟩ : ∃ x, x = g.atoms[n] := ⟨_, rfl⟩
        rw [← hx] at c0 hX Hzp
        have HX := Lib.hid hX
        clear hx hX x5 hzp hzc hR5
        have Hkeep := fun {Wk : World} (hW : Below W4.heap.size W4 Wk) => Lib.hid (show Wk.cell? ⟨w.heap.size, 0, none⟩ = some (.slice (some ⟨b, off, none⟩) g.atoms.length ac) ∧ Wk.cell? ⟨w.heap.size, 1, none⟩ = some (.slice ra g.rules.length rc) ∧ Wk.cell? ⟨w4.heap.size, 0, none⟩ = some (.slice aa4 C.atoms.length ac4) ∧ Wk.cell? ⟨w4.heap.size, 1, none⟩ = some (.slice ra4 C.rules.length rc4) ∧ Wk.cell? ⟨b, off + n, none⟩ = some (.slice p1 x.length n1) from ⟨(hW.cell (p := ⟨w.heap.size, 0, none⟩) lP).trans d0, (hW.cell (p := ⟨w.heap.size, 1, none⟩) lP).trans d1, (hW.cell (p := ⟨w4.heap.size, 0, none⟩) lE).trans e0, (hW.cell (p := ⟨w4.heap.size, 1, none⟩) lE).trans e1, (hW.cell (p := ⟨b, off + n, none⟩) hb).trans c0⟩)
        (try simp only [List.append_eq, List.cons_append, List.nil_append])
        refine wp_region_noPanic ?_
        refine wp_region_held_drew (S := fun w' => w'.cell? ⟨w.heap.size, 0, none⟩ = some (.slice (some ⟨b, off, none⟩) g.atoms.length ac) ∧ w'.cell? ⟨w.heap.size, 1, none⟩ = some (.slice ra g.rules.length rc) ∧ w'.cell? ⟨w4.heap.size, 0, none⟩ = some (.slice aa4 C.atoms.length ac4) ∧ w'.cell? ⟨w4.heap.size, 1, none⟩ = some (.slice ra4 C.rules.length rc4) ∧ w'.cell? ⟨b, off + n, none⟩ = some (.slice p1 x.length n1)) (by kernel_rfl) ?_ (fun hHeld => ?_)
        · exact (Hkeep (Below.drew (Below.refl _ _))).out
        refine wpAnyH_take1 (i := 0) (oi := _) (v := ?_) (by kernel_rfl) rfl (by kernel_rfl) (fun _ _ _ h => h) (Or.inl ⟨by rfl, ?_⟩) (by assumption) ?_
        rotate_left 1
        · intro w hSw; (try dsimp only at hSw); go_simp; (with_reducible rfl)
        (try simp only [Act.put, List.getElem_toArray, List.getElem_cons_zero, List.setIfInBounds_toArray, List.set_cons_zero, List.set_cons_succ])
        refine wpAnyH_take1 (i := 1) (oi := _) (v := ?_) (by kernel_rfl) rfl (by kernel_rfl) (fun _ _ _ h => h) (Or.inl ⟨by rfl, ?_⟩) (by assumption) ?_
        rotate_left 1
        · intro w hSw; (try dsimp only at hSw); go_simp; (with_reducible rfl)
        (try simp only [Act.put, List.getElem_toArray, List.getElem_cons_zero, List.getElem_cons_succ, List.setIfInBounds_toArray, List.set_cons_zero, List.set_cons_succ])
        refine wpAnyH_take1 (i := 2) (oi := _) (v := ?_) (by kernel_rfl) rfl (by kernel_rfl) (fun _ _ _ h => h) (Or.inl ⟨by rfl, ?_⟩) (by assumption) ?_
        rotate_left 1
        · intro w hSw; (try dsimp only at hSw); go_simp; (with_reducible rfl)
        (try simp only [Act.put, List.getElem_toArray, List.getElem_cons_zero, List.getElem_cons_succ, List.setIfInBounds_toArray, List.set_cons_zero, List.set_cons_succ])
        refine wpAnyH_take1 (i := 3) (oi := _) (v := ?_) (by kernel_rfl) rfl (by kernel_rfl) (fun _ _ _ h => h) (Or.inl ⟨by rfl, ?_⟩) (by assumption) ?_
        rotate_left 1
        · intro w hSw; (try dsimp only at hSw); go_simp; (with_reducible rfl)
        (try simp only [Act.put, List.getElem_toArray, List.getElem_cons_zero, List.getElem_cons_succ, List.setIfInBounds_toArray, List.set_cons_zero, List.set_cons_succ])
        refine wpAnyH_take1 (i := 4) (oi := _) (v := ?_) (by kernel_rfl) rfl (by kernel_rfl) (fun _ _ _ h => h) (Or.inl ⟨by rfl, ?_⟩) (by assumption) ?_
        rotate_left 1
        · intro w hSw; (try dsimp only at hSw); go_simp; (with_reducible rfl)
        (try simp only [Act.put, List.getElem_toArray, List.getElem_cons_zero, List.getElem_cons_succ, List.setIfInBounds_toArray, List.set_cons_zero, List.set_cons_succ])
        refine wpAnyH_take1 (i := 5) (oi := _) (v := ?_) (by kernel_rfl) rfl (by kernel_rfl) (fun _ _ _ h => h) (Or.inl ⟨by rfl, ?_⟩) (by assumption) ?_
        rotate_left 1
        · intro w hSw; (try dsimp only at hSw); go_simp; (with_reducible rfl)
        (try simp only [Act.put, List.getElem_toArray, List.getElem_cons_zero, List.getElem_cons_succ, List.setIfInBounds_toArray, List.set_cons_zero, List.set_cons_succ])
        refine wpAnyH_one (i := 6) (by kernel_rfl) rfl (by rfl) fun K hK => ?_
        go_simp
        refine ((find_as Hzp.out (HG4.out.at' Seq.way) (HX.out.at Seq.way) hL.out.right.srt (by omega))).mono ?_
        rintro e y1 ⟨rfl, hy1⟩
        have HY1 := below_step hy1 (Seq.way : Below W4.heap.size W4 _)
        have zy1 := HY1.size
        (try dsimp only)
        clear hHeld
        refine hK.out _ _ (Hkeep HY1).out fun hHeld => ?_
        clear hK K
        (try simp only [Act.put, List.getElem_toArray, List.getElem_cons_zero, List.getElem_cons_succ, List.setIfInBounds_toArray, List.set_cons_zero, List.set_cons_succ])
        refine wpAnyH_take1 (i := 7) (oi := _) (v := ?_) (by kernel_rfl) rfl (by kernel_rfl) (fun _ _ _ h => h) (Or.inl ⟨by rfl, ?_⟩) (by assumption) ?_
        rotate_left 1
        · intro w hSw; (try dsimp only at hSw); go_simp; (with_reducible rfl)
        (try simp only [Act.put, List.getElem_toArray, List.getElem_cons_zero, List.getElem_cons_succ, List.setIfInBounds_toArray, List.set_cons_zero, List.set_cons_succ])
        refine wpAnyH_done (by kernel_rfl) ?_ _
        refine NoPanic.normal ?_
        have K6 := Lib.hid HY1
        have d0 := (K6.out.cell (p := ⟨w.heap.size, 0, none⟩) lP).trans d0
        have d1 := (K6.out.cell (p := ⟨w.heap.size, 1, none⟩) lP).trans d1
        have e0 := (K6.out.cell (p := ⟨w4.heap.size, 0, none⟩) lE).trans e0
        have e1 := (K6.out.cell (p := ⟨w4.heap.size, 1, none⟩) lE).trans e1
        have lP := Nat.lt_of_lt_of_le lP K6.out.size
        have lE := Nat.lt_of_lt_of_le lE K6.out.size
        have HGy := Lib.hid (HGa.out.at' K6.out)
        have HCy := Lib.hid (HG4.out.at' K6.out)
        have HQy := Lib.hid (rowTo HQa.out K6.out)
        have HDy := Lib.hid (rowTo HQ4.out K6.out)
        have BWy := Lib.hid (below_step K6.out BW4.out)
        obtain ⟨w6, rfl⟩ : ∃ w6, w6 = y1 := ⟨_, rfl⟩
        clear HY1 zy1 c0 hb Hkeep K6 hnI hn0 hnt
        go_upto_region 7 with fail
        have Hkeep := fun {Wk : World} (hW : Below w6.heap.size w6 Wk) => Lib.hid (show Wk.cell? ⟨w4.heap.size, 0, none⟩ = some (.slice aa4 C.atoms.length ac4) ∧ Wk.cell? ⟨w4.heap.size, 1, none⟩ = some (.slice ra4 C.rules.length rc4) from ⟨(hW.cell (p := ⟨w4.heap.size, 0, none⟩) lE).trans e0, (hW.cell (p := ⟨w4.heap.size, 1, none⟩) lE).trans e1⟩)
        (try simp only [List.append_eq, List.cons_append, List.nil_append])
        refine wp_region_noPanic ?_
        refine wp_region_held_drew (S := fun w' => w'.cell? ⟨w4.heap.size, 0, none⟩ = some (.slice aa4 C.atoms.length ac4) ∧ w'.cell? ⟨w4.heap.size, 1, none⟩ = some (.slice ra4 C.rules.length rc4)) (by kernel_rfl) ?_ (fun hHeld => ?_)
        · exact (Hkeep (Below.drew (Below.refl _ _))).out
        refine wpAnyH_take1 (i := 0) (oi := _) (v := ?_) (by kernel_rfl) rfl (by kernel_rfl) (fun _ _ _ h => h) (Or.inl ⟨by rfl, ?_⟩) (by assumption) ?_
        rotate_left 1
        · intro w hSw; (try dsimp only at hSw); go_simp; (with_reducible rfl)
        (try simp only [Act.put, List.getElem_toArray, List.getElem_cons_zero, List.setIfInBounds_toArray, List.set_cons_zero, List.set_cons_succ])
        refine wpAnyH_one (i := 1) (by kernel_rfl) rfl (by rfl) fun K hK => ?_
        go_simp
        refine ((right_as bC.out (HCy.out.at' Seq.way))).mono ?_
        rintro e y1 ⟨rfl, hy1⟩
        have HY1 := below_step hy1 (Seq.way : Below w6.heap.size w6 _)
        have zy1 := HY1.size
        (try dsimp only)
        clear hHeld
        refine hK.out _ _ (Hkeep HY1).out fun hHeld => ?_
        clear hK K
        (try simp only [Act.put, List.getElem_toArray, List.getElem_cons_zero, List.getElem_cons_succ, List.setIfInBounds_toArray, List.set_cons_zero, List.set_cons_succ])
        refine wpAnyH_take1 (i := 2) (oi := _) (v := ?_) (by kernel_rfl) rfl (by kernel_rfl) (fun _ _ _ h => h) (Or.inl ⟨by rfl, ?_⟩) (by assumption) ?_
        rotate_left 1
        · intro w hSw; (try dsimp only at hSw); go_simp; (with_reducible rfl)
        (try simp only [Act.put, List.getElem_toArray, List.getElem_cons_zero, List.getElem_cons_succ, List.setIfInBounds_toArray, List.set_cons_zero, List.set_cons_succ])
        refine wpAnyH_take1 (i := 3) (oi := _) (v := ?_) (by kernel_rfl) rfl (by kernel_rfl) (fun _ _ _ h => h) (Or.inl ⟨by rfl, ?_⟩) (by assumption) ?_
        rotate_left 1
        · intro w hSw; (try dsimp only at hSw); go_simp; (with_reducible rfl)
        (try simp only [Act.put, List.getElem_toArray, List.getElem_cons_zero, List.getElem_cons_succ, List.setIfInBounds_toArray, List.set_cons_zero, List.set_cons_succ])
        refine wpAnyH_take1 (i := 4) (oi := _) (v := ?_) (by kernel_rfl) rfl (by kernel_rfl) (fun _ _ _ h => h) (Or.inl ⟨by rfl, ?_⟩) (by assumption) ?_
        rotate_left 1
        · intro w hSw; (try dsimp only at hSw); go_simp; (with_reducible rfl)
        (try simp only [Act.put, List.getElem_toArray, List.getElem_cons_zero, List.getElem_cons_succ, List.setIfInBounds_toArray, List.set_cons_zero, List.set_cons_succ])
        refine wpAnyH_one (i := 5) (by kernel_rfl) rfl (by rfl) fun K hK => ?_
        go_simp
        refine ((rightR_as bC.out (HCy.out.at' Seq.way) (fun t ht => Nat.le_trans (hL.out.few.t t ht) (by omega)) (by omega))).mono ?_
        rintro e y2 ⟨rfl, hy2⟩
        have HY2 := below_step hy2 (Seq.way : Below w6.heap.size w6 _)
        have zy2 := HY2.size
        (try dsimp only)
        clear hHeld
        refine hK.out _ _ (Hkeep HY2).out fun hHeld => ?_
        clear hK K
        (try simp only [Act.put, List.getElem_toArray, List.getElem_cons_zero, List.getElem_cons_succ, List.setIfInBounds_toArray, List.set_cons_zero, List.set_cons_succ])
        refine wpAnyH_take1 (i := 6) (oi := _) (v := ?_) (by kernel_rfl) rfl (by kernel_rfl) (fun _ _ _ h => h) (Or.inl ⟨by rfl, ?_⟩) (by assumption) ?_
        rotate_left 1
        · intro w hSw; (try dsimp only at hSw); go_simp; (with_reducible rfl)
        (try simp only [Act.put, List.getElem_toArray, List.getElem_cons_zero, List.getElem_cons_succ, List.setIfInBounds_toArray, List.set_cons_zero, List.set_cons_succ])
        refine wpAnyH_take1 (i := 7) (oi := _) (v := ?_) (by kernel_rfl) rfl (by kernel_rfl) (fun _ _ _ h => h) (Or.inl ⟨by rfl, ?_⟩) (by assumption) ?_
        rotate_left 1
        · intro w hSw; (try dsimp only at hSw); go_simp; (with_reducible rfl)
        (try simp only [Act.put, List.getElem_toArray, List.getElem_cons_zero, List.getElem_cons_succ, List.setIfInBounds_toArray, List.set_cons_zero, List.set_cons_succ])
        refine wpAnyH_take1 (i := 8) (oi := _) (v := ?_) (by kernel_rfl) rfl (by kernel_rfl) (fun _ _ _ h => h) (Or.inl ⟨by rfl, ?_⟩) (by assumption) ?_
        rotate_left 1
        · intro w hSw; (try dsimp only at hSw); go_simp; (with_reducible rfl)
        (try simp only [Act.put, List.getElem_toArray, List.getElem_cons_zero, List.getElem_cons_succ, List.setIfInBounds_toArray, List.set_cons_zero, List.set_cons_succ])
        refine wpAnyH_take1 (i := 9) (oi := _) (v := ?_) (by kernel_rfl) rfl (by kernel_rfl) (fun _ _ _ h => h) (Or.inl ⟨by rfl, ?_⟩) (by assumption) ?_
        rotate_left 1
        · intro w hSw; (try dsimp only at hSw); go_simp; (with_reducible rfl)
        (try simp only [Act.put, List.getElem_toArray, List.getElem_cons_zero, List.getElem_cons_succ, List.setIfInBounds_toArray, List.set_cons_zero, List.set_cons_succ])
        refine wpAnyH_take1 (i := 10) (oi := _) (v := ?_) (by kernel_rfl) rfl (by kernel_rfl) (fun _ _ _ h => h) (Or.inl ⟨by rfl, ?_⟩) (by assumption) ?_
        rotate_left 1
        · intro w hSw; (try dsimp only at hSw); go_simp; (with_reducible rfl)
        (try simp only [Act.put, List.getElem_toArray, List.getElem_cons_zero, List.getElem_cons_succ, List.setIfInBounds_toArray, List.set_cons_zero, List.set_cons_succ])
        refine wpAnyH_take1 (i := 11) (oi := _) (v := ?_) (by kernel_rfl) rfl (by kernel_rfl) (fun _ _ _ h => h) (Or.inl ⟨by rfl, ?_⟩) (by assumption) ?_
        rotate_left 1
        · intro w hSw; (try dsimp only at hSw); go_simp; (with_reducible rfl)
        (try simp only [Act.put, List.getElem_toArray, List.getElem_cons_zero, List.getElem_cons_succ, List.setIfInBounds_toArray, List.set_cons_zero, List.set_cons_succ])
        refine wpAnyH_take1 (i := 12) (oi := _) (v := ?_) (by kernel_rfl) rfl (by kernel_rfl) (fun _ _ _ h => h) (Or.inl ⟨by rfl, ?_⟩) (by assumption) ?_
        rotate_left 1
        · intro w hSw; (try dsimp only at hSw); go_simp; (with_reducible rfl)
        (try simp only [Act.put, List.getElem_toArray, List.getElem_cons_zero, List.getElem_cons_succ, List.setIfInBounds_toArray, List.set_cons_zero, List.set_cons_succ])
        refine wpAnyH_take1 (i := 13) (oi := _) (v := ?_) (by kernel_rfl) rfl (by kernel_rfl) (fun _ _ _ h => h) (Or.inl ⟨by rfl, ?_⟩) (by assumption) ?_
        rotate_left 1
        · intro w hSw; (try dsimp only at hSw); go_simp; (with_reducible rfl)
        (try simp only [Act.put, List.getElem_toArray, List.getElem_cons_zero, List.getElem_cons_succ, List.setIfInBounds_toArray, List.set_cons_zero, List.set_cons_succ])
        refine wpAnyH_take1 (i := 14) (oi := _) (v := ?_) (by kernel_rfl) rfl (by kernel_rfl) (fun _ _ _ h => h) (Or.inl ⟨by rfl, ?_⟩) (by assumption) ?_
        rotate_left 1
        · intro w hSw; (try dsimp only at hSw); go_simp; (with_reducible rfl)
        (try simp only [Act.put, List.getElem_toArray, List.getElem_cons_zero, List.getElem_cons_succ, List.setIfInBounds_toArray, List.set_cons_zero, List.set_cons_succ])
        refine wpAnyH_take1 (i := 16) (oi := _) (v := ?_) (by kernel_rfl) rfl (by kernel_rfl) (fun _ _ _ h => h) (Or.inl ⟨by rfl, ?_⟩) (by assumption) ?_
        rotate_left 1
        · intro w hSw; (try dsimp only at hSw); go_simp; (with_reducible rfl)
        (try simp only [Act.put, List.getElem_toArray, List.getElem_cons_zero, List.getElem_cons_succ, List.setIfInBounds_toArray, List.set_cons_zero, List.set_cons_succ])
        refine wpAnyH_one (i := 15) (by kernel_rfl) rfl (by rfl) fun K hK => ?_
        go_simp
        refine ((CutP_spec (HCy.out.at' Seq.way) hL.out.right (by omega) (by omega))).mono ?_
        rintro e y3 ⟨v3, rfl, hy3, hg3⟩
        have HY3 := below_step hy3 (Seq.way : Below w6.heap.size w6 _)
        have zy3 := HY3.size
        (try dsimp only)
        clear hHeld
        refine hK.out _ _ (Hkeep HY3).out fun hHeld => ?_
        clear hK K
        (try simp only [Act.put, List.getElem_toArray, List.getElem_cons_zero, List.getElem_cons_succ, List.setIfInBounds_toArray, List.set_cons_zero, List.set_cons_succ])
        rw [Hzc.out] at hg3
        have HG3c := Lib.hid hg3
        obtain ⟨x1, x2, rfl, -, -⟩ := hg3
        refine wpAnyH_one (i := 17) (by kernel_rfl) rfl (by rfl) fun K hK => ?_
        go_simp
        refine ((sameg_as rfl (HG3c.out.at' Seq.way) (HCy.out.at' Seq.way) hsmC.out hsmC.out)).mono ?_
        rintro e y4 ⟨rfl, hy4⟩
        have HY4 := below_step hy4 (Seq.way : Below w6.heap.size w6 _)
        have zy4 := HY4.size
        (try dsimp only)
        clear hHeld
        refine hK.out _ _ (Hkeep HY4).out fun hHeld => ?_
        clear hK K
        (try simp only [Act.put, List.getElem_toArray, List.getElem_cons_zero, List.getElem_cons_succ, List.setIfInBounds_toArray, List.set_cons_zero, List.set_cons_succ])
        refine wpAnyH_take1 (i := 18) (oi := _) (v := ?_) (by kernel_rfl) rfl (by kernel_rfl) (fun _ _ _ h => h) (Or.inl ⟨by rfl, ?_⟩) (by assumption) ?_
        rotate_left 1
        · intro w hSw; (try dsimp only at hSw); go_simp; (with_reducible rfl)
        (try simp only [Act.put, List.getElem_toArray, List.getElem_cons_zero, List.getElem_cons_succ, List.setIfInBounds_toArray, List.set_cons_zero, List.set_cons_succ])
        refine wpAnyH_take1 (i := 19) (oi := _) (v := ?_) (by kernel_rfl) rfl (by kernel_rfl) (fun _ _ _ h => h) (Or.inl ⟨by rfl, ?_⟩) (by assumption) ?_
        rotate_left 1
        · intro w hSw; (try dsimp only at hSw); go_simp; (with_reducible rfl)
        (try simp only [Act.put, List.getElem_toArray, List.getElem_cons_zero, List.getElem_cons_succ, List.setIfInBounds_toArray, List.set_cons_zero, List.set_cons_succ])
        refine wpAnyH_done (by kernel_rfl) ?_ _
        refine NoPanic.normal ?_
        have K7 := Lib.hid HY4
        have HG5 := Lib.hid (HGy.out.at' K7.out)
        have HC5 := Lib.hid (HCy.out.at' K7.out)
        have HQ5 := Lib.hid (rowTo HQy.out K7.out)
        have HD5 := Lib.hid (rowTo HDy.out K7.out)
        have BW5 := Lib.hid (below_step K7.out BWy.out)
        obtain ⟨w5, rfl⟩ : ∃ w5, w5 = y4 := ⟨_, rfl⟩
        have HCb := Lib.hid HC5.out
        have d0 := HQ5.out.cell (j := 0) (by simp)
        have d1 := HQ5.out.cell (j := 1) (by simp)
        have e0 := HD5.out.cell (j := 0) (by simp)
        have e1 := HD5.out.cell (j := 1) (by simp)
        have lP := HQ5.out.lt
        have lE := HD5.out.lt
        simp only [List.getElem_cons_zero, List.getElem_cons_succ] at d0 d1 e0 e1
        clear HY1 HY2 HY3 HY4 K7 HQy HDy HGy HCy Hkeep zy1 zy2 zy3 zy4
        go_wp2_with fail
        clear d0 d1 e0 e1 lP lE
        go_loopw [9] (fun q wr => ∃ k : Nat, k ≤ C.atoms.length ∧ q = .int .i64 k ∧ Hid (Below w5.heap.size w5 wr)) (fun q _ => C.atoms.length - (intOf q).toNat)
        case atStart => exact ⟨0, Nat.zero_le _, rfl, Lib.hid (Below.refl _ _)⟩
        case round =>
          obtain ⟨i, hi, rfl, hbr⟩ := hrel
          have HGr := Lib.hid (HG5.out.at' hbr.out)
          have HCr := Lib.hid (HC5.out.at' hbr.out)
          have HQo := Lib.hid (rowTo HQ5.out hbr.out)
          have HDo := Lib.hid (rowTo HD5.out hbr.out)
          have d0 := HQo.out.cell (j := 0) (by simp)
          have d1 := HQo.out.cell (j := 1) (by simp)
          have e0 := HDo.out.cell (j := 0) (by simp)
          have e1 := HDo.out.cell (j := 1) (by simp)
          have lP := HQo.out.lt
          have lE := HDo.out.lt
          simp only [List.getElem_cons_zero, List.getElem_cons_succ] at d0 d1 e0 e1
          by_cases hlt : i < C.atoms.length
          · have hiI : (i : Int) < (C.atoms.length : Int) := by omega
            have hi0 : (0 : Int) ≤ (i : Int) := by omega
            obtain ⟨_, _, ee, hA5, hR5⟩ := HCr.out
            simp only [Value.agg.injEq, Array.mk.injEq, List.cons.injEq, and_true] at ee
            obtain ⟨rfl, rfl⟩ := ee
            obtain ⟨_, _, ee, -, -, -, -, x5⟩ := hA5
            simp only [Value.slice.injEq, true_and] at ee
            obtain ⟨rfl, rfl⟩ := ee
            obtain ⟨b4, off4, p1, n1, rfl, -, hb, c0, hX⟩ := x5.seq hlt
            obtain ⟨k, hk, -, hpos, hlen, hat⟩ := hL.out.find i hlt
            obtain ⟨x, hx⟩ : ∃ x, x = C.atoms[i] := ⟨_, rfl⟩
            rw [← hx] at c0 hX hpos
            have HX := Lib.hid hX
            have Hpos := Lib.hid hpos
            have Hlen := Lib.hid hlen
            have Hat := Lib.hid hat
            have hk0 : ¬ (k : Int) < 0 := by omega
            have hol := ofR_len C (i : Int)
            clear hx hX x5 hR5 hpos hlen hat
            obtain ⟨wo, rfl⟩ : ∃ wo, wo = wr := ⟨_, rfl⟩
            go_upto_region 12 with fail
            have Hkeep := fun {Wk : World} (hW : Below wo.heap.size wo Wk) => Lib.hid (show Wk.cell? ⟨w.heap.size, 0, none⟩ = some (.slice (some ⟨b, off, none⟩) g.atoms.length ac) ∧ Wk.cell? ⟨w.heap.size, 1, none⟩ = some (.slice ra g.rules.length rc) ∧ Wk.cell? ⟨w4.heap.size, 0, none⟩ = some (.slice (some ⟨b4, off4, none⟩) C.atoms.length ac4) ∧ Wk.cell? ⟨w4.heap.size, 1, none⟩ = some (.slice ra4 C.rules.length rc4) ∧ Wk.cell? ⟨b4, off4 + i, none⟩ = some (.slice p1 x.length n1) from ⟨(hW.cell (p := ⟨w.heap.size, 0, none⟩) lP).trans d0, (hW.cell (p := ⟨w.heap.size, 1, none⟩) lP).trans d1, (hW.cell (p := ⟨w4.heap.size, 0, none⟩) lE).trans e0, (hW.cell (p := ⟨w4.heap.size, 1, none⟩) lE).trans e1, (hW.cell (p := ⟨b4, off4 + i, none⟩) hb).trans c0⟩)
            (try simp only [List.append_eq, List.cons_append, List.nil_append])
            refine wp_region_noPanic ?_
            refine wp_region_held_drew (S := fun w' => w'.cell? ⟨w.heap.size, 0, none⟩ = some (.slice (some ⟨b, off, none⟩) g.atoms.length ac) ∧ w'.cell? ⟨w.heap.size, 1, none⟩ = some (.slice ra g.rules.length rc) ∧ w'.cell? ⟨w4.heap.size, 0, none⟩ = some (.slice (some ⟨b4, off4, none⟩) C.atoms.length ac4) ∧ w'.cell? ⟨w4.heap.size, 1, none⟩ = some (.slice ra4 C.rules.length rc4) ∧ w'.cell? ⟨b4, off4 + i, none⟩ = some (.slice p1 x.length n1)) (by kernel_rfl) ?_ (fun hHeld => ?_)
            · exact (Hkeep (Below.drew (Below.refl _ _))).out
            refine wpAnyH_take1 (i := 0) (oi := _) (v := ?_) (by kernel_rfl) rfl (by kernel_rfl) (fun _ _ _ h => h) (Or.inl ⟨by rfl, ?_⟩) (by assumption) ?_
            rotate_left 1
            · intro w hSw; (try dsimp only at hSw); go_simp; (with_reducible rfl)
            (try simp only [Act.put, List.getElem_toArray, List.getElem_cons_zero, List.setIfInBounds_toArray, List.set_cons_zero, List.set_cons_succ])
            refine wpAnyH_take1 (i := 1) (oi := _) (v := ?_) (by kernel_rfl) rfl (by kernel_rfl) (fun _ _ _ h => h) (Or.inl ⟨by rfl, ?_⟩) (by assumption) ?_
            rotate_left 1
            · intro w hSw; (try dsimp only at hSw); go_simp; (with_reducible rfl)
            (try simp only [Act.put, List.getElem_toArray, List.getElem_cons_zero, List.getElem_cons_succ, List.setIfInBounds_toArray, List.set_cons_zero, List.set_cons_succ])
            refine wpAnyH_take1 (i := 2) (oi := _) (v := ?_) (by kernel_rfl) rfl (by kernel_rfl) (fun _ _ _ h => h) (Or.inl ⟨by rfl, ?_⟩) (by assumption) ?_
            rotate_left 1
            · intro w hSw; (try dsimp only at hSw); go_simp; (with_reducible rfl)
            (try simp only [Act.put, List.getElem_toArray, List.getElem_cons_zero, List.getElem_cons_succ, List.setIfInBounds_toArray, List.set_cons_zero, List.set_cons_succ])
            refine wpAnyH_take1 (i := 3) (oi := _) (v := ?_) (by kernel_rfl) rfl (by kernel_rfl) (fun _ _ _ h => h) (Or.inl ⟨by rfl, ?_⟩) (by assumption) ?_
            rotate_left 1
            · intro w hSw; (try dsimp only at hSw); go_simp; (with_reducible rfl)
            (try simp only [Act.put, List.getElem_toArray, List.getElem_cons_zero, List.getElem_cons_succ, List.setIfInBounds_toArray, List.set_cons_zero, List.set_cons_succ])
            refine wpAnyH_take1 (i := 4) (oi := _) (v := ?_) (by kernel_rfl) rfl (by kernel_rfl) (fun _ _ _ h => h) (Or.inl ⟨by rfl, ?_⟩) (by assumption) ?_
            rotate_left 1
            · intro w hSw; (try dsimp only at hSw); go_simp; (with_reducible rfl)
            (try simp only [Act.put, List.getElem_toArray, List.getElem_cons_zero, List.getElem_cons_succ, List.setIfInBounds_toArray, List.set_cons_zero, List.set_cons_succ])
            refine wpAnyH_take1 (i := 5) (oi := _) (v := ?_) (by kernel_rfl) rfl (by kernel_rfl) (fun _ _ _ h => h) (Or.inl ⟨by rfl, ?_⟩) (by assumption) ?_
            rotate_left 1
            · intro w hSw; (try dsimp only at hSw); go_simp; (with_reducible rfl)
            (try simp only [Act.put, List.getElem_toArray, List.getElem_cons_zero, List.getElem_cons_succ, List.setIfInBounds_toArray, List.set_cons_zero, List.set_cons_succ])
            refine wpAnyH_one (i := 6) (by kernel_rfl) rfl (by rfl) fun K hK => ?_
            go_simp
            refine ((find_as Hpos.out (HGr.out.at' Seq.way) (HX.out.at Seq.way) HRg.out.srt (by omega))).mono ?_
            rintro e y1 ⟨rfl, hy1⟩
            have HY1 := below_step hy1 (Seq.way : Below wo.heap.size wo _)
            have zy1 := HY1.size
            (try dsimp only)
            clear hHeld
            refine hK.out _ _ (Hkeep HY1).out fun hHeld => ?_
            clear hK K
            (try simp only [Act.put, List.getElem_toArray, List.getElem_cons_zero, List.getElem_cons_succ, List.setIfInBounds_toArray, List.set_cons_zero, List.set_cons_succ])
            refine wpAnyH_take1 (i := 7) (oi := _) (v := ?_) (by kernel_rfl) rfl (by kernel_rfl) (fun _ _ _ h => h) (Or.inl ⟨by rfl, ?_⟩) (by assumption) ?_
            rotate_left 1
            · intro w hSw; (try dsimp only at hSw); go_simp; (with_reducible rfl)
            (try simp only [Act.put, List.getElem_toArray, List.getElem_cons_zero, List.getElem_cons_succ, List.setIfInBounds_toArray, List.set_cons_zero, List.set_cons_succ])
            refine wpAnyH_done (by kernel_rfl) ?_ _
            refine NoPanic.normal ?_
            have K1 := Lib.hid HY1
            have HQr := Lib.hid (rowTo HQo.out K1.out)
            have HDr := Lib.hid (rowTo HDo.out K1.out)
            have d0 := HQr.out.cell (j := 0) (by simp)
            have d1 := HQr.out.cell (j := 1) (by simp)
            have e0 := HDr.out.cell (j := 0) (by simp)
            have e1 := HDr.out.cell (j := 1) (by simp)
            have lP := HQr.out.lt
            have lE := HDr.out.lt
            simp only [List.getElem_cons_zero, List.getElem_cons_succ] at d0 d1 e0 e1
            clear HY1 zy1 c0 hb Hkeep
            go_wp2_with fail
            refine (OfP_spec (a := (i : Int)) ((HCr.out.at' K1.out).at' Seq.way) (by omega)).mono ?_
            rintro e y2 ⟨v2, rfl, hb2, hs2⟩
            have K2 := Lib.hid (below_step hb2 (below_step Seq.way K1.out : Below wo.heap.size wo _))
            obtain ⟨OC, hOC⟩ : ∃ O, O = ofR C (i : Int) := ⟨_, rfl⟩
            rw [← hOC] at hs2 Hlen Hat hol
            have HS2 := Lib.hid hs2
            obtain ⟨oa, oc, rfl⟩ := hs2.shape
            clear hs2 hb2 hOC d0 d1 e0 e1 lP lE
            have HQr := Lib.hid (rowTo HQo.out K2.out)
            have HDr := Lib.hid (rowTo HDo.out K2.out)
            have d0 := HQr.out.cell (j := 0) (by simp)
            have d1 := HQr.out.cell (j := 1) (by simp)
            have e0 := HDr.out.cell (j := 0) (by simp)
            have e1 := HDr.out.cell (j := 1) (by simp)
            have lP := HQr.out.lt
            have lE := HDr.out.lt
            simp only [List.getElem_cons_zero, List.getElem_cons_succ] at d0 d1 e0 e1
            go_wp2_with fail
            refine (OfP_spec (a := (k : Int)) ((HGr.out.at' K2.out).at' Seq.way) (by omega)).mono ?_
            rintro e y3 ⟨v3, rfl, hb3, hs3⟩
            have HS3 := Lib.hid (HS2.out.at (below_step hb3 (Seq.way : Below y2.heap.size y2 _)))
            have K3 := Lib.hid (below_step hb3 (below_step Seq.way K2.out : Below wo.heap.size wo _))
            obtain ⟨OG, hOG⟩ : ∃ O, O = ofR g (k : Int) := ⟨_, rfl⟩
            rw [← hOG] at hs3 Hlen Hat
            have HT3 := Lib.hid hs3
            obtain ⟨ua, uc, rfl⟩ := hs3.shape
            have hlI : (OC.length : Int) = (OG.length : Int) := by rw [Hlen.out]
            clear hs3 hb3 hOG d0 d1 e0 e1 lP lE
            have hOl : OC.length ≤ 200 := by omega
            go_wp2_with fail
            clear hlI
            go_loopw [13] (fun q wr => ∃ j : Nat, j ≤ OC.length ∧ q = .int .i64 j ∧ Hid (Below y3.heap.size y3 wr)) (fun q _ => OC.length - (intOf q).toNat)
            case atStart => exact ⟨0, Nat.zero_le _, rfl, Lib.hid (Below.refl _ _)⟩
            case round =>
              obtain ⟨j, hj, rfl, hbz⟩ := hrel
              have K4 := Lib.hid (below_step hbz.out K3.out)
              by_cases hjl : j < OC.length
              · have hjI : (j : Int) < (OC.length : Int) := by omega
                have hj0 : (0 : Int) ≤ (j : Int) := by omega
                have hjg : j < OG.length := by have := Hlen.out; omega
                have hjI2 : (j : Int) < (OG.length : Int) := by omega
                have HQr := Lib.hid (rowTo HQo.out K4.out)
                have HDr := Lib.hid (rowTo HDo.out K4.out)
                have d0 := HQr.out.cell (j := 0) (by simp)
                have d1 := HQr.out.cell (j := 1) (by simp)
                have e0 := HDr.out.cell (j := 0) (by simp)
                have e1 := HDr.out.cell (j := 1) (by simp)
                have lP := HQr.out.lt
                have lE := HDr.out.lt
                simp only [List.getElem_cons_zero, List.getElem_cons_succ] at d0 d1 e0 e1
                obtain ⟨_, _, ee, -, -, -, -, x5⟩ := (HS3.out.at hbz.out)
                simp only [Value.slice.injEq, true_and] at ee
                obtain ⟨rfl, rfl⟩ := ee
                obtain ⟨bo, oo, rfl, -, hbo, i0, -⟩ := x5.int hjl
                obtain ⟨_, _, ee, -, -, -, -, x6⟩ := (HT3.out.at hbz.out)
                simp only [Value.slice.injEq, true_and] at ee
                obtain ⟨rfl, rfl⟩ := ee
                obtain ⟨bu, ou, rfl, -, hbu, j0, -⟩ := x6.int hjg
                obtain ⟨hpl, hql, hp0, hq0, hin⟩ := Hat.out j _ _ (List.getElem?_eq_getElem hjl) (List.getElem?_eq_getElem hjg)
                obtain ⟨p, hp⟩ := Int.eq_ofNat_of_zero_le hp0
                obtain ⟨q, hq⟩ := Int.eq_ofNat_of_zero_le hq0
                simp only [hp, hq, Int.toNat_natCast] at hpl hql hin
                rw [hp] at i0
                rw [hq] at j0
                have HCz := Lib.hid (HCr.out.at' K4.out)
                have HGz := Lib.hid (HGr.out.at' K4.out)
                obtain ⟨_, _, ee, -, hR5⟩ := HCz.out
                simp only [Value.agg.injEq, Array.mk.injEq, List.cons.injEq, and_true] at ee
                obtain ⟨rfl, rfl⟩ := ee
                obtain ⟨_, _, ee, -, -, -, -, x7⟩ := hR5
                simp only [Value.slice.injEq, true_and] at ee
                obtain ⟨rfl, rfl⟩ := ee
                obtain ⟨br, fr, pa, pc, na, nc, rfl, -, hbr1, r0, r1, r2, rih, rp, rn⟩ := x7.rule hpl
                obtain ⟨_, _, ee, -, hR6⟩ := HGz.out
                simp only [Value.agg.injEq, Array.mk.injEq, List.cons.injEq, and_true] at ee
                obtain ⟨rfl, rfl⟩ := ee
                obtain ⟨_, _, ee, -, -, -, -, x8⟩ := hR6
                simp only [Value.slice.injEq, true_and] at ee
                obtain ⟨rfl, rfl⟩ := ee
                obtain ⟨bs, fs, pa2, pc2, na2, nc2, rfl, -, hbs, s0, s1, s2, sih, sp, sn⟩ := x8.rule hql
                have m1 := List.getElem_mem hpl
                have m2 := List.getElem_mem hql
                have A0 := Lib.hid (hL.out.right.head _ m1)
                have A1 := Lib.hid (hL.out.right.pos _ m1)
                have A2 := Lib.hid (hL.out.right.neg _ m1)
                have A3 := Lib.hid (hL.out.few.p _ m1)
                have D0 := Lib.hid (HRg.out.head _ m2)
                have D1 := Lib.hid (HRg.out.pos _ m2)
                have D2 := Lib.hid (HRg.out.neg _ m2)
                have D3 := Lib.hid (HF.out.p _ m2)
                obtain ⟨r, hr⟩ : ∃ r, r = C.rules[p] := ⟨_, rfl⟩
                rw [← hr] at r0 r1 r2 rih rp rn A0 A1 A2 A3 hin
                obtain ⟨s, hs⟩ : ∃ s, s = g.rules[q] := ⟨_, rfl⟩
                rw [← hs] at s0 s1 s2 sih sp sn D0 D1 D2 D3 hin
                have HRv := Lib.hid (show RulV _ wr (.agg #[.int .i64 r.head, .slice pa r.pos.length pc, .slice na r.neg.length nc]) r from ⟨_, _, rfl, rih, rp, rn⟩)
                have HSv := Lib.hid (show RulV _ wr (.agg #[.int .i64 s.head, .slice pa2 s.pos.length pc2, .slice na2 s.neg.length nc2]) s from ⟨_, _, rfl, sih, sp, sn⟩)
                have Hin := Lib.hid hin
                have hp1 : ¬ (p : Int) < 0 := by omega
                have hp2 : ¬ (p : Int) ≥ (C.rules.length : Int) := by omega
                have hp3 : (p : Int) < (C.rules.length : Int) := by omega
                have hp4 : (0 : Int) ≤ (p : Int) := by omega
                have hp5 : ((p : Int)).toNat = p := Int.toNat_natCast p
                have hq1 : ¬ (q : Int) < 0 := by omega
                have hq2 : ¬ (q : Int) ≥ (g.rules.length : Int) := by omega
                have hq3 : (q : Int) < (g.rules.length : Int) := by omega
                have hq4 : (0 : Int) ≤ (q : Int) := by omega
                have hq5 : ((q : Int)).toNat = q := Int.toNat_natCast q
                clear x5 x6 x7 x8 hr hs m1 m2 hin hp hq rp rn sp sn rih sih hpl hql hp0 hq0
                obtain ⟨wz, rfl⟩ : ∃ wz, wz = wr := ⟨_, rfl⟩
                go_upto_region 22 with fail
                have Hkeep := fun {Wk : World} (hW : Below wz.heap.size wz Wk) => Lib.hid (show Wk.cell? ⟨bo, oo + j, none⟩ = some (.int .i64 p) ∧ Wk.cell? ⟨bu, ou + j, none⟩ = some (.int .i64 q) ∧ Wk.cell? ⟨w.heap.size, 1, none⟩ = some (.slice (some ⟨bs, fs, none⟩) g.rules.length rc) ∧ Wk.cell? ⟨w4.heap.size, 1, none⟩ = some (.slice (some ⟨br, fr, none⟩) C.rules.length rc4) from ⟨(hW.cell (p := ⟨bo, oo + j, none⟩) hbo).trans i0, (hW.cell (p := ⟨bu, ou + j, none⟩) hbu).trans j0, (hW.cell (p := ⟨w.heap.size, 1, none⟩) lP).trans d1, (hW.cell (p := ⟨w4.heap.size, 1, none⟩) lE).trans e1⟩)
                (try simp only [List.append_eq, List.cons_append, List.nil_append])
                refine wp_region_noPanic ?_
                refine wp_region_held_drew (S := fun w' => w'.cell? ⟨bo, oo + j, none⟩ = some (.int .i64 p) ∧ w'.cell? ⟨bu, ou + j, none⟩ = some (.int .i64 q) ∧ w'.cell? ⟨w.heap.size, 1, none⟩ = some (.slice (some ⟨bs, fs, none⟩) g.rules.length rc) ∧ w'.cell? ⟨w4.heap.size, 1, none⟩ = some (.slice (some ⟨br, fr, none⟩) C.rules.length rc4)) (by kernel_rfl) ?_ (fun hHeld => ?_)
                · exact (Hkeep (Below.drew (Below.refl _ _))).out
                refine wpAnyH_take1 (i := 0) (oi := _) (v := ?_) (by kernel_rfl) rfl (by kernel_rfl) (fun _ _ _ h => h) (Or.inl ⟨by rfl, ?_⟩) (by assumption) ?_
                rotate_left 1
                · intro w hSw; (try dsimp only at hSw); go_simp; (with_reducible rfl)
                (try simp only [Act.put, List.getElem_toArray, List.getElem_cons_zero, List.setIfInBounds_toArray, List.set_cons_zero, List.set_cons_succ])
                refine wpAnyH_take1 (i := 1) (oi := _) (v := ?_) (by kernel_rfl) rfl (by kernel_rfl) (fun _ _ _ h => h) (Or.inl ⟨by rfl, ?_⟩) (by assumption) ?_
                rotate_left 1
                · intro w hSw; (try dsimp only at hSw); go_simp; (with_reducible rfl)
                (try simp only [Act.put, List.getElem_toArray, List.getElem_cons_zero, List.getElem_cons_succ, List.setIfInBounds_toArray, List.set_cons_zero, List.set_cons_succ])
                refine wpAnyH_take1 (i := 2) (oi := _) (v := ?_) (by kernel_rfl) rfl (by kernel_rfl) (fun _ _ _ h => h) (Or.inl ⟨by rfl, ?_⟩) (by assumption) ?_
                rotate_left 1
                · intro w hSw; (try dsimp only at hSw); go_simp; (with_reducible rfl)
                (try simp only [Act.put, List.getElem_toArray, List.getElem_cons_zero, List.getElem_cons_succ, List.setIfInBounds_toArray, List.set_cons_zero, List.set_cons_succ])
                refine wpAnyH_take1 (i := 3) (oi := _) (v := ?_) (by kernel_rfl) rfl (by kernel_rfl) (fun _ _ _ h => h) (Or.inl ⟨by rfl, ?_⟩) (by assumption) ?_
                rotate_left 1
                · intro w hSw; (try dsimp only at hSw); go_simp; (with_reducible rfl)
                (try simp only [Act.put, List.getElem_toArray, List.getElem_cons_zero, List.getElem_cons_succ, List.setIfInBounds_toArray, List.set_cons_zero, List.set_cons_succ])
                refine wpAnyH_take1 (i := 4) (oi := _) (v := ?_) (by kernel_rfl) rfl (by kernel_rfl) (fun _ _ _ h => h) (Or.inl ⟨by rfl, ?_⟩) (by assumption) ?_
                rotate_left 1
                · intro w hSw; (try dsimp only at hSw); go_simp; (with_reducible rfl)
                (try simp only [Act.put, List.getElem_toArray, List.getElem_cons_zero, List.getElem_cons_succ, List.setIfInBounds_toArray, List.set_cons_zero, List.set_cons_succ])
                refine wpAnyH_take1 (i := 5) (oi := _) (v := ?_) (by kernel_rfl) rfl (by kernel_rfl) (fun _ _ _ h => h) (Or.inl ⟨by rfl, ?_⟩) (by assumption) ?_
                rotate_left 1
                · intro w hSw; (try dsimp only at hSw); go_simp; (with_reducible rfl)
                (try simp only [Act.put, List.getElem_toArray, List.getElem_cons_zero, List.getElem_cons_succ, List.setIfInBounds_toArray, List.set_cons_zero, List.set_cons_succ])
                refine wpAnyH_take1 (i := 6) (oi := _) (v := ?_) (by kernel_rfl) rfl (by kernel_rfl) (fun _ _ _ h => h) (Or.inl ⟨by rfl, ?_⟩) (by assumption) ?_
                rotate_left 1
                · intro w hSw; (try dsimp only at hSw); go_simp; (with_reducible rfl)
                (try simp only [Act.put, List.getElem_toArray, List.getElem_cons_zero, List.getElem_cons_succ, List.setIfInBounds_toArray, List.set_cons_zero, List.set_cons_succ])
                refine wpAnyH_take1 (i := 7) (oi := _) (v := ?_) (by kernel_rfl) rfl (by kernel_rfl) (fun _ _ _ h => h) (Or.inl ⟨by rfl, ?_⟩) (by assumption) ?_
                rotate_left 1
                · intro w hSw; (try dsimp only at hSw); go_simp; (with_reducible rfl)
                (try simp only [Act.put, List.getElem_toArray, List.getElem_cons_zero, List.getElem_cons_succ, List.setIfInBounds_toArray, List.set_cons_zero, List.set_cons_succ])
                refine wpAnyH_take1 (i := 8) (oi := _) (v := ?_) (by kernel_rfl) rfl (by kernel_rfl) (fun _ _ _ h => h) (Or.inl ⟨by rfl, ?_⟩) (by assumption) ?_
                rotate_left 1
                · intro w hSw; (try dsimp only at hSw); go_simp; (with_reducible rfl)
                (try simp only [Act.put, List.getElem_toArray, List.getElem_cons_zero, List.getElem_cons_succ, List.setIfInBounds_toArray, List.set_cons_zero, List.set_cons_succ])
                refine wpAnyH_take1 (i := 9) (oi := _) (v := ?_) (by kernel_rfl) rfl (by kernel_rfl) (fun _ _ _ h => h) (Or.inl ⟨by rfl, ?_⟩) (by assumption) ?_
                rotate_left 1
                · intro w hSw; (try dsimp only at hSw); go_simp; (with_reducible rfl)
                (try simp only [Act.put, List.getElem_toArray, List.getElem_cons_zero, List.getElem_cons_succ, List.setIfInBounds_toArray, List.set_cons_zero, List.set_cons_succ])
                refine wpAnyH_take1 (i := 10) (oi := _) (v := ?_) (by kernel_rfl) rfl (by kernel_rfl) (fun _ _ _ h => h) (Or.inl ⟨by rfl, ?_⟩) (by assumption) ?_
                rotate_left 1
                · intro w hSw; (try dsimp only at hSw); go_simp; (with_reducible rfl)
                (try simp only [Act.put, List.getElem_toArray, List.getElem_cons_zero, List.getElem_cons_succ, List.setIfInBounds_toArray, List.set_cons_zero, List.set_cons_succ])
                as_aux_lemma =>
                  refine wpAnyH_take1 (i := 11) (oi := _) (v := ?_) (by kernel_rfl) rfl (by kernel_rfl) (fun _ _ _ h => h) (Or.inl ⟨by rfl, ?_⟩) (by assumption) ?_
                  rotate_left 1
                  · intro w hSw; (try dsimp only at hSw); go_simp; (with_reducible rfl)
                  (try simp only [Act.put, List.getElem_toArray, List.getElem_cons_zero, List.getElem_cons_succ, List.setIfInBounds_toArray, List.set_cons_zero, List.set_cons_succ])
                  refine wpAnyH_take1 (i := 12) (oi := _) (v := ?_) (by kernel_rfl) rfl (by kernel_rfl) (fun _ _ _ h => h) (Or.inl ⟨by rfl, ?_⟩) (by assumption) ?_
                  rotate_left 1
                  · intro w hSw; (try dsimp only at hSw); go_simp; (with_reducible rfl)
                  (try simp only [Act.put, List.getElem_toArray, List.getElem_cons_zero, List.getElem_cons_succ, List.setIfInBounds_toArray, List.set_cons_zero, List.set_cons_succ])
                  refine wpAnyH_take1 (i := 13) (oi := _) (v := ?_) (by kernel_rfl) rfl (by kernel_rfl) (fun _ _ _ h => h) (Or.inl ⟨by rfl, ?_⟩) (by assumption) ?_
                  rotate_left 1
                  · intro w hSw; (try dsimp only at hSw); go_simp; (with_reducible rfl)
                  (try simp only [Act.put, List.getElem_toArray, List.getElem_cons_zero, List.getElem_cons_succ, List.setIfInBounds_toArray, List.set_cons_zero, List.set_cons_succ])
                  refine wpAnyH_take1 (i := 14) (oi := _) (v := ?_) (by kernel_rfl) rfl (by kernel_rfl) (fun _ _ _ h => h) (Or.inl ⟨by rfl, ?_⟩) (by assumption) ?_
                  rotate_left 1
                  · intro w hSw; (try dsimp only at hSw); go_simp; (with_reducible rfl)
                  (try simp only [Act.put, List.getElem_toArray, List.getElem_cons_zero, List.getElem_cons_succ, List.setIfInBounds_toArray, List.set_cons_zero, List.set_cons_succ])
                  refine wpAnyH_take1 (i := 15) (oi := _) (v := ?_) (by kernel_rfl) rfl (by kernel_rfl) (fun _ _ _ h => h) (Or.inl ⟨by rfl, ?_⟩) (by assumption) ?_
                  rotate_left 1
                  · intro w hSw; (try dsimp only at hSw); go_simp; (with_reducible rfl)
                  (try simp only [Act.put, List.getElem_toArray, List.getElem_cons_zero, List.getElem_cons_succ, List.setIfInBounds_toArray, List.set_cons_zero, List.set_cons_succ])
                  refine wpAnyH_take1 (i := 16) (oi := _) (v := ?_) (by kernel_rfl) rfl (by kernel_rfl) (fun _ _ _ h => h) (Or.inl ⟨by rfl, ?_⟩) (by assumption) ?_
                  rotate_left 1
                  · intro w hSw; (try dsimp only at hSw); go_simp; (with_reducible rfl)
                  (try simp only [Act.put, List.getElem_toArray, List.getElem_cons_zero, List.getElem_cons_succ, List.setIfInBounds_toArray, List.set_cons_zero, List.set_cons_succ])
                  refine wpAnyH_take1 (i := 17) (oi := _) (v := ?_) (by kernel_rfl) rfl (by kernel_rfl) (fun _ _ _ h => h) (Or.inl ⟨by rfl, ?_⟩) (by assumption) ?_
                  rotate_left 1
                  · intro w hSw; (try dsimp only at hSw); go_simp; (with_reducible rfl)
                  (try simp only [Act.put, List.getElem_toArray, List.getElem_cons_zero, List.getElem_cons_succ, List.setIfInBounds_toArray, List.set_cons_zero, List.set_cons_succ])
                  refine wpAnyH_take1 (i := 18) (oi := _) (v := ?_) (by kernel_rfl) rfl (by kernel_rfl) (fun _ _ _ h => h) (Or.inl ⟨by rfl, ?_⟩) (by assumption) ?_
                  rotate_left 1
                  · intro w hSw; (try dsimp only at hSw); go_simp; (with_reducible rfl)
                  (try simp only [Act.put, List.getElem_toArray, List.getElem_cons_zero, List.getElem_cons_succ, List.setIfInBounds_toArray, List.set_cons_zero, List.set_cons_succ])
                  refine wpAnyH_take1 (i := 19) (oi := _) (v := ?_) (by kernel_rfl) rfl (by kernel_rfl) (fun _ _ _ h => h) (Or.inl ⟨by rfl, ?_⟩) (by assumption) ?_
                  rotate_left 1
                  · intro w hSw; (try dsimp only at hSw); go_simp; (with_reducible rfl)
                  (try simp only [Act.put, List.getElem_toArray, List.getElem_cons_zero, List.getElem_cons_succ, List.setIfInBounds_toArray, List.set_cons_zero, List.set_cons_succ])
                  refine wpAnyH_take1 (i := 20) (oi := _) (v := ?_) (by kernel_rfl) rfl (by kernel_rfl) (fun _ _ _ h => h) (Or.inl ⟨by rfl, ?_⟩) (by assumption) ?_
                  rotate_left 1
                  · intro w hSw; (try dsimp only at hSw); go_simp; (with_reducible rfl)
                  (try simp only [Act.put, List.getElem_toArray, List.getElem_cons_zero, List.getElem_cons_succ, List.setIfInBounds_toArray, List.set_cons_zero, List.set_cons_succ])
                  refine wpAnyH_take1 (i := 21) (oi := _) (v := ?_) (by kernel_rfl) rfl (by kernel_rfl) (fun _ _ _ h => h) (Or.inl ⟨by rfl, ?_⟩) (by assumption) ?_
                  rotate_left 1
                  · intro w hSw; (try dsimp only at hSw); go_simp; (with_reducible rfl)
                  (try simp only [Act.put, List.getElem_toArray, List.getElem_cons_zero, List.getElem_cons_succ, List.setIfInBounds_toArray, List.set_cons_zero, List.set_cons_succ])
                  refine wpAnyH_take1 (i := 22) (oi := _) (v := ?_) (by kernel_rfl) rfl (by kernel_rfl) (fun _ _ _ h => h) (Or.inl ⟨by rfl, ?_⟩) (by assumption) ?_
                  rotate_left 1
                  · intro w hSw; (try dsimp only at hSw); go_simp; (with_reducible rfl)
                  (try simp only [Act.put, List.getElem_toArray, List.getElem_cons_zero, List.getElem_cons_succ, List.setIfInBounds_toArray, List.set_cons_zero, List.set_cons_succ])
                  as_aux_lemma =>
                    refine wpAnyH_take1 (i := 23) (oi := _) (v := ?_) (by kernel_rfl) rfl (by kernel_rfl) (fun _ _ _ h => h) (Or.inl ⟨by rfl, ?_⟩) (by assumption) ?_
                    rotate_left 1
                    · intro w hSw; (try dsimp only at hSw); go_simp; (with_reducible rfl)
                    (try simp only [Act.put, List.getElem_toArray, List.getElem_cons_zero, List.getElem_cons_succ, List.setIfInBounds_toArray, List.set_cons_zero, List.set_cons_succ])
                    refine wpAnyH_take1 (i := 24) (oi := _) (v := ?_) (by kernel_rfl) rfl (by kernel_rfl) (fun _ _ _ h => h) (Or.inl ⟨by rfl, ?_⟩) (by assumption) ?_
                    rotate_left 1
                    · intro w hSw; (try dsimp only at hSw); go_simp; (with_reducible rfl)
                    (try simp only [Act.put, List.getElem_toArray, List.getElem_cons_zero, List.getElem_cons_succ, List.setIfInBounds_toArray, List.set_cons_zero, List.set_cons_succ])
                    refine wpAnyH_take1 (i := 25) (oi := _) (v := ?_) (by kernel_rfl) rfl (by kernel_rfl) (fun _ _ _ h => h) (Or.inl ⟨by rfl, ?_⟩) (by assumption) ?_
                    rotate_left 1
                    · intro w hSw; (try dsimp only at hSw); go_simp; (with_reducible rfl)
                    (try simp only [Act.put, List.getElem_toArray, List.getElem_cons_zero, List.getElem_cons_succ, List.setIfInBounds_toArray, List.set_cons_zero, List.set_cons_succ])
                    refine wpAnyH_take1 (i := 26) (oi := _) (v := ?_) (by kernel_rfl) rfl (by kernel_rfl) (fun _ _ _ h => h) (Or.inl ⟨by rfl, ?_⟩) (by assumption) ?_
                    rotate_left 1
                    · intro w hSw; (try dsimp only at hSw); go_simp; (with_reducible rfl)
                    (try simp only [Act.put, List.getElem_toArray, List.getElem_cons_zero, List.getElem_cons_succ, List.setIfInBounds_toArray, List.set_cons_zero, List.set_cons_succ])
                    refine wpAnyH_take1 (i := 27) (oi := _) (v := ?_) (by kernel_rfl) rfl (by kernel_rfl) (fun _ _ _ h => h) (Or.inl ⟨by rfl, ?_⟩) (by assumption) ?_
                    rotate_left 1
                    · intro w hSw; (try dsimp only at hSw); go_simp; (with_reducible rfl)
                    (try simp only [Act.put, List.getElem_toArray, List.getElem_cons_zero, List.getElem_cons_succ, List.setIfInBounds_toArray, List.set_cons_zero, List.set_cons_succ])
                    refine wpAnyH_take1 (i := 28) (oi := _) (v := ?_) (by kernel_rfl) rfl (by kernel_rfl) (fun _ _ _ h => h) (Or.inl ⟨by rfl, ?_⟩) (by assumption) ?_
                    rotate_left 1
                    · intro w hSw; (try dsimp only at hSw); go_simp; (with_reducible rfl)
                    (try simp only [Act.put, List.getElem_toArray, List.getElem_cons_zero, List.getElem_cons_succ, List.setIfInBounds_toArray, List.set_cons_zero, List.set_cons_succ])
                    refine wpAnyH_take1 (i := 29) (oi := _) (v := ?_) (by kernel_rfl) rfl (by kernel_rfl) (fun _ _ _ h => h) (Or.inl ⟨by rfl, ?_⟩) (by assumption) ?_
                    rotate_left 1
                    · intro w hSw; (try dsimp only at hSw); go_simp; (with_reducible rfl)
                    (try simp only [Act.put, List.getElem_toArray, List.getElem_cons_zero, List.getElem_cons_succ, List.setIfInBounds_toArray, List.set_cons_zero, List.set_cons_succ])
                    refine wpAnyH_take1 (i := 30) (oi := _) (v := ?_) (by kernel_rfl) rfl (by kernel_rfl) (fun _ _ _ h => h) (Or.inl ⟨by rfl, ?_⟩) (by assumption) ?_
                    rotate_left 1
                    · intro w hSw; (try dsimp only at hSw); go_simp; (with_reducible rfl)
                    (try simp only [Act.put, List.getElem_toArray, List.getElem_cons_zero, List.getElem_cons_succ, List.setIfInBounds_toArray, List.set_cons_zero, List.set_cons_succ])
                    refine wpAnyH_take1 (i := 31) (oi := _) (v := ?_) (by kernel_rfl) rfl (by kernel_rfl) (fun _ _ _ h => h) (Or.inl ⟨by rfl, ?_⟩) (by assumption) ?_
                    rotate_left 1
                    · intro w hSw; (try dsimp only at hSw); go_simp; (with_reducible rfl)
                    (try simp only [Act.put, List.getElem_toArray, List.getElem_cons_zero, List.getElem_cons_succ, List.setIfInBounds_toArray, List.set_cons_zero, List.set_cons_succ])
                    refine wpAnyH_done (by kernel_rfl) ?_ _
                    refine NoPanic.normal ?_
                    clear Hkeep
                    go_upto_region 24 with fail
                    as_aux_lemma =>
                      have Hkeep := fun {Wk : World} (hW : Below wz.heap.size wz Wk) => Lib.hid (show Wk.cell? ⟨bo, oo + j, none⟩ = some (.int .i64 p) ∧ Wk.cell? ⟨w4.heap.size, 0, none⟩ = some (.slice (some ⟨b4, off4, none⟩) C.atoms.length ac4) ∧ Wk.cell? ⟨w4.heap.size, 1, none⟩ = some (.slice (some ⟨br, fr, none⟩) C.rules.length rc4) ∧ Wk.cell? ⟨br, fr + p * 3, none⟩ = some (.int .i64 r.head) ∧ Wk.cell? ⟨br, fr + p * 3 + 1, none⟩ = some (.slice pa r.pos.length pc) ∧ Wk.cell? ⟨br, fr + p * 3 + 2, none⟩ = some (.slice na r.neg.length nc) from ⟨(hW.cell (p := ⟨bo, oo + j, none⟩) hbo).trans i0, (hW.cell (p := ⟨w4.heap.size, 0, none⟩) lE).trans e0, (hW.cell (p := ⟨w4.heap.size, 1, none⟩) lE).trans e1, (hW.cell (p := ⟨br, fr + p * 3, none⟩) hbr1).trans r0, (hW.cell (p := ⟨br, fr + p * 3 + 1, none⟩) hbr1).trans r1, (hW.cell (p := ⟨br, fr + p * 3 + 2, none⟩) hbr1).trans r2⟩)
                      (try simp only [List.append_eq, List.cons_append, List.nil_append])
                      refine wp_region_noPanic ?_
                      refine wp_region_held_drew (S := fun w' => w'.cell? ⟨bo, oo + j, none⟩ = some (.int .i64 p) ∧ w'.cell? ⟨w4.heap.size, 0, none⟩ = some (.slice (some ⟨b4, off4, none⟩) C.atoms.length ac4) ∧ w'.cell? ⟨w4.heap.size, 1, none⟩ = some (.slice (some ⟨br, fr, none⟩) C.rules.length rc4) ∧ w'.cell? ⟨br, fr + p * 3, none⟩ = some (.int .i64 r.head) ∧ w'.cell? ⟨br, fr + p * 3 + 1, none⟩ = some (.slice pa r.pos.length pc) ∧ w'.cell? ⟨br, fr + p * 3 + 2, none⟩ = some (.slice na r.neg.length nc)) (by kernel_rfl) ?_ (fun hHeld => ?_)
                      · exact (Hkeep (Below.drew (Below.refl _ _))).out
                      refine wpAnyH_take1 (i := 0) (oi := _) (v := ?_) (by kernel_rfl) rfl (by kernel_rfl) (fun _ _ _ h => h) (Or.inl ⟨by rfl, ?_⟩) (by assumption) ?_
                      rotate_left 1
                      · intro w hSw; (try dsimp only at hSw); go_simp; (with_reducible rfl)
                      (try simp only [Act.put, List.getElem_toArray, List.getElem_cons_zero, List.setIfInBounds_toArray, List.set_cons_zero, List.set_cons_succ])
                      refine wpAnyH_take1 (i := 1) (oi := _) (v := ?_) (by kernel_rfl) rfl (by kernel_rfl) (fun _ _ _ h => h) (Or.inl ⟨by rfl, ?_⟩) (by assumption) ?_
                      rotate_left 1
                      · intro w hSw; (try dsimp only at hSw); go_simp; (with_reducible rfl)
                      (try simp only [Act.put, List.getElem_toArray, List.getElem_cons_zero, List.getElem_cons_succ, List.setIfInBounds_toArray, List.set_cons_zero, List.set_cons_succ])
                      refine wpAnyH_take1 (i := 2) (oi := _) (v := ?_) (by kernel_rfl) rfl (by kernel_rfl) (fun _ _ _ h => h) (Or.inl ⟨by rfl, ?_⟩) (by assumption) ?_
                      rotate_left 1
                      · intro w hSw; (try dsimp only at hSw); go_simp; (with_reducible rfl)
                      (try simp only [Act.put, List.getElem_toArray, List.getElem_cons_zero, List.getElem_cons_succ, List.setIfInBounds_toArray, List.set_cons_zero, List.set_cons_succ])
                      refine wpAnyH_take1 (i := 3) (oi := _) (v := ?_) (by kernel_rfl) rfl (by kernel_rfl) (fun _ _ _ h => h) (Or.inl ⟨by rfl, ?_⟩) (by assumption) ?_
                      rotate_left 1
                      · intro w hSw; (try dsimp only at hSw); go_simp; (with_reducible rfl)
                      (try simp only [Act.put, List.getElem_toArray, List.getElem_cons_zero, List.getElem_cons_succ, List.setIfInBounds_toArray, List.set_cons_zero, List.set_cons_succ])
                      refine wpAnyH_take1 (i := 4) (oi := _) (v := ?_) (by kernel_rfl) rfl (by kernel_rfl) (fun _ _ _ h => h) (Or.inl ⟨by rfl, ?_⟩) (by assumption) ?_
                      rotate_left 1
                      · intro w hSw; (try dsimp only at hSw); go_simp; (with_reducible rfl)
                      (try simp only [Act.put, List.getElem_toArray, List.getElem_cons_zero, List.getElem_cons_succ, List.setIfInBounds_toArray, List.set_cons_zero, List.set_cons_succ])
                      refine wpAnyH_take1 (i := 5) (oi := _) (v := ?_) (by kernel_rfl) rfl (by kernel_rfl) (fun _ _ _ h => h) (Or.inl ⟨by rfl, ?_⟩) (by assumption) ?_
                      rotate_left 1
                      · intro w hSw; (try dsimp only at hSw); go_simp; (with_reducible rfl)
                      (try simp only [Act.put, List.getElem_toArray, List.getElem_cons_zero, List.getElem_cons_succ, List.setIfInBounds_toArray, List.set_cons_zero, List.set_cons_succ])
                      refine wpAnyH_take1 (i := 6) (oi := _) (v := ?_) (by kernel_rfl) rfl (by kernel_rfl) (fun _ _ _ h => h) (Or.inl ⟨by rfl, ?_⟩) (by assumption) ?_
                      rotate_left 1
                      · intro w hSw; (try dsimp only at hSw); go_simp; (with_reducible rfl)
                      (try simp only [Act.put, List.getElem_toArray, List.getElem_cons_zero, List.getElem_cons_succ, List.setIfInBounds_toArray, List.set_cons_zero, List.set_cons_succ])
                      refine wpAnyH_take1 (i := 7) (oi := _) (v := ?_) (by kernel_rfl) rfl (by kernel_rfl) (fun _ _ _ h => h) (Or.inl ⟨by rfl, ?_⟩) (by assumption) ?_
                      rotate_left 1
                      · intro w hSw; (try dsimp only at hSw); go_simp; (with_reducible rfl)
                      (try simp only [Act.put, List.getElem_toArray, List.getElem_cons_zero, List.getElem_cons_succ, List.setIfInBounds_toArray, List.set_cons_zero, List.set_cons_succ])
                      refine wpAnyH_take1 (i := 8) (oi := _) (v := ?_) (by kernel_rfl) rfl (by kernel_rfl) (fun _ _ _ h => h) (Or.inl ⟨by rfl, ?_⟩) (by assumption) ?_
                      rotate_left 1
                      · intro w hSw; (try dsimp only at hSw); go_simp; (with_reducible rfl)
                      (try simp only [Act.put, List.getElem_toArray, List.getElem_cons_zero, List.getElem_cons_succ, List.setIfInBounds_toArray, List.set_cons_zero, List.set_cons_succ])
                      refine wpAnyH_boxIns (ic := 9) (ia := 10) (is := 11) (dc := 141) (da := 14) (i := instG C r) (by kernel_rfl) (by kernel_rfl) (by kernel_rfl) (by kernel_rfl) (by decide) rfl rfl rfl rfl rfl rfl (by decide) rfl rfl rfl (of_decide_eq_true (by kernel_rfl)) (of_decide_eq_true (by kernel_rfl)) rfl rfl (fun w' hb => (Hkeep (below_step hb (Seq.way : Below wz.heap.size wz _))).out) ?_ ?_ ?_
                      · intro K hK
                        go_simp
                        refine (InstR_spec (HCz.out.at' Seq.way) (HRv.out.at Seq.way) A0.out A1.out.1 A2.out.1 (by have := A3.out; omega) (by have := A3.out; omega)).mono ?_
                        rintro e y1 ⟨v1, rfl, hy1, hi1⟩
                        exact hK.out _ _ hy1 hi1.ltW
                      · intro K hK
                        (try simp only [Act.put, List.getElem_toArray, List.getElem_cons_zero, List.getElem_cons_succ, List.setIfInBounds_toArray, List.set_cons_zero, List.set_cons_succ])
                        go_simp
                        refine (InstR_spec (HCz.out.at' Seq.way) (HRv.out.at Seq.way) A0.out A1.out.1 A2.out.1 (by have := A3.out; omega) (by have := A3.out; omega)).mono ?_
                        rintro e y1 ⟨v1, rfl, hy1, hi1⟩
                        exact hK.out _ _ hy1 (hi1.neB (fun b hb => by simp at hb ⊢; omega) (by simp [zIns]))
                      clear hHeld
                      intro B1 t1 t2 t3 wx hBx hrow hbx hins
                      (try simp only [Act.put, List.setIfInBounds_toArray, List.set_cons_zero, List.set_cons_succ])
                      refine wpAnyH_done (by kernel_rfl) ?_ _
                      refine NoPanic.normal ?_
                      have YI1i := Lib.hid hins
                      have YI1r := Lib.hid hrow
                      have YI1b := Lib.hid (below_step hbx (Seq.way : Below wz.heap.size wz _))
                      clear hins hrow hbx
                      have HGx := Lib.hid (HGz.out.at' YI1b.out)
                      have HSxv := Lib.hid (HSv.out.at YI1b.out)
                      have mv := fun {p : Addr} {u : Value} (hl : p.block < wz.heap.size) (h : wz.cell? p = some u) => (YI1b.out.cell (p := p) hl).trans h
                      replace d0 := mv (p := ⟨w.heap.size, 0, none⟩) lP d0
                      replace d1 := mv (p := ⟨w.heap.size, 1, none⟩) lP d1
                      replace j0 := mv (p := ⟨bu, ou + j, none⟩) hbu j0
                      replace s0 := mv (p := ⟨bs, fs + q * 3, none⟩) hbs s0
                      replace s1 := mv (p := ⟨bs, fs + q * 3 + 1, none⟩) hbs s1
                      replace s2 := mv (p := ⟨bs, fs + q * 3 + 2, none⟩) hbs s2
                      have lP := Nat.lt_of_lt_of_le lP YI1b.out.size
                      have hbu := Nat.lt_of_lt_of_le hbu YI1b.out.size
                      have hbs := Nat.lt_of_lt_of_le hbs YI1b.out.size
                      clear mv Hkeep e0 e1 lE i0 hbo r0 r1 r2 hbr1
                      go_upto_region 25 with fail
                      as_aux_lemma =>
                        have Hkeep := fun {Wk : World} (hW : Below wx.heap.size wx Wk) => Lib.hid (show Wk.cell? ⟨bu, ou + j, none⟩ = some (.int .i64 q) ∧ Wk.cell? ⟨w.heap.size, 0, none⟩ = some (.slice (some ⟨b, off, none⟩) g.atoms.length ac) ∧ Wk.cell? ⟨w.heap.size, 1, none⟩ = some (.slice (some ⟨bs, fs, none⟩) g.rules.length rc) ∧ Wk.cell? ⟨bs, fs + q * 3, none⟩ = some (.int .i64 s.head) ∧ Wk.cell? ⟨bs, fs + q * 3 + 1, none⟩ = some (.slice pa2 s.pos.length pc2) ∧ Wk.cell? ⟨bs, fs + q * 3 + 2, none⟩ = some (.slice na2 s.neg.length nc2) from ⟨(hW.cell (p := ⟨bu, ou + j, none⟩) hbu).trans j0, (hW.cell (p := ⟨w.heap.size, 0, none⟩) lP).trans d0, (hW.cell (p := ⟨w.heap.size, 1, none⟩) lP).trans d1, (hW.cell (p := ⟨bs, fs + q * 3, none⟩) hbs).trans s0, (hW.cell (p := ⟨bs, fs + q * 3 + 1, none⟩) hbs).trans s1, (hW.cell (p := ⟨bs, fs + q * 3 + 2, none⟩) hbs).trans s2⟩)
                        (try simp only [List.append_eq, List.cons_append, List.nil_append])
                        refine wp_region_noPanic ?_
                        refine wp_region_held_drew (S := fun w' => w'.cell? ⟨bu, ou + j, none⟩ = some (.int .i64 q) ∧ w'.cell? ⟨w.heap.size, 0, none⟩ = some (.slice (some ⟨b, off, none⟩) g.atoms.length ac) ∧ w'.cell? ⟨w.heap.size, 1, none⟩ = some (.slice (some ⟨bs, fs, none⟩) g.rules.length rc) ∧ w'.cell? ⟨bs, fs + q * 3, none⟩ = some (.int .i64 s.head) ∧ w'.cell? ⟨bs, fs + q * 3 + 1, none⟩ = some (.slice pa2 s.pos.length pc2) ∧ w'.cell? ⟨bs, fs + q * 3 + 2, none⟩ = some (.slice na2 s.neg.length nc2)) (by kernel_rfl) ?_ (fun hHeld => ?_)
                        · exact (Hkeep (Below.drew (Below.refl _ _))).out
                        refine wpAnyH_take1 (i := 0) (oi := _) (v := ?_) (by kernel_rfl) rfl (by kernel_rfl) (fun _ _ _ h => h) (Or.inl ⟨by rfl, ?_⟩) (by assumption) ?_
                        rotate_left 1
                        · intro w hSw; (try dsimp only at hSw); go_simp; (with_reducible rfl)
                        (try simp only [Act.put, List.getElem_toArray, List.getElem_cons_zero, List.setIfInBounds_toArray, List.set_cons_zero, List.set_cons_succ])
                        refine wpAnyH_take1 (i := 1) (oi := _) (v := ?_) (by kernel_rfl) rfl (by kernel_rfl) (fun _ _ _ h => h) (Or.inl ⟨by rfl, ?_⟩) (by assumption) ?_
                        rotate_left 1
                        · intro w hSw; (try dsimp only at hSw); go_simp; (with_reducible rfl)
                        (try simp only [Act.put, List.getElem_toArray, List.getElem_cons_zero, List.getElem_cons_succ, List.setIfInBounds_toArray, List.set_cons_zero, List.set_cons_succ])
                        refine wpAnyH_take1 (i := 2) (oi := _) (v := ?_) (by kernel_rfl) rfl (by kernel_rfl) (fun _ _ _ h => h) (Or.inl ⟨by rfl, ?_⟩) (by assumption) ?_
                        rotate_left 1
                        · intro w hSw; (try dsimp only at hSw); go_simp; (with_reducible rfl)
                        (try simp only [Act.put, List.getElem_toArray, List.getElem_cons_zero, List.getElem_cons_succ, List.setIfInBounds_toArray, List.set_cons_zero, List.set_cons_succ])
                        refine wpAnyH_take1 (i := 3) (oi := _) (v := ?_) (by kernel_rfl) rfl (by kernel_rfl) (fun _ _ _ h => h) (Or.inl ⟨by rfl, ?_⟩) (by assumption) ?_
                        rotate_left 1
                        · intro w hSw; (try dsimp only at hSw); go_simp; (with_reducible rfl)
                        (try simp only [Act.put, List.getElem_toArray, List.getElem_cons_zero, List.getElem_cons_succ, List.setIfInBounds_toArray, List.set_cons_zero, List.set_cons_succ])
                        refine wpAnyH_take1 (i := 4) (oi := _) (v := ?_) (by kernel_rfl) rfl (by kernel_rfl) (fun _ _ _ h => h) (Or.inl ⟨by rfl, ?_⟩) (by assumption) ?_
                        rotate_left 1
                        · intro w hSw; (try dsimp only at hSw); go_simp; (with_reducible rfl)
                        (try simp only [Act.put, List.getElem_toArray, List.getElem_cons_zero, List.getElem_cons_succ, List.setIfInBounds_toArray, List.set_cons_zero, List.set_cons_succ])
                        refine wpAnyH_take1 (i := 5) (oi := _) (v := ?_) (by kernel_rfl) rfl (by kernel_rfl) (fun _ _ _ h => h) (Or.inl ⟨by rfl, ?_⟩) (by assumption) ?_
                        rotate_left 1
                        · intro w hSw; (try dsimp only at hSw); go_simp; (with_reducible rfl)
                        (try simp only [Act.put, List.getElem_toArray, List.getElem_cons_zero, List.getElem_cons_succ, List.setIfInBounds_toArray, List.set_cons_zero, List.set_cons_succ])
                        refine wpAnyH_take1 (i := 6) (oi := _) (v := ?_) (by kernel_rfl) rfl (by kernel_rfl) (fun _ _ _ h => h) (Or.inl ⟨by rfl, ?_⟩) (by assumption) ?_
                        rotate_left 1
                        · intro w hSw; (try dsimp only at hSw); go_simp; (with_reducible rfl)
                        (try simp only [Act.put, List.getElem_toArray, List.getElem_cons_zero, List.getElem_cons_succ, List.setIfInBounds_toArray, List.set_cons_zero, List.set_cons_succ])
                        refine wpAnyH_take1 (i := 7) (oi := _) (v := ?_) (by kernel_rfl) rfl (by kernel_rfl) (fun _ _ _ h => h) (Or.inl ⟨by rfl, ?_⟩) (by assumption) ?_
                        rotate_left 1
                        · intro w hSw; (try dsimp only at hSw); go_simp; (with_reducible rfl)
                        (try simp only [Act.put, List.getElem_toArray, List.getElem_cons_zero, List.getElem_cons_succ, List.setIfInBounds_toArray, List.set_cons_zero, List.set_cons_succ])
                        refine wpAnyH_take1 (i := 8) (oi := _) (v := ?_) (by kernel_rfl) rfl (by kernel_rfl) (fun _ _ _ h => h) (Or.inl ⟨by rfl, ?_⟩) (by assumption) ?_
                        rotate_left 1
                        · intro w hSw; (try dsimp only at hSw); go_simp; (with_reducible rfl)
                        (try simp only [Act.put, List.getElem_toArray, List.getElem_cons_zero, List.getElem_cons_succ, List.setIfInBounds_toArray, List.set_cons_zero, List.set_cons_succ])
                        refine wpAnyH_boxIns (ic := 9) (ia := 10) (is := 11) (dc := 151) (da := 15) (i := instG g s) (by kernel_rfl) (by kernel_rfl) (by kernel_rfl) (by kernel_rfl) (by decide) rfl rfl rfl rfl rfl rfl (by decide) rfl rfl rfl (of_decide_eq_true (by kernel_rfl)) (of_decide_eq_true (by kernel_rfl)) rfl rfl (fun w' hb => (Hkeep (below_step hb (Seq.way : Below wx.heap.size wx _))).out) ?_ ?_ ?_
                        · intro K hK
                          go_simp
                          refine (InstR_spec (HGx.out.at' Seq.way) (HSxv.out.at Seq.way) D0.out D1.out.1 D2.out.1 (by have := D3.out; omega) (by have := D3.out; omega)).mono ?_
                          rintro e y1 ⟨v1, rfl, hy1, hi1⟩
                          exact hK.out _ _ hy1 hi1.ltW
                        · intro K hK
                          (try simp only [Act.put, List.getElem_toArray, List.getElem_cons_zero, List.getElem_cons_succ, List.setIfInBounds_toArray, List.set_cons_zero, List.set_cons_succ])
                          go_simp
                          refine (InstR_spec (HGx.out.at' Seq.way) (HSxv.out.at Seq.way) D0.out D1.out.1 D2.out.1 (by have := D3.out; omega) (by have := D3.out; omega)).mono ?_
                          rintro e y1 ⟨v1, rfl, hy1, hi1⟩
                          exact hK.out _ _ hy1 (hi1.neB (fun b hb => by simp at hb ⊢; omega) (by simp [zIns]))
                        clear hHeld
                        intro B2 u1 u2 u3 wy hBx hrow hbx hins
                        (try simp only [Act.put, List.setIfInBounds_toArray, List.set_cons_zero, List.set_cons_succ])
                        refine wpAnyH_done (by kernel_rfl) ?_ _
                        refine NoPanic.normal ?_
                        have YI2i := Lib.hid hins
                        have YI2r := Lib.hid hrow
                        have YI2b := Lib.hid (below_step hbx (Seq.way : Below wx.heap.size wx _))
                        clear hins hrow hbx
                        clear Hkeep d0 d1 lP j0 hbu s0 s1 s2 hbs
                        as_aux_lemma =>
                          have X0 := Lib.hid (below_step YI2b.out YI1b.out)
                          have H1r := Lib.hid (rowTo YI1r.out YI2b.out)
                          have H1i := Lib.hid (YI1i.out.at YI2b.out)
                          obtain ⟨I, hI⟩ : ∃ I, I = instG C r := ⟨_, rfl⟩
                          rw [← hI] at H1i Hin
                          have Hin2 := Lib.hid Hin.out.symm
                          have H2i := Lib.hid YI2i.out
                          rw [Hin2.out] at H2i
                          obtain ⟨_, _, _, ee, i1, i2, i3⟩ := H1i.out
                          simp only [Value.agg.injEq, Array.mk.injEq, List.cons.injEq, and_true] at ee
                          obtain ⟨rfl, rfl, rfl⟩ := ee
                          obtain ⟨h1a, h1c, rfl⟩ := i1.shape
                          obtain ⟨h2a, h2c, rfl⟩ := i2.shape
                          obtain ⟨h3a, h3c, rfl⟩ := i3.shape
                          obtain ⟨_, _, _, ee, k1, k2, k3⟩ := H2i.out
                          simp only [Value.agg.injEq, Array.mk.injEq, List.cons.injEq, and_true] at ee
                          obtain ⟨rfl, rfl, rfl⟩ := ee
                          obtain ⟨k1a, k1c, rfl⟩ := k1.shape
                          obtain ⟨k2a, k2c, rfl⟩ := k2.shape
                          obtain ⟨k3a, k3c, rfl⟩ := k3.shape
                          have I1 := Lib.hid i1
                          have I2 := Lib.hid i2
                          have I3 := Lib.hid i3
                          have J1 := Lib.hid k1
                          have J2 := Lib.hid k2
                          have J3 := Lib.hid k3
                          have hz := YI2b.out.size
                          have g0 := H1r.out.cell (j := 0) (by simp)
                          have g1 := H1r.out.cell (j := 1) (by simp)
                          have g2 := H1r.out.cell (j := 2) (by simp)
                          have lX := H1r.out.lt
                          have f0 := YI2r.out.cell (j := 0) (by simp)
                          have f1 := YI2r.out.cell (j := 1) (by simp)
                          have f2 := YI2r.out.cell (j := 2) (by simp)
                          have lY := YI2r.out.lt
                          simp only [List.getElem_cons_zero, List.getElem_cons_succ] at g0 g1 g2 f0 f1 f2
                          clear i1 i2 i3 k1 k2 k3 hI
                          go_wp2_with fail
                          refine (same_as rfl (I1.out.at Seq.way) (J1.out.at Seq.way)).mono ?_
                          rintro e y1 ⟨rfl, hy1⟩
                          have HY1 := Lib.hid (below_step hy1 (Seq.way : Below wy.heap.size wy _))
                          clear hy1
                          have c0 := (HY1.out.cell (p := ⟨B1, 0, none⟩) lX).trans g0
                          have q0 := Nat.lt_of_lt_of_le lX HY1.out.size
                          have c1 := (HY1.out.cell (p := ⟨B1, 1, none⟩) lX).trans g1
                          have q1 := Nat.lt_of_lt_of_le lX HY1.out.size
                          have c2 := (HY1.out.cell (p := ⟨B1, 2, none⟩) lX).trans g2
                          have q2 := Nat.lt_of_lt_of_le lX HY1.out.size
                          have c3 := (HY1.out.cell (p := ⟨B2, 0, none⟩) lY).trans f0
                          have q3 := Nat.lt_of_lt_of_le lY HY1.out.size
                          have c4 := (HY1.out.cell (p := ⟨B2, 1, none⟩) lY).trans f1
                          have q4 := Nat.lt_of_lt_of_le lY HY1.out.size
                          have c5 := (HY1.out.cell (p := ⟨B2, 2, none⟩) lY).trans f2
                          have q5 := Nat.lt_of_lt_of_le lY HY1.out.size
                          go_wp2_with fail
                          refine (sameall_true rfl ((I2.out.at HY1.out).at Seq.way) ((J2.out.at HY1.out).at Seq.way)).mono ?_
                          rintro e y2 ⟨rfl, hy2⟩
                          have HY2 := Lib.hid (below_step hy2 (below_step Seq.way HY1.out : Below wy.heap.size wy _))
                          clear hy2
                          clear c0 q0
                          clear c1 q1
                          clear c2 q2
                          clear c3 q3
                          clear c4 q4
                          clear c5 q5
                          have c0 := (HY2.out.cell (p := ⟨B1, 0, none⟩) lX).trans g0
                          have q0 := Nat.lt_of_lt_of_le lX HY2.out.size
                          have c1 := (HY2.out.cell (p := ⟨B1, 1, none⟩) lX).trans g1
                          have q1 := Nat.lt_of_lt_of_le lX HY2.out.size
                          have c2 := (HY2.out.cell (p := ⟨B1, 2, none⟩) lX).trans g2
                          have q2 := Nat.lt_of_lt_of_le lX HY2.out.size
                          have c3 := (HY2.out.cell (p := ⟨B2, 0, none⟩) lY).trans f0
                          have q3 := Nat.lt_of_lt_of_le lY HY2.out.size
                          have c4 := (HY2.out.cell (p := ⟨B2, 1, none⟩) lY).trans f1
                          have q4 := Nat.lt_of_lt_of_le lY HY2.out.size
                          have c5 := (HY2.out.cell (p := ⟨B2, 2, none⟩) lY).trans f2
                          have q5 := Nat.lt_of_lt_of_le lY HY2.out.size
                          go_wp2_with fail
                          refine (sameall_true rfl ((I3.out.at HY2.out).at Seq.way) ((J3.out.at HY2.out).at Seq.way)).mono ?_
                          rintro e y3 ⟨rfl, hy3⟩
                          have HY3 := Lib.hid (below_step hy3 (below_step Seq.way HY2.out : Below wy.heap.size wy _))
                          clear hy3
                          clear c0 q0
                          clear c1 q1
                          clear c2 q2
                          clear c3 q3
                          clear c4 q4
                          clear c5 q5
                          have c0 := (HY3.out.cell (p := ⟨B1, 0, none⟩) lX).trans g0
                          have q0 := Nat.lt_of_lt_of_le lX HY3.out.size
                          have c1 := (HY3.out.cell (p := ⟨B1, 1, none⟩) lX).trans g1
                          have q1 := Nat.lt_of_lt_of_le lX HY3.out.size
                          have c2 := (HY3.out.cell (p := ⟨B1, 2, none⟩) lX).trans g2
                          have q2 := Nat.lt_of_lt_of_le lX HY3.out.size
                          have c3 := (HY3.out.cell (p := ⟨B2, 0, none⟩) lY).trans f0
                          have q3 := Nat.lt_of_lt_of_le lY HY3.out.size
                          have c4 := (HY3.out.cell (p := ⟨B2, 1, none⟩) lY).trans f1
                          have q4 := Nat.lt_of_lt_of_le lY HY3.out.size
                          have c5 := (HY3.out.cell (p := ⟨B2, 2, none⟩) lY).trans f2
                          have q5 := Nat.lt_of_lt_of_le lY HY3.out.size
                          go_wp2_with fail
                          go_roundw
                          case rel => exact ⟨j + 1, hjl, by go_num, Lib.hid (below_step (below_step Seq.way HY3.out) (below_step X0.out hbz.out))⟩
                          case measure => simp [intOf]; omega
              · obtain rfl : j = OC.length := by omega
                have hjI : ¬ (OC.length : Int) < (OC.length : Int) := by omega
                go_wp2_with fail
                go_roundw
                case rel => exact ⟨i + 1, hlt, by go_num, Lib.hid (below_step K4.out hbr.out)⟩
                case measure => simp [intOf]; omega
          · obtain rfl : i = C.atoms.length := by omega
            have hiI : ¬ (C.atoms.length : Int) < (C.atoms.length : Int) := by omega
            go_wp2_with fail
            go_ret
            exact ⟨rfl, below_step hbr.out BW5.out⟩
end Go.Proofs.YtaedgpcmkagpeaaGreat
