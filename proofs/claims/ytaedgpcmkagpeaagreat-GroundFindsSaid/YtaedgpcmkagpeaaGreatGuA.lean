/-
  Layer 16, the law: instances that may be, plain; GroundTells.
-/
import Derived.Test.YtaedgpcmkagpeaaGreatGtF
import Derived.Test.YtaedgpcmkagpeaaGreatGsR
namespace Go.Proofs.YtaedgpcmkagpeaaGreat
open Go Go.RowKit

theorem made_mem {l : List Ins} {i : Ins} (h : i ∈ madeG l) : okI i = true ∧ i ∈ l := ⟨(List.mem_filter.1 h).2, List.mem_of_mem_take (List.mem_filter.1 h).1⟩
theorem made_len (l : List Ins) : (madeG l).length ≤ 60 := Nat.le_trans (List.length_filter_le _ _) (by rw [List.length_take]; omega)
theorem okI_iff {i : Ins} : okI i = true ↔ (∀ t ∈ termsI i, okT t = true) ∧ i.pos.length ≤ 10 ∧ i.neg.length ≤ 10 := by
  unfold okI smallI termsI
  simp only [Bool.and_eq_true, decide_eq_true_eq, List.all_eq_true, List.mem_cons, List.mem_append]
  constructor
  · rintro ⟨⟨⟨h1, h2, h3⟩, h4⟩, h5⟩
    refine ⟨fun t ht => ?_, h2, h3⟩
    rcases ht with rfl | ht | ht
    · exact h1
    · exact h4 t ht
    · exact h5 t ht
  · rintro ⟨h1, h2, h3⟩
    exact ⟨⟨⟨h1 _ (.inl rfl), h2, h3⟩, fun t ht => h1 t (.inr (.inl ht))⟩, fun t ht => h1 t (.inr (.inr ht))⟩
theorem okI_atoms {l : List Ins} (h : ∀ i ∈ l, okI i = true) : ∀ i ∈ l, ∀ t ∈ termsI i, atomG t = true := fun i hi t ht => (okT_iff.1 ((okI_iff.1 (h i hi)).1 t ht)).2
theorem okI_terms {l : List Ins} (h : ∀ i ∈ l, okI i = true) : (allT l).length ≤ 21 * l.length := by
  induction l with
  | nil => simp [allT]
  | cons i m ih =>
    have h1 := okI_iff.1 (h i List.mem_cons_self)
    have h2 := ih fun j hj => h j (List.mem_cons_of_mem _ hj)
    unfold allT at h2 ⊢
    rw [List.flatMap_cons, List.length_append, List.length_cons]
    have h3 : (termsI i).length ≤ 21 := by unfold termsI; simp; omega
    omega
theorem okI_sm {l : List Ins} (h : ∀ i ∈ l, okI i = true) (hl : l.length ≤ 1000) : SmG (fromT l) := fun r hr => by
  obtain ⟨i, hi, rfl⟩ := mem_fromR.1 hr
  have := okI_terms h
  exact smU_rule (setL_lenle cmpT (allT l) (by omega)) i

theorem sameg_as {S T : Nat → Prop} {w : World} {v u : Value} {g h : Prog} (e : g = h) (hg : ProgV S w v g) (hh : ProgV T w u h) (sg : SmG g) (sh : SmG h) : Calls Tryz.prog 14 #[v, u] w (RetV (.bool true) w) := by
  have := SameG_spec hg hh sg sh
  rwa [decide_eq_true e] at this
set_option maxHeartbeats 6400000 in
set_option maxRecDepth 100000 in
theorem tells_spec {S T : Nat → Prop} {w : World} {v u : Value} {l : List Ins} {g : Prog} (hl : Seq instE S w v l) (hg : ProgV T w u g) :
    Calls Tryz.prog 3 #[v, u] w (RetV (.bool true) w) := by
  have HL := Lib.hid hl
  have HG := Lib.hid hg
  obtain ⟨va, vr, rfl, hA, hR⟩ := hg
  obtain ⟨aa, ac, rfl⟩ := hA.shape
  obtain ⟨ra, rc, rfl⟩ := hR.shape
  obtain ⟨la, lc, rfl⟩ := hl.shape
  obtain ⟨W, hW⟩ : ∃ W, W = w.alloc (.cells #[.slice aa g.atoms.length ac, .slice ra g.rules.length rc] 26) := ⟨_, rfl⟩
  have HB := Lib.hid (show Below w.heap.size w W by rw [hW]; exact Seq.way)
  have HP := Lib.hid (show Row 26 W w.heap.size [.slice aa g.atoms.length ac, .slice ra g.rules.length rc] by rw [hW]; exact Row.new w [_, _] _ rfl)
  have HW := Lib.hid hW
  clear hl hA hR hW
  go_enter Tryz.func3, Tryz.ntmps3
  go_upto_region 1 with fail
  rw [← HW.out]
  go_wp2_with fail
  refine head_spec.mono ?_
  rintro e w1 ⟨rfl, hb1⟩
  have HP1 := Lib.hid (rowTo HP.out hb1)
  have B1 := Lib.hid (below_step hb1 HB.out)
  clear hb1
  have d0 := HP1.out.cell (j := 0) (by simp)
  have d1 := HP1.out.cell (j := 1) (by simp)
  simp only [List.getElem_cons_zero, List.getElem_cons_succ] at d0 d1
  go_wp2_with fail
  refine (GreatL_spec (HG.out.at B1.out)).mono ?_
  rintro e w2 ⟨rfl, hb2⟩
  have HP2 := Lib.hid (rowTo HP1.out hb2)
  have B2 := Lib.hid (below_step hb2 B1.out)
  clear hb2 d0 d1
  cases hbig : bigG g with
  | true =>
    clear hbig
    go_wp2_with fail
    go_ret
    exact ⟨rfl, B2.out⟩
  | false =>
    have hf := few_of hbig
    have HF := Lib.hid hf
    clear hf hbig
    go_wp2_with fail
    refine (MadeL_spec (HL.out.at B2.out)).mono ?_
    rintro e w3 ⟨r3, rfl, hb3, hs3⟩
    have HP3 := Lib.hid (rowTo HP2.out hb3)
    have B3 := Lib.hid (below_step hb3 B2.out)
    have HM := Lib.hid hs3
    have HG3 := Lib.hid (HG.out.at B3.out)
    obtain ⟨ma, mc, rfl⟩ := hs3.shape
    have hok := Lib.hid (fun i (hi : i ∈ madeG l) => (made_mem hi).1)
    have hml := made_len l
    obtain ⟨M, hMe⟩ : ∃ M, M = madeG l := ⟨_, rfl⟩
    rw [← hMe] at HM hok hml ⊢
    have hmt := okI_terms hok.out
    have hmt2 := Lib.hid (show (allT M).length ≤ 100000 by omega)
    have hml2 := Lib.hid (show M.length ≤ 100000 by omega)
    have hfe := Lib.hid (fromR_eq (okI_atoms hok.out))
    have hsm := Lib.hid (okI_sm hok.out (by omega))
    clear hb3 hs3 hMe hmt hml
    have d0 := HP3.out.cell (j := 0) (by simp)
    have d1 := HP3.out.cell (j := 1) (by simp)
    have lP := HP3.out.lt
    simp only [List.getElem_cons_zero, List.getElem_cons_succ] at d0 d1
    go_upto_region 5 with fail
    have Hkeep := fun {Wk : World} (hW : Below w3.heap.size w3 Wk) => Lib.hid (show Wk.cell? ⟨w.heap.size, 0, none⟩ = some (.slice aa g.atoms.length ac) ∧ Wk.cell? ⟨w.heap.size, 1, none⟩ = some (.slice ra g.rules.length rc) from ⟨(hW.cell (p := ⟨w.heap.size, 0, none⟩) lP).trans d0, (hW.cell (p := ⟨w.heap.size, 1, none⟩) lP).trans d1⟩)
    (try simp only [List.append_eq, List.cons_append, List.nil_append])
    refine wp_region_noPanic ?_
    refine wp_region_held_drew (S := fun w' => w'.cell? ⟨w.heap.size, 0, none⟩ = some (.slice aa g.atoms.length ac) ∧ w'.cell? ⟨w.heap.size, 1, none⟩ = some (.slice ra g.rules.length rc)) (by kernel_rfl) ?_ (fun hHeld => ?_)
    · exact (Hkeep (Below.drew (Below.refl _ _))).out
    refine wpAnyH_take1 (i := 0) (oi := _) (v := ?_) (by kernel_rfl) rfl (by kernel_rfl) (fun _ _ _ h => h) (Or.inl ⟨by rfl, ?_⟩) (by assumption) ?_
    rotate_left 1
    · intro w hSw; (try dsimp only at hSw); go_simp; (with_reducible rfl)
    (try simp only [Act.put, List.getElem_toArray, List.getElem_cons_zero, List.setIfInBounds_toArray, List.set_cons_zero, List.set_cons_succ])
    refine wpAnyH_take1 (i := 1) (oi := _) (v := ?_) (by kernel_rfl) rfl (by kernel_rfl) (fun _ _ _ h => h) (Or.inl ⟨by rfl, ?_⟩) (by assumption) ?_
    rotate_left 1
    · intro w hSw; (try dsimp only at hSw); go_simp; (with_reducible rfl)
    (try simp only [Act.put, List.getElem_toArray, List.getElem_cons_zero, List.getElem_cons_succ, List.setIfInBounds_toArray, List.set_cons_zero, List.set_cons_succ])
    refine wpAnyH_take1 (i := 2) (oi := _) (v := ?_) (by kernel_rfl) rfl (by kernel_rfl) (fun _ _ _ h => h) (Or.inl ⟨by rfl, ?_⟩) (by assumption) ?_
    rotate_left 1
    · intro w hSw; (try dsimp only at hSw); go_simp; (with_reducible rfl)
    (try simp only [Act.put, List.getElem_toArray, List.getElem_cons_zero, List.getElem_cons_succ, List.setIfInBounds_toArray, List.set_cons_zero, List.set_cons_succ])
    refine wpAnyH_take1 (i := 4) (oi := _) (v := ?_) (by kernel_rfl) rfl (by kernel_rfl) (fun _ _ _ h => h) (Or.inl ⟨by rfl, ?_⟩) (by assumption) ?_
    rotate_left 1
    · intro w hSw; (try dsimp only at hSw); go_simp; (with_reducible rfl)
    (try simp only [Act.put, List.getElem_toArray, List.getElem_cons_zero, List.getElem_cons_succ, List.setIfInBounds_toArray, List.set_cons_zero, List.set_cons_succ])
    refine wpAnyH_one (i := 3) (by kernel_rfl) rfl (by rfl) fun K hK => ?_
    go_simp
    refine ((FromP_spec (HM.out.at Seq.way) hmt2.out hml2.out)).mono ?_
    rintro e y1 ⟨v1, rfl, hy1, hg1⟩
    have HY1 := below_step hy1 (Seq.way : Below w3.heap.size w3 _)
    have zy1 := HY1.size
    (try dsimp only)
    clear hHeld
    refine hK.out _ _ (Hkeep HY1).out fun hHeld => ?_
    clear hK K
    (try simp only [Act.put, List.getElem_toArray, List.getElem_cons_zero, List.getElem_cons_succ, List.setIfInBounds_toArray, List.set_cons_zero, List.set_cons_succ])
    have HG1 := Lib.hid hg1
    obtain ⟨x1, x2, rfl, -, -⟩ := hg1
    refine wpAnyH_one (i := 5) (by kernel_rfl) rfl (by rfl) fun K hK => ?_
    go_simp
    refine ((FromR_spec (HM.out.at Seq.way) hmt2.out hml2.out)).mono ?_
    rintro e y2 ⟨v2, rfl, hy2, hg2⟩
    have HY2 := below_step hy2 (Seq.way : Below w3.heap.size w3 _)
    have zy2 := HY2.size
    (try dsimp only)
    clear hHeld
    refine hK.out _ _ (Hkeep HY2).out fun hHeld => ?_
    clear hK K
    (try simp only [Act.put, List.getElem_toArray, List.getElem_cons_zero, List.getElem_cons_succ, List.setIfInBounds_toArray, List.set_cons_zero, List.set_cons_succ])
    rw [hfe.out] at hg2
    have HG2 := Lib.hid hg2
    obtain ⟨x3, x4, rfl, -, -⟩ := hg2
    refine wpAnyH_one (i := 6) (by kernel_rfl) rfl (by rfl) fun K hK => ?_
    go_simp
    refine ((sameg_as rfl (HG1.out.at Seq.way) (HG2.out.at Seq.way) hsm.out hsm.out)).mono ?_
    rintro e y3 ⟨rfl, hy3⟩
    have HY3 := below_step hy3 (Seq.way : Below w3.heap.size w3 _)
    have zy3 := HY3.size
    (try dsimp only)
    clear hHeld
    refine hK.out _ _ (Hkeep HY3).out fun hHeld => ?_
    clear hK K
    (try simp only [Act.put, List.getElem_toArray, List.getElem_cons_zero, List.getElem_cons_succ, List.setIfInBounds_toArray, List.set_cons_zero, List.set_cons_succ])
    refine wpAnyH_take1 (i := 7) (oi := _) (v := ?_) (by kernel_rfl) rfl (by kernel_rfl) (fun _ _ _ h => h) (Or.inl ⟨by rfl, ?_⟩) (by assumption) ?_
    rotate_left 1
    · intro w hSw; (try dsimp only at hSw); go_simp; (with_reducible rfl)
    (try simp only [Act.put, List.getElem_toArray, List.getElem_cons_zero, List.getElem_cons_succ, List.setIfInBounds_toArray, List.set_cons_zero, List.set_cons_succ])
    refine wpAnyH_take1 (i := 8) (oi := _) (v := ?_) (by kernel_rfl) rfl (by kernel_rfl) (fun _ _ _ h => h) (Or.inl ⟨by rfl, ?_⟩) (by assumption) ?_
    rotate_left 1
    · intro w hSw; (try dsimp only at hSw); go_simp; (with_reducible rfl)
    (try simp only [Act.put, List.getElem_toArray, List.getElem_cons_zero, List.getElem_cons_succ, List.setIfInBounds_toArray, List.set_cons_zero, List.set_cons_succ])
    refine wpAnyH_take1 (i := 9) (oi := _) (v := ?_) (by kernel_rfl) rfl (by kernel_rfl) (fun _ _ _ h => h) (Or.inl ⟨by rfl, ?_⟩) (by assumption) ?_
    rotate_left 1
    · intro w hSw; (try dsimp only at hSw); go_simp; (with_reducible rfl)
    (try simp only [Act.put, List.getElem_toArray, List.getElem_cons_zero, List.getElem_cons_succ, List.setIfInBounds_toArray, List.set_cons_zero, List.set_cons_succ])
    refine wpAnyH_take1 (i := 11) (oi := _) (v := ?_) (by kernel_rfl) rfl (by kernel_rfl) (fun _ _ _ h => h) (Or.inl ⟨by rfl, ?_⟩) (by assumption) ?_
    rotate_left 1
    · intro w hSw; (try dsimp only at hSw); go_simp; (with_reducible rfl)
    (try simp only [Act.put, List.getElem_toArray, List.getElem_cons_zero, List.getElem_cons_succ, List.setIfInBounds_toArray, List.set_cons_zero, List.set_cons_succ])
    refine wpAnyH_one (i := 10) (by kernel_rfl) rfl (by rfl) fun K hK => ?_
    go_simp
    refine ((RightGP_spec (HG3.out.at Seq.way))).mono ?_
    rintro e y4 ⟨rfl, hy4⟩
    have HY4 := below_step hy4 (Seq.way : Below w3.heap.size w3 _)
    have zy4 := HY4.size
    (try dsimp only)
    clear hHeld
    refine hK.out _ _ (Hkeep HY4).out fun hHeld => ?_
    clear hK K
    (try simp only [Act.put, List.getElem_toArray, List.getElem_cons_zero, List.getElem_cons_succ, List.setIfInBounds_toArray, List.set_cons_zero, List.set_cons_succ])
    refine wpAnyH_one (i := 12) (by kernel_rfl) rfl (by rfl) fun K hK => ?_
    go_simp
    refine ((RightG_spec (HG3.out.at Seq.way) (fun t ht => Nat.le_trans (HF.out.t t ht) (by omega)) (by have := HF.out.a; omega))).mono ?_
    rintro e y5 ⟨rfl, hy5⟩
    have HY5 := below_step hy5 (Seq.way : Below w3.heap.size w3 _)
    have zy5 := HY5.size
    (try dsimp only)
    clear hHeld
    refine hK.out _ _ (Hkeep HY5).out fun hHeld => ?_
    clear hK K
    (try simp only [Act.put, List.getElem_toArray, List.getElem_cons_zero, List.getElem_cons_succ, List.setIfInBounds_toArray, List.set_cons_zero, List.set_cons_succ])
    refine wpAnyH_take1 (i := 13) (oi := _) (v := ?_) (by kernel_rfl) rfl (by kernel_rfl) (fun _ _ _ h => h) (Or.inl ⟨by rfl, ?_⟩) (by assumption) ?_
    rotate_left 1
    · intro w hSw; (try dsimp only at hSw); go_simp; (with_reducible rfl)
    (try simp only [Act.put, List.getElem_toArray, List.getElem_cons_zero, List.getElem_cons_succ, List.setIfInBounds_toArray, List.set_cons_zero, List.set_cons_succ])
    refine wpAnyH_take1 (i := 14) (oi := _) (v := ?_) (by kernel_rfl) rfl (by kernel_rfl) (fun _ _ _ h => h) (Or.inl ⟨by rfl, ?_⟩) (by assumption) ?_
    rotate_left 1
    · intro w hSw; (try dsimp only at hSw); go_simp; (with_reducible rfl)
    (try simp only [Act.put, List.getElem_toArray, List.getElem_cons_zero, List.getElem_cons_succ, List.setIfInBounds_toArray, List.set_cons_zero, List.set_cons_succ])
    refine wpAnyH_take1 (i := 15) (oi := _) (v := ?_) (by kernel_rfl) rfl (by kernel_rfl) (fun _ _ _ h => h) (Or.inl ⟨by rfl, ?_⟩) (by assumption) ?_
    rotate_left 1
    · intro w hSw; (try dsimp only at hSw); go_simp; (with_reducible rfl)
    (try simp only [Act.put, List.getElem_toArray, List.getElem_cons_zero, List.getElem_cons_succ, List.setIfInBounds_toArray, List.set_cons_zero, List.set_cons_succ])
    refine wpAnyH_done (by kernel_rfl) ?_ _
    refine NoPanic.normal ?_
    go_wp2_with fail
    go_ret
    exact ⟨rfl, B3.out.trans (HY5.mono B3.out.size)⟩
end Go.Proofs.YtaedgpcmkagpeaaGreat
