/-
  Layer 18, the program: Reduce. (The contract of Do is a premise here.)
-/
import Derived.Test.YtdbennmbbmoflaaPrK
namespace Go.Proofs.Ytdbennmbbmoflaa
open Go Go.RowKit

theorem doL_fine {g : Prog} (h : FineP g) {s : Int × Int} (hs : s ∈ canL g) : FineP (doL g s).1 := by
  have h1 := doL_good h.toGoodP hs
  obtain ⟨j, k, hk, hj, rfl, hg⟩ := mem_canL.1 hs
  refine ⟨h1, ?_, ?_, doL_sort h.sort _⟩
  · rw [doL_can hj hk hg]
    have h2 := rulesL_len ((g.rules.take k ++ g.rules.drop (k + 1)) ++ moreL ((j : Int) + 1) g.rules[k] (goneL g (followsL g) ((j : Int) + 1) g.rules[k]))
    have h3 := moreL_len ((j : Int) + 1) g.rules[k] (goneL g (followsL g) ((j : Int) + 1) g.rules[k])
    have h4 := h.rsm
    simp only [List.length_append, List.length_take, List.length_drop] at h2
    show (rulesL _).length ≤ _
    omega
  · rw [doL_can hj hk hg]
    intro r hr
    have hr := rulesL_mem hr
    rw [List.mem_append, List.mem_append] at hr
    rcases hr with (h2 | h2) | h2
    · exact h.psm _ (List.mem_of_mem_take h2)
    · exact h.psm _ (List.mem_of_mem_drop h2)
    · have h3 := h.psm _ (List.getElem_mem hk)
      unfold moreL at h2
      split at h2
      · rw [List.mem_singleton] at h2; subst h2; exact h3
      · split at h2
        · rw [List.mem_singleton] at h2; subst h2
          exact Nat.le_trans (List.length_filter_le _ _) h3
        · simp at h2

/-- What is asked of Do. -/
def DoIs : Prop := ∀ (S : Nat → Prop) (w : World) (v : Value) (g : Prog) (j k : Nat), ProgV S w v g → FineP g → j < 5 → k < g.rules.length →
    Calls Try.prog 14 #[v, .agg #[.int .i64 ((j : Int) + 1), .int .i64 k]] w (Ret (fun o w' => ∃ p, o = .tuple #[p, .bool (doL g ((j : Int) + 1, (k : Int))).2] ∧ ProgV (Fr S w) w' p (doL g ((j : Int) + 1, (k : Int))).1) w)

theorem round_plain {w w2 w3 : World} {x y X Y A B : Value} {T : TypeId} (hbw : Below w.heap.size w w2) (hb3 : Below w2.heap.size w2 w3) (h2 : w.heap.size + 2 ≤ w2.heap.size)
    (hr0 : Row T w2 w.heap.size [X, Y]) (hr1 : Row T w2 (w.heap.size + 1) [A, B]) (W : World)
    (hW : W = (w3.setCell ⟨w.heap.size, 0, none⟩ x).setCell ⟨w.heap.size, 1, none⟩ y) :
    Below w.heap.size w W ∧ w.heap.size + 2 ≤ W.heap.size ∧ Row T W w.heap.size [x, y] ∧ Row T W (w.heap.size + 1) [A, B] ∧ ∀ b, b ≠ w.heap.size → W.heap[b]? = w3.heap[b]? := by
  have h3 := hb3.size
  have e5 : (⟨w.heap.size, 0, none⟩ : Addr).block ≠ w.heap.size + 1 := by show w.heap.size ≠ _; omega
  have e6 : (⟨w.heap.size, 1, none⟩ : Addr).block ≠ w.heap.size + 1 := by show w.heap.size ≠ _; omega
  refine ⟨?_, ?_, ?_, ?_, ?_⟩
  · rw [hW]
    exact ((hbw.trans (hb3.mono (by omega))).setCell (p := ⟨w.heap.size, 0, none⟩) (Nat.le_refl _) x).setCell (p := ⟨w.heap.size, 1, none⟩) (Nat.le_refl _) y
  · rw [hW]; simp; omega
  · rw [hW]
    exact ((hr0.below hb3 (by omega)).set 0 x).set 1 y
  · rw [hW]
    exact ((hr1.below hb3 (by omega)).setOther x e5).setOther y e6
  · intro b hne
    rw [hW, Below.heap_setCell _ _ _ _ hne, Below.heap_setCell _ _ _ _ hne]

theorem below_step0 {w W w' : World} (hb : Below W.heap.size W w') (h : Below w.heap.size w W) : Below w.heap.size w w' := h.trans (hb.mono h.size)

set_option maxHeartbeats 16000000 in
set_option maxRecDepth 100000 in
theorem ReduceP_of (hDo : DoIs) {S T : Nat → Prop} {w : World} {v u : Value} {g : Prog} {order : List Int} (hg : ProgV S w v g) (hgood : FineP g) (ho : Seq intE T w u order) :
    Calls Try.prog 17 #[v, u] w (Ret (fun o w' => ProgV (Fr S w) w' o (reduceL g order)) w) := by
  obtain ⟨oa, oc, rfl, -, -, hol, -, ho5⟩ := ho
  obtain ⟨va, vb, rfl, hga, hgr⟩ := hg
  obtain ⟨aa, ac, rfl, -⟩ := id hga
  obtain ⟨ra, rc, rfl, -⟩ := id hgr
  have HDo := Lib.hid hDo
  clear hDo
  obtain ⟨W0, hW0⟩ : ∃ W0, W0 = (w.alloc (.cells #[.slice aa g.atoms.length ac, .slice ra g.rules.length rc] 30)).alloc (.cells #[.slice none 0 0, .slice none 0 0] 30) := ⟨_, rfl⟩
  have HW := Lib.hid hW0
  have hB0 : Below w.heap.size w W0 := by rw [hW0]; exact Seq.way
  have hs0 : W0.heap.size = w.heap.size + 2 := by rw [hW0]; simp
  have hrow0 : Row 30 W0 w.heap.size [.slice aa g.atoms.length ac, .slice ra g.rules.length rc] := by rw [hW0]; exact (Row.new w _ _ rfl).alloc _
  have hrow1 : Row 30 W0 (w.heap.size + 1) [.slice none 0 0, .slice none 0 0] := by rw [hW0]; exact Row.new _ _ _ (by simp)
  clear hW0
  have hs0' := Lib.hid hs0
  clear hs0
  obtain ⟨U, hU⟩ : ∃ U : Nat → Prop, U = fun b => (S b ∧ b < w.heap.size) ∨ w.heap.size + 2 ≤ b := ⟨_, rfl⟩
  have hpv : ∃ vv, vv = Value.agg #[.slice aa g.atoms.length ac, .slice ra g.rules.length rc] ∧ ProgV U W0 vv g := by
    refine ⟨_, rfl, _, _, rfl, hga.bnd.mono (fun b h _ => by rw [hU]; exact .inl h) fun b h _ => hB0.block b h.2, hgr.bnd.mono (fun b h _ => by rw [hU]; exact .inl h) fun b h _ => hB0.block b h.2⟩
  obtain ⟨vv, hvv, hpv⟩ := hpv
  have hlim := sizeP_le hgood.toGoodP
  go_enter Try.func17, Try.ntmps17
  go_wp2_with fail
  rw [← HW.out]
  clear HW
  go_loopw [5] (fun i wr => ∃ (k f : Nat) (gc : Prog) (aa : Option Addr) (ac : Nat) (ra : Option Addr) (rc : Nat), i = .int .i64 k ∧ k + sizeP gc ≤ sizeP g ∧ sizeP gc < f ∧ Hid (reduceL g order = reduceGo order f k gc) ∧ FineP gc ∧
      Below w.heap.size w wr ∧ w.heap.size + 2 ≤ wr.heap.size ∧ Row 30 wr w.heap.size [.slice aa gc.atoms.length ac, .slice ra gc.rules.length rc] ∧ Row 30 wr (w.heap.size + 1) [.slice none 0 0, .slice none 0 0] ∧
      ProgV U wr (.agg #[.slice aa gc.atoms.length ac, .slice ra gc.rules.length rc]) gc) (fun i _ => sizeP g - (intOf i).toNat)
  case atStart => exact ⟨0, _, g, aa, ac, ra, rc, rfl, by omega, Nat.lt_succ_self _, Lib.hid rfl, hgood, hB0, by have := hs0'.out; omega, hrow0, hrow1, by rw [← hvv]; exact hpv⟩
  case round =>
    clear hpv hvv hrow0 hrow1 hgr hga
    obtain ⟨k, f, gc, aa, ac, ra, rc, rfl, hks, hf, hred, hgc, hbel, hsz, hr0, hr1, hpv⟩ := hrel
    have hB1 : w.heap.size < wr.heap.size := by omega
    have hB2 : w.heap.size + 1 < wr.heap.size := by omega
    have c0 := hr0.cell (j := 0) (by simp)
    have c1 := hr0.cell (j := 1) (by simp)
    have d0 := hr1.cell (j := 0) (by simp)
    have d1 := hr1.cell (j := 1) (by simp)
    simp only [List.getElem_cons_succ, List.getElem_cons_zero] at c0 c1 d0 d1
    have hcan := Lib.hid (CanP_spec hpv hgc)
    by_cases hz : (canL gc).length = 0
    · have hz0 : (((canL gc).length : Int) == 0) = true := beq_iff_eq.2 (by omega)
      have hrd := Lib.hid (show reduceL g order = gc by
        rw [hred.out]
        cases f with
        | zero => omega
        | succ f => unfold reduceGo; rw [if_pos hz])
      clear hz
      go_wp2_with fail
      refine hcan.out.mono ?_
      rintro e w2 ⟨vl, rfl, hb2, hvl⟩
      obtain ⟨la, lc, rfl, -⟩ := id hvl
      have hz2 := hb2.size
      have e0 := (hb2.cell (p := ⟨w.heap.size, 0, none⟩) hB1).trans c0
      have e1 := (hb2.cell (p := ⟨w.heap.size, 1, none⟩) hB1).trans c1
      have R1 := hr1.below hb2 hB2
      have e2 := R1.cell (j := 0) (by simp)
      have e3 := R1.cell (j := 1) (by simp)
      have e4 := R1.frozen 0
      have e5 := R1.frozen 1
      simp only [List.getElem_cons_succ, List.getElem_cons_zero] at e2 e3
      go_wp2_with fail
      refine bodyPost_ret (v := .agg #[.slice aa gc.atoms.length ac, .slice ra gc.rules.length rc]) (by simp [results, Try.results17, go_sem, e2, e3]) rfl ⟨_, rfl, ?_, ?_⟩
      · exact ((hbel.trans (hb2.mono (by omega))).setCell (by simp) _).setCell (by simp) _
      · rw [hrd.out]
        refine hpv.mono (fun b h _ => ?_) fun b h hlt => ?_
        · rw [hU] at h; exact h.elim (fun h => .inl h.1) fun h => .inr (by omega)
        · rw [hU] at h
          rw [Below.heap_setCell _ _ _ _ (by simp; omega), Below.heap_setCell _ _ _ _ (by simp; omega)]
          exact hb2.block b hlt
    · have hz0 : (((canL gc).length : Int) == 0) = false := beq_eq_false_iff_ne.2 (by omega)
      obtain ⟨n, hn⟩ : ∃ n, n = (canL gc).length := ⟨_, rfl⟩
      obtain ⟨p, hp⟩ : ∃ p, p = pickAt order k n := ⟨_, rfl⟩
      have hplt : p < (canL gc).length := by rw [hp, hn]; exact pickAt_lt order k hz
      have hmem : (canL gc)[p] ∈ canL gc := List.getElem_mem _
      have hless := doL_less hmem
      have hgood2 := doL_fine hgc hmem
      obtain ⟨j, kk, hkk, hj, hpe, hgone⟩ := mem_canL.1 hmem
      rw [hpe] at hless hgood2
      obtain ⟨f', rfl⟩ : ∃ f', f = f' + 1 := ⟨f - 1, by omega⟩
      have hrd := Lib.hid (show reduceL g order = reduceGo order f' (k + 1) (doL gc ((j : Int) + 1, (kk : Int))).1 by
        rw [hred.out]
        conv => lhs; unfold reduceGo
        rw [if_neg hz, stepL, ← hn, ← hp, List.getD_eq_getElem?_getD, List.getElem?_eq_getElem hplt, Option.getD_some, hpe])
      have hpe' := Lib.hid hpe
      have hn0 : n ≠ 0 := by omega
      have hnz : ((n : Int) == 0) = false := beq_eq_false_iff_ne.2 (by omega)
      have hpb : (p : Int) < n := by rw [hn]; omega
      clear hmem hpe hgone hred
      rename Hid ((canL gc)[p] = _) => hpe
      have hn2 := Lib.hid hn
      have hcl5 := canL_len gc
      have hn5 : n ≤ 500000 := by have h2 := hgc.rsm; omega
      have hp5 : p ≤ 500000 := by omega
      have hpd : (k < order.length ∧ ∃ x bo oo, oa = some ⟨bo, oo, none⟩ ∧ bo < w.heap.size ∧ w.cell? ⟨bo, oo + k, none⟩ = some (.int .i64 x) ∧ -(n : Int) < x.tmod n ∧ x.tmod n < n ∧ (x.tmod n + (n : Int)) % (n : Int) = p) ∨ (¬ k < order.length ∧ p = 0) := by
        by_cases hkl : k < order.length
        · left
          obtain ⟨bo, oo, hoo, -, hbo, q0, -⟩ := ho5.int hkl
          refine ⟨hkl, order[k], bo, oo, hoo, hbo, q0, ?_⟩
          have hpx : (p : Int) = order[k] % (n : Int) := by
            rw [hp]; unfold pickAt; rw [List.getElem?_eq_getElem hkl]; simp only
            exact Int.toNat_of_nonneg (Int.emod_nonneg _ (by omega))
          have h1 := @Int.emod_eq_tmod order[k] (n : Int)
          have h2 := Int.emod_lt_of_pos order[k] (show (0 : Int) < (n : Int) by omega)
          have h3 := Int.emod_nonneg order[k] (show (n : Int) ≠ 0 by omega)
          rw [hpx]
          split at h1
          · refine ⟨by omega, by omega, ?_⟩
            have h4 : order[k].tmod (n : Int) = order[k] % (n : Int) := by omega
            rw [h4, Int.add_emod_right, Int.emod_emod]
          · simp only [Int.natAbs_natCast] at h1
            have h4 : order[k].tmod (n : Int) + (n : Int) = order[k] % (n : Int) := by omega
            refine ⟨by omega, by omega, ?_⟩
            rw [h4, Int.emod_emod]
        · right
          refine ⟨hkl, ?_⟩
          rw [hp]; unfold pickAt; rw [List.getElem?_eq_none (by omega)]
      clear hp ho5
      rw [← hn] at hz0
      have hn3 := hn.symm
      clear hn
      have hp0 : (0 : Int) ≤ p := by omega
      have hplm : (p : Int).toNat = p := Int.toNat_natCast p
      rcases hpd with ⟨hkl, x, bo, oo, rfl, hbo, q0, ht1, ht2, htp⟩ | ⟨hkl, rfl⟩
      · have htn : 0 ≤ x.tmod (n : Int) + (n : Int) := by omega
        have hkl2 : (k : Int) < (order.length : Int) := by omega
        have q1 := (hbel.cell (p := ⟨bo, oo + k, none⟩) hbo).trans q0
        go_wp2_with fail
        refine hcan.out.mono ?_
        rintro e w2 ⟨vl, rfl, hb2, hvl⟩
        have q2 := (hb2.cell (p := ⟨bo, oo + k, none⟩) (by simp <;> omega)).trans q1
        have hw2 := hb2.size
        have hbw2 : Below w.heap.size w w2 := hbel.trans (hb2.mono (by omega))
        have hpv2 : ProgV U w2 (.agg #[.slice aa gc.atoms.length ac, .slice ra gc.rules.length rc]) gc := hpv.mono (fun _ h _ => h) fun b _ hlt => hb2.block b hlt
        obtain ⟨la, lc, rfl, -⟩ := id hvl
        obtain ⟨_, _, hle, -, -, -, -, hv5⟩ := hvl
        simp only [Value.slice.injEq] at hle
        obtain ⟨rfl, -, rfl⟩ := hle
        obtain ⟨B, oB, rfl, hBlo, hBlt, y0, y1, -, -⟩ := hv5.pair hplt
        rw [hpe.out] at y0 y1
        simp only at y0 y1
        clear hv5
        have e0 := (hb2.cell (p := ⟨w.heap.size, 0, none⟩) hB1).trans c0
        have e1 := (hb2.cell (p := ⟨w.heap.size, 1, none⟩) hB1).trans c1
        have hB12 : w.heap.size < w2.heap.size := by omega
        have R0 := hr0.below hb2 hB1
        have R1 := hr1.below hb2 hB2
        have hdo := Lib.hid (fun (W : World) (hW : Below w2.heap.size w2 W) => HDo.out (fun b => U b ∧ b < w2.heap.size) W (.agg #[.slice aa gc.atoms.length ac, .slice ra gc.rules.length rc]) gc j kk (hpv2.mono (fun _ h hlt => ⟨h, hlt⟩) fun b _ hlt => hW.block b hlt) hgc hj hkk)
        rw [← hn2.out]
        go_wp2_with fail
        first
        | (go_region_with ((go_at_call 14; refine (hdo.out _ Seq.way).mono ?_; rintro e w3 ⟨ov, rfl, hb3, vp, rfl, hvp⟩; obtain ⟨_, _, rfl, hvp1, hvp2⟩ := id hvp; obtain ⟨a3, k3, rfl, -⟩ := id hvp1; obtain ⟨r3, q3, rfl, -⟩ := id hvp2; have hb3' := below_step0 hb3 (Seq.way : Below w2.heap.size w2 _); have z0 := (hb3'.cell (p := ⟨w.heap.size, 0, none⟩) hB12).trans e0; have z1 := (hb3'.cell (p := ⟨w.heap.size, 1, none⟩) hB12).trans e1; have z4 := (R0.below hb3' hB12).frozen 0; have z5 := (R0.below hb3' hB12).frozen 1)))
        | fail
        all_goals go_wp2_with fail
        all_goals
          obtain ⟨hh1, hh2, hh3, hh4, hh5⟩ := round_plain hbw2 hb3' (by omega) R0 R1 _ rfl (x := .slice a3 (doL gc ((j : Int) + 1, (kk : Int))).1.atoms.length k3) (y := .slice r3 (doL gc ((j : Int) + 1, (kk : Int))).1.rules.length q3)
          go_roundw
          case rel =>
            refine ⟨k + 1, f', _, a3, k3, r3, q3, by go_num, by omega, by omega, hrd, hgood2, hh1, hh2, hh3, hh4, ?_⟩
            refine hvp.mono (fun b h _ => ?_) fun b h hlt => hh5 b ?_
            · rw [hU]; rcases h with h | h
              · have := h.1; rw [hU] at this; exact this
              · right; have : w2.heap.size ≤ b := h; omega
            · rcases h with h | h
              · have := h.1; rw [hU] at this; rcases this with h | h <;> omega
              · have : w2.heap.size ≤ b := h; omega
          case measure => simp [intOf]; omega
      · have hkl2 : ¬ (k : Int) < (order.length : Int) := by omega
        have hnp : (0 : Int) < (n : Int) := by omega
        go_wp2_with fail
        refine hcan.out.mono ?_
        rintro e w2 ⟨vl, rfl, hb2, hvl⟩
        have hw2 := hb2.size
        have hbw2 : Below w.heap.size w w2 := hbel.trans (hb2.mono (by omega))
        have hpv2 : ProgV U w2 (.agg #[.slice aa gc.atoms.length ac, .slice ra gc.rules.length rc]) gc := hpv.mono (fun _ h _ => h) fun b _ hlt => hb2.block b hlt
        obtain ⟨la, lc, rfl, -⟩ := id hvl
        obtain ⟨_, _, hle, -, -, -, -, hv5⟩ := hvl
        simp only [Value.slice.injEq] at hle
        obtain ⟨rfl, -, rfl⟩ := hle
        obtain ⟨B, oB, rfl, hBlo, hBlt, y0, y1, -, -⟩ := hv5.pair hplt
        rw [hpe.out] at y0 y1
        simp only [Nat.zero_mul, Nat.add_zero] at y0 y1
        clear hv5
        have e0 := (hb2.cell (p := ⟨w.heap.size, 0, none⟩) hB1).trans c0
        have e1 := (hb2.cell (p := ⟨w.heap.size, 1, none⟩) hB1).trans c1
        have hB12 : w.heap.size < w2.heap.size := by omega
        have R0 := hr0.below hb2 hB1
        have R1 := hr1.below hb2 hB2
        have hdo := Lib.hid (fun (W : World) (hW : Below w2.heap.size w2 W) => HDo.out (fun b => U b ∧ b < w2.heap.size) W (.agg #[.slice aa gc.atoms.length ac, .slice ra gc.rules.length rc]) gc j kk (hpv2.mono (fun _ h hlt => ⟨h, hlt⟩) fun b _ hlt => hW.block b hlt) hgc hj hkk)
        rw [← hn2.out]
        go_wp2_with fail
        first
        | (go_region_with ((go_at_call 14; refine (hdo.out _ Seq.way).mono ?_; rintro e w3 ⟨ov, rfl, hb3, vp, rfl, hvp⟩; obtain ⟨_, _, rfl, hvp1, hvp2⟩ := id hvp; obtain ⟨a3, k3, rfl, -⟩ := id hvp1; obtain ⟨r3, q3, rfl, -⟩ := id hvp2; have hb3' := below_step0 hb3 (Seq.way : Below w2.heap.size w2 _); have z0 := (hb3'.cell (p := ⟨w.heap.size, 0, none⟩) hB12).trans e0; have z1 := (hb3'.cell (p := ⟨w.heap.size, 1, none⟩) hB12).trans e1; have z4 := (R0.below hb3' hB12).frozen 0; have z5 := (R0.below hb3' hB12).frozen 1)))
        | fail
        all_goals go_wp2_with fail
        all_goals
          obtain ⟨hh1, hh2, hh3, hh4, hh5⟩ := round_plain hbw2 hb3' (by omega) R0 R1 _ rfl (x := .slice a3 (doL gc ((j : Int) + 1, (kk : Int))).1.atoms.length k3) (y := .slice r3 (doL gc ((j : Int) + 1, (kk : Int))).1.rules.length q3)
          go_roundw
          case rel =>
            refine ⟨k + 1, f', _, a3, k3, r3, q3, by go_num, by omega, by omega, hrd, hgood2, hh1, hh2, hh3, hh4, ?_⟩
            refine hvp.mono (fun b h _ => ?_) fun b h hlt => hh5 b ?_
            · rw [hU]; rcases h with h | h
              · have := h.1; rw [hU] at this; exact this
              · right; have : w2.heap.size ≤ b := h; omega
            · rcases h with h | h
              · have := h.1; rw [hU] at this; rcases this with h | h <;> omega
              · have : w2.heap.size ≤ b := h; omega
          case measure => simp [intOf]; omega
end Go.Proofs.Ytdbennmbbmoflaa
