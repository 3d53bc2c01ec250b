/-
  Layer 18's reference: Reduce.
-/
import Derived.Test.YtdbennmbbmoflaaResJ
namespace Go.Proofs.Ytdbennmbbmoflaa
open Go Go.RowKit

theorem canL_len (g : Prog) : (canL g).length ≤ 5 * g.rules.length := by
  have h := fun k : Int => canRow_len g (followsL g) k g.rules
  unfold canL canUpto
  simp only [List.range_succ, List.range_zero, List.nil_append, List.flatMap_append, List.flatMap_cons, List.flatMap_nil, List.append_nil, List.length_append]
  have h1 := h ((0 : Nat) + 1); have h2 := h ((1 : Nat) + 1); have h3 := h ((2 : Nat) + 1); have h4 := h ((3 : Nat) + 1); have h5 := h ((4 : Nat) + 1)
  omega

/-- The world behind a round that makes its own block last. -/
theorem round_last {w w2 w3 : World} {x y X Y A B : Value} {T : TypeId} {o : Obj} (hbw : Below w.heap.size w w2) (hb3 : Below w2.heap.size w2 w3) (h2 : w.heap.size + 2 ≤ w2.heap.size)
    (hr0 : Row T w2 w.heap.size [X, Y]) (hr1 : Row T w2 (w.heap.size + 1) [A, B]) (W : World)
    (hW : W = ((w3.setCell ⟨w.heap.size, 0, none⟩ x).setCell ⟨w.heap.size, 1, none⟩ y).alloc o) :
    Below w.heap.size w W ∧ w.heap.size + 2 ≤ W.heap.size ∧ Row T W w.heap.size [x, y] ∧ Row T W (w.heap.size + 1) [A, B] ∧ ∀ b, b < w3.heap.size → b ≠ w.heap.size → W.heap[b]? = w3.heap[b]? := by
  have h3 := hb3.size
  have e5 : (⟨w.heap.size, 0, none⟩ : Addr).block ≠ w.heap.size + 1 := by show w.heap.size ≠ _; omega
  have e6 : (⟨w.heap.size, 1, none⟩ : Addr).block ≠ w.heap.size + 1 := by show w.heap.size ≠ _; omega
  refine ⟨?_, ?_, ?_, ?_, ?_⟩
  · rw [hW]
    exact (((hbw.trans (hb3.mono (by omega))).setCell (p := ⟨w.heap.size, 0, none⟩) (Nat.le_refl _) x).setCell (p := ⟨w.heap.size, 1, none⟩) (Nat.le_refl _) y).alloc (by simp; omega) o
  · rw [hW]; simp; omega
  · rw [hW]
    exact ((((hr0.below hb3 (by omega))).set 0 x).set 1 y).alloc o
  · rw [hW]
    exact (((hr1.below hb3 (by omega)).setOther x e5).setOther y e6).alloc o
  · intro b hb hne
    rw [hW, Below.heap_alloc _ _ _ (by simpa using hb), Below.heap_setCell _ _ _ _ hne, Below.heap_setCell _ _ _ _ hne]

/-- The same, where the block was made ahead of the call. -/
theorem round_first {w w2 w3 : World} {x y X Y A B : Value} {T : TypeId} (hbw : Below w.heap.size w w2) (hb3 : Below w2.heap.size w2 w3) (h2 : w.heap.size + 2 ≤ w2.heap.size)
    (hr0 : Row T w2 w.heap.size [X, Y]) (hr1 : Row T w2 (w.heap.size + 1) [A, B]) (W : World)
    (hW : W = (((w3.setCell ⟨w2.heap.size, 0, none⟩ x).setCell ⟨w2.heap.size, 1, none⟩ y).setCell ⟨w.heap.size, 0, none⟩ x).setCell ⟨w.heap.size, 1, none⟩ y) :
    Below w.heap.size w W ∧ w.heap.size + 2 ≤ W.heap.size ∧ Row T W w.heap.size [x, y] ∧ Row T W (w.heap.size + 1) [A, B] ∧ ∀ b, b ≠ w2.heap.size → b ≠ w.heap.size → W.heap[b]? = w3.heap[b]? := by
  have h3 := hb3.size
  have e1 : (⟨w2.heap.size, 0, none⟩ : Addr).block ≠ w.heap.size := by show w2.heap.size ≠ _; omega
  have e2 : (⟨w2.heap.size, 1, none⟩ : Addr).block ≠ w.heap.size := by show w2.heap.size ≠ _; omega
  have e3 : (⟨w2.heap.size, 0, none⟩ : Addr).block ≠ w.heap.size + 1 := by show w2.heap.size ≠ _; omega
  have e4 : (⟨w2.heap.size, 1, none⟩ : Addr).block ≠ w.heap.size + 1 := by show w2.heap.size ≠ _; omega
  have e5 : (⟨w.heap.size, 0, none⟩ : Addr).block ≠ w.heap.size + 1 := by show w.heap.size ≠ _; omega
  have e6 : (⟨w.heap.size, 1, none⟩ : Addr).block ≠ w.heap.size + 1 := by show w.heap.size ≠ _; omega
  have l1 : w.heap.size ≤ (⟨w2.heap.size, 0, none⟩ : Addr).block := by show _ ≤ w2.heap.size; omega
  have l2 : w.heap.size ≤ (⟨w2.heap.size, 1, none⟩ : Addr).block := by show _ ≤ w2.heap.size; omega
  refine ⟨?_, ?_, ?_, ?_, ?_⟩
  · rw [hW]
    exact ((((hbw.trans (hb3.mono (by omega))).setCell l1 x).setCell l2 y).setCell (Nat.le_refl _) x).setCell (Nat.le_refl _) y
  · rw [hW]; simp; omega
  · rw [hW]
    exact (((((hr0.below hb3 (by omega))).setOther x e1).setOther y e2).set 0 x).set 1 y
  · rw [hW]
    exact (((((hr1.below hb3 (by omega))).setOther x e3).setOther y e4).setOther x e5).setOther y e6
  · intro b hb hne
    rw [hW, Below.heap_setCell _ _ _ _ hne, Below.heap_setCell _ _ _ _ hne, Below.heap_setCell _ _ _ _ hb, Below.heap_setCell _ _ _ _ hb]

set_option maxHeartbeats 16000000 in
set_option maxRecDepth 100000 in
theorem ReduceR_spec {S T : Nat → Prop} {w : World} {v u : Value} {g : Prog} {order : List Int} (hg : ProgV S w v g) (hgood : GoodP g) (ho : Seq intE T w u order) :
    Calls Try.prog 18 #[v, u] w (Ret (fun o w' => ProgV (Fr S w) w' o (reduceL g order)) w) := by
  obtain ⟨oa, oc, rfl, -, -, hol, -, ho5⟩ := ho
  obtain ⟨va, vb, rfl, hga, hgr⟩ := hg
  obtain ⟨aa, ac, rfl, -⟩ := id hga
  obtain ⟨ra, rc, rfl, -⟩ := id hgr
  obtain ⟨W0, hW0⟩ : ∃ W0, W0 = (w.alloc (.cells #[.slice aa g.atoms.length ac, .slice ra g.rules.length rc] 30)).alloc (.cells #[.slice none 0 0, .slice none 0 0] 30) := ⟨_, rfl⟩
  have HW := Lib.hid hW0
  have hB0 : Below w.heap.size w W0 := by rw [hW0]; exact Seq.way
  have hs0 : W0.heap.size = w.heap.size + 2 := by rw [hW0]; simp
  have hrow0 : Row 30 W0 w.heap.size [.slice aa g.atoms.length ac, .slice ra g.rules.length rc] := by rw [hW0]; exact (Row.new w _ _ rfl).alloc _
  have hrow1 : Row 30 W0 (w.heap.size + 1) [.slice none 0 0, .slice none 0 0] := by rw [hW0]; exact Row.new _ _ _ (by simp)
  clear hW0
  have hs0' := Lib.hid hs0
  clear hs0
  obtain ⟨U, hU⟩ : ∃ U : Nat → Prop, U = fun b => (S b ∧ b < w.heap.size) ∨ w.heap.size + 2 ≤ b := ⟨_, rfl⟩
  have hpv : ∃ vv, vv = Value.agg #[.slice aa g.atoms.length ac, .slice ra g.rules.length rc] ∧ ProgV U W0 vv g := by
    refine ⟨_, rfl, _, _, rfl, hga.bnd.mono (fun b h _ => by rw [hU]; exact .inl h) fun b h _ => hB0.block b h.2, hgr.bnd.mono (fun b h _ => by rw [hU]; exact .inl h) fun b h _ => hB0.block b h.2⟩
  obtain ⟨vv, hvv, hpv⟩ := hpv
  have hlim := sizeP_le hgood
  go_enter Try.func18, Try.ntmps18
  go_wp2_with fail
  rw [← HW.out]
  clear HW
  go_loopw [5] (fun i wr => ∃ (k f : Nat) (gc : Prog) (aa : Option Addr) (ac : Nat) (ra : Option Addr) (rc : Nat), i = .int .i64 k ∧ k + sizeP gc ≤ sizeP g ∧ sizeP gc < f ∧ Hid (reduceL g order = reduceGo order f k gc) ∧ GoodP gc ∧
      Below w.heap.size w wr ∧ w.heap.size + 2 ≤ wr.heap.size ∧ Row 30 wr w.heap.size [.slice aa gc.atoms.length ac, .slice ra gc.rules.length rc] ∧ Row 30 wr (w.heap.size + 1) [.slice none 0 0, .slice none 0 0] ∧
      ProgV U wr (.agg #[.slice aa gc.atoms.length ac, .slice ra gc.rules.length rc]) gc) (fun i _ => sizeP g - (intOf i).toNat)
  case atStart => exact ⟨0, _, g, aa, ac, ra, rc, rfl, by omega, Nat.lt_succ_self _, Lib.hid rfl, hgood, hB0, by have := hs0'.out; omega, hrow0, hrow1, by rw [← hvv]; exact hpv⟩
  case round =>
    clear hpv hvv hrow0 hrow1 hgr hga
    obtain ⟨k, f, gc, aa, ac, ra, rc, rfl, hks, hf, hred, hgc, hbel, hsz, hr0, hr1, hpv⟩ := hrel
    have hB1 : w.heap.size < wr.heap.size := by omega
    have hB2 : w.heap.size + 1 < wr.heap.size := by omega
    have c0 := hr0.cell (j := 0) (by simp)
    have c1 := hr0.cell (j := 1) (by simp)
    have f0 := hr0.frozen 0
    have f1 := hr0.frozen 1
    have d0 := hr1.cell (j := 0) (by simp)
    have d1 := hr1.cell (j := 1) (by simp)
    have g0 := hr1.frozen 0
    have g1 := hr1.frozen 1
    simp only [List.getElem_cons_succ, List.getElem_cons_zero] at c0 c1 d0 d1
    have hcan := Lib.hid (CanR_spec hpv hgc)
    by_cases hz : (canL gc).length = 0
    · have hz0 : (((canL gc).length : Int) == 0) = true := beq_iff_eq.2 (by omega)
      have hrd := Lib.hid (show reduceL g order = gc by
        rw [hred.out]
        cases f with
        | zero => omega
        | succ f => unfold reduceGo; rw [if_pos hz])
      clear hz
      go_wp2_with (go_at_call 13; refine (hcan.out).mono ?_; rintro e w2 ⟨vl, rfl, hb2, hvl⟩; obtain ⟨la, lc, rfl, -⟩ := id hvl; have hB12 : w.heap.size < w2.heap.size := Nat.lt_of_lt_of_le hB1 hb2.size; have hB22 : w.heap.size + 1 < w2.heap.size := Nat.lt_of_lt_of_le hB2 hb2.size; have e0 : w2.cell? ⟨w.heap.size, 0, none⟩ = _ := (hb2.cell (p := ⟨w.heap.size, 0, none⟩) hB1).trans c0; have e1 : w2.cell? ⟨w.heap.size, 1, none⟩ = _ := (hb2.cell (p := ⟨w.heap.size, 1, none⟩) hB1).trans c1; have e2 : w2.cell? ⟨w.heap.size + 1, 0, none⟩ = _ := (hb2.cell (p := ⟨w.heap.size + 1, 0, none⟩) hB2).trans d0; have e3 : w2.cell? ⟨w.heap.size + 1, 1, none⟩ = _ := (hb2.cell (p := ⟨w.heap.size + 1, 1, none⟩) hB2).trans d1; have e4 : w2.frozen? ⟨w.heap.size + 1, 0, none⟩ = _ := (hb2.frozen (p := ⟨w.heap.size + 1, 0, none⟩) hB2).trans g0; have e5 : w2.frozen? ⟨w.heap.size + 1, 1, none⟩ = _ := (hb2.frozen (p := ⟨w.heap.size + 1, 1, none⟩) hB2).trans g1)
      refine bodyPost_ret (v := .agg #[.slice aa gc.atoms.length ac, .slice ra gc.rules.length rc]) (by simp [results, Try.results18, go_sem, e2, e3]) rfl ⟨_, rfl, ?_, ?_⟩
      · exact ((hbel.trans (hb2.mono (by omega))).setCell (by simp) _).setCell (by simp) _
      · rw [hrd.out]
        refine hpv.mono (fun b h _ => ?_) fun b h hlt => ?_
        · rw [hU] at h; exact h.elim (fun h => .inl h.1) fun h => .inr (by omega)
        · rw [hU] at h
          rw [Below.heap_setCell _ _ _ _ (by simp; omega), Below.heap_setCell _ _ _ _ (by simp; omega)]
          exact hb2.block b hlt
    · have hz0 : (((canL gc).length : Int) == 0) = false := beq_eq_false_iff_ne.2 (by omega)
      obtain ⟨n, hn⟩ : ∃ n, n = (canL gc).length := ⟨_, rfl⟩
      obtain ⟨p, hp⟩ : ∃ p, p = pickAt order k n := ⟨_, rfl⟩
      have hplt : p < (canL gc).length := by rw [hp, hn]; exact pickAt_lt order k hz
      have hmem : (canL gc)[p] ∈ canL gc := List.getElem_mem _
      have hless := doL_less hmem
      have hgood2 := doL_good hgc hmem
      obtain ⟨j, kk, hkk, hj, hpe, hgone⟩ := mem_canL.1 hmem
      rw [hpe] at hless hgood2
      obtain ⟨f', rfl⟩ : ∃ f', f = f' + 1 := ⟨f - 1, by omega⟩
      have hrd := Lib.hid (show reduceL g order = reduceGo order f' (k + 1) (doL gc ((j : Int) + 1, (kk : Int))).1 by
        rw [hred.out]
        conv => lhs; unfold reduceGo
        rw [if_neg hz, stepL, ← hn, ← hp, List.getD_eq_getElem?_getD, List.getElem?_eq_getElem hplt, Option.getD_some, hpe])
      have hpe' := Lib.hid hpe
      have hn0 : n ≠ 0 := by omega
      have hnz : ((n : Int) == 0) = false := beq_eq_false_iff_ne.2 (by omega)
      have hB1' : w.heap.size ≤ wr.heap.size := by omega
      have hpb : (p : Int) < n := by rw [hn]; omega
      clear hmem hpe hgone hred
      rename Hid ((canL gc)[p] = _) => hpe
      have hvlp : ∀ (la : Option Addr) (lc : Nat) (w2 : World), Seq pairE (fun b => wr.heap.size ≤ b) w2 (.slice la (canL gc).length lc) (canL gc) → ∃ b off, la = some ⟨b, off, none⟩ ∧ wr.heap.size ≤ b ∧ b < w2.heap.size ∧ w2.cell? ⟨b, off + p * 2, none⟩ = some (.int .i64 (canL gc)[p].1) ∧
          w2.cell? ⟨b, off + p * 2 + 1, none⟩ = some (.int .i64 (canL gc)[p].2) ∧ IntOK (canL gc)[p].1 ∧ IntOK (canL gc)[p].2 := by
        rintro la lc w2 ⟨_, _, he, -, -, -, -, h⟩
        injection he with he1 he2 he3; subst he1
        exact h.pair hplt
      have hn2 := Lib.hid hn
      have hn5 : p ≤ 140737488355328 := by have h1 := canL_len gc; have h2 := hgc.rlen; omega
      have hplt' := hplt
      rw [← hn] at hplt
      rw [← hn] at hvlp hz0
      have hpd : (k < order.length ∧ ∃ x bo oo, oa = some ⟨bo, oo, none⟩ ∧ bo < w.heap.size ∧ w.cell? ⟨bo, oo + k, none⟩ = some (.int .i64 x) ∧ ((x.tmod n < 0 ∧ x.tmod n + (n : Int) = p) ∨ x.tmod n = p)) ∨ (¬ k < order.length ∧ p = 0) := by
        by_cases hkl : k < order.length
        · left
          obtain ⟨bo, oo, hoo, -, hbo, q0, -⟩ := ho5.int hkl
          refine ⟨hkl, order[k], bo, oo, hoo, hbo, q0, ?_⟩
          have hpx : (p : Int) = order[k] % (n : Int) := by
            rw [hp]; unfold pickAt; rw [List.getElem?_eq_getElem hkl]; simp only
            exact Int.toNat_of_nonneg (Int.emod_nonneg _ (by omega))
          rw [hpx]
          have h1 := @Int.emod_eq_tmod order[k] (n : Int)
          have h2 := Int.emod_lt_of_pos order[k] (show (0 : Int) < (n : Int) by omega)
          split at h1
          · right; rw [h1]; simp
          · left; simp only [Int.natAbs_natCast] at h1; exact ⟨by omega, by omega⟩
        · right
          refine ⟨hkl, ?_⟩
          rw [hp]; unfold pickAt; rw [List.getElem?_eq_none (by omega)]
      have hn3 := hn.symm
      clear hp ho5 hn
      have hp0 : (0 : Int) ≤ p := by omega
      rcases hpd with ⟨hkl, x, bo, oo, rfl, hbo, q0, (⟨ht, htp⟩ | htp)⟩ | ⟨hkl, rfl⟩
      · go_wp2_with (go_at_call 13; refine (hcan.out).mono ?_; rintro e w2 ⟨vl, rfl, hb2, hvl⟩; obtain ⟨la, lc, rfl, -⟩ := id hvl; have hbw2 : Below w.heap.size w w2 := hbel.trans (hb2.mono hB1'); have hB12 : w.heap.size < w2.heap.size := Nat.lt_of_lt_of_le hB1 hb2.size; have hB22 : w.heap.size + 1 < w2.heap.size := Nat.lt_of_lt_of_le hB2 hb2.size; have e0 : w2.cell? ⟨w.heap.size, 0, none⟩ = _ := (hb2.cell (p := ⟨w.heap.size, 0, none⟩) hB1).trans c0; have e1 : w2.cell? ⟨w.heap.size, 1, none⟩ = _ := (hb2.cell (p := ⟨w.heap.size, 1, none⟩) hB1).trans c1; have e4 : w2.frozen? ⟨w.heap.size, 0, none⟩ = _ := (hb2.frozen (p := ⟨w.heap.size, 0, none⟩) hB1).trans f0; have e5 : w2.frozen? ⟨w.heap.size, 1, none⟩ = _ := (hb2.frozen (p := ⟨w.heap.size, 1, none⟩) hB1).trans f1; have hr02 := hr0.below hb2 hB1; have hr12 := hr1.below hb2 hB2; rw [hn2.out.symm] at hvl; obtain ⟨B, oB, rfl, hBS, hBlt, y0, y1, -, -⟩ := (hvlp _ _ _ hvl); rw [hpe.out] at y0 y1; dsimp only at y0 y1; have hpv2 := (hpv.mono (T := U) (fun _ h _ => h) fun b _ hlt => hb2.block b hlt); clear hvl; have q0' := (hbw2.cell (p := ⟨bo, oo + k, none⟩) hbo).trans q0)
        have hw2 : wr.heap.size ≤ w2.heap.size := hb2.size
        have hdo := Lib.hid (fun (W : World) (hW : Below w2.heap.size w2 W) => DoR_yes (S := fun b => U b ∧ b < w2.heap.size) (w := W) (v := .agg #[.slice aa gc.atoms.length ac, .slice ra gc.rules.length rc]) (g := gc) (s1 := (j : Int) + 1) (k := kk) (hpv2.mono (fun _ h hlt => ⟨h, hlt⟩) fun b _ hlt => hW.block b hlt) hgc (by omega) (by omega) hkk)
        have hZ2 : Row 30 (w2.alloc (.cells #[.slice none 0 0, .slice none 0 0] 30)) w2.heap.size [.slice none 0 0, .slice none 0 0] := Row.new _ _ _ rfl
        have hZ3 : ∀ (w3 : World) (o : Nat), Below (w2.heap.size + 1) (w2.alloc (.cells #[.slice none 0 0, .slice none 0 0] 30)) w3 → o < 2 → w3.cell? ⟨w2.heap.size, o, none⟩ = some (.slice none 0 0) := by
          intro w3 o hb ho
          have h := (hZ2.below hb (Nat.lt_succ_self _)).cell (j := o) (by simpa using ho)
          rw [h]
          rcases (show o = 0 ∨ o = 1 by omega) with rfl | rfl <;> rfl
        have hF3 : ∀ (w3 : World) (o : Nat), Below (w2.heap.size + 1) (w2.alloc (.cells #[.slice none 0 0, .slice none 0 0] 30)) w3 → w3.frozen? ⟨w2.heap.size, o, none⟩ = false :=
          fun w3 o hb => (hZ2.below hb (Nat.lt_succ_self _)).frozen o
        have hplz : (p : Int) < (n : Int) := by omega
        have hplm : (p : Int).toNat = p := Int.toNat_natCast p
        go_region_held3 (fun w' => w'.cell? ⟨w.heap.size, 0, none⟩ = some (.slice aa gc.atoms.length ac) ∧ w'.cell? ⟨w.heap.size, 1, none⟩ = some (.slice ra gc.rules.length rc) ∧ w'.cell? ⟨B, oB + p * 2, none⟩ = some (.int .i64 ((j : Int) + 1)) ∧ w'.cell? ⟨B, oB + p * 2 + 1, none⟩ = some (.int .i64 (kk : Int)))
          (first | exact ⟨e0, e1, y0, y1⟩ | exact ⟨z0, z1, z2, z3⟩ | exact ⟨(World.cell?_alloc_lt _ _ _ hv0).trans z0, (World.cell?_alloc_lt _ _ _ hv0).trans z1, (World.cell?_alloc_lt _ _ _ hvB).trans z2, (World.cell?_alloc_lt _ _ _ hvB).trans z3⟩ | exact ⟨(World.cell?_alloc_lt _ _ _ hB12).trans e0, (World.cell?_alloc_lt _ _ _ hB12).trans e1, (World.cell?_alloc_lt _ _ _ hBlt).trans y0, (World.cell?_alloc_lt _ _ _ hBlt).trans y1⟩ | (go_simp; done) | go_keep)
          (first | (go_at_call 15; refine (hdo.out _ ((Below.refl _ w2).drew)).mono ?_; rintro e w3 ⟨vt, rfl, hb3, vp, rfl, hvp⟩; have hb3' : Below w2.heap.size w2 w3 := (Below.refl _ w2).drew.trans hb3; have hz3 : w2.heap.size ≤ w3.heap.size := hb3'.size; obtain ⟨_, _, rfl, hvp1, hvp2⟩ := id hvp; obtain ⟨a3, k3, rfl, -⟩ := id hvp1; obtain ⟨r3, q3, rfl, -⟩ := id hvp2; have hw3 : w2.heap.size ≤ w3.heap.size := hb3'.size; have hv0 : w.heap.size < w3.heap.size := (by omega); have hvB : B < w3.heap.size := (by omega); have z0 : w3.cell? ⟨w.heap.size, 0, none⟩ = _ := (hb3'.cell (p := ⟨w.heap.size, 0, none⟩) hB12).trans e0; have z1 : w3.cell? ⟨w.heap.size, 1, none⟩ = _ := (hb3'.cell (p := ⟨w.heap.size, 1, none⟩) hB12).trans e1; have z2 : w3.cell? ⟨B, oB + p * 2, none⟩ = _ := (hb3'.cell (p := ⟨B, oB + p * 2, none⟩) hBlt).trans y0; have z3 : w3.cell? ⟨B, oB + p * 2 + 1, none⟩ = _ := (hb3'.cell (p := ⟨B, oB + p * 2 + 1, none⟩) hBlt).trans y1; have z4 : w3.frozen? ⟨w.heap.size, 0, none⟩ = _ := (hb3'.frozen (p := ⟨w.heap.size, 0, none⟩) hB12).trans e4; have z5 : w3.frozen? ⟨w.heap.size, 1, none⟩ = _ := (hb3'.frozen (p := ⟨w.heap.size, 1, none⟩) hB12).trans e5) | (go_at_call 15; refine (hdo.out _ (((Below.refl _ w2).alloc (Nat.le_refl _) _).drew)).mono ?_; rintro e w3 ⟨vt, rfl, hb3, vp, rfl, hvp⟩; replace hb3 : Below (w2.heap.size + 1) (w2.alloc (.cells #[.slice none 0 0, .slice none 0 0] 30)) w3 := ((show w2.heap.size + 1 = (w2.alloc (.cells #[.slice none 0 0, .slice none 0 0] 30)).heap.size by simp) ▸ ((Below.refl _ _).drew.trans hb3)); have hb3' : Below w2.heap.size w2 w3 := ((Below.refl _ w2).alloc (Nat.le_refl _) _).trans (hb3.mono (Nat.le_succ _)); have hz3 : w2.heap.size < w3.heap.size := Nat.lt_of_lt_of_le (show w2.heap.size < (w2.alloc (.cells #[.slice none 0 0, .slice none 0 0] 30)).heap.size by simp) hb3.size; have a0 : w3.cell? ⟨w2.heap.size, 0, none⟩ = some (.slice none 0 0) := hZ3 _ 0 hb3 (by decide); have a1 : w3.cell? ⟨w2.heap.size, 1, none⟩ = some (.slice none 0 0) := hZ3 _ 1 hb3 (by decide); have a2 : w3.frozen? ⟨w2.heap.size, 0, none⟩ = false := hF3 _ 0 hb3; have a3' : w3.frozen? ⟨w2.heap.size, 1, none⟩ = false := hF3 _ 1 hb3; obtain ⟨_, _, rfl, hvp1, hvp2⟩ := id hvp; obtain ⟨a3, k3, rfl, -⟩ := id hvp1; obtain ⟨r3, q3, rfl, -⟩ := id hvp2; have hw3 : w2.heap.size ≤ w3.heap.size := hb3'.size; have hv0 : w.heap.size < w3.heap.size := (by omega); have hvB : B < w3.heap.size := (by omega); have z0 : w3.cell? ⟨w.heap.size, 0, none⟩ = _ := (hb3'.cell (p := ⟨w.heap.size, 0, none⟩) hB12).trans e0; have z1 : w3.cell? ⟨w.heap.size, 1, none⟩ = _ := (hb3'.cell (p := ⟨w.heap.size, 1, none⟩) hB12).trans e1; have z2 : w3.cell? ⟨B, oB + p * 2, none⟩ = _ := (hb3'.cell (p := ⟨B, oB + p * 2, none⟩) hBlt).trans y0; have z3 : w3.cell? ⟨B, oB + p * 2 + 1, none⟩ = _ := (hb3'.cell (p := ⟨B, oB + p * 2 + 1, none⟩) hBlt).trans y1; have z4 : w3.frozen? ⟨w.heap.size, 0, none⟩ = _ := (hb3'.frozen (p := ⟨w.heap.size, 0, none⟩) hB12).trans e4; have z5 : w3.frozen? ⟨w.heap.size, 1, none⟩ = _ := (hb3'.frozen (p := ⟨w.heap.size, 1, none⟩) hB12).trans e5))
        · go_wp2_with fail
          have hh := round_last hbw2 hb3' (by omega) hr02 hr12 _ rfl (x := .slice a3 (doL gc ((j : Int) + 1, (kk : Int))).1.atoms.length k3) (y := .slice r3 (doL gc ((j : Int) + 1, (kk : Int))).1.rules.length q3) (o := .cells #[.slice a3 (doL gc ((j : Int) + 1, (kk : Int))).1.atoms.length k3, .slice r3 (doL gc ((j : Int) + 1, (kk : Int))).1.rules.length q3] 30)
          obtain ⟨hh1, hh2, hh3, hh4, hh5⟩ := hh
          go_roundw
          case rel =>
            refine ⟨k + 1, f', _, a3, k3, r3, q3, by go_num, by omega, by omega, hrd, hgood2, hh1, hh2, hh3, hh4, ?_⟩
            refine hvp.mono (fun b h _ => ?_) fun b h hlt => hh5 b hlt ?_
            · rw [hU]; rcases h with h | h
              · have := h.1; rw [hU] at this; exact this
              · right; have : w2.heap.size ≤ b := h; omega
            · rcases h with h | h
              · have := h.1; rw [hU] at this; rcases this with h | h <;> omega
              · have : w2.heap.size ≤ b := h; omega
          case measure => simp [intOf]; omega
        · go_wp2_with fail
          have hh := round_first hbw2 hb3' (by omega) hr02 hr12 _ rfl (x := .slice a3 (doL gc ((j : Int) + 1, (kk : Int))).1.atoms.length k3) (y := .slice r3 (doL gc ((j : Int) + 1, (kk : Int))).1.rules.length q3)
          obtain ⟨hh1, hh2, hh3, hh4, hh5⟩ := hh
          go_roundw
          case rel =>
            refine ⟨k + 1, f', _, a3, k3, r3, q3, by go_num, by omega, by omega, hrd, hgood2, hh1, hh2, hh3, hh4, ?_⟩
            refine hvp.mono (fun b h _ => ?_) fun b h hlt => hh5 b ?_ ?_
            · rw [hU]; rcases h with h | h
              · have := h.1; rw [hU] at this; exact this
              · right; have : w2.heap.size + 1 ≤ b := by simpa using h
                omega
            · rcases h with h | h
              · have h2 := h.2; omega
              · have : w2.heap.size + 1 ≤ b := by simpa using h
                omega
            · rcases h with h | h
              · have := h.1; rw [hU] at this; rcases this with h | h <;> omega
              · have : w2.heap.size + 1 ≤ b := by simpa using h
                omega
          case measure => simp [intOf]; omega
      · go_wp2_with (go_at_call 13; refine (hcan.out).mono ?_; rintro e w2 ⟨vl, rfl, hb2, hvl⟩; obtain ⟨la, lc, rfl, -⟩ := id hvl; have hbw2 : Below w.heap.size w w2 := hbel.trans (hb2.mono hB1'); have hB12 : w.heap.size < w2.heap.size := Nat.lt_of_lt_of_le hB1 hb2.size; have hB22 : w.heap.size + 1 < w2.heap.size := Nat.lt_of_lt_of_le hB2 hb2.size; have e0 : w2.cell? ⟨w.heap.size, 0, none⟩ = _ := (hb2.cell (p := ⟨w.heap.size, 0, none⟩) hB1).trans c0; have e1 : w2.cell? ⟨w.heap.size, 1, none⟩ = _ := (hb2.cell (p := ⟨w.heap.size, 1, none⟩) hB1).trans c1; have e4 : w2.frozen? ⟨w.heap.size, 0, none⟩ = _ := (hb2.frozen (p := ⟨w.heap.size, 0, none⟩) hB1).trans f0; have e5 : w2.frozen? ⟨w.heap.size, 1, none⟩ = _ := (hb2.frozen (p := ⟨w.heap.size, 1, none⟩) hB1).trans f1; have hr02 := hr0.below hb2 hB1; have hr12 := hr1.below hb2 hB2; rw [hn2.out.symm] at hvl; obtain ⟨B, oB, rfl, hBS, hBlt, y0, y1, -, -⟩ := (hvlp _ _ _ hvl); rw [hpe.out] at y0 y1; dsimp only at y0 y1; have hpv2 := (hpv.mono (T := U) (fun _ h _ => h) fun b _ hlt => hb2.block b hlt); clear hvl; have q0' := (hbw2.cell (p := ⟨bo, oo + k, none⟩) hbo).trans q0)
        have hw2 : wr.heap.size ≤ w2.heap.size := hb2.size
        have hdo := Lib.hid (fun (W : World) (hW : Below w2.heap.size w2 W) => DoR_yes (S := fun b => U b ∧ b < w2.heap.size) (w := W) (v := .agg #[.slice aa gc.atoms.length ac, .slice ra gc.rules.length rc]) (g := gc) (s1 := (j : Int) + 1) (k := kk) (hpv2.mono (fun _ h hlt => ⟨h, hlt⟩) fun b _ hlt => hW.block b hlt) hgc (by omega) (by omega) hkk)
        have hZ2 : Row 30 (w2.alloc (.cells #[.slice none 0 0, .slice none 0 0] 30)) w2.heap.size [.slice none 0 0, .slice none 0 0] := Row.new _ _ _ rfl
        have hZ3 : ∀ (w3 : World) (o : Nat), Below (w2.heap.size + 1) (w2.alloc (.cells #[.slice none 0 0, .slice none 0 0] 30)) w3 → o < 2 → w3.cell? ⟨w2.heap.size, o, none⟩ = some (.slice none 0 0) := by
          intro w3 o hb ho
          have h := (hZ2.below hb (Nat.lt_succ_self _)).cell (j := o) (by simpa using ho)
          rw [h]
          rcases (show o = 0 ∨ o = 1 by omega) with rfl | rfl <;> rfl
        have hF3 : ∀ (w3 : World) (o : Nat), Below (w2.heap.size + 1) (w2.alloc (.cells #[.slice none 0 0, .slice none 0 0] 30)) w3 → w3.frozen? ⟨w2.heap.size, o, none⟩ = false :=
          fun w3 o hb => (hZ2.below hb (Nat.lt_succ_self _)).frozen o
        have hplz : (p : Int) < (n : Int) := by omega
        have hplm : (p : Int).toNat = p := Int.toNat_natCast p
        go_region_held3 (fun w' => w'.cell? ⟨w.heap.size, 0, none⟩ = some (.slice aa gc.atoms.length ac) ∧ w'.cell? ⟨w.heap.size, 1, none⟩ = some (.slice ra gc.rules.length rc) ∧ w'.cell? ⟨B, oB + p * 2, none⟩ = some (.int .i64 ((j : Int) + 1)) ∧ w'.cell? ⟨B, oB + p * 2 + 1, none⟩ = some (.int .i64 (kk : Int)))
          (first | exact ⟨e0, e1, y0, y1⟩ | exact ⟨z0, z1, z2, z3⟩ | exact ⟨(World.cell?_alloc_lt _ _ _ hv0).trans z0, (World.cell?_alloc_lt _ _ _ hv0).trans z1, (World.cell?_alloc_lt _ _ _ hvB).trans z2, (World.cell?_alloc_lt _ _ _ hvB).trans z3⟩ | exact ⟨(World.cell?_alloc_lt _ _ _ hB12).trans e0, (World.cell?_alloc_lt _ _ _ hB12).trans e1, (World.cell?_alloc_lt _ _ _ hBlt).trans y0, (World.cell?_alloc_lt _ _ _ hBlt).trans y1⟩ | (go_simp; done) | go_keep)
          (first | (go_at_call 15; refine (hdo.out _ ((Below.refl _ w2).drew)).mono ?_; rintro e w3 ⟨vt, rfl, hb3, vp, rfl, hvp⟩; have hb3' : Below w2.heap.size w2 w3 := (Below.refl _ w2).drew.trans hb3; have hz3 : w2.heap.size ≤ w3.heap.size := hb3'.size; obtain ⟨_, _, rfl, hvp1, hvp2⟩ := id hvp; obtain ⟨a3, k3, rfl, -⟩ := id hvp1; obtain ⟨r3, q3, rfl, -⟩ := id hvp2; have hw3 : w2.heap.size ≤ w3.heap.size := hb3'.size; have hv0 : w.heap.size < w3.heap.size := (by omega); have hvB : B < w3.heap.size := (by omega); have z0 : w3.cell? ⟨w.heap.size, 0, none⟩ = _ := (hb3'.cell (p := ⟨w.heap.size, 0, none⟩) hB12).trans e0; have z1 : w3.cell? ⟨w.heap.size, 1, none⟩ = _ := (hb3'.cell (p := ⟨w.heap.size, 1, none⟩) hB12).trans e1; have z2 : w3.cell? ⟨B, oB + p * 2, none⟩ = _ := (hb3'.cell (p := ⟨B, oB + p * 2, none⟩) hBlt).trans y0; have z3 : w3.cell? ⟨B, oB + p * 2 + 1, none⟩ = _ := (hb3'.cell (p := ⟨B, oB + p * 2 + 1, none⟩) hBlt).trans y1; have z4 : w3.frozen? ⟨w.heap.size, 0, none⟩ = _ := (hb3'.frozen (p := ⟨w.heap.size, 0, none⟩) hB12).trans e4; have z5 : w3.frozen? ⟨w.heap.size, 1, none⟩ = _ := (hb3'.frozen (p := ⟨w.heap.size, 1, none⟩) hB12).trans e5) | (go_at_call 15; refine (hdo.out _ (((Below.refl _ w2).alloc (Nat.le_refl _) _).drew)).mono ?_; rintro e w3 ⟨vt, rfl, hb3, vp, rfl, hvp⟩; replace hb3 : Below (w2.heap.size + 1) (w2.alloc (.cells #[.slice none 0 0, .slice none 0 0] 30)) w3 := ((show w2.heap.size + 1 = (w2.alloc (.cells #[.slice none 0 0, .slice none 0 0] 30)).heap.size by simp) ▸ ((Below.refl _ _).drew.trans hb3)); have hb3' : Below w2.heap.size w2 w3 := ((Below.refl _ w2).alloc (Nat.le_refl _) _).trans (hb3.mono (Nat.le_succ _)); have hz3 : w2.heap.size < w3.heap.size := Nat.lt_of_lt_of_le (show w2.heap.size < (w2.alloc (.cells #[.slice none 0 0, .slice none 0 0] 30)).heap.size by simp) hb3.size; have a0 : w3.cell? ⟨w2.heap.size, 0, none⟩ = some (.slice none 0 0) := hZ3 _ 0 hb3 (by decide); have a1 : w3.cell? ⟨w2.heap.size, 1, none⟩ = some (.slice none 0 0) := hZ3 _ 1 hb3 (by decide); have a2 : w3.frozen? ⟨w2.heap.size, 0, none⟩ = false := hF3 _ 0 hb3; have a3' : w3.frozen? ⟨w2.heap.size, 1, none⟩ = false := hF3 _ 1 hb3; obtain ⟨_, _, rfl, hvp1, hvp2⟩ := id hvp; obtain ⟨a3, k3, rfl, -⟩ := id hvp1; obtain ⟨r3, q3, rfl, -⟩ := id hvp2; have hw3 : w2.heap.size ≤ w3.heap.size := hb3'.size; have hv0 : w.heap.size < w3.heap.size := (by omega); have hvB : B < w3.heap.size := (by omega); have z0 : w3.cell? ⟨w.heap.size, 0, none⟩ = _ := (hb3'.cell (p := ⟨w.heap.size, 0, none⟩) hB12).trans e0; have z1 : w3.cell? ⟨w.heap.size, 1, none⟩ = _ := (hb3'.cell (p := ⟨w.heap.size, 1, none⟩) hB12).trans e1; have z2 : w3.cell? ⟨B, oB + p * 2, none⟩ = _ := (hb3'.cell (p := ⟨B, oB + p * 2, none⟩) hBlt).trans y0; have z3 : w3.cell? ⟨B, oB + p * 2 + 1, none⟩ = _ := (hb3'.cell (p := ⟨B, oB + p * 2 + 1, none⟩) hBlt).trans y1; have z4 : w3.frozen? ⟨w.heap.size, 0, none⟩ = _ := (hb3'.frozen (p := ⟨w.heap.size, 0, none⟩) hB12).trans e4; have z5 : w3.frozen? ⟨w.heap.size, 1, none⟩ = _ := (hb3'.frozen (p := ⟨w.heap.size, 1, none⟩) hB12).trans e5))
        · go_wp2_with fail
          have hh := round_last hbw2 hb3' (by omega) hr02 hr12 _ rfl (x := .slice a3 (doL gc ((j : Int) + 1, (kk : Int))).1.atoms.length k3) (y := .slice r3 (doL gc ((j : Int) + 1, (kk : Int))).1.rules.length q3) (o := .cells #[.slice a3 (doL gc ((j : Int) + 1, (kk : Int))).1.atoms.length k3, .slice r3 (doL gc ((j : Int) + 1, (kk : Int))).1.rules.length q3] 30)
          obtain ⟨hh1, hh2, hh3, hh4, hh5⟩ := hh
          go_roundw
          case rel =>
            refine ⟨k + 1, f', _, a3, k3, r3, q3, by go_num, by omega, by omega, hrd, hgood2, hh1, hh2, hh3, hh4, ?_⟩
            refine hvp.mono (fun b h _ => ?_) fun b h hlt => hh5 b hlt ?_
            · rw [hU]; rcases h with h | h
              · have := h.1; rw [hU] at this; exact this
              · right; have : w2.heap.size ≤ b := h; omega
            · rcases h with h | h
              · have := h.1; rw [hU] at this; rcases this with h | h <;> omega
              · have : w2.heap.size ≤ b := h; omega
          case measure => simp [intOf]; omega
        · go_wp2_with fail
          have hh := round_first hbw2 hb3' (by omega) hr02 hr12 _ rfl (x := .slice a3 (doL gc ((j : Int) + 1, (kk : Int))).1.atoms.length k3) (y := .slice r3 (doL gc ((j : Int) + 1, (kk : Int))).1.rules.length q3)
          obtain ⟨hh1, hh2, hh3, hh4, hh5⟩ := hh
          go_roundw
          case rel =>
            refine ⟨k + 1, f', _, a3, k3, r3, q3, by go_num, by omega, by omega, hrd, hgood2, hh1, hh2, hh3, hh4, ?_⟩
            refine hvp.mono (fun b h _ => ?_) fun b h hlt => hh5 b ?_ ?_
            · rw [hU]; rcases h with h | h
              · have := h.1; rw [hU] at this; exact this
              · right; have : w2.heap.size + 1 ≤ b := by simpa using h
                omega
            · rcases h with h | h
              · have h2 := h.2; omega
              · have : w2.heap.size + 1 ≤ b := by simpa using h
                omega
            · rcases h with h | h
              · have := h.1; rw [hU] at this; rcases this with h | h <;> omega
              · have : w2.heap.size + 1 ≤ b := by simpa using h
                omega
          case measure => simp [intOf]; omega
      · go_wp2_with (go_at_call 13; refine (hcan.out).mono ?_; rintro e w2 ⟨vl, rfl, hb2, hvl⟩; obtain ⟨la, lc, rfl, -⟩ := id hvl; have hbw2 : Below w.heap.size w w2 := hbel.trans (hb2.mono hB1'); have hB12 : w.heap.size < w2.heap.size := Nat.lt_of_lt_of_le hB1 hb2.size; have hB22 : w.heap.size + 1 < w2.heap.size := Nat.lt_of_lt_of_le hB2 hb2.size; have e0 : w2.cell? ⟨w.heap.size, 0, none⟩ = _ := (hb2.cell (p := ⟨w.heap.size, 0, none⟩) hB1).trans c0; have e1 : w2.cell? ⟨w.heap.size, 1, none⟩ = _ := (hb2.cell (p := ⟨w.heap.size, 1, none⟩) hB1).trans c1; have e4 : w2.frozen? ⟨w.heap.size, 0, none⟩ = _ := (hb2.frozen (p := ⟨w.heap.size, 0, none⟩) hB1).trans f0; have e5 : w2.frozen? ⟨w.heap.size, 1, none⟩ = _ := (hb2.frozen (p := ⟨w.heap.size, 1, none⟩) hB1).trans f1; have hr02 := hr0.below hb2 hB1; have hr12 := hr1.below hb2 hB2; rw [hn2.out.symm] at hvl; obtain ⟨B, oB, rfl, hBS, hBlt, y0, y1, -, -⟩ := (hvlp _ _ _ hvl); rw [hpe.out] at y0 y1; dsimp only at y0 y1; simp only [Nat.zero_mul, Nat.add_zero] at y0 y1; have hpv2 := (hpv.mono (T := U) (fun _ h _ => h) fun b _ hlt => hb2.block b hlt); clear hvl)
        have hw2 : wr.heap.size ≤ w2.heap.size := hb2.size
        have hdo := Lib.hid (fun (W : World) (hW : Below w2.heap.size w2 W) => DoR_yes (S := fun b => U b ∧ b < w2.heap.size) (w := W) (v := .agg #[.slice aa gc.atoms.length ac, .slice ra gc.rules.length rc]) (g := gc) (s1 := (j : Int) + 1) (k := kk) (hpv2.mono (fun _ h hlt => ⟨h, hlt⟩) fun b _ hlt => hW.block b hlt) hgc (by omega) (by omega) hkk)
        have hZ2 : Row 30 (w2.alloc (.cells #[.slice none 0 0, .slice none 0 0] 30)) w2.heap.size [.slice none 0 0, .slice none 0 0] := Row.new _ _ _ rfl
        have hZ3 : ∀ (w3 : World) (o : Nat), Below (w2.heap.size + 1) (w2.alloc (.cells #[.slice none 0 0, .slice none 0 0] 30)) w3 → o < 2 → w3.cell? ⟨w2.heap.size, o, none⟩ = some (.slice none 0 0) := by
          intro w3 o hb ho
          have h := (hZ2.below hb (Nat.lt_succ_self _)).cell (j := o) (by simpa using ho)
          rw [h]
          rcases (show o = 0 ∨ o = 1 by omega) with rfl | rfl <;> rfl
        have hF3 : ∀ (w3 : World) (o : Nat), Below (w2.heap.size + 1) (w2.alloc (.cells #[.slice none 0 0, .slice none 0 0] 30)) w3 → w3.frozen? ⟨w2.heap.size, o, none⟩ = false :=
          fun w3 o hb => (hZ2.below hb (Nat.lt_succ_self _)).frozen o
        have hplz : (0 : Int) < (n : Int) := by omega
        go_region_held3 (fun w' => w'.cell? ⟨w.heap.size, 0, none⟩ = some (.slice aa gc.atoms.length ac) ∧ w'.cell? ⟨w.heap.size, 1, none⟩ = some (.slice ra gc.rules.length rc) ∧ w'.cell? ⟨B, oB, none⟩ = some (.int .i64 ((j : Int) + 1)) ∧ w'.cell? ⟨B, oB + 1, none⟩ = some (.int .i64 (kk : Int)))
          (first | exact ⟨e0, e1, y0, y1⟩ | exact ⟨z0, z1, z2, z3⟩ | exact ⟨(World.cell?_alloc_lt _ _ _ hv0).trans z0, (World.cell?_alloc_lt _ _ _ hv0).trans z1, (World.cell?_alloc_lt _ _ _ hvB).trans z2, (World.cell?_alloc_lt _ _ _ hvB).trans z3⟩ | exact ⟨(World.cell?_alloc_lt _ _ _ hB12).trans e0, (World.cell?_alloc_lt _ _ _ hB12).trans e1, (World.cell?_alloc_lt _ _ _ hBlt).trans y0, (World.cell?_alloc_lt _ _ _ hBlt).trans y1⟩ | (go_simp; done) | go_keep)
          (first | (go_at_call 15; refine (hdo.out _ ((Below.refl _ w2).drew)).mono ?_; rintro e w3 ⟨vt, rfl, hb3, vp, rfl, hvp⟩; have hb3' : Below w2.heap.size w2 w3 := (Below.refl _ w2).drew.trans hb3; have hz3 : w2.heap.size ≤ w3.heap.size := hb3'.size; obtain ⟨_, _, rfl, hvp1, hvp2⟩ := id hvp; obtain ⟨a3, k3, rfl, -⟩ := id hvp1; obtain ⟨r3, q3, rfl, -⟩ := id hvp2; have hw3 : w2.heap.size ≤ w3.heap.size := hb3'.size; have hv0 : w.heap.size < w3.heap.size := (by omega); have hvB : B < w3.heap.size := (by omega); have z0 : w3.cell? ⟨w.heap.size, 0, none⟩ = _ := (hb3'.cell (p := ⟨w.heap.size, 0, none⟩) hB12).trans e0; have z1 : w3.cell? ⟨w.heap.size, 1, none⟩ = _ := (hb3'.cell (p := ⟨w.heap.size, 1, none⟩) hB12).trans e1; have z2 : w3.cell? ⟨B, oB, none⟩ = _ := (hb3'.cell (p := ⟨B, oB, none⟩) hBlt).trans y0; have z3 : w3.cell? ⟨B, oB + 1, none⟩ = _ := (hb3'.cell (p := ⟨B, oB + 1, none⟩) hBlt).trans y1; have z4 : w3.frozen? ⟨w.heap.size, 0, none⟩ = _ := (hb3'.frozen (p := ⟨w.heap.size, 0, none⟩) hB12).trans e4; have z5 : w3.frozen? ⟨w.heap.size, 1, none⟩ = _ := (hb3'.frozen (p := ⟨w.heap.size, 1, none⟩) hB12).trans e5) | (go_at_call 15; refine (hdo.out _ (((Below.refl _ w2).alloc (Nat.le_refl _) _).drew)).mono ?_; rintro e w3 ⟨vt, rfl, hb3, vp, rfl, hvp⟩; replace hb3 : Below (w2.heap.size + 1) (w2.alloc (.cells #[.slice none 0 0, .slice none 0 0] 30)) w3 := ((show w2.heap.size + 1 = (w2.alloc (.cells #[.slice none 0 0, .slice none 0 0] 30)).heap.size by simp) ▸ ((Below.refl _ _).drew.trans hb3)); have hb3' : Below w2.heap.size w2 w3 := ((Below.refl _ w2).alloc (Nat.le_refl _) _).trans (hb3.mono (Nat.le_succ _)); have hz3 : w2.heap.size < w3.heap.size := Nat.lt_of_lt_of_le (show w2.heap.size < (w2.alloc (.cells #[.slice none 0 0, .slice none 0 0] 30)).heap.size by simp) hb3.size; have a0 : w3.cell? ⟨w2.heap.size, 0, none⟩ = some (.slice none 0 0) := hZ3 _ 0 hb3 (by decide); have a1 : w3.cell? ⟨w2.heap.size, 1, none⟩ = some (.slice none 0 0) := hZ3 _ 1 hb3 (by decide); have a2 : w3.frozen? ⟨w2.heap.size, 0, none⟩ = false := hF3 _ 0 hb3; have a3' : w3.frozen? ⟨w2.heap.size, 1, none⟩ = false := hF3 _ 1 hb3; obtain ⟨_, _, rfl, hvp1, hvp2⟩ := id hvp; obtain ⟨a3, k3, rfl, -⟩ := id hvp1; obtain ⟨r3, q3, rfl, -⟩ := id hvp2; have hw3 : w2.heap.size ≤ w3.heap.size := hb3'.size; have hv0 : w.heap.size < w3.heap.size := (by omega); have hvB : B < w3.heap.size := (by omega); have z0 : w3.cell? ⟨w.heap.size, 0, none⟩ = _ := (hb3'.cell (p := ⟨w.heap.size, 0, none⟩) hB12).trans e0; have z1 : w3.cell? ⟨w.heap.size, 1, none⟩ = _ := (hb3'.cell (p := ⟨w.heap.size, 1, none⟩) hB12).trans e1; have z2 : w3.cell? ⟨B, oB, none⟩ = _ := (hb3'.cell (p := ⟨B, oB, none⟩) hBlt).trans y0; have z3 : w3.cell? ⟨B, oB + 1, none⟩ = _ := (hb3'.cell (p := ⟨B, oB + 1, none⟩) hBlt).trans y1; have z4 : w3.frozen? ⟨w.heap.size, 0, none⟩ = _ := (hb3'.frozen (p := ⟨w.heap.size, 0, none⟩) hB12).trans e4; have z5 : w3.frozen? ⟨w.heap.size, 1, none⟩ = _ := (hb3'.frozen (p := ⟨w.heap.size, 1, none⟩) hB12).trans e5))
        · go_wp2_with fail
          have hh := round_last hbw2 hb3' (by omega) hr02 hr12 _ rfl (x := .slice a3 (doL gc ((j : Int) + 1, (kk : Int))).1.atoms.length k3) (y := .slice r3 (doL gc ((j : Int) + 1, (kk : Int))).1.rules.length q3) (o := .cells #[.slice a3 (doL gc ((j : Int) + 1, (kk : Int))).1.atoms.length k3, .slice r3 (doL gc ((j : Int) + 1, (kk : Int))).1.rules.length q3] 30)
          obtain ⟨hh1, hh2, hh3, hh4, hh5⟩ := hh
          go_roundw
          case rel =>
            refine ⟨k + 1, f', _, a3, k3, r3, q3, by go_num, by omega, by omega, hrd, hgood2, hh1, hh2, hh3, hh4, ?_⟩
            refine hvp.mono (fun b h _ => ?_) fun b h hlt => hh5 b hlt ?_
            · rw [hU]; rcases h with h | h
              · have := h.1; rw [hU] at this; exact this
              · right; have : w2.heap.size ≤ b := h; omega
            · rcases h with h | h
              · have := h.1; rw [hU] at this; rcases this with h | h <;> omega
              · have : w2.heap.size ≤ b := h; omega
          case measure => simp [intOf]; omega
        · go_wp2_with fail
          have hh := round_first hbw2 hb3' (by omega) hr02 hr12 _ rfl (x := .slice a3 (doL gc ((j : Int) + 1, (kk : Int))).1.atoms.length k3) (y := .slice r3 (doL gc ((j : Int) + 1, (kk : Int))).1.rules.length q3)
          obtain ⟨hh1, hh2, hh3, hh4, hh5⟩ := hh
          go_roundw
          case rel =>
            refine ⟨k + 1, f', _, a3, k3, r3, q3, by go_num, by omega, by omega, hrd, hgood2, hh1, hh2, hh3, hh4, ?_⟩
            refine hvp.mono (fun b h _ => ?_) fun b h hlt => hh5 b ?_ ?_
            · rw [hU]; rcases h with h | h
              · have := h.1; rw [hU] at this; exact this
              · right; have : w2.heap.size + 1 ≤ b := by simpa using h
                omega
            · rcases h with h | h
              · have h2 := h.2; omega
              · have : w2.heap.size + 1 ≤ b := by simpa using h
                omega
            · rcases h with h | h
              · have := h.1; rw [hU] at this; rcases this with h | h <;> omega
              · have : w2.heap.size + 1 ≤ b := by simpa using h
                omega
          case measure => simp [intOf]; omega
end Go.Proofs.Ytdbennmbbmoflaa
