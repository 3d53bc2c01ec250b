/-
  Layer 18: the walk of ResidSteps.
-/
import Derived.Test.YtdbennmbbmoflaaPrQ
import Derived.Test.YtdbennmbbmoflaaRgC
import Derived.Test.YtdbennmbbmoflaaResS
namespace Go.Proofs.Ytdbennmbbmoflaa
open Go Go.RowKit

set_option maxHeartbeats 8000000 in
set_option maxRecDepth 100000 in
theorem steps_walk {w : World} {v0 : Value} {l : List Rule} {n : Nat} {s1 s2 : Int} (hl : Seq ruleE (fun b => b < w.heap.size) w v0 l) (hn : n < 256) :
    Calls Try.prog 6 #[v0, .int .u8 n, .agg #[.int .i64 s1, .int .i64 s2]] w (RetV (.bool true) w) := by
  have Hl := Lib.hid hl
  obtain ⟨la, lc, rfl, -⟩ := hl
  go_enter Try.func6, Try.ntmps6
  go_wp2_with fail
  refine (head_of doIs (w := _)).mono ?_
  rintro e w1 ⟨rfl, hb1⟩
  have hb1' := below_step hb1 (Seq.way : Below w.heap.size w _)
  have R5 := Lib.hid (rowTo (Row.new w _ _ rfl) hb1)
  have z1 := hb1'.size
  clear hb1
  go_wp2_with fail
  refine (Made_spec (Hl.out.at hb1') hn).mono ?_
  rintro e w2 ⟨vg, rfl, hb2, hg⟩
  have hB2 : Below w.heap.size w w2 := hb1'.trans (hb2.mono z1)
  have R5' := Lib.hid (rowTo R5.out hb2)
  obtain ⟨ga, gac, gra, grc, rfl⟩ := hg.shape
  obtain ⟨g, hgm⟩ : ∃ g, g = madeL l n := ⟨_, rfl⟩
  have hfine : FineP g := by rw [hgm]; exact madeL_fine l n
  have HGA := Lib.hid (show g.atoms = atomsTo (manyN n) by rw [hgm]; rfl)
  have HRISE := Lib.hid (show RiseP (manyN n) g by rw [hgm]; exact madeL_rise l n)
  rw [← hgm] at hg ⊢
  clear hgm R5
  have Hg := Lib.hid hg.any
  have HB2 := Lib.hid hB2
  clear hg hb1' hb2 hB2 z1
  go_upto_region 3 with fail
  have hb3 : Below w2.heap.size w2 (w2.alloc (.cells #[.slice ga g.atoms.length gac, .slice gra g.rules.length grc] 30)) := Seq.way
  have R8 := Lib.hid (Row.new w2 [.slice ga g.atoms.length gac, .slice gra g.rules.length grc] 30 rfl)
  have R5 := Lib.hid (rowTo R5'.out hb3)
  have PG := Lib.hid (Hg.out.at hb3)
  have HB3 := Lib.hid (HB2.out.trans (hb3.mono HB2.out.size))
  clear R5' hb3 HB2 Hg
  generalize w2.alloc (.cells #[.slice ga g.atoms.length gac, .slice gra g.rules.length grc] 30) = w4 at R8 R5 PG HB3 ⊢
  generalize w2.heap.size = B8 at R8 ⊢
  obtain ⟨B5, hB5⟩ : ∃ B, B = w.heap.size := ⟨_, rfl⟩
  rw [← hB5] at R5 ⊢
  clear hB5
  have hkeep : ∀ {W : World}, Below w4.heap.size w4 W → W.cell? ⟨B8, 0, none⟩ = some (.slice ga g.atoms.length gac) ∧ W.cell? ⟨B8, 1, none⟩ = some (.slice gra g.rules.length grc) := fun hW =>
    ⟨(rowTo R8.out hW).cell (j := 0) (by simp), (rowTo R8.out hW).cell (j := 1) (by simp)⟩
  have Hkeep := fun {W : World} (hW : Below w4.heap.size w4 W) => Lib.hid (hkeep hW)
  clear hkeep
  go_cut [9, 10] (fun s9 s10 wx => ∃ ca cc ma mc, s9 = .slice ca (canL g).length cc ∧ s10 = .slice ma (modelL g).length mc ∧ Seq pairE (fun _ => True) wx s9 (canL g) ∧ Seq intE (fun _ => True) wx s10 (modelL g) ∧ Below w4.heap.size w4 wx)
  case first =>
    go_region_held3 (fun w' => w'.cell? ⟨B8, 0, none⟩ = some (.slice ga g.atoms.length gac) ∧ w'.cell? ⟨B8, 1, none⟩ = some (.slice gra g.rules.length grc))
      (first | exact (Hkeep Seq.way).out | go_keep)
      (first
        | (go_at_call 12; (with_reducible refine (CanP_spec (PG.out.at Seq.way) hfine).mono ?_); rintro e x1 ⟨v1, rfl, hx1, hq1⟩; have HX1 := below_step hx1 (Seq.way : Below w4.heap.size w4 _); have zx1 := HX1.size)
        | (go_at_call 23; (with_reducible refine (Model_spec (PG.out.at Seq.way) hfine.toGoodP).mono ?_); rintro e x2 ⟨v2, rfl, hx2, hq2⟩; have HX2 := below_step hx2 (Seq.way : Below w4.heap.size w4 _); have zx2 := HX2.size))
    all_goals go_wp2_with fail
    all_goals go_meet
    all_goals obtain ⟨ca, cc, rfl, -⟩ := id hq1
    all_goals obtain ⟨ma, mc, rfl, -⟩ := id hq2
    all_goals first
      | exact ⟨ca, cc, ma, mc, rfl, rfl, (hq1.at hx2).mono (fun _ _ _ => trivial) fun _ _ _ => rfl, hq2.mono (fun _ _ _ => trivial) fun _ _ _ => rfl, HX2⟩
      | exact ⟨ca, cc, ma, mc, rfl, rfl, hq1.mono (fun _ _ _ => trivial) fun _ _ _ => rfl, (hq2.at hx1).mono (fun _ _ _ => trivial) fun _ _ _ => rfl, HX1⟩
  case rest =>
    obtain ⟨ca, cc, ma, mc, rfl, rfl, hA, hM, hB⟩ := hcut
    have HA := Lib.hid hA
    have HM := Lib.hid hM
    have HB := Lib.hid hB
    have zb := HB.out.size
    obtain ⟨len, hlen⟩ : ∃ len, len = (canL g).length := ⟨_, rfl⟩
    have Hlen := Lib.hid hlen
    rw [← hlen] at HA ⊢
    have hlen9 : len ≤ 140737488355328 := by rw [hlen]; obtain ⟨_, _, -, -, -, h, -⟩ := hA; exact h
    clear hlen hA hM hB
    obtain ⟨w5, rfl⟩ : ∃ w5, w5 = wc := ⟨_, rfl⟩
    have PG5 := Lib.hid (PG.out.at HB.out)
    have R85 := Lib.hid (rowTo R8.out HB.out)
    have R55 := Lib.hid (rowTo R5.out HB.out)
    have HB5 := Lib.hid (HB3.out.trans (HB.out.mono HB3.out.size))
    clear PG R8 R5 HB3 HB Hkeep zb
    go_wp2_with fail
    go_loopw [11] (fun i wr => ∃ k : Nat, k ≤ len ∧ i = .int .i64 k ∧ Below w5.heap.size w5 wr) (fun i _ => len - (intOf i).toNat)
    case atStart => exact ⟨0, Nat.zero_le _, rfl, Below.refl _ _⟩
    case round =>
      obtain ⟨k, hk, rfl, hbr⟩ := hrel
      have zr := hbr.size
      by_cases hlt : k < len
      · have hlt' : k < (canL g).length := by rw [← Hlen.out]; exact hlt
        have hAr := HA.out.at hbr
        rw [Hlen.out] at hAr
        obtain ⟨_, _, ea, -, -, -, -, hsa⟩ := hAr
        simp only [Value.slice.injEq] at ea
        obtain ⟨rfl, -, rfl⟩ := ea
        obtain ⟨ab, ao, rfl, -, hab, a0, a1, ok1, ok2⟩ := hsa.pair hlt'
        obtain ⟨s, hs⟩ : ∃ s, s = (canL g)[k] := ⟨_, rfl⟩
        have Hsk := Lib.hid hs
        rw [← hs] at a0 a1 ok1 ok2
        have Hsc := Lib.hid (show s ∈ canL g by rw [hs]; exact List.getElem_mem hlt')
        have HPREV := Lib.hid (show ∀ k' : Nat, k = k' + 1 → ∃ s' : Int × Int, LtS s' s ∧ wr.cell? ⟨ab, ao + k' * 2, none⟩ = some (.int .i64 s'.1) ∧ wr.cell? ⟨ab, ao + k' * 2 + 1, none⟩ = some (.int .i64 s'.2) by
          intro k' hk'
          subst hk'
          obtain ⟨ab', ao', eb, -, -, b0, b1, -, -⟩ := hsa.pair (Nat.lt_of_succ_lt hlt')
          simp only [Option.some.injEq, Addr.mk.injEq, and_true] at eb
          obtain ⟨rfl, rfl⟩ := eb
          exact ⟨_, by rw [hs]; exact canL_rise g hlt', b0, b1⟩)
        clear hs hsa Hsk
        obtain ⟨w6, rfl⟩ : ∃ w6, w6 = wr := ⟨_, rfl⟩
        have hkl : (k : Int) < (len : Int) := by omega
        have hk0 : (0 : Int) ≤ (k : Int) := by omega
        have hk9 : ∀ {W : World}, Below w6.heap.size w6 W → W.cell? ⟨B8, 0, none⟩ = some (.slice ga g.atoms.length gac) ∧ W.cell? ⟨B8, 1, none⟩ = some (.slice gra g.rules.length grc) ∧ W.cell? ⟨ab, ao + k * 2, none⟩ = some (.int .i64 s.1) ∧ W.cell? ⟨ab, ao + k * 2 + 1, none⟩ = some (.int .i64 s.2) := fun hW =>
          ⟨(rowTo R85.out (hbr.trans (hW.mono zr))).cell (j := 0) (by simp), (rowTo R85.out (hbr.trans (hW.mono zr))).cell (j := 1) (by simp), (hW.cell (p := ⟨ab, ao + k * 2, none⟩) hab).trans a0, (hW.cell (p := ⟨ab, ao + k * 2 + 1, none⟩) hab).trans a1⟩
        have Hk9 := fun {W : World} (hW : Below w6.heap.size w6 W) => Lib.hid (hk9 hW)
        clear hk9
        have HG := Lib.hid ((PG5.out.at hbr).mono (T := fun b => b < w6.heap.size) (fun b _ h => h) fun _ _ _ => rfl)
        go_wp2_with fail
        go_cut [12, 13] (fun s13 s14 wx => ∃ B p q, s13 = .pointer (some ⟨B, 0, none⟩) ∧ s14 = .bool (doL g s).2 ∧ Row 30 wx B [p, q] ∧ ProgV (fun _ => True) wx (.agg #[p, q]) (doL g s).1 ∧ Below w6.heap.size w6 wx)
        case first =>
          refine wp_region_noPanic ?_
          refine wp_region_held_drew (S := fun w' => w'.cell? ⟨B8, 0, none⟩ = some (.slice ga g.atoms.length gac) ∧ w'.cell? ⟨B8, 1, none⟩ = some (.slice gra g.rules.length grc) ∧ w'.cell? ⟨ab, ao + k * 2, none⟩ = some (.int .i64 s.1) ∧ w'.cell? ⟨ab, ao + k * 2 + 1, none⟩ = some (.int .i64 s.2)) (by kernel_rfl) ?_ (fun hHeld => ?_)
          · exact (Hk9 (Below.drew (Below.refl _ _))).out
          refine wpAnyH_take1 (i := 0) (oi := _) (v := ?_) (by kernel_rfl) rfl (by kernel_rfl) (fun _ _ _ h => h) (Or.inl ⟨by rfl, ?_⟩) (by assumption) ?_
          rotate_left 1
          · intro w hSw; (try dsimp only at hSw); go_simp; (with_reducible rfl)
          (try simp only [Act.put, List.getElem_toArray, List.getElem_cons_zero, List.setIfInBounds_toArray, List.set_cons_zero, List.set_cons_succ])
          refine wpAnyH_take1 (i := 1) (oi := _) (v := ?_) (by kernel_rfl) rfl (by kernel_rfl) (fun _ _ _ h => h) (Or.inl ⟨by rfl, ?_⟩) (by assumption) ?_
          rotate_left 1
          · intro w hSw; (try dsimp only at hSw); go_simp; (with_reducible rfl)
          (try simp only [Act.put, List.getElem_toArray, List.getElem_cons_zero, List.getElem_cons_succ, List.setIfInBounds_toArray, List.set_cons_zero, List.set_cons_succ])
          refine wpAnyH_take1 (i := 2) (oi := _) (v := ?_) (by kernel_rfl) rfl (by kernel_rfl) (fun _ _ _ h => h) (Or.inl ⟨by rfl, ?_⟩) (by assumption) ?_
          rotate_left 1
          · intro w hSw; (try dsimp only at hSw); go_simp; (with_reducible rfl)
          (try simp only [Act.put, List.getElem_toArray, List.getElem_cons_zero, List.getElem_cons_succ, List.setIfInBounds_toArray, List.set_cons_zero, List.set_cons_succ])
          refine wpAnyH_take1 (i := 3) (oi := _) (v := ?_) (by kernel_rfl) rfl (by kernel_rfl) (fun _ _ _ h => h) (Or.inl ⟨by rfl, ?_⟩) (by assumption) ?_
          rotate_left 1
          · intro w hSw; (try dsimp only at hSw); go_simp; (with_reducible rfl)
          (try simp only [Act.put, List.getElem_toArray, List.getElem_cons_zero, List.getElem_cons_succ, List.setIfInBounds_toArray, List.set_cons_zero, List.set_cons_succ])
          refine wpAnyH_take1 (i := 4) (oi := _) (v := ?_) (by kernel_rfl) rfl (by kernel_rfl) (fun _ _ _ h => h) (Or.inl ⟨by rfl, ?_⟩) (by assumption) ?_
          rotate_left 1
          · intro w hSw; (try dsimp only at hSw); go_simp; (with_reducible rfl)
          (try simp only [Act.put, List.getElem_toArray, List.getElem_cons_zero, List.getElem_cons_succ, List.setIfInBounds_toArray, List.set_cons_zero, List.set_cons_succ])
          clear hHeld
          refine wpAnyH_fork (i := 5) (j := 9) (by kernel_rfl) rfl rfl (by rfl) (by rfl) ?_ ?_
          · intro K hK
            go_simp
            refine (DoP_spec (s := s) (HG.out.at Seq.way) hfine).mono ?_
            rintro e x1 ⟨_, rfl, hb, p, rfl, hp⟩
            obtain ⟨sa, sac, sr, src, rfl⟩ := hp.shape
            (try dsimp only)
            have HB1 := below_step hb (Seq.way : Below w6.heap.size w6 _)
            have z1 := HB1.size
            refine hK.out _ _ (Hk9 HB1).out fun hHeld => ?_
            clear hK K
            (try simp only [Act.put, List.getElem_toArray, List.getElem_cons_zero, List.getElem_cons_succ, List.setIfInBounds_toArray, List.set_cons_zero, List.set_cons_succ])
            refine wpAnyH_take1 (i := 6) (oi := _) (v := ?_) (by kernel_rfl) rfl (by kernel_rfl) (fun _ _ _ h => h) (Or.inl ⟨by rfl, ?_⟩) (by assumption) ?_
            rotate_left 1
            · intro w hSw; (try dsimp only at hSw); go_simp; (with_reducible rfl)
            (try simp only [Act.put, List.getElem_toArray, List.getElem_cons_zero, List.getElem_cons_succ, List.setIfInBounds_toArray, List.set_cons_zero, List.set_cons_succ])
            refine wpAnyH_take1 (i := 7) (oi := _) (v := ?_) (by kernel_rfl) rfl (by kernel_rfl) (fun _ _ _ h => h) (Or.inl ⟨by rfl, ?_⟩) (by assumption) ?_
            rotate_left 1
            · intro w hSw; (try dsimp only at hSw); go_simp; (with_reducible rfl)
            (try simp only [Act.put, List.getElem_toArray, List.getElem_cons_zero, List.getElem_cons_succ, List.setIfInBounds_toArray, List.set_cons_zero, List.set_cons_succ])
            refine wpAnyH_take1 (i := 8) (oi := _) (v := ?_) (by kernel_rfl) rfl (by kernel_rfl) (fun _ _ _ h => h) (Or.inl ⟨by rfl, ?_⟩) (by assumption) ?_
            rotate_left 1
            · intro w hSw; (try dsimp only at hSw); go_simp; (with_reducible rfl)
            (try simp only [Act.put, List.getElem_toArray, List.getElem_cons_zero, List.getElem_cons_succ, List.setIfInBounds_toArray, List.set_cons_zero, List.set_cons_succ])
            clear hHeld
            refine wpAnyH_one (i := 9) (by kernel_rfl) rfl (by rfl) fun K hK => ?_
            go_simp
            refine hK.out _ _ (Hk9 Seq.way).out fun hHeld => ?_
            clear hK K
            (try simp only [Act.put, List.getElem_toArray, List.getElem_cons_zero, List.getElem_cons_succ, List.setIfInBounds_toArray, List.set_cons_zero, List.set_cons_succ])
            have hR : Row 30 (x1.alloc (.cells #[.slice none 0 0, .slice none 0 0] 30)) x1.heap.size [.slice none 0 0, .slice none 0 0] := Row.new _ _ _ rfl
            have hp' : ProgV (fun b => b ≠ x1.heap.size) (x1.alloc (.cells #[.slice none 0 0, .slice none 0 0] 30)) _ (doL g s).1 := hp.mono (fun b _ hl e => absurd hl (by rw [e]; exact Nat.lt_irrefl _)) fun b _ hl => Below.heap_alloc _ _ _ hl
            have HBx : Below w6.heap.size w6 (x1.alloc (.cells #[.slice none 0 0, .slice none 0 0] 30)) := Seq.way
            have hlo : w6.heap.size ≤ x1.heap.size := z1
            clear hp hb
            generalize hx3 : x1.alloc (.cells #[.slice none 0 0, .slice none 0 0] 30) = x3 at hR hp' HBx hHeld ⊢
            generalize x1.heap.size = B at hR hp' hlo ⊢
            clear hx3
            have hp := hp'
            clear hp'
            have b0 := hR.cell (j := 0) (by simp)
            have b1 := hR.cell (j := 1) (by simp)
            simp only [List.getElem_cons_zero, List.getElem_cons_succ] at b0 b1
            have bf := hR.frozen
            refine wpAnyH_one (i := 10) (by kernel_rfl) rfl (by rfl) fun K hK => ?_
            go_simp
            have HBy := (HBx.setCell (p := ⟨B, 0, none⟩) hlo (.slice sa (doL g s).1.atoms.length sac)).setCell (p := ⟨B, 1, none⟩) hlo (.slice sr (doL g s).1.rules.length src)
            have HRy : Row 30 ((x3.setCell ⟨B, 0, none⟩ (.slice sa (doL g s).1.atoms.length sac)).setCell ⟨B, 1, none⟩ (.slice sr (doL g s).1.rules.length src)) (B) [(.slice sa (doL g s).1.atoms.length sac), (.slice sr (doL g s).1.rules.length src)] := (hR.set 0 (.slice sa (doL g s).1.atoms.length sac)).set 1 (.slice sr (doL g s).1.rules.length src)
            have HPy : ProgV (fun _ => True) ((x3.setCell ⟨B, 0, none⟩ (.slice sa (doL g s).1.atoms.length sac)).setCell ⟨B, 1, none⟩ (.slice sr (doL g s).1.rules.length src)) (.agg #[(.slice sa (doL g s).1.atoms.length sac), (.slice sr (doL g s).1.rules.length src)]) (doL g s).1 := hp.mono (fun _ _ _ => trivial) fun b hb _ => (((Only.refl _ x3).set 0 (.slice sa (doL g s).1.atoms.length sac)).set 1 (.slice sr (doL g s).1.rules.length src)) b hb
            clear hHeld b0 b1 bf
            refine hK.out _ _ (Hk9 HBy).out fun hHeld => ?_
            generalize (x3.setCell ⟨B, 0, none⟩ (.slice sa (doL g s).1.atoms.length sac)).setCell ⟨B, 1, none⟩ (.slice sr (doL g s).1.rules.length src) = x4 at HBy HRy HPy hHeld ⊢
            clear hK K hR hp HBx
            refine wpAnyH_one (i := 11) (by kernel_rfl) rfl (by rfl) fun K hK => ?_
            go_simp
            refine hK.out _ _ hHeld fun hHeld => ?_
            clear hK K
            refine wpAnyH_done (by kernel_rfl) ?_ _
            refine NoPanic.normal ?_
            go_wp2_with fail
            go_meet
            exact ⟨_, _, _, rfl, rfl, HRy, HPy, HBy⟩
          · intro K hK
            go_simp
            refine hK.out _ _ (Hk9 Seq.way).out fun hHeld => ?_
            clear hK K
            (try simp only [Act.put, List.getElem_toArray, List.getElem_cons_zero, List.getElem_cons_succ, List.setIfInBounds_toArray, List.set_cons_zero, List.set_cons_succ])
            have hR0 : Row 30 (w6.alloc (.cells #[.slice none 0 0, .slice none 0 0] 30)).drew w6.heap.size [.slice none 0 0, .slice none 0 0] := Row.at (Row.new w6 _ _ rfl) rfl
            have HB0 : Below w6.heap.size w6 (w6.alloc (.cells #[.slice none 0 0, .slice none 0 0] 30)).drew := Seq.way
            generalize (w6.alloc (.cells #[.slice none 0 0, .slice none 0 0] 30)).drew = x1 at hR0 HB0 hHeld ⊢
            clear hHeld
            refine wpAnyH_one (i := 5) (by kernel_rfl) rfl (by rfl) fun K hK => ?_
            go_simp
            refine (DoP_spec (s := s) (HG.out.at HB0) hfine).mono ?_
            rintro e x3 ⟨_, rfl, hb, p, rfl, hp0⟩
            obtain ⟨sa, sac, sr, src, rfl⟩ := hp0.shape
            (try dsimp only)
            have HBx := below_step hb HB0
            refine hK.out _ _ (Hk9 HBx).out fun hHeld => ?_
            clear hK K
            (try simp only [Act.put, List.getElem_toArray, List.getElem_cons_zero, List.getElem_cons_succ, List.setIfInBounds_toArray, List.set_cons_zero, List.set_cons_succ])
            have hR := rowTo hR0 hb
            have hlB := hR0.lt
            have hlo : w6.heap.size ≤ w6.heap.size := Nat.le_refl _
            have hp : ProgV (fun b => b ≠ w6.heap.size) x3 _ (doL g s).1 := hp0.mono (fun b hb _ e => by rcases hb with h | h <;> (subst e; omega)) fun _ _ _ => rfl
            clear hp0 hR0 hb
            refine wpAnyH_take1 (i := 6) (oi := _) (v := ?_) (by kernel_rfl) rfl (by kernel_rfl) (fun _ _ _ h => h) (Or.inl ⟨by rfl, ?_⟩) (by assumption) ?_
            rotate_left 1
            · intro w hSw; (try dsimp only at hSw); go_simp; (with_reducible rfl)
            (try simp only [Act.put, List.getElem_toArray, List.getElem_cons_zero, List.getElem_cons_succ, List.setIfInBounds_toArray, List.set_cons_zero, List.set_cons_succ])
            refine wpAnyH_take1 (i := 7) (oi := _) (v := ?_) (by kernel_rfl) rfl (by kernel_rfl) (fun _ _ _ h => h) (Or.inl ⟨by rfl, ?_⟩) (by assumption) ?_
            rotate_left 1
            · intro w hSw; (try dsimp only at hSw); go_simp; (with_reducible rfl)
            (try simp only [Act.put, List.getElem_toArray, List.getElem_cons_zero, List.getElem_cons_succ, List.setIfInBounds_toArray, List.set_cons_zero, List.set_cons_succ])
            refine wpAnyH_take1 (i := 8) (oi := _) (v := ?_) (by kernel_rfl) rfl (by kernel_rfl) (fun _ _ _ h => h) (Or.inl ⟨by rfl, ?_⟩) (by assumption) ?_
            rotate_left 1
            · intro w hSw; (try dsimp only at hSw); go_simp; (with_reducible rfl)
            (try simp only [Act.put, List.getElem_toArray, List.getElem_cons_zero, List.getElem_cons_succ, List.setIfInBounds_toArray, List.set_cons_zero, List.set_cons_succ])
            have b0 := hR.cell (j := 0) (by simp)
            have b1 := hR.cell (j := 1) (by simp)
            simp only [List.getElem_cons_zero, List.getElem_cons_succ] at b0 b1
            have bf := hR.frozen
            refine wpAnyH_one (i := 10) (by kernel_rfl) rfl (by rfl) fun K hK => ?_
            go_simp
            have HBy := (HBx.setCell (p := ⟨w6.heap.size, 0, none⟩) hlo (.slice sa (doL g s).1.atoms.length sac)).setCell (p := ⟨w6.heap.size, 1, none⟩) hlo (.slice sr (doL g s).1.rules.length src)
            have HRy : Row 30 ((x3.setCell ⟨w6.heap.size, 0, none⟩ (.slice sa (doL g s).1.atoms.length sac)).setCell ⟨w6.heap.size, 1, none⟩ (.slice sr (doL g s).1.rules.length src)) (w6.heap.size) [(.slice sa (doL g s).1.atoms.length sac), (.slice sr (doL g s).1.rules.length src)] := (hR.set 0 (.slice sa (doL g s).1.atoms.length sac)).set 1 (.slice sr (doL g s).1.rules.length src)
            have HPy : ProgV (fun _ => True) ((x3.setCell ⟨w6.heap.size, 0, none⟩ (.slice sa (doL g s).1.atoms.length sac)).setCell ⟨w6.heap.size, 1, none⟩ (.slice sr (doL g s).1.rules.length src)) (.agg #[(.slice sa (doL g s).1.atoms.length sac), (.slice sr (doL g s).1.rules.length src)]) (doL g s).1 := hp.mono (fun _ _ _ => trivial) fun b hb _ => (((Only.refl _ x3).set 0 (.slice sa (doL g s).1.atoms.length sac)).set 1 (.slice sr (doL g s).1.rules.length src)) b hb
            clear hHeld b0 b1 bf
            refine hK.out _ _ (Hk9 HBy).out fun hHeld => ?_
            generalize (x3.setCell ⟨w6.heap.size, 0, none⟩ (.slice sa (doL g s).1.atoms.length sac)).setCell ⟨w6.heap.size, 1, none⟩ (.slice sr (doL g s).1.rules.length src) = x4 at HBy HRy HPy hHeld ⊢
            clear hK K hR hp HBx
            refine wpAnyH_one (i := 11) (by kernel_rfl) rfl (by rfl) fun K hK => ?_
            go_simp
            refine hK.out _ _ hHeld fun hHeld => ?_
            clear hK K
            refine wpAnyH_done (by kernel_rfl) ?_ _
            refine NoPanic.normal ?_
            go_wp2_with fail
            go_meet
            exact ⟨_, _, _, rfl, rfl, HRy, HPy, HBy⟩
        case rest =>
          obtain ⟨B12, p12, q12, rfl, rfl, hR12, hP12, hB7⟩ := hcut
          obtain ⟨w7, rfl⟩ : ∃ w7, w7 = wc := ⟨_, rfl⟩
          have z7 := hB7.size
          have HGm := Lib.hid (HG.out.at hB7)
          have HMm := Lib.hid (HM.out.at (hbr.trans (hB7.mono zr)))
          have R12 := Lib.hid hR12
          have P12 := Lib.hid hP12
          clear hR12 hP12
          obtain ⟨ea, eb, ec, ed, e12⟩ := P12.out.shape
          simp only [Value.agg.injEq, Array.mk.injEq, List.cons.injEq, and_true] at e12
          obtain ⟨rfl, rfl⟩ := e12
          have hyes : (doL g s).2 = true := by rw [doL_is]; exact decide_eq_true Hsc.out
          have HFh := Lib.hid (doL_fine hfine Hsc.out)
          have HRt := Lib.hid (show RightP (manyN n) (doL g s).1 from ⟨by rw [doL_atoms]; exact HGA.out, by have := (manyN_pos n).2; omega, HFh.out.rsm, rise_do HRISE.out Hsc.out, HFh.out.sort⟩)
          have hless : decide (sizeP g ≤ sizeP (doL g s).1) = false := decide_eq_false (by have := doL_less Hsc.out; omega)
          have HMOD := Lib.hid (doL_model hfine.toGoodP Hsc.out)
          rw [hyes]
          clear hyes
          generalize (doL g s).1 = h at P12 R12 HFh HRt hless HMOD ⊢
          have HBw := Lib.hid (hbr.trans (hB7.mono zr))
          by_cases hz : k = 0
          · subst hz
            have hz0 : decide ((0 : Int) < 0) = false := rfl
            have hk7 : ∀ {W : World}, Below w7.heap.size w7 W → W.cell? ⟨B12, 0, none⟩ = some (.slice ea h.atoms.length eb) ∧ W.cell? ⟨B12, 1, none⟩ = some (.slice ec h.rules.length ed) ∧ W.cell? ⟨B8, 0, none⟩ = some (.slice ga g.atoms.length gac) ∧ W.cell? ⟨B8, 1, none⟩ = some (.slice gra g.rules.length grc) := fun hW =>
              ⟨(rowTo R12.out hW).cell (j := 0) (by simp), (rowTo R12.out hW).cell (j := 1) (by simp), (Hk9 (hB7.trans (hW.mono z7))).out.1, (Hk9 (hB7.trans (hW.mono z7))).out.2.1⟩
            have Hk7 := fun {W : World} (hW : Below w7.heap.size w7 W) => Lib.hid (hk7 hW)
            clear hk7 a0 a1 HPREV
            go_wp2_with fail
            simp only [List.append_eq, List.cons_append, List.nil_append]
            refine wp_region_noPanic ?_
            refine wp_region_held_drew (S := fun w' => w'.cell? ⟨B12, 0, none⟩ = some (.slice ea h.atoms.length eb) ∧ w'.cell? ⟨B12, 1, none⟩ = some (.slice ec h.rules.length ed) ∧ w'.cell? ⟨B8, 0, none⟩ = some (.slice ga g.atoms.length gac) ∧ w'.cell? ⟨B8, 1, none⟩ = some (.slice gra g.rules.length grc)) (by kernel_rfl) ?_ (fun hHeld => ?_)
            · exact (Hk7 (Below.drew (Below.refl _ _))).out
            refine wpAnyH_take1 (i := 0) (oi := _) (v := ?_) (by kernel_rfl) rfl (by kernel_rfl) (fun _ _ _ h => h) (Or.inl ⟨by rfl, ?_⟩) (by assumption) ?_
            rotate_left 1
            · intro w hSw; (try dsimp only at hSw); go_simp; (with_reducible rfl)
            (try simp only [Act.put, List.getElem_toArray, List.getElem_cons_zero, List.setIfInBounds_toArray, List.set_cons_zero, List.set_cons_succ])
            refine wpAnyH_take1 (i := 1) (oi := _) (v := ?_) (by kernel_rfl) rfl (by kernel_rfl) (fun _ _ _ h => h) (Or.inl ⟨by rfl, ?_⟩) (by assumption) ?_
            rotate_left 1
            · intro w hSw; (try dsimp only at hSw); go_simp; (with_reducible rfl)
            (try simp only [Act.put, List.getElem_toArray, List.getElem_cons_zero, List.getElem_cons_succ, List.setIfInBounds_toArray, List.set_cons_zero, List.set_cons_succ])
            refine wpAnyH_take1 (i := 2) (oi := _) (v := ?_) (by kernel_rfl) rfl (by kernel_rfl) (fun _ _ _ h => h) (Or.inl ⟨by rfl, ?_⟩) (by assumption) ?_
            rotate_left 1
            · intro w hSw; (try dsimp only at hSw); go_simp; (with_reducible rfl)
            (try simp only [Act.put, List.getElem_toArray, List.getElem_cons_zero, List.getElem_cons_succ, List.setIfInBounds_toArray, List.set_cons_zero, List.set_cons_succ])
            refine wpAnyH_take1 (i := 3) (oi := _) (v := ?_) (by kernel_rfl) rfl (by kernel_rfl) (fun _ _ _ h => h) (Or.inl ⟨by rfl, ?_⟩) (by assumption) ?_
            rotate_left 1
            · intro w hSw; (try dsimp only at hSw); go_simp; (with_reducible rfl)
            (try simp only [Act.put, List.getElem_toArray, List.getElem_cons_zero, List.getElem_cons_succ, List.setIfInBounds_toArray, List.set_cons_zero, List.set_cons_succ])
            refine wpAnyH_one (i := 4) (by kernel_rfl) rfl (by rfl) fun K hK => ?_
            go_simp
            refine (Right16_spec (P12.out.at Seq.way) HRt.out).mono ?_
            rintro e y1 ⟨rfl, hy1⟩
            have HY1 := below_step hy1 (Seq.way : Below w7.heap.size w7 _)
            have zy1 := HY1.size
            (try dsimp only)
            clear hHeld
            refine hK.out _ _ (Hk7 HY1).out fun hHeld => ?_
            clear hK K
            (try simp only [Act.put, List.getElem_toArray, List.getElem_cons_zero, List.getElem_cons_succ, List.setIfInBounds_toArray, List.set_cons_zero, List.set_cons_succ])
            refine wpAnyH_take1 (i := 5) (oi := _) (v := ?_) (by kernel_rfl) rfl (by kernel_rfl) (fun _ _ _ h => h) (Or.inl ⟨by rfl, ?_⟩) (by assumption) ?_
            rotate_left 1
            · intro w hSw; (try dsimp only at hSw); go_simp; (with_reducible rfl)
            (try simp only [Act.put, List.getElem_toArray, List.getElem_cons_zero, List.getElem_cons_succ, List.setIfInBounds_toArray, List.set_cons_zero, List.set_cons_succ])
            refine wpAnyH_take1 (i := 6) (oi := _) (v := ?_) (by kernel_rfl) rfl (by kernel_rfl) (fun _ _ _ h => h) (Or.inl ⟨by rfl, ?_⟩) (by assumption) ?_
            rotate_left 1
            · intro w hSw; (try dsimp only at hSw); go_simp; (with_reducible rfl)
            (try simp only [Act.put, List.getElem_toArray, List.getElem_cons_zero, List.getElem_cons_succ, List.setIfInBounds_toArray, List.set_cons_zero, List.set_cons_succ])
            refine wpAnyH_take1 (i := 7) (oi := _) (v := ?_) (by kernel_rfl) rfl (by kernel_rfl) (fun _ _ _ h => h) (Or.inl ⟨by rfl, ?_⟩) (by assumption) ?_
            rotate_left 1
            · intro w hSw; (try dsimp only at hSw); go_simp; (with_reducible rfl)
            (try simp only [Act.put, List.getElem_toArray, List.getElem_cons_zero, List.getElem_cons_succ, List.setIfInBounds_toArray, List.set_cons_zero, List.set_cons_succ])
            refine wpAnyH_take1 (i := 8) (oi := _) (v := ?_) (by kernel_rfl) rfl (by kernel_rfl) (fun _ _ _ h => h) (Or.inl ⟨by rfl, ?_⟩) (by assumption) ?_
            rotate_left 1
            · intro w hSw; (try dsimp only at hSw); go_simp; (with_reducible rfl)
            (try simp only [Act.put, List.getElem_toArray, List.getElem_cons_zero, List.getElem_cons_succ, List.setIfInBounds_toArray, List.set_cons_zero, List.set_cons_succ])
            refine wpAnyH_take1 (i := 10) (oi := _) (v := ?_) (by kernel_rfl) rfl (by kernel_rfl) (fun _ _ _ h => h) (Or.inl ⟨by rfl, ?_⟩) (by assumption) ?_
            rotate_left 1
            · intro w hSw; (try dsimp only at hSw); go_simp; (with_reducible rfl)
            (try simp only [Act.put, List.getElem_toArray, List.getElem_cons_zero, List.getElem_cons_succ, List.setIfInBounds_toArray, List.set_cons_zero, List.set_cons_succ])
            refine wpAnyH_one (i := 9) (by kernel_rfl) rfl (by rfl) fun K hK => ?_
            go_simp
            refine (Size_spec (P12.out.at Seq.way) HFh.out.toGoodP).mono ?_
            rintro e y2 ⟨rfl, hy2⟩
            have HY2 := below_step hy2 (Seq.way : Below w7.heap.size w7 _)
            have zy2 := HY2.size
            (try dsimp only)
            clear hHeld
            refine hK.out _ _ (Hk7 HY2).out fun hHeld => ?_
            clear hK K
            (try simp only [Act.put, List.getElem_toArray, List.getElem_cons_zero, List.getElem_cons_succ, List.setIfInBounds_toArray, List.set_cons_zero, List.set_cons_succ])
            refine wpAnyH_one (i := 11) (by kernel_rfl) rfl (by rfl) fun K hK => ?_
            go_simp
            refine (Size_spec (HGm.out.at Seq.way) hfine.toGoodP).mono ?_
            rintro e y3 ⟨rfl, hy3⟩
            have HY3 := below_step hy3 (Seq.way : Below w7.heap.size w7 _)
            have zy3 := HY3.size
            (try dsimp only)
            clear hHeld
            refine hK.out _ _ (Hk7 HY3).out fun hHeld => ?_
            clear hK K
            (try simp only [Act.put, List.getElem_toArray, List.getElem_cons_zero, List.getElem_cons_succ, List.setIfInBounds_toArray, List.set_cons_zero, List.set_cons_succ])
            refine wpAnyH_take1 (i := 12) (oi := _) (v := ?_) (by kernel_rfl) rfl (by kernel_rfl) (fun _ _ _ h => h) (Or.inl ⟨by rfl, ?_⟩) (by assumption) ?_
            rotate_left 1
            · intro w hSw; (try dsimp only at hSw); go_simp; (with_reducible rfl)
            (try simp only [Act.put, List.getElem_toArray, List.getElem_cons_zero, List.getElem_cons_succ, List.setIfInBounds_toArray, List.set_cons_zero, List.set_cons_succ])
            refine wpAnyH_take1 (i := 13) (oi := _) (v := ?_) (by kernel_rfl) rfl (by kernel_rfl) (fun _ _ _ h => h) (Or.inl ⟨by rfl, ?_⟩) (by assumption) ?_
            rotate_left 1
            · intro w hSw; (try dsimp only at hSw); go_simp; (with_reducible rfl)
            (try simp only [Act.put, List.getElem_toArray, List.getElem_cons_zero, List.getElem_cons_succ, List.setIfInBounds_toArray, List.set_cons_zero, List.set_cons_succ])
            refine wpAnyH_take1 (i := 14) (oi := _) (v := ?_) (by kernel_rfl) rfl (by kernel_rfl) (fun _ _ _ h => h) (Or.inl ⟨by rfl, ?_⟩) (by assumption) ?_
            rotate_left 1
            · intro w hSw; (try dsimp only at hSw); go_simp; (with_reducible rfl)
            (try simp only [Act.put, List.getElem_toArray, List.getElem_cons_zero, List.getElem_cons_succ, List.setIfInBounds_toArray, List.set_cons_zero, List.set_cons_succ])
            refine wpAnyH_take1 (i := 15) (oi := _) (v := ?_) (by kernel_rfl) rfl (by kernel_rfl) (fun _ _ _ h => h) (Or.inl ⟨by rfl, ?_⟩) (by assumption) ?_
            rotate_left 1
            · intro w hSw; (try dsimp only at hSw); go_simp; (with_reducible rfl)
            (try simp only [Act.put, List.getElem_toArray, List.getElem_cons_zero, List.getElem_cons_succ, List.setIfInBounds_toArray, List.set_cons_zero, List.set_cons_succ])
            refine wpAnyH_take1 (i := 17) (oi := _) (v := ?_) (by kernel_rfl) rfl (by kernel_rfl) (fun _ _ _ h => h) (Or.inl ⟨by rfl, ?_⟩) (by assumption) ?_
            rotate_left 1
            · intro w hSw; (try dsimp only at hSw); go_simp; (with_reducible rfl)
            (try simp only [Act.put, List.getElem_toArray, List.getElem_cons_zero, List.getElem_cons_succ, List.setIfInBounds_toArray, List.set_cons_zero, List.set_cons_succ])
            refine wpAnyH_one (i := 16) (by kernel_rfl) rfl (by rfl) fun K hK => ?_
            go_simp
            refine (Model_spec (P12.out.at Seq.way) HFh.out.toGoodP).mono ?_
            rintro e y4 ⟨vm, rfl, hy4, hq4⟩
            have HY4 := below_step hy4 (Seq.way : Below w7.heap.size w7 _)
            have zy4 := HY4.size
            (try dsimp only)
            clear hHeld
            refine hK.out _ _ (Hk7 HY4).out fun hHeld => ?_
            clear hK K
            (try simp only [Act.put, List.getElem_toArray, List.getElem_cons_zero, List.getElem_cons_succ, List.setIfInBounds_toArray, List.set_cons_zero, List.set_cons_succ])
            rw [HMOD.out] at hq4
            have HQ4 := Lib.hid hq4
            clear hq4
            refine wpAnyH_one (i := 18) (by kernel_rfl) rfl (by rfl) fun K hK => ?_
            go_simp
            refine (ints_eq (HQ4.out.at Seq.way) (HMm.out.at Seq.way)).mono ?_
            rintro e y5 ⟨rfl, hy5⟩
            have HY5 := below_step hy5 (Seq.way : Below w7.heap.size w7 _)
            have zy5 := HY5.size
            (try dsimp only)
            clear hHeld
            refine hK.out _ _ (Hk7 HY5).out fun hHeld => ?_
            clear hK K
            (try simp only [Act.put, List.getElem_toArray, List.getElem_cons_zero, List.getElem_cons_succ, List.setIfInBounds_toArray, List.set_cons_zero, List.set_cons_succ])
            refine wpAnyH_take1 (i := 19) (oi := _) (v := ?_) (by kernel_rfl) rfl (by kernel_rfl) (fun _ _ _ h => h) (Or.inl ⟨by rfl, ?_⟩) (by assumption) ?_
            rotate_left 1
            · intro w hSw; (try dsimp only at hSw); go_simp; (with_reducible rfl)
            (try simp only [Act.put, List.getElem_toArray, List.getElem_cons_zero, List.getElem_cons_succ, List.setIfInBounds_toArray, List.set_cons_zero, List.set_cons_succ])
            refine wpAnyH_take1 (i := 20) (oi := _) (v := ?_) (by kernel_rfl) rfl (by kernel_rfl) (fun _ _ _ h => h) (Or.inl ⟨by rfl, ?_⟩) (by assumption) ?_
            rotate_left 1
            · intro w hSw; (try dsimp only at hSw); go_simp; (with_reducible rfl)
            (try simp only [Act.put, List.getElem_toArray, List.getElem_cons_zero, List.getElem_cons_succ, List.setIfInBounds_toArray, List.set_cons_zero, List.set_cons_succ])
            refine wpAnyH_take1 (i := 21) (oi := _) (v := ?_) (by kernel_rfl) rfl (by kernel_rfl) (fun _ _ _ h => h) (Or.inl ⟨by rfl, ?_⟩) (by assumption) ?_
            rotate_left 1
            · intro w hSw; (try dsimp only at hSw); go_simp; (with_reducible rfl)
            (try simp only [Act.put, List.getElem_toArray, List.getElem_cons_zero, List.getElem_cons_succ, List.setIfInBounds_toArray, List.set_cons_zero, List.set_cons_succ])
            refine wpAnyH_take1 (i := 22) (oi := _) (v := ?_) (by kernel_rfl) rfl (by kernel_rfl) (fun _ _ _ h => h) (Or.inl ⟨by rfl, ?_⟩) (by assumption) ?_
            rotate_left 1
            · intro w hSw; (try dsimp only at hSw); go_simp; (with_reducible rfl)
            (try simp only [Act.put, List.getElem_toArray, List.getElem_cons_zero, List.getElem_cons_succ, List.setIfInBounds_toArray, List.set_cons_zero, List.set_cons_succ])
            refine wpAnyH_take1 (i := 23) (oi := _) (v := ?_) (by kernel_rfl) rfl (by kernel_rfl) (fun _ _ _ h => h) (Or.inl ⟨by rfl, ?_⟩) (by assumption) ?_
            rotate_left 1
            · intro w hSw; (try dsimp only at hSw); go_simp; (with_reducible rfl)
            (try simp only [Act.put, List.getElem_toArray, List.getElem_cons_zero, List.getElem_cons_succ, List.setIfInBounds_toArray, List.set_cons_zero, List.set_cons_succ])
            refine wpAnyH_take1 (i := 24) (oi := _) (v := ?_) (by kernel_rfl) rfl (by kernel_rfl) (fun _ _ _ h => h) (Or.inl ⟨by rfl, ?_⟩) (by assumption) ?_
            rotate_left 1
            · intro w hSw; (try dsimp only at hSw); go_simp; (with_reducible rfl)
            (try simp only [Act.put, List.getElem_toArray, List.getElem_cons_zero, List.getElem_cons_succ, List.setIfInBounds_toArray, List.set_cons_zero, List.set_cons_succ])
            refine wpAnyH_take1 (i := 25) (oi := _) (v := undef) (by kernel_rfl) rfl (by kernel_rfl) (fun _ _ _ h => h) (Or.inr ⟨by rfl, rfl⟩) (by assumption) ?_
            (try simp only [Act.put, List.getElem_toArray, List.getElem_cons_zero, List.getElem_cons_succ, List.setIfInBounds_toArray, List.set_cons_zero, List.set_cons_succ])
            refine wpAnyH_take1 (i := 26) (oi := _) (v := undef) (by kernel_rfl) rfl (by kernel_rfl) (fun _ _ _ h => h) (Or.inr ⟨by rfl, rfl⟩) (by assumption) ?_
            (try simp only [Act.put, List.getElem_toArray, List.getElem_cons_zero, List.getElem_cons_succ, List.setIfInBounds_toArray, List.set_cons_zero, List.set_cons_succ])
            refine wpAnyH_take1 (i := 27) (oi := _) (v := undef) (by kernel_rfl) rfl (by kernel_rfl) (fun _ _ _ h => h) (Or.inr ⟨by rfl, rfl⟩) (by assumption) ?_
            (try simp only [Act.put, List.getElem_toArray, List.getElem_cons_zero, List.getElem_cons_succ, List.setIfInBounds_toArray, List.set_cons_zero, List.set_cons_succ])
            refine wpAnyH_take1 (i := 28) (oi := _) (v := undef) (by kernel_rfl) rfl (by kernel_rfl) (fun _ _ _ h => h) (Or.inr ⟨by rfl, rfl⟩) (by assumption) ?_
            (try simp only [Act.put, List.getElem_toArray, List.getElem_cons_zero, List.getElem_cons_succ, List.setIfInBounds_toArray, List.set_cons_zero, List.set_cons_succ])
            refine wpAnyH_take1 (i := 29) (oi := _) (v := undef) (by kernel_rfl) rfl (by kernel_rfl) (fun _ _ _ h => h) (Or.inr ⟨by rfl, rfl⟩) (by assumption) ?_
            (try simp only [Act.put, List.getElem_toArray, List.getElem_cons_zero, List.getElem_cons_succ, List.setIfInBounds_toArray, List.set_cons_zero, List.set_cons_succ])
            refine wpAnyH_take1 (i := 30) (oi := _) (v := undef) (by kernel_rfl) rfl (by kernel_rfl) (fun _ _ _ h => h) (Or.inr ⟨by rfl, rfl⟩) (by assumption) ?_
            (try simp only [Act.put, List.getElem_toArray, List.getElem_cons_zero, List.getElem_cons_succ, List.setIfInBounds_toArray, List.set_cons_zero, List.set_cons_succ])
            refine wpAnyH_take1 (i := 31) (oi := _) (v := undef) (by kernel_rfl) rfl (by kernel_rfl) (fun _ _ _ h => h) (Or.inr ⟨by rfl, rfl⟩) (by assumption) ?_
            (try simp only [Act.put, List.getElem_toArray, List.getElem_cons_zero, List.getElem_cons_succ, List.setIfInBounds_toArray, List.set_cons_zero, List.set_cons_succ])
            refine wpAnyH_take1 (i := 32) (oi := _) (v := undef) (by kernel_rfl) rfl (by kernel_rfl) (fun _ _ _ h => h) (Or.inr ⟨by rfl, rfl⟩) (by assumption) ?_
            (try simp only [Act.put, List.getElem_toArray, List.getElem_cons_zero, List.getElem_cons_succ, List.setIfInBounds_toArray, List.set_cons_zero, List.set_cons_succ])
            refine wpAnyH_take1 (i := 33) (oi := _) (v := undef) (by kernel_rfl) rfl (by kernel_rfl) (fun _ _ _ h => h) (Or.inr ⟨by rfl, rfl⟩) (by assumption) ?_
            (try simp only [Act.put, List.getElem_toArray, List.getElem_cons_zero, List.getElem_cons_succ, List.setIfInBounds_toArray, List.set_cons_zero, List.set_cons_succ])
            refine wpAnyH_take1 (i := 34) (oi := _) (v := undef) (by kernel_rfl) rfl (by kernel_rfl) (fun _ _ _ h => h) (Or.inr ⟨by rfl, rfl⟩) (by assumption) ?_
            (try simp only [Act.put, List.getElem_toArray, List.getElem_cons_zero, List.getElem_cons_succ, List.setIfInBounds_toArray, List.set_cons_zero, List.set_cons_succ])
            refine wpAnyH_take1 (i := 35) (oi := _) (v := undef) (by kernel_rfl) rfl (by kernel_rfl) (fun _ _ _ h => h) (Or.inr ⟨by rfl, rfl⟩) (by assumption) ?_
            (try simp only [Act.put, List.getElem_toArray, List.getElem_cons_zero, List.getElem_cons_succ, List.setIfInBounds_toArray, List.set_cons_zero, List.set_cons_succ])
            refine wpAnyH_take1 (i := 36) (oi := _) (v := undef) (by kernel_rfl) rfl (by kernel_rfl) (fun _ _ _ h => h) (Or.inr ⟨by rfl, rfl⟩) (by assumption) ?_
            (try simp only [Act.put, List.getElem_toArray, List.getElem_cons_zero, List.getElem_cons_succ, List.setIfInBounds_toArray, List.set_cons_zero, List.set_cons_succ])
            refine wpAnyH_take1 (i := 37) (oi := _) (v := undef) (by kernel_rfl) rfl (by kernel_rfl) (fun _ _ _ h => h) (Or.inr ⟨by rfl, rfl⟩) (by assumption) ?_
            (try simp only [Act.put, List.getElem_toArray, List.getElem_cons_zero, List.getElem_cons_succ, List.setIfInBounds_toArray, List.set_cons_zero, List.set_cons_succ])
            refine wpAnyH_take1 (i := 38) (oi := _) (v := undef) (by kernel_rfl) rfl (by kernel_rfl) (fun _ _ _ h => h) (Or.inr ⟨by rfl, rfl⟩) (by assumption) ?_
            (try simp only [Act.put, List.getElem_toArray, List.getElem_cons_zero, List.getElem_cons_succ, List.setIfInBounds_toArray, List.set_cons_zero, List.set_cons_succ])
            refine wpAnyH_take1 (i := 39) (oi := _) (v := undef) (by kernel_rfl) rfl (by kernel_rfl) (fun _ _ _ h => h) (Or.inr ⟨by rfl, rfl⟩) (by assumption) ?_
            (try simp only [Act.put, List.getElem_toArray, List.getElem_cons_zero, List.getElem_cons_succ, List.setIfInBounds_toArray, List.set_cons_zero, List.set_cons_succ])
            refine wpAnyH_take1 (i := 40) (oi := _) (v := undef) (by kernel_rfl) rfl (by kernel_rfl) (fun _ _ _ h => h) (Or.inr ⟨by rfl, rfl⟩) (by assumption) ?_
            (try simp only [Act.put, List.getElem_toArray, List.getElem_cons_zero, List.getElem_cons_succ, List.setIfInBounds_toArray, List.set_cons_zero, List.set_cons_succ])
            refine wpAnyH_take1 (i := 41) (oi := _) (v := undef) (by kernel_rfl) rfl (by kernel_rfl) (fun _ _ _ h => h) (Or.inr ⟨by rfl, rfl⟩) (by assumption) ?_
            (try simp only [Act.put, List.getElem_toArray, List.getElem_cons_zero, List.getElem_cons_succ, List.setIfInBounds_toArray, List.set_cons_zero, List.set_cons_succ])
            refine wpAnyH_take1 (i := 42) (oi := _) (v := undef) (by kernel_rfl) rfl (by kernel_rfl) (fun _ _ _ h => h) (Or.inr ⟨by rfl, rfl⟩) (by assumption) ?_
            (try simp only [Act.put, List.getElem_toArray, List.getElem_cons_zero, List.getElem_cons_succ, List.setIfInBounds_toArray, List.set_cons_zero, List.set_cons_succ])
            refine wpAnyH_take1 (i := 43) (oi := _) (v := undef) (by kernel_rfl) rfl (by kernel_rfl) (fun _ _ _ h => h) (Or.inr ⟨by rfl, rfl⟩) (by assumption) ?_
            (try simp only [Act.put, List.getElem_toArray, List.getElem_cons_zero, List.getElem_cons_succ, List.setIfInBounds_toArray, List.set_cons_zero, List.set_cons_succ])
            refine wpAnyH_take1 (i := 44) (oi := _) (v := undef) (by kernel_rfl) rfl (by kernel_rfl) (fun _ _ _ h => h) (Or.inr ⟨by rfl, rfl⟩) (by assumption) ?_
            (try simp only [Act.put, List.getElem_toArray, List.getElem_cons_zero, List.getElem_cons_succ, List.setIfInBounds_toArray, List.set_cons_zero, List.set_cons_succ])
            refine wpAnyH_take1 (i := 45) (oi := _) (v := undef) (by kernel_rfl) rfl (by kernel_rfl) (fun _ _ _ h => h) (Or.inr ⟨by rfl, rfl⟩) (by assumption) ?_
            (try simp only [Act.put, List.getElem_toArray, List.getElem_cons_zero, List.getElem_cons_succ, List.setIfInBounds_toArray, List.set_cons_zero, List.set_cons_succ])
            refine wpAnyH_take1 (i := 46) (oi := _) (v := undef) (by kernel_rfl) rfl (by kernel_rfl) (fun _ _ _ h => h) (Or.inr ⟨by rfl, rfl⟩) (by assumption) ?_
            (try simp only [Act.put, List.getElem_toArray, List.getElem_cons_zero, List.getElem_cons_succ, List.setIfInBounds_toArray, List.set_cons_zero, List.set_cons_succ])
            refine wpAnyH_take1 (i := 47) (oi := _) (v := undef) (by kernel_rfl) rfl (by kernel_rfl) (fun _ _ _ h => h) (Or.inr ⟨by rfl, rfl⟩) (by assumption) ?_
            (try simp only [Act.put, List.getElem_toArray, List.getElem_cons_zero, List.getElem_cons_succ, List.setIfInBounds_toArray, List.set_cons_zero, List.set_cons_succ])
            refine wpAnyH_take1 (i := 48) (oi := _) (v := undef) (by kernel_rfl) rfl (by kernel_rfl) (fun _ _ _ h => h) (Or.inr ⟨by rfl, rfl⟩) (by assumption) ?_
            (try simp only [Act.put, List.getElem_toArray, List.getElem_cons_zero, List.getElem_cons_succ, List.setIfInBounds_toArray, List.set_cons_zero, List.set_cons_succ])
            refine wpAnyH_take1 (i := 49) (oi := _) (v := undef) (by kernel_rfl) rfl (by kernel_rfl) (fun _ _ _ h => h) (Or.inr ⟨by rfl, rfl⟩) (by assumption) ?_
            (try simp only [Act.put, List.getElem_toArray, List.getElem_cons_zero, List.getElem_cons_succ, List.setIfInBounds_toArray, List.set_cons_zero, List.set_cons_succ])
            refine wpAnyH_take1 (i := 50) (oi := _) (v := undef) (by kernel_rfl) rfl (by kernel_rfl) (fun _ _ _ h => h) (Or.inr ⟨by rfl, rfl⟩) (by assumption) ?_
            (try simp only [Act.put, List.getElem_toArray, List.getElem_cons_zero, List.getElem_cons_succ, List.setIfInBounds_toArray, List.set_cons_zero, List.set_cons_succ])
            refine wpAnyH_take1 (i := 51) (oi := _) (v := undef) (by kernel_rfl) rfl (by kernel_rfl) (fun _ _ _ h => h) (Or.inr ⟨by rfl, rfl⟩) (by assumption) ?_
            (try simp only [Act.put, List.getElem_toArray, List.getElem_cons_zero, List.getElem_cons_succ, List.setIfInBounds_toArray, List.set_cons_zero, List.set_cons_succ])
            refine wpAnyH_take1 (i := 52) (oi := _) (v := undef) (by kernel_rfl) rfl (by kernel_rfl) (fun _ _ _ h => h) (Or.inr ⟨by rfl, rfl⟩) (by assumption) ?_
            (try simp only [Act.put, List.getElem_toArray, List.getElem_cons_zero, List.getElem_cons_succ, List.setIfInBounds_toArray, List.set_cons_zero, List.set_cons_succ])
            refine wpAnyH_take1 (i := 53) (oi := _) (v := undef) (by kernel_rfl) rfl (by kernel_rfl) (fun _ _ _ h => h) (Or.inr ⟨by rfl, rfl⟩) (by assumption) ?_
            (try simp only [Act.put, List.getElem_toArray, List.getElem_cons_zero, List.getElem_cons_succ, List.setIfInBounds_toArray, List.set_cons_zero, List.set_cons_succ])
            refine wpAnyH_take1 (i := 54) (oi := _) (v := undef) (by kernel_rfl) rfl (by kernel_rfl) (fun _ _ _ h => h) (Or.inr ⟨by rfl, rfl⟩) (by assumption) ?_
            (try simp only [Act.put, List.getElem_toArray, List.getElem_cons_zero, List.getElem_cons_succ, List.setIfInBounds_toArray, List.set_cons_zero, List.set_cons_succ])
            refine wpAnyH_take1 (i := 55) (oi := _) (v := undef) (by kernel_rfl) rfl (by kernel_rfl) (fun _ _ _ h => h) (Or.inr ⟨by rfl, rfl⟩) (by assumption) ?_
            (try simp only [Act.put, List.getElem_toArray, List.getElem_cons_zero, List.getElem_cons_succ, List.setIfInBounds_toArray, List.set_cons_zero, List.set_cons_succ])
            refine wpAnyH_take1 (i := 56) (oi := _) (v := undef) (by kernel_rfl) rfl (by kernel_rfl) (fun _ _ _ h => h) (Or.inr ⟨by rfl, rfl⟩) (by assumption) ?_
            (try simp only [Act.put, List.getElem_toArray, List.getElem_cons_zero, List.getElem_cons_succ, List.setIfInBounds_toArray, List.set_cons_zero, List.set_cons_succ])
            refine wpAnyH_take1 (i := 57) (oi := _) (v := undef) (by kernel_rfl) rfl (by kernel_rfl) (fun _ _ _ h => h) (Or.inr ⟨by rfl, rfl⟩) (by assumption) ?_
            (try simp only [Act.put, List.getElem_toArray, List.getElem_cons_zero, List.getElem_cons_succ, List.setIfInBounds_toArray, List.set_cons_zero, List.set_cons_succ])
            refine wpAnyH_take1 (i := 58) (oi := _) (v := undef) (by kernel_rfl) rfl (by kernel_rfl) (fun _ _ _ h => h) (Or.inr ⟨by rfl, rfl⟩) (by assumption) ?_
            (try simp only [Act.put, List.getElem_toArray, List.getElem_cons_zero, List.getElem_cons_succ, List.setIfInBounds_toArray, List.set_cons_zero, List.set_cons_succ])
            refine wpAnyH_take1 (i := 59) (oi := _) (v := undef) (by kernel_rfl) rfl (by kernel_rfl) (fun _ _ _ h => h) (Or.inr ⟨by rfl, rfl⟩) (by assumption) ?_
            (try simp only [Act.put, List.getElem_toArray, List.getElem_cons_zero, List.getElem_cons_succ, List.setIfInBounds_toArray, List.set_cons_zero, List.set_cons_succ])
            refine wpAnyH_take1 (i := 60) (oi := _) (v := undef) (by kernel_rfl) rfl (by kernel_rfl) (fun _ _ _ h => h) (Or.inr ⟨by rfl, rfl⟩) (by assumption) ?_
            (try simp only [Act.put, List.getElem_toArray, List.getElem_cons_zero, List.getElem_cons_succ, List.setIfInBounds_toArray, List.set_cons_zero, List.set_cons_succ])
            refine wpAnyH_take1 (i := 61) (oi := _) (v := undef) (by kernel_rfl) rfl (by kernel_rfl) (fun _ _ _ h => h) (Or.inr ⟨by rfl, rfl⟩) (by assumption) ?_
            (try simp only [Act.put, List.getElem_toArray, List.getElem_cons_zero, List.getElem_cons_succ, List.setIfInBounds_toArray, List.set_cons_zero, List.set_cons_succ])
            refine wpAnyH_take1 (i := 62) (oi := _) (v := undef) (by kernel_rfl) rfl (by kernel_rfl) (fun _ _ _ h => h) (Or.inr ⟨by rfl, rfl⟩) (by assumption) ?_
            (try simp only [Act.put, List.getElem_toArray, List.getElem_cons_zero, List.getElem_cons_succ, List.setIfInBounds_toArray, List.set_cons_zero, List.set_cons_succ])
            refine wpAnyH_take1 (i := 63) (oi := _) (v := undef) (by kernel_rfl) rfl (by kernel_rfl) (fun _ _ _ h => h) (Or.inr ⟨by rfl, rfl⟩) (by assumption) ?_
            (try simp only [Act.put, List.getElem_toArray, List.getElem_cons_zero, List.getElem_cons_succ, List.setIfInBounds_toArray, List.set_cons_zero, List.set_cons_succ])
            refine wpAnyH_take1 (i := 64) (oi := _) (v := undef) (by kernel_rfl) rfl (by kernel_rfl) (fun _ _ _ h => h) (Or.inr ⟨by rfl, rfl⟩) (by assumption) ?_
            (try simp only [Act.put, List.getElem_toArray, List.getElem_cons_zero, List.getElem_cons_succ, List.setIfInBounds_toArray, List.set_cons_zero, List.set_cons_succ])
            refine wpAnyH_take1 (i := 65) (oi := _) (v := ?_) (by kernel_rfl) rfl (by kernel_rfl) (fun _ _ _ h => h) (Or.inl ⟨by rfl, ?_⟩) (by assumption) ?_
            rotate_left 1
            · intro w hSw; (try dsimp only at hSw); go_simp; (with_reducible rfl)
            (try simp only [Act.put, List.getElem_toArray, List.getElem_cons_zero, List.getElem_cons_succ, List.setIfInBounds_toArray, List.set_cons_zero, List.set_cons_succ])
            refine wpAnyH_take1 (i := 66) (oi := _) (v := ?_) (by kernel_rfl) rfl (by kernel_rfl) (fun _ _ _ h => h) (Or.inl ⟨by rfl, ?_⟩) (by assumption) ?_
            rotate_left 1
            · intro w hSw; (try dsimp only at hSw); go_simp; (with_reducible rfl)
            (try simp only [Act.put, List.getElem_toArray, List.getElem_cons_zero, List.getElem_cons_succ, List.setIfInBounds_toArray, List.set_cons_zero, List.set_cons_succ])
            refine wpAnyH_done (by kernel_rfl) ?_ _
            refine NoPanic.normal ?_
            go_wp2_with fail
            go_roundw
            case rel => exact ⟨1, hlt, by go_num, HBw.out.trans (HY5.mono HBw.out.size)⟩
            case measure => simp [intOf]; omega
          · obtain ⟨k', rfl⟩ : ∃ k', k = k' + 1 := ⟨k - 1, by omega⟩
            obtain ⟨s', hls, b0, b1⟩ := HPREV.out k' rfl
            have hkw : IntKind.i64.wrap (k' : Int) = (k' : Int) := by rw [IntKind.wrap_i64]; omega
            have hk01 : (0 : Int) ≤ (k' : Int) := by omega
            have hkn1 : (k' : Int) < (len : Int) := by omega
            have hkp0 : (0 : Int) ≤ (k' : Int) + 1 := by omega
            have hkp1 : (k' : Int) + 1 < (len : Int) := by omega
            have hkp2 : decide ((0 : Int) < (k' : Int) + 1) = true := decide_eq_true (by omega)
            have hl1 : decide (s.1 < s'.1) = false := by rcases hls with h | h <;> (simp; omega)
            have hab7 := Nat.lt_of_lt_of_le hab z7
            have hk7 : ∀ {W : World}, Below w7.heap.size w7 W → W.cell? ⟨B12, 0, none⟩ = some (.slice ea h.atoms.length eb) ∧ W.cell? ⟨B12, 1, none⟩ = some (.slice ec h.rules.length ed) ∧ W.cell? ⟨B8, 0, none⟩ = some (.slice ga g.atoms.length gac) ∧ W.cell? ⟨B8, 1, none⟩ = some (.slice gra g.rules.length grc) ∧ W.cell? ⟨ab, ao + (k' + 1) * 2, none⟩ = some (.int .i64 s.1) ∧ W.cell? ⟨ab, ao + (k' + 1) * 2 + 1, none⟩ = some (.int .i64 s.2) ∧ W.cell? ⟨ab, ao + k' * 2, none⟩ = some (.int .i64 s'.1) ∧ W.cell? ⟨ab, ao + k' * 2 + 1, none⟩ = some (.int .i64 s'.2) := fun hW =>
              ⟨(rowTo R12.out hW).cell (j := 0) (by simp), (rowTo R12.out hW).cell (j := 1) (by simp), (Hk9 (hB7.trans (hW.mono z7))).out.1, (Hk9 (hB7.trans (hW.mono z7))).out.2.1, (Hk9 (hB7.trans (hW.mono z7))).out.2.2.1, (Hk9 (hB7.trans (hW.mono z7))).out.2.2.2,
                ((hB7.trans (hW.mono z7)).cell (p := ⟨ab, ao + k' * 2, none⟩) hab).trans b0, ((hB7.trans (hW.mono z7)).cell (p := ⟨ab, ao + k' * 2 + 1, none⟩) hab).trans b1⟩
            have Hk7 := fun {W : World} (hW : Below w7.heap.size w7 W) => Lib.hid (hk7 hW)
            clear hk7 a0 a1 HPREV b0 b1
            have HLS := Lib.hid hls
            clear hls
            go_wp2_with fail
            by_cases hq : s.1 = s'.1
            · have hl2 : (s.1 == s'.1) = true := by simpa using hq
              have hl3 : decide (s.2 ≤ s'.2) = false := by rcases HLS.out with h | h <;> (simp; omega)
              clear hq
              simp only [List.append_eq, List.cons_append, List.nil_append]
              refine wp_region_noPanic ?_
              refine wp_region_held_drew (S := fun w' => w'.cell? ⟨B12, 0, none⟩ = some (.slice ea h.atoms.length eb) ∧ w'.cell? ⟨B12, 1, none⟩ = some (.slice ec h.rules.length ed) ∧ w'.cell? ⟨B8, 0, none⟩ = some (.slice ga g.atoms.length gac) ∧ w'.cell? ⟨B8, 1, none⟩ = some (.slice gra g.rules.length grc) ∧ w'.cell? ⟨ab, ao + (k' + 1) * 2, none⟩ = some (.int .i64 s.1) ∧ w'.cell? ⟨ab, ao + (k' + 1) * 2 + 1, none⟩ = some (.int .i64 s.2) ∧ w'.cell? ⟨ab, ao + k' * 2, none⟩ = some (.int .i64 s'.1) ∧ w'.cell? ⟨ab, ao + k' * 2 + 1, none⟩ = some (.int .i64 s'.2)) (by kernel_rfl) ?_ (fun hHeld => ?_)
              · exact (Hk7 (Below.drew (Below.refl _ _))).out
              refine wpAnyH_take1 (i := 0) (oi := _) (v := ?_) (by kernel_rfl) rfl (by kernel_rfl) (fun _ _ _ h => h) (Or.inl ⟨by rfl, ?_⟩) (by assumption) ?_
              rotate_left 1
              · intro w hSw; (try dsimp only at hSw); go_simp; (with_reducible rfl)
              (try simp only [Act.put, List.getElem_toArray, List.getElem_cons_zero, List.setIfInBounds_toArray, List.set_cons_zero, List.set_cons_succ])
              refine wpAnyH_take1 (i := 1) (oi := _) (v := ?_) (by kernel_rfl) rfl (by kernel_rfl) (fun _ _ _ h => h) (Or.inl ⟨by rfl, ?_⟩) (by assumption) ?_
              rotate_left 1
              · intro w hSw; (try dsimp only at hSw); go_simp; (with_reducible rfl)
              (try simp only [Act.put, List.getElem_toArray, List.getElem_cons_zero, List.getElem_cons_succ, List.setIfInBounds_toArray, List.set_cons_zero, List.set_cons_succ])
              refine wpAnyH_take1 (i := 2) (oi := _) (v := ?_) (by kernel_rfl) rfl (by kernel_rfl) (fun _ _ _ h => h) (Or.inl ⟨by rfl, ?_⟩) (by assumption) ?_
              rotate_left 1
              · intro w hSw; (try dsimp only at hSw); go_simp; (with_reducible rfl)
              (try simp only [Act.put, List.getElem_toArray, List.getElem_cons_zero, List.getElem_cons_succ, List.setIfInBounds_toArray, List.set_cons_zero, List.set_cons_succ])
              refine wpAnyH_take1 (i := 3) (oi := _) (v := ?_) (by kernel_rfl) rfl (by kernel_rfl) (fun _ _ _ h => h) (Or.inl ⟨by rfl, ?_⟩) (by assumption) ?_
              rotate_left 1
              · intro w hSw; (try dsimp only at hSw); go_simp; (with_reducible rfl)
              (try simp only [Act.put, List.getElem_toArray, List.getElem_cons_zero, List.getElem_cons_succ, List.setIfInBounds_toArray, List.set_cons_zero, List.set_cons_succ])
              refine wpAnyH_one (i := 4) (by kernel_rfl) rfl (by rfl) fun K hK => ?_
              go_simp
              refine (Right16_spec (P12.out.at Seq.way) HRt.out).mono ?_
              rintro e y1 ⟨rfl, hy1⟩
              have HY1 := below_step hy1 (Seq.way : Below w7.heap.size w7 _)
              have zy1 := HY1.size
              (try dsimp only)
              clear hHeld
              refine hK.out _ _ (Hk7 HY1).out fun hHeld => ?_
              clear hK K
              (try simp only [Act.put, List.getElem_toArray, List.getElem_cons_zero, List.getElem_cons_succ, List.setIfInBounds_toArray, List.set_cons_zero, List.set_cons_succ])
              refine wpAnyH_take1 (i := 5) (oi := _) (v := ?_) (by kernel_rfl) rfl (by kernel_rfl) (fun _ _ _ h => h) (Or.inl ⟨by rfl, ?_⟩) (by assumption) ?_
              rotate_left 1
              · intro w hSw; (try dsimp only at hSw); go_simp; (with_reducible rfl)
              (try simp only [Act.put, List.getElem_toArray, List.getElem_cons_zero, List.getElem_cons_succ, List.setIfInBounds_toArray, List.set_cons_zero, List.set_cons_succ])
              refine wpAnyH_take1 (i := 6) (oi := _) (v := ?_) (by kernel_rfl) rfl (by kernel_rfl) (fun _ _ _ h => h) (Or.inl ⟨by rfl, ?_⟩) (by assumption) ?_
              rotate_left 1
              · intro w hSw; (try dsimp only at hSw); go_simp; (with_reducible rfl)
              (try simp only [Act.put, List.getElem_toArray, List.getElem_cons_zero, List.getElem_cons_succ, List.setIfInBounds_toArray, List.set_cons_zero, List.set_cons_succ])
              refine wpAnyH_take1 (i := 7) (oi := _) (v := ?_) (by kernel_rfl) rfl (by kernel_rfl) (fun _ _ _ h => h) (Or.inl ⟨by rfl, ?_⟩) (by assumption) ?_
              rotate_left 1
              · intro w hSw; (try dsimp only at hSw); go_simp; (with_reducible rfl)
              (try simp only [Act.put, List.getElem_toArray, List.getElem_cons_zero, List.getElem_cons_succ, List.setIfInBounds_toArray, List.set_cons_zero, List.set_cons_succ])
              refine wpAnyH_take1 (i := 8) (oi := _) (v := ?_) (by kernel_rfl) rfl (by kernel_rfl) (fun _ _ _ h => h) (Or.inl ⟨by rfl, ?_⟩) (by assumption) ?_
              rotate_left 1
              · intro w hSw; (try dsimp only at hSw); go_simp; (with_reducible rfl)
              (try simp only [Act.put, List.getElem_toArray, List.getElem_cons_zero, List.getElem_cons_succ, List.setIfInBounds_toArray, List.set_cons_zero, List.set_cons_succ])
              refine wpAnyH_take1 (i := 10) (oi := _) (v := ?_) (by kernel_rfl) rfl (by kernel_rfl) (fun _ _ _ h => h) (Or.inl ⟨by rfl, ?_⟩) (by assumption) ?_
              rotate_left 1
              · intro w hSw; (try dsimp only at hSw); go_simp; (with_reducible rfl)
              (try simp only [Act.put, List.getElem_toArray, List.getElem_cons_zero, List.getElem_cons_succ, List.setIfInBounds_toArray, List.set_cons_zero, List.set_cons_succ])
              refine wpAnyH_one (i := 9) (by kernel_rfl) rfl (by rfl) fun K hK => ?_
              go_simp
              refine (Size_spec (P12.out.at Seq.way) HFh.out.toGoodP).mono ?_
              rintro e y2 ⟨rfl, hy2⟩
              have HY2 := below_step hy2 (Seq.way : Below w7.heap.size w7 _)
              have zy2 := HY2.size
              (try dsimp only)
              clear hHeld
              refine hK.out _ _ (Hk7 HY2).out fun hHeld => ?_
              clear hK K
              (try simp only [Act.put, List.getElem_toArray, List.getElem_cons_zero, List.getElem_cons_succ, List.setIfInBounds_toArray, List.set_cons_zero, List.set_cons_succ])
              refine wpAnyH_one (i := 11) (by kernel_rfl) rfl (by rfl) fun K hK => ?_
              go_simp
              refine (Size_spec (HGm.out.at Seq.way) hfine.toGoodP).mono ?_
              rintro e y3 ⟨rfl, hy3⟩
              have HY3 := below_step hy3 (Seq.way : Below w7.heap.size w7 _)
              have zy3 := HY3.size
              (try dsimp only)
              clear hHeld
              refine hK.out _ _ (Hk7 HY3).out fun hHeld => ?_
              clear hK K
              (try simp only [Act.put, List.getElem_toArray, List.getElem_cons_zero, List.getElem_cons_succ, List.setIfInBounds_toArray, List.set_cons_zero, List.set_cons_succ])
              refine wpAnyH_take1 (i := 12) (oi := _) (v := ?_) (by kernel_rfl) rfl (by kernel_rfl) (fun _ _ _ h => h) (Or.inl ⟨by rfl, ?_⟩) (by assumption) ?_
              rotate_left 1
              · intro w hSw; (try dsimp only at hSw); go_simp; (with_reducible rfl)
              (try simp only [Act.put, List.getElem_toArray, List.getElem_cons_zero, List.getElem_cons_succ, List.setIfInBounds_toArray, List.set_cons_zero, List.set_cons_succ])
              refine wpAnyH_take1 (i := 13) (oi := _) (v := ?_) (by kernel_rfl) rfl (by kernel_rfl) (fun _ _ _ h => h) (Or.inl ⟨by rfl, ?_⟩) (by assumption) ?_
              rotate_left 1
              · intro w hSw; (try dsimp only at hSw); go_simp; (with_reducible rfl)
              (try simp only [Act.put, List.getElem_toArray, List.getElem_cons_zero, List.getElem_cons_succ, List.setIfInBounds_toArray, List.set_cons_zero, List.set_cons_succ])
              refine wpAnyH_take1 (i := 14) (oi := _) (v := ?_) (by kernel_rfl) rfl (by kernel_rfl) (fun _ _ _ h => h) (Or.inl ⟨by rfl, ?_⟩) (by assumption) ?_
              rotate_left 1
              · intro w hSw; (try dsimp only at hSw); go_simp; (with_reducible rfl)
              (try simp only [Act.put, List.getElem_toArray, List.getElem_cons_zero, List.getElem_cons_succ, List.setIfInBounds_toArray, List.set_cons_zero, List.set_cons_succ])
              refine wpAnyH_take1 (i := 15) (oi := _) (v := ?_) (by kernel_rfl) rfl (by kernel_rfl) (fun _ _ _ h => h) (Or.inl ⟨by rfl, ?_⟩) (by assumption) ?_
              rotate_left 1
              · intro w hSw; (try dsimp only at hSw); go_simp; (with_reducible rfl)
              (try simp only [Act.put, List.getElem_toArray, List.getElem_cons_zero, List.getElem_cons_succ, List.setIfInBounds_toArray, List.set_cons_zero, List.set_cons_succ])
              refine wpAnyH_take1 (i := 17) (oi := _) (v := ?_) (by kernel_rfl) rfl (by kernel_rfl) (fun _ _ _ h => h) (Or.inl ⟨by rfl, ?_⟩) (by assumption) ?_
              rotate_left 1
              · intro w hSw; (try dsimp only at hSw); go_simp; (with_reducible rfl)
              (try simp only [Act.put, List.getElem_toArray, List.getElem_cons_zero, List.getElem_cons_succ, List.setIfInBounds_toArray, List.set_cons_zero, List.set_cons_succ])
              refine wpAnyH_one (i := 16) (by kernel_rfl) rfl (by rfl) fun K hK => ?_
              go_simp
              refine (Model_spec (P12.out.at Seq.way) HFh.out.toGoodP).mono ?_
              rintro e y4 ⟨vm, rfl, hy4, hq4⟩
              have HY4 := below_step hy4 (Seq.way : Below w7.heap.size w7 _)
              have zy4 := HY4.size
              (try dsimp only)
              clear hHeld
              refine hK.out _ _ (Hk7 HY4).out fun hHeld => ?_
              clear hK K
              (try simp only [Act.put, List.getElem_toArray, List.getElem_cons_zero, List.getElem_cons_succ, List.setIfInBounds_toArray, List.set_cons_zero, List.set_cons_succ])
              rw [HMOD.out] at hq4
              have HQ4 := Lib.hid hq4
              clear hq4
              refine wpAnyH_one (i := 18) (by kernel_rfl) rfl (by rfl) fun K hK => ?_
              go_simp
              refine (ints_eq (HQ4.out.at Seq.way) (HMm.out.at Seq.way)).mono ?_
              rintro e y5 ⟨rfl, hy5⟩
              have HY5 := below_step hy5 (Seq.way : Below w7.heap.size w7 _)
              have zy5 := HY5.size
              (try dsimp only)
              clear hHeld
              refine hK.out _ _ (Hk7 HY5).out fun hHeld => ?_
              clear hK K
              (try simp only [Act.put, List.getElem_toArray, List.getElem_cons_zero, List.getElem_cons_succ, List.setIfInBounds_toArray, List.set_cons_zero, List.set_cons_succ])
              refine wpAnyH_take1 (i := 19) (oi := _) (v := ?_) (by kernel_rfl) rfl (by kernel_rfl) (fun _ _ _ h => h) (Or.inl ⟨by rfl, ?_⟩) (by assumption) ?_
              rotate_left 1
              · intro w hSw; (try dsimp only at hSw); go_simp; (with_reducible rfl)
              (try simp only [Act.put, List.getElem_toArray, List.getElem_cons_zero, List.getElem_cons_succ, List.setIfInBounds_toArray, List.set_cons_zero, List.set_cons_succ])
              refine wpAnyH_take1 (i := 20) (oi := _) (v := ?_) (by kernel_rfl) rfl (by kernel_rfl) (fun _ _ _ h => h) (Or.inl ⟨by rfl, ?_⟩) (by assumption) ?_
              rotate_left 1
              · intro w hSw; (try dsimp only at hSw); go_simp; (with_reducible rfl)
              (try simp only [Act.put, List.getElem_toArray, List.getElem_cons_zero, List.getElem_cons_succ, List.setIfInBounds_toArray, List.set_cons_zero, List.set_cons_succ])
              refine wpAnyH_take1 (i := 21) (oi := _) (v := ?_) (by kernel_rfl) rfl (by kernel_rfl) (fun _ _ _ h => h) (Or.inl ⟨by rfl, ?_⟩) (by assumption) ?_
              rotate_left 1
              · intro w hSw; (try dsimp only at hSw); go_simp; (with_reducible rfl)
              (try simp only [Act.put, List.getElem_toArray, List.getElem_cons_zero, List.getElem_cons_succ, List.setIfInBounds_toArray, List.set_cons_zero, List.set_cons_succ])
              refine wpAnyH_take1 (i := 22) (oi := _) (v := ?_) (by kernel_rfl) rfl (by kernel_rfl) (fun _ _ _ h => h) (Or.inl ⟨by rfl, ?_⟩) (by assumption) ?_
              rotate_left 1
              · intro w hSw; (try dsimp only at hSw); go_simp; (with_reducible rfl)
              (try simp only [Act.put, List.getElem_toArray, List.getElem_cons_zero, List.getElem_cons_succ, List.setIfInBounds_toArray, List.set_cons_zero, List.set_cons_succ])
              refine wpAnyH_take1 (i := 23) (oi := _) (v := ?_) (by kernel_rfl) rfl (by kernel_rfl) (fun _ _ _ h => h) (Or.inl ⟨by rfl, ?_⟩) (by assumption) ?_
              rotate_left 1
              · intro w hSw; (try dsimp only at hSw); go_simp; (with_reducible rfl)
              (try simp only [Act.put, List.getElem_toArray, List.getElem_cons_zero, List.getElem_cons_succ, List.setIfInBounds_toArray, List.set_cons_zero, List.set_cons_succ])
              refine wpAnyH_take1 (i := 24) (oi := _) (v := ?_) (by kernel_rfl) rfl (by kernel_rfl) (fun _ _ _ h => h) (Or.inl ⟨by rfl, ?_⟩) (by assumption) ?_
              rotate_left 1
              · intro w hSw; (try dsimp only at hSw); go_simp; (with_reducible rfl)
              (try simp only [Act.put, List.getElem_toArray, List.getElem_cons_zero, List.getElem_cons_succ, List.setIfInBounds_toArray, List.set_cons_zero, List.set_cons_succ])
              refine wpAnyH_take1 (i := 25) (oi := _) (v := ?_) (by kernel_rfl) rfl (by kernel_rfl) (fun _ _ _ h => h) (Or.inl ⟨by rfl, ?_⟩) (by assumption) ?_
              rotate_left 1
              · intro w hSw; (try dsimp only at hSw); go_simp; (with_reducible rfl)
              (try simp only [Act.put, List.getElem_toArray, List.getElem_cons_zero, List.getElem_cons_succ, List.setIfInBounds_toArray, List.set_cons_zero, List.set_cons_succ])
              refine wpAnyH_take1 (i := 26) (oi := _) (v := ?_) (by kernel_rfl) rfl (by kernel_rfl) (fun _ _ _ h => h) (Or.inl ⟨by rfl, ?_⟩) (by assumption) ?_
              rotate_left 1
              · intro w hSw; (try dsimp only at hSw); go_simp; (with_reducible rfl)
              (try simp only [Act.put, List.getElem_toArray, List.getElem_cons_zero, List.getElem_cons_succ, List.setIfInBounds_toArray, List.set_cons_zero, List.set_cons_succ])
              refine wpAnyH_take1 (i := 27) (oi := _) (v := ?_) (by kernel_rfl) rfl (by kernel_rfl) (fun _ _ _ h => h) (Or.inl ⟨by rfl, ?_⟩) (by assumption) ?_
              rotate_left 1
              · intro w hSw; (try dsimp only at hSw); go_simp; (with_reducible rfl)
              (try simp only [Act.put, List.getElem_toArray, List.getElem_cons_zero, List.getElem_cons_succ, List.setIfInBounds_toArray, List.set_cons_zero, List.set_cons_succ])
              refine wpAnyH_take1 (i := 28) (oi := _) (v := ?_) (by kernel_rfl) rfl (by kernel_rfl) (fun _ _ _ h => h) (Or.inl ⟨by rfl, ?_⟩) (by assumption) ?_
              rotate_left 1
              · intro w hSw; (try dsimp only at hSw); go_simp; (with_reducible rfl)
              (try simp only [Act.put, List.getElem_toArray, List.getElem_cons_zero, List.getElem_cons_succ, List.setIfInBounds_toArray, List.set_cons_zero, List.set_cons_succ])
              refine wpAnyH_take1 (i := 29) (oi := _) (v := ?_) (by kernel_rfl) rfl (by kernel_rfl) (fun _ _ _ h => h) (Or.inl ⟨by rfl, ?_⟩) (by assumption) ?_
              rotate_left 1
              · intro w hSw; (try dsimp only at hSw); go_simp; (with_reducible rfl)
              (try simp only [Act.put, List.getElem_toArray, List.getElem_cons_zero, List.getElem_cons_succ, List.setIfInBounds_toArray, List.set_cons_zero, List.set_cons_succ])
              refine wpAnyH_take1 (i := 30) (oi := _) (v := ?_) (by kernel_rfl) rfl (by kernel_rfl) (fun _ _ _ h => h) (Or.inl ⟨by rfl, ?_⟩) (by assumption) ?_
              rotate_left 1
              · intro w hSw; (try dsimp only at hSw); go_simp; (with_reducible rfl)
              (try simp only [Act.put, List.getElem_toArray, List.getElem_cons_zero, List.getElem_cons_succ, List.setIfInBounds_toArray, List.set_cons_zero, List.set_cons_succ])
              refine wpAnyH_take1 (i := 31) (oi := _) (v := ?_) (by kernel_rfl) rfl (by kernel_rfl) (fun _ _ _ h => h) (Or.inl ⟨by rfl, ?_⟩) (by assumption) ?_
              rotate_left 1
              · intro w hSw; (try dsimp only at hSw); go_simp; (with_reducible rfl)
              (try simp only [Act.put, List.getElem_toArray, List.getElem_cons_zero, List.getElem_cons_succ, List.setIfInBounds_toArray, List.set_cons_zero, List.set_cons_succ])
              refine wpAnyH_take1 (i := 32) (oi := _) (v := ?_) (by kernel_rfl) rfl (by kernel_rfl) (fun _ _ _ h => h) (Or.inl ⟨by rfl, ?_⟩) (by assumption) ?_
              rotate_left 1
              · intro w hSw; (try dsimp only at hSw); go_simp; (with_reducible rfl)
              (try simp only [Act.put, List.getElem_toArray, List.getElem_cons_zero, List.getElem_cons_succ, List.setIfInBounds_toArray, List.set_cons_zero, List.set_cons_succ])
              refine wpAnyH_take1 (i := 33) (oi := _) (v := ?_) (by kernel_rfl) rfl (by kernel_rfl) (fun _ _ _ h => h) (Or.inl ⟨by rfl, ?_⟩) (by assumption) ?_
              rotate_left 1
              · intro w hSw; (try dsimp only at hSw); go_simp; (with_reducible rfl)
              (try simp only [Act.put, List.getElem_toArray, List.getElem_cons_zero, List.getElem_cons_succ, List.setIfInBounds_toArray, List.set_cons_zero, List.set_cons_succ])
              refine wpAnyH_take1 (i := 34) (oi := _) (v := ?_) (by kernel_rfl) rfl (by kernel_rfl) (fun _ _ _ h => h) (Or.inl ⟨by rfl, ?_⟩) (by assumption) ?_
              rotate_left 1
              · intro w hSw; (try dsimp only at hSw); go_simp; (with_reducible rfl)
              (try simp only [Act.put, List.getElem_toArray, List.getElem_cons_zero, List.getElem_cons_succ, List.setIfInBounds_toArray, List.set_cons_zero, List.set_cons_succ])
              refine wpAnyH_take1 (i := 35) (oi := _) (v := ?_) (by kernel_rfl) rfl (by kernel_rfl) (fun _ _ _ h => h) (Or.inl ⟨by rfl, ?_⟩) (by assumption) ?_
              rotate_left 1
              · intro w hSw; (try dsimp only at hSw); go_simp; (with_reducible rfl)
              (try simp only [Act.put, List.getElem_toArray, List.getElem_cons_zero, List.getElem_cons_succ, List.setIfInBounds_toArray, List.set_cons_zero, List.set_cons_succ])
              refine wpAnyH_take1 (i := 36) (oi := _) (v := ?_) (by kernel_rfl) rfl (by kernel_rfl) (fun _ _ _ h => h) (Or.inl ⟨by rfl, ?_⟩) (by assumption) ?_
              rotate_left 1
              · intro w hSw; (try dsimp only at hSw); go_simp; (with_reducible rfl)
              (try simp only [Act.put, List.getElem_toArray, List.getElem_cons_zero, List.getElem_cons_succ, List.setIfInBounds_toArray, List.set_cons_zero, List.set_cons_succ])
              refine wpAnyH_take1 (i := 37) (oi := _) (v := ?_) (by kernel_rfl) rfl (by kernel_rfl) (fun _ _ _ h => h) (Or.inl ⟨by rfl, ?_⟩) (by assumption) ?_
              rotate_left 1
              · intro w hSw; (try dsimp only at hSw); go_simp; (with_reducible rfl)
              (try simp only [Act.put, List.getElem_toArray, List.getElem_cons_zero, List.getElem_cons_succ, List.setIfInBounds_toArray, List.set_cons_zero, List.set_cons_succ])
              refine wpAnyH_take1 (i := 38) (oi := _) (v := ?_) (by kernel_rfl) rfl (by kernel_rfl) (fun _ _ _ h => h) (Or.inl ⟨by rfl, ?_⟩) (by assumption) ?_
              rotate_left 1
              · intro w hSw; (try dsimp only at hSw); go_simp; (with_reducible rfl)
              (try simp only [Act.put, List.getElem_toArray, List.getElem_cons_zero, List.getElem_cons_succ, List.setIfInBounds_toArray, List.set_cons_zero, List.set_cons_succ])
              refine wpAnyH_take1 (i := 39) (oi := _) (v := ?_) (by kernel_rfl) rfl (by kernel_rfl) (fun _ _ _ h => h) (Or.inl ⟨by rfl, ?_⟩) (by assumption) ?_
              rotate_left 1
              · intro w hSw; (try dsimp only at hSw); go_simp; (with_reducible rfl)
              (try simp only [Act.put, List.getElem_toArray, List.getElem_cons_zero, List.getElem_cons_succ, List.setIfInBounds_toArray, List.set_cons_zero, List.set_cons_succ])
              refine wpAnyH_take1 (i := 40) (oi := _) (v := ?_) (by kernel_rfl) rfl (by kernel_rfl) (fun _ _ _ h => h) (Or.inl ⟨by rfl, ?_⟩) (by assumption) ?_
              rotate_left 1
              · intro w hSw; (try dsimp only at hSw); go_simp; (with_reducible rfl)
              (try simp only [Act.put, List.getElem_toArray, List.getElem_cons_zero, List.getElem_cons_succ, List.setIfInBounds_toArray, List.set_cons_zero, List.set_cons_succ])
              refine wpAnyH_take1 (i := 41) (oi := _) (v := ?_) (by kernel_rfl) rfl (by kernel_rfl) (fun _ _ _ h => h) (Or.inl ⟨by rfl, ?_⟩) (by assumption) ?_
              rotate_left 1
              · intro w hSw; (try dsimp only at hSw); go_simp; (with_reducible rfl)
              (try simp only [Act.put, List.getElem_toArray, List.getElem_cons_zero, List.getElem_cons_succ, List.setIfInBounds_toArray, List.set_cons_zero, List.set_cons_succ])
              refine wpAnyH_take1 (i := 42) (oi := _) (v := ?_) (by kernel_rfl) rfl (by kernel_rfl) (fun _ _ _ h => h) (Or.inl ⟨by rfl, ?_⟩) (by assumption) ?_
              rotate_left 1
              · intro w hSw; (try dsimp only at hSw); go_simp; (with_reducible rfl)
              (try simp only [Act.put, List.getElem_toArray, List.getElem_cons_zero, List.getElem_cons_succ, List.setIfInBounds_toArray, List.set_cons_zero, List.set_cons_succ])
              refine wpAnyH_take1 (i := 43) (oi := _) (v := ?_) (by kernel_rfl) rfl (by kernel_rfl) (fun _ _ _ h => h) (Or.inl ⟨by rfl, ?_⟩) (by assumption) ?_
              rotate_left 1
              · intro w hSw; (try dsimp only at hSw); go_simp; (with_reducible rfl)
              (try simp only [Act.put, List.getElem_toArray, List.getElem_cons_zero, List.getElem_cons_succ, List.setIfInBounds_toArray, List.set_cons_zero, List.set_cons_succ])
              refine wpAnyH_take1 (i := 44) (oi := _) (v := ?_) (by kernel_rfl) rfl (by kernel_rfl) (fun _ _ _ h => h) (Or.inl ⟨by rfl, ?_⟩) (by assumption) ?_
              rotate_left 1
              · intro w hSw; (try dsimp only at hSw); go_simp; (with_reducible rfl)
              (try simp only [Act.put, List.getElem_toArray, List.getElem_cons_zero, List.getElem_cons_succ, List.setIfInBounds_toArray, List.set_cons_zero, List.set_cons_succ])
              refine wpAnyH_take1 (i := 45) (oi := _) (v := ?_) (by kernel_rfl) rfl (by kernel_rfl) (fun _ _ _ h => h) (Or.inl ⟨by rfl, ?_⟩) (by assumption) ?_
              rotate_left 1
              · intro w hSw; (try dsimp only at hSw); go_simp; (with_reducible rfl)
              (try simp only [Act.put, List.getElem_toArray, List.getElem_cons_zero, List.getElem_cons_succ, List.setIfInBounds_toArray, List.set_cons_zero, List.set_cons_succ])
              refine wpAnyH_take1 (i := 46) (oi := _) (v := ?_) (by kernel_rfl) rfl (by kernel_rfl) (fun _ _ _ h => h) (Or.inl ⟨by rfl, ?_⟩) (by assumption) ?_
              rotate_left 1
              · intro w hSw; (try dsimp only at hSw); go_simp; (with_reducible rfl)
              (try simp only [Act.put, List.getElem_toArray, List.getElem_cons_zero, List.getElem_cons_succ, List.setIfInBounds_toArray, List.set_cons_zero, List.set_cons_succ])
              refine wpAnyH_take1 (i := 47) (oi := _) (v := ?_) (by kernel_rfl) rfl (by kernel_rfl) (fun _ _ _ h => h) (Or.inl ⟨by rfl, ?_⟩) (by assumption) ?_
              rotate_left 1
              · intro w hSw; (try dsimp only at hSw); go_simp; (with_reducible rfl)
              (try simp only [Act.put, List.getElem_toArray, List.getElem_cons_zero, List.getElem_cons_succ, List.setIfInBounds_toArray, List.set_cons_zero, List.set_cons_succ])
              refine wpAnyH_take1 (i := 48) (oi := _) (v := ?_) (by kernel_rfl) rfl (by kernel_rfl) (fun _ _ _ h => h) (Or.inl ⟨by rfl, ?_⟩) (by assumption) ?_
              rotate_left 1
              · intro w hSw; (try dsimp only at hSw); go_simp; (with_reducible rfl)
              (try simp only [Act.put, List.getElem_toArray, List.getElem_cons_zero, List.getElem_cons_succ, List.setIfInBounds_toArray, List.set_cons_zero, List.set_cons_succ])
              refine wpAnyH_take1 (i := 49) (oi := _) (v := ?_) (by kernel_rfl) rfl (by kernel_rfl) (fun _ _ _ h => h) (Or.inl ⟨by rfl, ?_⟩) (by assumption) ?_
              rotate_left 1
              · intro w hSw; (try dsimp only at hSw); go_simp; (with_reducible rfl)
              (try simp only [Act.put, List.getElem_toArray, List.getElem_cons_zero, List.getElem_cons_succ, List.setIfInBounds_toArray, List.set_cons_zero, List.set_cons_succ])
              refine wpAnyH_take1 (i := 50) (oi := _) (v := ?_) (by kernel_rfl) rfl (by kernel_rfl) (fun _ _ _ h => h) (Or.inl ⟨by rfl, ?_⟩) (by assumption) ?_
              rotate_left 1
              · intro w hSw; (try dsimp only at hSw); go_simp; (with_reducible rfl)
              (try simp only [Act.put, List.getElem_toArray, List.getElem_cons_zero, List.getElem_cons_succ, List.setIfInBounds_toArray, List.set_cons_zero, List.set_cons_succ])
              refine wpAnyH_take1 (i := 51) (oi := _) (v := ?_) (by kernel_rfl) rfl (by kernel_rfl) (fun _ _ _ h => h) (Or.inl ⟨by rfl, ?_⟩) (by assumption) ?_
              rotate_left 1
              · intro w hSw; (try dsimp only at hSw); go_simp; (with_reducible rfl)
              (try simp only [Act.put, List.getElem_toArray, List.getElem_cons_zero, List.getElem_cons_succ, List.setIfInBounds_toArray, List.set_cons_zero, List.set_cons_succ])
              refine wpAnyH_take1 (i := 52) (oi := _) (v := ?_) (by kernel_rfl) rfl (by kernel_rfl) (fun _ _ _ h => h) (Or.inl ⟨by rfl, ?_⟩) (by assumption) ?_
              rotate_left 1
              · intro w hSw; (try dsimp only at hSw); go_simp; (with_reducible rfl)
              (try simp only [Act.put, List.getElem_toArray, List.getElem_cons_zero, List.getElem_cons_succ, List.setIfInBounds_toArray, List.set_cons_zero, List.set_cons_succ])
              refine wpAnyH_take1 (i := 53) (oi := _) (v := ?_) (by kernel_rfl) rfl (by kernel_rfl) (fun _ _ _ h => h) (Or.inl ⟨by rfl, ?_⟩) (by assumption) ?_
              rotate_left 1
              · intro w hSw; (try dsimp only at hSw); go_simp; (with_reducible rfl)
              (try simp only [Act.put, List.getElem_toArray, List.getElem_cons_zero, List.getElem_cons_succ, List.setIfInBounds_toArray, List.set_cons_zero, List.set_cons_succ])
              refine wpAnyH_take1 (i := 54) (oi := _) (v := ?_) (by kernel_rfl) rfl (by kernel_rfl) (fun _ _ _ h => h) (Or.inl ⟨by rfl, ?_⟩) (by assumption) ?_
              rotate_left 1
              · intro w hSw; (try dsimp only at hSw); go_simp; (with_reducible rfl)
              (try simp only [Act.put, List.getElem_toArray, List.getElem_cons_zero, List.getElem_cons_succ, List.setIfInBounds_toArray, List.set_cons_zero, List.set_cons_succ])
              refine wpAnyH_take1 (i := 55) (oi := _) (v := ?_) (by kernel_rfl) rfl (by kernel_rfl) (fun _ _ _ h => h) (Or.inl ⟨by rfl, ?_⟩) (by assumption) ?_
              rotate_left 1
              · intro w hSw; (try dsimp only at hSw); go_simp; (with_reducible rfl)
              (try simp only [Act.put, List.getElem_toArray, List.getElem_cons_zero, List.getElem_cons_succ, List.setIfInBounds_toArray, List.set_cons_zero, List.set_cons_succ])
              refine wpAnyH_take1 (i := 56) (oi := _) (v := ?_) (by kernel_rfl) rfl (by kernel_rfl) (fun _ _ _ h => h) (Or.inl ⟨by rfl, ?_⟩) (by assumption) ?_
              rotate_left 1
              · intro w hSw; (try dsimp only at hSw); go_simp; (with_reducible rfl)
              (try simp only [Act.put, List.getElem_toArray, List.getElem_cons_zero, List.getElem_cons_succ, List.setIfInBounds_toArray, List.set_cons_zero, List.set_cons_succ])
              refine wpAnyH_take1 (i := 57) (oi := _) (v := ?_) (by kernel_rfl) rfl (by kernel_rfl) (fun _ _ _ h => h) (Or.inl ⟨by rfl, ?_⟩) (by assumption) ?_
              rotate_left 1
              · intro w hSw; (try dsimp only at hSw); go_simp; (with_reducible rfl)
              (try simp only [Act.put, List.getElem_toArray, List.getElem_cons_zero, List.getElem_cons_succ, List.setIfInBounds_toArray, List.set_cons_zero, List.set_cons_succ])
              refine wpAnyH_take1 (i := 58) (oi := _) (v := ?_) (by kernel_rfl) rfl (by kernel_rfl) (fun _ _ _ h => h) (Or.inl ⟨by rfl, ?_⟩) (by assumption) ?_
              rotate_left 1
              · intro w hSw; (try dsimp only at hSw); go_simp; (with_reducible rfl)
              (try simp only [Act.put, List.getElem_toArray, List.getElem_cons_zero, List.getElem_cons_succ, List.setIfInBounds_toArray, List.set_cons_zero, List.set_cons_succ])
              refine wpAnyH_take1 (i := 59) (oi := _) (v := ?_) (by kernel_rfl) rfl (by kernel_rfl) (fun _ _ _ h => h) (Or.inl ⟨by rfl, ?_⟩) (by assumption) ?_
              rotate_left 1
              · intro w hSw; (try dsimp only at hSw); go_simp; (with_reducible rfl)
              (try simp only [Act.put, List.getElem_toArray, List.getElem_cons_zero, List.getElem_cons_succ, List.setIfInBounds_toArray, List.set_cons_zero, List.set_cons_succ])
              refine wpAnyH_take1 (i := 60) (oi := _) (v := ?_) (by kernel_rfl) rfl (by kernel_rfl) (fun _ _ _ h => h) (Or.inl ⟨by rfl, ?_⟩) (by assumption) ?_
              rotate_left 1
              · intro w hSw; (try dsimp only at hSw); go_simp; (with_reducible rfl)
              (try simp only [Act.put, List.getElem_toArray, List.getElem_cons_zero, List.getElem_cons_succ, List.setIfInBounds_toArray, List.set_cons_zero, List.set_cons_succ])
              refine wpAnyH_take1 (i := 61) (oi := _) (v := ?_) (by kernel_rfl) rfl (by kernel_rfl) (fun _ _ _ h => h) (Or.inl ⟨by rfl, ?_⟩) (by assumption) ?_
              rotate_left 1
              · intro w hSw; (try dsimp only at hSw); go_simp; (with_reducible rfl)
              (try simp only [Act.put, List.getElem_toArray, List.getElem_cons_zero, List.getElem_cons_succ, List.setIfInBounds_toArray, List.set_cons_zero, List.set_cons_succ])
              refine wpAnyH_take1 (i := 62) (oi := _) (v := ?_) (by kernel_rfl) rfl (by kernel_rfl) (fun _ _ _ h => h) (Or.inl ⟨by rfl, ?_⟩) (by assumption) ?_
              rotate_left 1
              · intro w hSw; (try dsimp only at hSw); go_simp; (with_reducible rfl)
              (try simp only [Act.put, List.getElem_toArray, List.getElem_cons_zero, List.getElem_cons_succ, List.setIfInBounds_toArray, List.set_cons_zero, List.set_cons_succ])
              refine wpAnyH_take1 (i := 63) (oi := _) (v := ?_) (by kernel_rfl) rfl (by kernel_rfl) (fun _ _ _ h => h) (Or.inl ⟨by rfl, ?_⟩) (by assumption) ?_
              rotate_left 1
              · intro w hSw; (try dsimp only at hSw); go_simp; (with_reducible rfl)
              (try simp only [Act.put, List.getElem_toArray, List.getElem_cons_zero, List.getElem_cons_succ, List.setIfInBounds_toArray, List.set_cons_zero, List.set_cons_succ])
              refine wpAnyH_take1 (i := 64) (oi := _) (v := ?_) (by kernel_rfl) rfl (by kernel_rfl) (fun _ _ _ h => h) (Or.inl ⟨by rfl, ?_⟩) (by assumption) ?_
              rotate_left 1
              · intro w hSw; (try dsimp only at hSw); go_simp; (with_reducible rfl)
              (try simp only [Act.put, List.getElem_toArray, List.getElem_cons_zero, List.getElem_cons_succ, List.setIfInBounds_toArray, List.set_cons_zero, List.set_cons_succ])
              refine wpAnyH_take1 (i := 65) (oi := _) (v := ?_) (by kernel_rfl) rfl (by kernel_rfl) (fun _ _ _ h => h) (Or.inl ⟨by rfl, ?_⟩) (by assumption) ?_
              rotate_left 1
              · intro w hSw; (try dsimp only at hSw); go_simp; (with_reducible rfl)
              (try simp only [Act.put, List.getElem_toArray, List.getElem_cons_zero, List.getElem_cons_succ, List.setIfInBounds_toArray, List.set_cons_zero, List.set_cons_succ])
              refine wpAnyH_take1 (i := 66) (oi := _) (v := ?_) (by kernel_rfl) rfl (by kernel_rfl) (fun _ _ _ h => h) (Or.inl ⟨by rfl, ?_⟩) (by assumption) ?_
              rotate_left 1
              · intro w hSw; (try dsimp only at hSw); go_simp; (with_reducible rfl)
              (try simp only [Act.put, List.getElem_toArray, List.getElem_cons_zero, List.getElem_cons_succ, List.setIfInBounds_toArray, List.set_cons_zero, List.set_cons_succ])
              refine wpAnyH_done (by kernel_rfl) ?_ _
              refine NoPanic.normal ?_
              go_wp2_with fail
              go_roundw
              case rel => exact ⟨k' + 2, hlt, by go_num, HBw.out.trans (HY5.mono HBw.out.size)⟩
              case measure => simp [intOf]; omega
            · have hl2 : (s.1 == s'.1) = false := by simpa using hq
              clear hq
              simp only [List.append_eq, List.cons_append, List.nil_append]
              refine wp_region_noPanic ?_
              refine wp_region_held_drew (S := fun w' => w'.cell? ⟨B12, 0, none⟩ = some (.slice ea h.atoms.length eb) ∧ w'.cell? ⟨B12, 1, none⟩ = some (.slice ec h.rules.length ed) ∧ w'.cell? ⟨B8, 0, none⟩ = some (.slice ga g.atoms.length gac) ∧ w'.cell? ⟨B8, 1, none⟩ = some (.slice gra g.rules.length grc) ∧ w'.cell? ⟨ab, ao + (k' + 1) * 2, none⟩ = some (.int .i64 s.1) ∧ w'.cell? ⟨ab, ao + (k' + 1) * 2 + 1, none⟩ = some (.int .i64 s.2) ∧ w'.cell? ⟨ab, ao + k' * 2, none⟩ = some (.int .i64 s'.1) ∧ w'.cell? ⟨ab, ao + k' * 2 + 1, none⟩ = some (.int .i64 s'.2)) (by kernel_rfl) ?_ (fun hHeld => ?_)
              · exact (Hk7 (Below.drew (Below.refl _ _))).out
              refine wpAnyH_take1 (i := 0) (oi := _) (v := ?_) (by kernel_rfl) rfl (by kernel_rfl) (fun _ _ _ h => h) (Or.inl ⟨by rfl, ?_⟩) (by assumption) ?_
              rotate_left 1
              · intro w hSw; (try dsimp only at hSw); go_simp; (with_reducible rfl)
              (try simp only [Act.put, List.getElem_toArray, List.getElem_cons_zero, List.setIfInBounds_toArray, List.set_cons_zero, List.set_cons_succ])
              refine wpAnyH_take1 (i := 1) (oi := _) (v := ?_) (by kernel_rfl) rfl (by kernel_rfl) (fun _ _ _ h => h) (Or.inl ⟨by rfl, ?_⟩) (by assumption) ?_
              rotate_left 1
              · intro w hSw; (try dsimp only at hSw); go_simp; (with_reducible rfl)
              (try simp only [Act.put, List.getElem_toArray, List.getElem_cons_zero, List.getElem_cons_succ, List.setIfInBounds_toArray, List.set_cons_zero, List.set_cons_succ])
              refine wpAnyH_take1 (i := 2) (oi := _) (v := ?_) (by kernel_rfl) rfl (by kernel_rfl) (fun _ _ _ h => h) (Or.inl ⟨by rfl, ?_⟩) (by assumption) ?_
              rotate_left 1
              · intro w hSw; (try dsimp only at hSw); go_simp; (with_reducible rfl)
              (try simp only [Act.put, List.getElem_toArray, List.getElem_cons_zero, List.getElem_cons_succ, List.setIfInBounds_toArray, List.set_cons_zero, List.set_cons_succ])
              refine wpAnyH_take1 (i := 3) (oi := _) (v := ?_) (by kernel_rfl) rfl (by kernel_rfl) (fun _ _ _ h => h) (Or.inl ⟨by rfl, ?_⟩) (by assumption) ?_
              rotate_left 1
              · intro w hSw; (try dsimp only at hSw); go_simp; (with_reducible rfl)
              (try simp only [Act.put, List.getElem_toArray, List.getElem_cons_zero, List.getElem_cons_succ, List.setIfInBounds_toArray, List.set_cons_zero, List.set_cons_succ])
              refine wpAnyH_one (i := 4) (by kernel_rfl) rfl (by rfl) fun K hK => ?_
              go_simp
              refine (Right16_spec (P12.out.at Seq.way) HRt.out).mono ?_
              rintro e y1 ⟨rfl, hy1⟩
              have HY1 := below_step hy1 (Seq.way : Below w7.heap.size w7 _)
              have zy1 := HY1.size
              (try dsimp only)
              clear hHeld
              refine hK.out _ _ (Hk7 HY1).out fun hHeld => ?_
              clear hK K
              (try simp only [Act.put, List.getElem_toArray, List.getElem_cons_zero, List.getElem_cons_succ, List.setIfInBounds_toArray, List.set_cons_zero, List.set_cons_succ])
              refine wpAnyH_take1 (i := 5) (oi := _) (v := ?_) (by kernel_rfl) rfl (by kernel_rfl) (fun _ _ _ h => h) (Or.inl ⟨by rfl, ?_⟩) (by assumption) ?_
              rotate_left 1
              · intro w hSw; (try dsimp only at hSw); go_simp; (with_reducible rfl)
              (try simp only [Act.put, List.getElem_toArray, List.getElem_cons_zero, List.getElem_cons_succ, List.setIfInBounds_toArray, List.set_cons_zero, List.set_cons_succ])
              refine wpAnyH_take1 (i := 6) (oi := _) (v := ?_) (by kernel_rfl) rfl (by kernel_rfl) (fun _ _ _ h => h) (Or.inl ⟨by rfl, ?_⟩) (by assumption) ?_
              rotate_left 1
              · intro w hSw; (try dsimp only at hSw); go_simp; (with_reducible rfl)
              (try simp only [Act.put, List.getElem_toArray, List.getElem_cons_zero, List.getElem_cons_succ, List.setIfInBounds_toArray, List.set_cons_zero, List.set_cons_succ])
              refine wpAnyH_take1 (i := 7) (oi := _) (v := ?_) (by kernel_rfl) rfl (by kernel_rfl) (fun _ _ _ h => h) (Or.inl ⟨by rfl, ?_⟩) (by assumption) ?_
              rotate_left 1
              · intro w hSw; (try dsimp only at hSw); go_simp; (with_reducible rfl)
              (try simp only [Act.put, List.getElem_toArray, List.getElem_cons_zero, List.getElem_cons_succ, List.setIfInBounds_toArray, List.set_cons_zero, List.set_cons_succ])
              refine wpAnyH_take1 (i := 8) (oi := _) (v := ?_) (by kernel_rfl) rfl (by kernel_rfl) (fun _ _ _ h => h) (Or.inl ⟨by rfl, ?_⟩) (by assumption) ?_
              rotate_left 1
              · intro w hSw; (try dsimp only at hSw); go_simp; (with_reducible rfl)
              (try simp only [Act.put, List.getElem_toArray, List.getElem_cons_zero, List.getElem_cons_succ, List.setIfInBounds_toArray, List.set_cons_zero, List.set_cons_succ])
              refine wpAnyH_take1 (i := 10) (oi := _) (v := ?_) (by kernel_rfl) rfl (by kernel_rfl) (fun _ _ _ h => h) (Or.inl ⟨by rfl, ?_⟩) (by assumption) ?_
              rotate_left 1
              · intro w hSw; (try dsimp only at hSw); go_simp; (with_reducible rfl)
              (try simp only [Act.put, List.getElem_toArray, List.getElem_cons_zero, List.getElem_cons_succ, List.setIfInBounds_toArray, List.set_cons_zero, List.set_cons_succ])
              refine wpAnyH_one (i := 9) (by kernel_rfl) rfl (by rfl) fun K hK => ?_
              go_simp
              refine (Size_spec (P12.out.at Seq.way) HFh.out.toGoodP).mono ?_
              rintro e y2 ⟨rfl, hy2⟩
              have HY2 := below_step hy2 (Seq.way : Below w7.heap.size w7 _)
              have zy2 := HY2.size
              (try dsimp only)
              clear hHeld
              refine hK.out _ _ (Hk7 HY2).out fun hHeld => ?_
              clear hK K
              (try simp only [Act.put, List.getElem_toArray, List.getElem_cons_zero, List.getElem_cons_succ, List.setIfInBounds_toArray, List.set_cons_zero, List.set_cons_succ])
              refine wpAnyH_one (i := 11) (by kernel_rfl) rfl (by rfl) fun K hK => ?_
              go_simp
              refine (Size_spec (HGm.out.at Seq.way) hfine.toGoodP).mono ?_
              rintro e y3 ⟨rfl, hy3⟩
              have HY3 := below_step hy3 (Seq.way : Below w7.heap.size w7 _)
              have zy3 := HY3.size
              (try dsimp only)
              clear hHeld
              refine hK.out _ _ (Hk7 HY3).out fun hHeld => ?_
              clear hK K
              (try simp only [Act.put, List.getElem_toArray, List.getElem_cons_zero, List.getElem_cons_succ, List.setIfInBounds_toArray, List.set_cons_zero, List.set_cons_succ])
              refine wpAnyH_take1 (i := 12) (oi := _) (v := ?_) (by kernel_rfl) rfl (by kernel_rfl) (fun _ _ _ h => h) (Or.inl ⟨by rfl, ?_⟩) (by assumption) ?_
              rotate_left 1
              · intro w hSw; (try dsimp only at hSw); go_simp; (with_reducible rfl)
              (try simp only [Act.put, List.getElem_toArray, List.getElem_cons_zero, List.getElem_cons_succ, List.setIfInBounds_toArray, List.set_cons_zero, List.set_cons_succ])
              refine wpAnyH_take1 (i := 13) (oi := _) (v := ?_) (by kernel_rfl) rfl (by kernel_rfl) (fun _ _ _ h => h) (Or.inl ⟨by rfl, ?_⟩) (by assumption) ?_
              rotate_left 1
              · intro w hSw; (try dsimp only at hSw); go_simp; (with_reducible rfl)
              (try simp only [Act.put, List.getElem_toArray, List.getElem_cons_zero, List.getElem_cons_succ, List.setIfInBounds_toArray, List.set_cons_zero, List.set_cons_succ])
              refine wpAnyH_take1 (i := 14) (oi := _) (v := ?_) (by kernel_rfl) rfl (by kernel_rfl) (fun _ _ _ h => h) (Or.inl ⟨by rfl, ?_⟩) (by assumption) ?_
              rotate_left 1
              · intro w hSw; (try dsimp only at hSw); go_simp; (with_reducible rfl)
              (try simp only [Act.put, List.getElem_toArray, List.getElem_cons_zero, List.getElem_cons_succ, List.setIfInBounds_toArray, List.set_cons_zero, List.set_cons_succ])
              refine wpAnyH_take1 (i := 15) (oi := _) (v := ?_) (by kernel_rfl) rfl (by kernel_rfl) (fun _ _ _ h => h) (Or.inl ⟨by rfl, ?_⟩) (by assumption) ?_
              rotate_left 1
              · intro w hSw; (try dsimp only at hSw); go_simp; (with_reducible rfl)
              (try simp only [Act.put, List.getElem_toArray, List.getElem_cons_zero, List.getElem_cons_succ, List.setIfInBounds_toArray, List.set_cons_zero, List.set_cons_succ])
              refine wpAnyH_take1 (i := 17) (oi := _) (v := ?_) (by kernel_rfl) rfl (by kernel_rfl) (fun _ _ _ h => h) (Or.inl ⟨by rfl, ?_⟩) (by assumption) ?_
              rotate_left 1
              · intro w hSw; (try dsimp only at hSw); go_simp; (with_reducible rfl)
              (try simp only [Act.put, List.getElem_toArray, List.getElem_cons_zero, List.getElem_cons_succ, List.setIfInBounds_toArray, List.set_cons_zero, List.set_cons_succ])
              refine wpAnyH_one (i := 16) (by kernel_rfl) rfl (by rfl) fun K hK => ?_
              go_simp
              refine (Model_spec (P12.out.at Seq.way) HFh.out.toGoodP).mono ?_
              rintro e y4 ⟨vm, rfl, hy4, hq4⟩
              have HY4 := below_step hy4 (Seq.way : Below w7.heap.size w7 _)
              have zy4 := HY4.size
              (try dsimp only)
              clear hHeld
              refine hK.out _ _ (Hk7 HY4).out fun hHeld => ?_
              clear hK K
              (try simp only [Act.put, List.getElem_toArray, List.getElem_cons_zero, List.getElem_cons_succ, List.setIfInBounds_toArray, List.set_cons_zero, List.set_cons_succ])
              rw [HMOD.out] at hq4
              have HQ4 := Lib.hid hq4
              clear hq4
              refine wpAnyH_one (i := 18) (by kernel_rfl) rfl (by rfl) fun K hK => ?_
              go_simp
              refine (ints_eq (HQ4.out.at Seq.way) (HMm.out.at Seq.way)).mono ?_
              rintro e y5 ⟨rfl, hy5⟩
              have HY5 := below_step hy5 (Seq.way : Below w7.heap.size w7 _)
              have zy5 := HY5.size
              (try dsimp only)
              clear hHeld
              refine hK.out _ _ (Hk7 HY5).out fun hHeld => ?_
              clear hK K
              (try simp only [Act.put, List.getElem_toArray, List.getElem_cons_zero, List.getElem_cons_succ, List.setIfInBounds_toArray, List.set_cons_zero, List.set_cons_succ])
              refine wpAnyH_take1 (i := 19) (oi := _) (v := ?_) (by kernel_rfl) rfl (by kernel_rfl) (fun _ _ _ h => h) (Or.inl ⟨by rfl, ?_⟩) (by assumption) ?_
              rotate_left 1
              · intro w hSw; (try dsimp only at hSw); go_simp; (with_reducible rfl)
              (try simp only [Act.put, List.getElem_toArray, List.getElem_cons_zero, List.getElem_cons_succ, List.setIfInBounds_toArray, List.set_cons_zero, List.set_cons_succ])
              refine wpAnyH_take1 (i := 20) (oi := _) (v := ?_) (by kernel_rfl) rfl (by kernel_rfl) (fun _ _ _ h => h) (Or.inl ⟨by rfl, ?_⟩) (by assumption) ?_
              rotate_left 1
              · intro w hSw; (try dsimp only at hSw); go_simp; (with_reducible rfl)
              (try simp only [Act.put, List.getElem_toArray, List.getElem_cons_zero, List.getElem_cons_succ, List.setIfInBounds_toArray, List.set_cons_zero, List.set_cons_succ])
              refine wpAnyH_take1 (i := 21) (oi := _) (v := ?_) (by kernel_rfl) rfl (by kernel_rfl) (fun _ _ _ h => h) (Or.inl ⟨by rfl, ?_⟩) (by assumption) ?_
              rotate_left 1
              · intro w hSw; (try dsimp only at hSw); go_simp; (with_reducible rfl)
              (try simp only [Act.put, List.getElem_toArray, List.getElem_cons_zero, List.getElem_cons_succ, List.setIfInBounds_toArray, List.set_cons_zero, List.set_cons_succ])
              refine wpAnyH_take1 (i := 22) (oi := _) (v := ?_) (by kernel_rfl) rfl (by kernel_rfl) (fun _ _ _ h => h) (Or.inl ⟨by rfl, ?_⟩) (by assumption) ?_
              rotate_left 1
              · intro w hSw; (try dsimp only at hSw); go_simp; (with_reducible rfl)
              (try simp only [Act.put, List.getElem_toArray, List.getElem_cons_zero, List.getElem_cons_succ, List.setIfInBounds_toArray, List.set_cons_zero, List.set_cons_succ])
              refine wpAnyH_take1 (i := 23) (oi := _) (v := ?_) (by kernel_rfl) rfl (by kernel_rfl) (fun _ _ _ h => h) (Or.inl ⟨by rfl, ?_⟩) (by assumption) ?_
              rotate_left 1
              · intro w hSw; (try dsimp only at hSw); go_simp; (with_reducible rfl)
              (try simp only [Act.put, List.getElem_toArray, List.getElem_cons_zero, List.getElem_cons_succ, List.setIfInBounds_toArray, List.set_cons_zero, List.set_cons_succ])
              refine wpAnyH_take1 (i := 24) (oi := _) (v := ?_) (by kernel_rfl) rfl (by kernel_rfl) (fun _ _ _ h => h) (Or.inl ⟨by rfl, ?_⟩) (by assumption) ?_
              rotate_left 1
              · intro w hSw; (try dsimp only at hSw); go_simp; (with_reducible rfl)
              (try simp only [Act.put, List.getElem_toArray, List.getElem_cons_zero, List.getElem_cons_succ, List.setIfInBounds_toArray, List.set_cons_zero, List.set_cons_succ])
              refine wpAnyH_take1 (i := 25) (oi := _) (v := ?_) (by kernel_rfl) rfl (by kernel_rfl) (fun _ _ _ h => h) (Or.inl ⟨by rfl, ?_⟩) (by assumption) ?_
              rotate_left 1
              · intro w hSw; (try dsimp only at hSw); go_simp; (with_reducible rfl)
              (try simp only [Act.put, List.getElem_toArray, List.getElem_cons_zero, List.getElem_cons_succ, List.setIfInBounds_toArray, List.set_cons_zero, List.set_cons_succ])
              refine wpAnyH_take1 (i := 26) (oi := _) (v := ?_) (by kernel_rfl) rfl (by kernel_rfl) (fun _ _ _ h => h) (Or.inl ⟨by rfl, ?_⟩) (by assumption) ?_
              rotate_left 1
              · intro w hSw; (try dsimp only at hSw); go_simp; (with_reducible rfl)
              (try simp only [Act.put, List.getElem_toArray, List.getElem_cons_zero, List.getElem_cons_succ, List.setIfInBounds_toArray, List.set_cons_zero, List.set_cons_succ])
              refine wpAnyH_take1 (i := 27) (oi := _) (v := ?_) (by kernel_rfl) rfl (by kernel_rfl) (fun _ _ _ h => h) (Or.inl ⟨by rfl, ?_⟩) (by assumption) ?_
              rotate_left 1
              · intro w hSw; (try dsimp only at hSw); go_simp; (with_reducible rfl)
              (try simp only [Act.put, List.getElem_toArray, List.getElem_cons_zero, List.getElem_cons_succ, List.setIfInBounds_toArray, List.set_cons_zero, List.set_cons_succ])
              refine wpAnyH_take1 (i := 28) (oi := _) (v := ?_) (by kernel_rfl) rfl (by kernel_rfl) (fun _ _ _ h => h) (Or.inl ⟨by rfl, ?_⟩) (by assumption) ?_
              rotate_left 1
              · intro w hSw; (try dsimp only at hSw); go_simp; (with_reducible rfl)
              (try simp only [Act.put, List.getElem_toArray, List.getElem_cons_zero, List.getElem_cons_succ, List.setIfInBounds_toArray, List.set_cons_zero, List.set_cons_succ])
              refine wpAnyH_take1 (i := 29) (oi := _) (v := ?_) (by kernel_rfl) rfl (by kernel_rfl) (fun _ _ _ h => h) (Or.inl ⟨by rfl, ?_⟩) (by assumption) ?_
              rotate_left 1
              · intro w hSw; (try dsimp only at hSw); go_simp; (with_reducible rfl)
              (try simp only [Act.put, List.getElem_toArray, List.getElem_cons_zero, List.getElem_cons_succ, List.setIfInBounds_toArray, List.set_cons_zero, List.set_cons_succ])
              refine wpAnyH_take1 (i := 30) (oi := _) (v := ?_) (by kernel_rfl) rfl (by kernel_rfl) (fun _ _ _ h => h) (Or.inl ⟨by rfl, ?_⟩) (by assumption) ?_
              rotate_left 1
              · intro w hSw; (try dsimp only at hSw); go_simp; (with_reducible rfl)
              (try simp only [Act.put, List.getElem_toArray, List.getElem_cons_zero, List.getElem_cons_succ, List.setIfInBounds_toArray, List.set_cons_zero, List.set_cons_succ])
              refine wpAnyH_take1 (i := 31) (oi := _) (v := ?_) (by kernel_rfl) rfl (by kernel_rfl) (fun _ _ _ h => h) (Or.inl ⟨by rfl, ?_⟩) (by assumption) ?_
              rotate_left 1
              · intro w hSw; (try dsimp only at hSw); go_simp; (with_reducible rfl)
              (try simp only [Act.put, List.getElem_toArray, List.getElem_cons_zero, List.getElem_cons_succ, List.setIfInBounds_toArray, List.set_cons_zero, List.set_cons_succ])
              refine wpAnyH_take1 (i := 32) (oi := _) (v := ?_) (by kernel_rfl) rfl (by kernel_rfl) (fun _ _ _ h => h) (Or.inl ⟨by rfl, ?_⟩) (by assumption) ?_
              rotate_left 1
              · intro w hSw; (try dsimp only at hSw); go_simp; (with_reducible rfl)
              (try simp only [Act.put, List.getElem_toArray, List.getElem_cons_zero, List.getElem_cons_succ, List.setIfInBounds_toArray, List.set_cons_zero, List.set_cons_succ])
              refine wpAnyH_take1 (i := 33) (oi := _) (v := ?_) (by kernel_rfl) rfl (by kernel_rfl) (fun _ _ _ h => h) (Or.inl ⟨by rfl, ?_⟩) (by assumption) ?_
              rotate_left 1
              · intro w hSw; (try dsimp only at hSw); go_simp; (with_reducible rfl)
              (try simp only [Act.put, List.getElem_toArray, List.getElem_cons_zero, List.getElem_cons_succ, List.setIfInBounds_toArray, List.set_cons_zero, List.set_cons_succ])
              refine wpAnyH_take1 (i := 34) (oi := _) (v := ?_) (by kernel_rfl) rfl (by kernel_rfl) (fun _ _ _ h => h) (Or.inl ⟨by rfl, ?_⟩) (by assumption) ?_
              rotate_left 1
              · intro w hSw; (try dsimp only at hSw); go_simp; (with_reducible rfl)
              (try simp only [Act.put, List.getElem_toArray, List.getElem_cons_zero, List.getElem_cons_succ, List.setIfInBounds_toArray, List.set_cons_zero, List.set_cons_succ])
              refine wpAnyH_take1 (i := 35) (oi := _) (v := ?_) (by kernel_rfl) rfl (by kernel_rfl) (fun _ _ _ h => h) (Or.inl ⟨by rfl, ?_⟩) (by assumption) ?_
              rotate_left 1
              · intro w hSw; (try dsimp only at hSw); go_simp; (with_reducible rfl)
              (try simp only [Act.put, List.getElem_toArray, List.getElem_cons_zero, List.getElem_cons_succ, List.setIfInBounds_toArray, List.set_cons_zero, List.set_cons_succ])
              refine wpAnyH_take1 (i := 36) (oi := _) (v := ?_) (by kernel_rfl) rfl (by kernel_rfl) (fun _ _ _ h => h) (Or.inl ⟨by rfl, ?_⟩) (by assumption) ?_
              rotate_left 1
              · intro w hSw; (try dsimp only at hSw); go_simp; (with_reducible rfl)
              (try simp only [Act.put, List.getElem_toArray, List.getElem_cons_zero, List.getElem_cons_succ, List.setIfInBounds_toArray, List.set_cons_zero, List.set_cons_succ])
              refine wpAnyH_take1 (i := 37) (oi := _) (v := ?_) (by kernel_rfl) rfl (by kernel_rfl) (fun _ _ _ h => h) (Or.inl ⟨by rfl, ?_⟩) (by assumption) ?_
              rotate_left 1
              · intro w hSw; (try dsimp only at hSw); go_simp; (with_reducible rfl)
              (try simp only [Act.put, List.getElem_toArray, List.getElem_cons_zero, List.getElem_cons_succ, List.setIfInBounds_toArray, List.set_cons_zero, List.set_cons_succ])
              refine wpAnyH_take1 (i := 38) (oi := _) (v := ?_) (by kernel_rfl) rfl (by kernel_rfl) (fun _ _ _ h => h) (Or.inl ⟨by rfl, ?_⟩) (by assumption) ?_
              rotate_left 1
              · intro w hSw; (try dsimp only at hSw); go_simp; (with_reducible rfl)
              (try simp only [Act.put, List.getElem_toArray, List.getElem_cons_zero, List.getElem_cons_succ, List.setIfInBounds_toArray, List.set_cons_zero, List.set_cons_succ])
              refine wpAnyH_take1 (i := 39) (oi := _) (v := ?_) (by kernel_rfl) rfl (by kernel_rfl) (fun _ _ _ h => h) (Or.inl ⟨by rfl, ?_⟩) (by assumption) ?_
              rotate_left 1
              · intro w hSw; (try dsimp only at hSw); go_simp; (with_reducible rfl)
              (try simp only [Act.put, List.getElem_toArray, List.getElem_cons_zero, List.getElem_cons_succ, List.setIfInBounds_toArray, List.set_cons_zero, List.set_cons_succ])
              refine wpAnyH_take1 (i := 40) (oi := _) (v := ?_) (by kernel_rfl) rfl (by kernel_rfl) (fun _ _ _ h => h) (Or.inl ⟨by rfl, ?_⟩) (by assumption) ?_
              rotate_left 1
              · intro w hSw; (try dsimp only at hSw); go_simp; (with_reducible rfl)
              (try simp only [Act.put, List.getElem_toArray, List.getElem_cons_zero, List.getElem_cons_succ, List.setIfInBounds_toArray, List.set_cons_zero, List.set_cons_succ])
              refine wpAnyH_take1 (i := 41) (oi := _) (v := ?_) (by kernel_rfl) rfl (by kernel_rfl) (fun _ _ _ h => h) (Or.inl ⟨by rfl, ?_⟩) (by assumption) ?_
              rotate_left 1
              · intro w hSw; (try dsimp only at hSw); go_simp; (with_reducible rfl)
              (try simp only [Act.put, List.getElem_toArray, List.getElem_cons_zero, List.getElem_cons_succ, List.setIfInBounds_toArray, List.set_cons_zero, List.set_cons_succ])
              refine wpAnyH_take1 (i := 42) (oi := _) (v := ?_) (by kernel_rfl) rfl (by kernel_rfl) (fun _ _ _ h => h) (Or.inl ⟨by rfl, ?_⟩) (by assumption) ?_
              rotate_left 1
              · intro w hSw; (try dsimp only at hSw); go_simp; (with_reducible rfl)
              (try simp only [Act.put, List.getElem_toArray, List.getElem_cons_zero, List.getElem_cons_succ, List.setIfInBounds_toArray, List.set_cons_zero, List.set_cons_succ])
              refine wpAnyH_take1 (i := 43) (oi := _) (v := ?_) (by kernel_rfl) rfl (by kernel_rfl) (fun _ _ _ h => h) (Or.inl ⟨by rfl, ?_⟩) (by assumption) ?_
              rotate_left 1
              · intro w hSw; (try dsimp only at hSw); go_simp; (with_reducible rfl)
              (try simp only [Act.put, List.getElem_toArray, List.getElem_cons_zero, List.getElem_cons_succ, List.setIfInBounds_toArray, List.set_cons_zero, List.set_cons_succ])
              refine wpAnyH_take1 (i := 44) (oi := _) (v := ?_) (by kernel_rfl) rfl (by kernel_rfl) (fun _ _ _ h => h) (Or.inl ⟨by rfl, ?_⟩) (by assumption) ?_
              rotate_left 1
              · intro w hSw; (try dsimp only at hSw); go_simp; (with_reducible rfl)
              (try simp only [Act.put, List.getElem_toArray, List.getElem_cons_zero, List.getElem_cons_succ, List.setIfInBounds_toArray, List.set_cons_zero, List.set_cons_succ])
              refine wpAnyH_take1 (i := 45) (oi := _) (v := ?_) (by kernel_rfl) rfl (by kernel_rfl) (fun _ _ _ h => h) (Or.inl ⟨by rfl, ?_⟩) (by assumption) ?_
              rotate_left 1
              · intro w hSw; (try dsimp only at hSw); go_simp; (with_reducible rfl)
              (try simp only [Act.put, List.getElem_toArray, List.getElem_cons_zero, List.getElem_cons_succ, List.setIfInBounds_toArray, List.set_cons_zero, List.set_cons_succ])
              refine wpAnyH_take1 (i := 46) (oi := _) (v := ?_) (by kernel_rfl) rfl (by kernel_rfl) (fun _ _ _ h => h) (Or.inl ⟨by rfl, ?_⟩) (by assumption) ?_
              rotate_left 1
              · intro w hSw; (try dsimp only at hSw); go_simp; (with_reducible rfl)
              (try simp only [Act.put, List.getElem_toArray, List.getElem_cons_zero, List.getElem_cons_succ, List.setIfInBounds_toArray, List.set_cons_zero, List.set_cons_succ])
              refine wpAnyH_take1 (i := 47) (oi := _) (v := ?_) (by kernel_rfl) rfl (by kernel_rfl) (fun _ _ _ h => h) (Or.inl ⟨by rfl, ?_⟩) (by assumption) ?_
              rotate_left 1
              · intro w hSw; (try dsimp only at hSw); go_simp; (with_reducible rfl)
              (try simp only [Act.put, List.getElem_toArray, List.getElem_cons_zero, List.getElem_cons_succ, List.setIfInBounds_toArray, List.set_cons_zero, List.set_cons_succ])
              refine wpAnyH_take1 (i := 48) (oi := _) (v := ?_) (by kernel_rfl) rfl (by kernel_rfl) (fun _ _ _ h => h) (Or.inl ⟨by rfl, ?_⟩) (by assumption) ?_
              rotate_left 1
              · intro w hSw; (try dsimp only at hSw); go_simp; (with_reducible rfl)
              (try simp only [Act.put, List.getElem_toArray, List.getElem_cons_zero, List.getElem_cons_succ, List.setIfInBounds_toArray, List.set_cons_zero, List.set_cons_succ])
              refine wpAnyH_take1 (i := 49) (oi := _) (v := ?_) (by kernel_rfl) rfl (by kernel_rfl) (fun _ _ _ h => h) (Or.inl ⟨by rfl, ?_⟩) (by assumption) ?_
              rotate_left 1
              · intro w hSw; (try dsimp only at hSw); go_simp; (with_reducible rfl)
              (try simp only [Act.put, List.getElem_toArray, List.getElem_cons_zero, List.getElem_cons_succ, List.setIfInBounds_toArray, List.set_cons_zero, List.set_cons_succ])
              refine wpAnyH_take1 (i := 50) (oi := _) (v := ?_) (by kernel_rfl) rfl (by kernel_rfl) (fun _ _ _ h => h) (Or.inl ⟨by rfl, ?_⟩) (by assumption) ?_
              rotate_left 1
              · intro w hSw; (try dsimp only at hSw); go_simp; (with_reducible rfl)
              (try simp only [Act.put, List.getElem_toArray, List.getElem_cons_zero, List.getElem_cons_succ, List.setIfInBounds_toArray, List.set_cons_zero, List.set_cons_succ])
              refine wpAnyH_take1 (i := 51) (oi := _) (v := undef) (by kernel_rfl) rfl (by kernel_rfl) (fun _ _ _ h => h) (Or.inr ⟨by rfl, rfl⟩) (by assumption) ?_
              (try simp only [Act.put, List.getElem_toArray, List.getElem_cons_zero, List.getElem_cons_succ, List.setIfInBounds_toArray, List.set_cons_zero, List.set_cons_succ])
              refine wpAnyH_take1 (i := 52) (oi := _) (v := undef) (by kernel_rfl) rfl (by kernel_rfl) (fun _ _ _ h => h) (Or.inr ⟨by rfl, rfl⟩) (by assumption) ?_
              (try simp only [Act.put, List.getElem_toArray, List.getElem_cons_zero, List.getElem_cons_succ, List.setIfInBounds_toArray, List.set_cons_zero, List.set_cons_succ])
              refine wpAnyH_take1 (i := 53) (oi := _) (v := undef) (by kernel_rfl) rfl (by kernel_rfl) (fun _ _ _ h => h) (Or.inr ⟨by rfl, rfl⟩) (by assumption) ?_
              (try simp only [Act.put, List.getElem_toArray, List.getElem_cons_zero, List.getElem_cons_succ, List.setIfInBounds_toArray, List.set_cons_zero, List.set_cons_succ])
              refine wpAnyH_take1 (i := 54) (oi := _) (v := undef) (by kernel_rfl) rfl (by kernel_rfl) (fun _ _ _ h => h) (Or.inr ⟨by rfl, rfl⟩) (by assumption) ?_
              (try simp only [Act.put, List.getElem_toArray, List.getElem_cons_zero, List.getElem_cons_succ, List.setIfInBounds_toArray, List.set_cons_zero, List.set_cons_succ])
              refine wpAnyH_take1 (i := 55) (oi := _) (v := undef) (by kernel_rfl) rfl (by kernel_rfl) (fun _ _ _ h => h) (Or.inr ⟨by rfl, rfl⟩) (by assumption) ?_
              (try simp only [Act.put, List.getElem_toArray, List.getElem_cons_zero, List.getElem_cons_succ, List.setIfInBounds_toArray, List.set_cons_zero, List.set_cons_succ])
              refine wpAnyH_take1 (i := 56) (oi := _) (v := undef) (by kernel_rfl) rfl (by kernel_rfl) (fun _ _ _ h => h) (Or.inr ⟨by rfl, rfl⟩) (by assumption) ?_
              (try simp only [Act.put, List.getElem_toArray, List.getElem_cons_zero, List.getElem_cons_succ, List.setIfInBounds_toArray, List.set_cons_zero, List.set_cons_succ])
              refine wpAnyH_take1 (i := 57) (oi := _) (v := undef) (by kernel_rfl) rfl (by kernel_rfl) (fun _ _ _ h => h) (Or.inr ⟨by rfl, rfl⟩) (by assumption) ?_
              (try simp only [Act.put, List.getElem_toArray, List.getElem_cons_zero, List.getElem_cons_succ, List.setIfInBounds_toArray, List.set_cons_zero, List.set_cons_succ])
              refine wpAnyH_take1 (i := 58) (oi := _) (v := undef) (by kernel_rfl) rfl (by kernel_rfl) (fun _ _ _ h => h) (Or.inr ⟨by rfl, rfl⟩) (by assumption) ?_
              (try simp only [Act.put, List.getElem_toArray, List.getElem_cons_zero, List.getElem_cons_succ, List.setIfInBounds_toArray, List.set_cons_zero, List.set_cons_succ])
              refine wpAnyH_take1 (i := 59) (oi := _) (v := undef) (by kernel_rfl) rfl (by kernel_rfl) (fun _ _ _ h => h) (Or.inr ⟨by rfl, rfl⟩) (by assumption) ?_
              (try simp only [Act.put, List.getElem_toArray, List.getElem_cons_zero, List.getElem_cons_succ, List.setIfInBounds_toArray, List.set_cons_zero, List.set_cons_succ])
              refine wpAnyH_take1 (i := 60) (oi := _) (v := undef) (by kernel_rfl) rfl (by kernel_rfl) (fun _ _ _ h => h) (Or.inr ⟨by rfl, rfl⟩) (by assumption) ?_
              (try simp only [Act.put, List.getElem_toArray, List.getElem_cons_zero, List.getElem_cons_succ, List.setIfInBounds_toArray, List.set_cons_zero, List.set_cons_succ])
              refine wpAnyH_take1 (i := 61) (oi := _) (v := undef) (by kernel_rfl) rfl (by kernel_rfl) (fun _ _ _ h => h) (Or.inr ⟨by rfl, rfl⟩) (by assumption) ?_
              (try simp only [Act.put, List.getElem_toArray, List.getElem_cons_zero, List.getElem_cons_succ, List.setIfInBounds_toArray, List.set_cons_zero, List.set_cons_succ])
              refine wpAnyH_take1 (i := 62) (oi := _) (v := undef) (by kernel_rfl) rfl (by kernel_rfl) (fun _ _ _ h => h) (Or.inr ⟨by rfl, rfl⟩) (by assumption) ?_
              (try simp only [Act.put, List.getElem_toArray, List.getElem_cons_zero, List.getElem_cons_succ, List.setIfInBounds_toArray, List.set_cons_zero, List.set_cons_succ])
              refine wpAnyH_take1 (i := 63) (oi := _) (v := ?_) (by kernel_rfl) rfl (by kernel_rfl) (fun _ _ _ h => h) (Or.inl ⟨by rfl, ?_⟩) (by assumption) ?_
              rotate_left 1
              · intro w hSw; (try dsimp only at hSw); go_simp; (with_reducible rfl)
              (try simp only [Act.put, List.getElem_toArray, List.getElem_cons_zero, List.getElem_cons_succ, List.setIfInBounds_toArray, List.set_cons_zero, List.set_cons_succ])
              refine wpAnyH_take1 (i := 64) (oi := _) (v := ?_) (by kernel_rfl) rfl (by kernel_rfl) (fun _ _ _ h => h) (Or.inl ⟨by rfl, ?_⟩) (by assumption) ?_
              rotate_left 1
              · intro w hSw; (try dsimp only at hSw); go_simp; (with_reducible rfl)
              (try simp only [Act.put, List.getElem_toArray, List.getElem_cons_zero, List.getElem_cons_succ, List.setIfInBounds_toArray, List.set_cons_zero, List.set_cons_succ])
              refine wpAnyH_take1 (i := 65) (oi := _) (v := ?_) (by kernel_rfl) rfl (by kernel_rfl) (fun _ _ _ h => h) (Or.inl ⟨by rfl, ?_⟩) (by assumption) ?_
              rotate_left 1
              · intro w hSw; (try dsimp only at hSw); go_simp; (with_reducible rfl)
              (try simp only [Act.put, List.getElem_toArray, List.getElem_cons_zero, List.getElem_cons_succ, List.setIfInBounds_toArray, List.set_cons_zero, List.set_cons_succ])
              refine wpAnyH_take1 (i := 66) (oi := _) (v := ?_) (by kernel_rfl) rfl (by kernel_rfl) (fun _ _ _ h => h) (Or.inl ⟨by rfl, ?_⟩) (by assumption) ?_
              rotate_left 1
              · intro w hSw; (try dsimp only at hSw); go_simp; (with_reducible rfl)
              (try simp only [Act.put, List.getElem_toArray, List.getElem_cons_zero, List.getElem_cons_succ, List.setIfInBounds_toArray, List.set_cons_zero, List.set_cons_succ])
              refine wpAnyH_done (by kernel_rfl) ?_ _
              refine NoPanic.normal ?_
              go_wp2_with fail
              go_roundw
              case rel => exact ⟨k' + 2, hlt, by go_num, HBw.out.trans (HY5.mono HBw.out.size)⟩
              case measure => simp [intOf]; omega
      · obtain rfl : k = len := by omega
        have hkx : ¬ ((k : Int) < (k : Int)) := by omega
        have HBr := Lib.hid (HB5.out.trans (hbr.mono HB5.out.size))
        have HAr := Lib.hid (HA.out.at hbr)
        have PGr := Lib.hid (PG5.out.at hbr)
        have R8r := Lib.hid (rowTo R85.out hbr)
        have R5r := Lib.hid (rowTo R55.out hbr)
        clear hbr zr HA PG5 R85 R55 HB5 HM
        obtain ⟨w6, rfl⟩ : ∃ w6, w6 = wr := ⟨_, rfl⟩
        go_wp2_with fail
        go_loopw [14, 15] (fun f i wr => ∃ j : Nat, j ≤ k ∧ i = .int .i64 j ∧ f = .bool (((canL g).take j).contains (s1, s2)) ∧ Below w6.heap.size w6 wr) (fun _ i _ => k - (intOf i).toNat)
        case atStart => exact ⟨0, Nat.zero_le _, rfl, rfl, Below.refl _ _⟩
        case round =>
          obtain ⟨j, hj, rfl, rfl, hbj⟩ := hrel
          have zj := hbj.size
          have l5 := R5r.out.lt
          have e0 := (hbj.cell (p := ⟨B5, 0, none⟩) l5).trans (R5r.out.cell (j := 0) (by simp))
          have e1 := (hbj.cell (p := ⟨B5, 1, none⟩) l5).trans (R5r.out.cell (j := 1) (by simp))
          simp only [List.getElem_cons_zero, List.getElem_cons_succ] at e0 e1
          by_cases hltj : j < k
          · have hltj' : j < (canL g).length := by rw [← Hlen.out]; exact hltj
            have hAj := HAr.out.at hbj
            rw [Hlen.out] at hAj
            obtain ⟨_, _, ea, -, -, -, -, hsa⟩ := hAj
            simp only [Value.slice.injEq] at ea
            obtain ⟨rfl, -, rfl⟩ := ea
            obtain ⟨ab, ao, rfl, -, hab, a0, a1, -, -⟩ := hsa.pair hltj'
            have HST := Lib.hid (show ((canL g).take (j + 1)).contains (s1, s2) = (((canL g).take j).contains (s1, s2) || decide ((canL g)[j] = (s1, s2))) by
              rw [List.take_succ_eq_append_getElem hltj', List.contains_append]
              congr 1
              rw [List.contains_cons, List.contains_nil, Bool.or_false, Bool.eq_iff_iff, beq_iff_eq, decide_eq_true_iff]
              exact eq_comm)
            obtain ⟨c, hc⟩ : ∃ c, c = (canL g)[j] := ⟨_, rfl⟩
            rw [← hc] at a0 a1 HST
            clear hc hsa
            obtain ⟨f, hf⟩ : ∃ f, f = ((canL g).take j).contains (s1, s2) := ⟨_, rfl⟩
            rw [← hf] at HST ⊢
            clear hf
            have hjl : (j : Int) < (k : Int) := by omega
            have hj0 : (0 : Int) ≤ (j : Int) := by omega
            cases f
            · have hpe : ∀ W, Sem.run Try.prog (Op.equalIn 10000 23 (.agg #[.int .i64 c.1, .int .i64 c.2]) (.agg #[.int .i64 s1, .int .i64 s2])) W = .ok (decide (c = (s1, s2))) W := fun W => pair_equal _ _ _ _ W
              go_wp2_with fail
              go_quiet (fail)
              go_wp2_with fail
              go_roundw
              case rel => exact ⟨j + 1, hltj, by go_num, by rw [HST.out]; simp, below_drewN hbj _⟩
              case measure => simp [intOf]; omega
            · go_wp2_with fail
              go_quiet (fail)
              go_wp2_with fail
              go_roundw
              case rel => exact ⟨j + 1, hltj, by go_num, by rw [HST.out]; simp, below_drewN hbj _⟩
              case measure => simp [intOf]; omega
          · obtain rfl : j = k := by omega
            have hjx : ¬ ((j : Int) < (j : Int)) := by omega
            have hin : ((canL g).take j).contains (s1, s2) = (doL g (s1, s2)).2 := by
              rw [Hlen.out, List.take_length, doL_is]
              by_cases h : (s1, s2) ∈ canL g <;> simp [h]
            rw [hin]
            clear hin
            have Hd := Lib.hid (doL_one (g := g) (s := (s1, s2)))
            have P8 := Lib.hid (PGr.out.at hbj)
            have HBj := Lib.hid (HBr.out.trans (hbj.mono HBr.out.size))
            have R8j := Lib.hid (rowTo R8r.out hbj)
            have c80 := R8j.out.cell (j := 0) (by simp)
            have c81 := R8j.out.cell (j := 1) (by simp)
            simp only [List.getElem_cons_zero, List.getElem_cons_succ] at c80 c81
            have l8 := R8j.out.lt
            clear hbj zj PGr R8r R5r HBr HAr
            obtain ⟨w7, rfl⟩ : ∃ w7, w7 = wr := ⟨_, rfl⟩
            go_wp2_with fail
            refine (DoP_spec (s := (s1, s2)) P8.out hfine).mono ?_
            rintro e w8 ⟨_, rfl, hb8, p16, rfl, hp16⟩
            replace hp16 := hp16.any
            obtain ⟨a16, b16, c16, d16, rfl⟩ := hp16.shape
            have P16 := Lib.hid hp16
            have HB8 := Lib.hid (HBj.out.trans (hb8.mono HBj.out.size))
            have R88 := Lib.hid (rowTo R8j.out hb8)
            have PG8 := Lib.hid (P8.out.at hb8)
            clear c80 c81 l8 hp16 R8j P8 e0 e1
            have c80 := R88.out.cell (j := 0) (by simp)
            have c81 := R88.out.cell (j := 1) (by simp)
            simp only [List.getElem_cons_zero, List.getElem_cons_succ] at c80 c81
            have l8 := R88.out.lt
            clear hb8 l5
            rcases Hd.out with ⟨-, h2⟩ | ⟨-, h2⟩
            · rw [h2]
              clear h2
              go_wp2_with fail
              go_ret
              exact ⟨rfl, HB8.out.trans (Below.mono (Seq.way : Below w8.heap.size w8 _) HB8.out.size)⟩
            · rw [h2] at P16 ⊢
              clear h2
              go_wp2_with fail
              refine (same_eq (P16.out.at Seq.way) (PG8.out.at Seq.way)).mono ?_
              rintro e w9 ⟨rfl, hb9⟩
              have hb9' := below_step hb9 (Seq.way : Below w8.heap.size w8 _)
              go_wp2_with fail
              go_ret
              exact ⟨rfl, HB8.out.trans (hb9'.mono HB8.out.size)⟩
end Go.Proofs.Ytdbennmbbmoflaa
