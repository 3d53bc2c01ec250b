/-
  unify.Match: the program's walk.
-/
import Derived.Test.YtckkjjiaecnciaaGreatMtH
import Derived.Deep.Cut
import Derived.Deep.CutRange
import Derived.Deep.DeepCutAuto
namespace Go.Proofs.YtckkjjiaecnciaaGreat
open Go Go.RowKit Go.ChangeMaps

/-- What a match hands back: its second result. -/
def mP (p t : List Cell) : Bool := match matchL p t [] with
  | none => false
  | some s => rightS (outL s (sortL (varsL p)))
theorem mP_no {p t : List Cell} (h : matchB p t = false) : mP p t = false := by
  unfold matchB at h; unfold mP
  cases hm : matchL p t [] with
  | none => rfl
  | some s => rw [hm] at h; cases h
theorem mat_step {T : Nat → Prop} {w0 wr W' : World} {n0 B V k k' : Nat} {s : List Bnd} {D : DataW Value} (hown : wr.ownsMap Tryz.prog 3 Rv B k D) (hT : TabD (fun b => T b ∧ b < n0) wr s D) (hb : Below V w0 wr) (hV : V ≤ wr.heap.size)
    (h : Below wr.heap.size wr W') (hk : k ≤ k') : Hid (W'.ownsMap Tryz.prog 3 Rv B k' D) ∧ Hid (TabD (fun b => T b ∧ b < n0) W' s D) ∧ Hid (Below V w0 W') :=
  ⟨Lib.hid ((ownsMap_at hown (h.block B hown.lt)).mono hk), Lib.hid (hT.mono (fun _ h _ => h) fun b _ hlt => h.block b hlt), Lib.hid (hb.trans (h.mono hV))⟩
def MatPost (b : Bool) (w : World) (e : Ending) (w' : World) : Prop := ∃ x, e = .returned (.tuple #[x, .bool b]) ∧ Below w.heap.size w w'

set_option maxHeartbeats 8000000 in
set_option maxRecDepth 100000 in
theorem MatchP_spec {S T : Nat → Prop} {w : World} {v u : Value} {p t : List Cell} (hp : Seq cellE S w v p) (ht : Seq cellE T w u t) (hrp : RightT p) (hrt : RightT t) :
    Calls Tryz.prog 53 #[v, u] w (MatPost (mP p t) w) := by
  have Hp := Lib.hid hp
  have Ht := Lib.hid (ht.mono (T := fun b => T b ∧ b < w.heap.size) (fun _ h h2 => ⟨h, h2⟩) fun _ _ _ => rfl)
  have hpl := hrp.1
  have htl := hrt.1
  have hm0 := Lib.hid (matM_zero (p := p) hrt)
  obtain ⟨pa, pc, rfl, -, -, -, -, p5⟩ := hp
  obtain ⟨ta, tc, rfl, htc, htm, -, htn, t5⟩ := ht
  have hpf := fun {w' : World} (h : Below w.heap.size w w') => Lib.hid (p5.below h fun _ _ h => h : SeqAt cellE S w' pa p)
  have htf := fun {w' : World} (h : Below w.heap.size w w') => Lib.hid (t5.below h fun _ _ h => h : SeqAt cellE T w' ta t)
  have hmm := @run_makeMap Tryz.prog
  obtain ⟨V, hV⟩ : ∃ V, V = w.alloc (.cells #[.slice ta t.length tc, .slice none 0 0, .slice none 0 0, .slice none 0 0] 93) := ⟨_, rfl⟩
  have HC := Lib.hid (show Row 93 V w.heap.size [.slice ta t.length tc, .slice none 0 0, .slice none 0 0, .slice none 0 0] by rw [hV]; exact Row.new w [_, _, _, _] _ rfl)
  have HBV := Lib.hid (show Below w.heap.size w V by rw [hV]; exact Seq.way)
  have hVs : V.heap.size = w.heap.size + 1 := by rw [hV]; simp
  have HV := Lib.hid hV
  clear p5 t5 hV hrt
  go_enter Tryz.func53, Tryz.ntmps53
  go_upto_region 2 with fail
  rw [← HV.out]
  go_wp2_with fail
  go_loopw [7, 24] (fun tq i wr => ∃ (k q : Nat) (s : List Bnd) (D : DataW Value), k ≤ p.length ∧ i = .int .i64 k ∧ tq = .int .i64 q ∧ q ≤ t.length ∧ Hid (MatM p t k q s) ∧
    Hid (wr.ownsMap Tryz.prog 3 Rv (w.heap.size + 1) k D) ∧ Hid (TabD (fun b => T b ∧ b < w.heap.size) wr s D) ∧ Hid (Below (w.heap.size + 1) V wr)) (fun _ i _ => p.length - (intOf i).toNat)
  case atStart =>
    exact ⟨0, 0, [], _, Nat.zero_le _, rfl, rfl, Nat.zero_le _, hm0, Lib.hid (hVs ▸ World.ownsMap_made V Tryz.prog 3 Rv), Lib.hid (tabD_nil _ _), Lib.hid Seq.way⟩
  case round =>
    obtain ⟨k, q, s, D, hk, rfl, rfl, hq, hM, hown, hT, hbr⟩ := hrel
    have hbr0 := hbr
    have hbr : Hid (Below V.heap.size V wr) := Lib.hid (by rw [hVs]; exact hbr0.out)
    have hbw := Lib.hid (below_step hbr.out HBV.out)
    have hzr := hbr.out.size
    have hlt0 := hown.out.lt
    by_cases hlt : k < p.length
    · obtain ⟨b, off, rfl, -, hb, c0, c1, c2, ok0, ok1, ok2⟩ := (hpf hbw.out).out.cell hlt
      have hkl : (k : Int) < (p.length : Int) := by omega
      have hk0 : (0 : Int) ≤ (k : Int) := by omega
      by_cases hqt : q < t.length
      · have hql : (q : Int) < (t.length : Int) := by omega
        have hq0 : (0 : Int) ≤ (q : Int) := by omega
        by_cases hkd : p[k].kind = 1
        · have hsub := matM_sub hqt hM.out
          obtain ⟨hE, hE1, hE2, hER, -⟩ := hsub
          have hold := Lib.hid (fun y h1 h2 => matM_old (y := y) hlt hqt hM.out hkd h1 h2)
          have hdif := Lib.hid (fun y h1 h2 => matM_differ (y := y) hlt hqt hM.out hkd h1 h2)
          have hnew := Lib.hid (fun h1 => matM_new hlt hqt hM.out hkd h1)
          obtain ⟨c, hc⟩ : ∃ c, c = p[k] := ⟨_, rfl⟩
          rw [← hc] at c0 c1 c2 ok0 ok1 ok2 hkd hold hdif hnew
          obtain ⟨E, hEE⟩ : ∃ E, E = endM t q := ⟨_, rfl⟩
          rw [← hEE] at hE hE1 hE2 hER hold hdif hnew
          have HE := Lib.hid hE
          clear hc hEE hM hE
          rw [hkd] at c0
          clear hkd ok0
          have hEl : (E : Int) ≤ (t.length : Int) := by omega
          have hqE : (q : Int) ≤ (E : Int) := by omega
          obtain ⟨W1, hW1⟩ : ∃ W, W = wr.alloc (.cells #[.int .i64 1, .string c.name, .int .i64 c.n] 51) := ⟨_, rfl⟩
          have r1 := Lib.hid (show Row 51 W1 wr.heap.size [.int .i64 1, .string c.name, .int .i64 c.n] by rw [hW1]; exact Row.new wr [_, _, _] _ rfl)
          have hb1 := Lib.hid (show Below wr.heap.size wr W1 by rw [hW1]; exact Seq.way)
          have HW1 := Lib.hid hW1
          have hbw1 := Lib.hid (below_step hb1.out hbw.out)
          clear hW1
          go_upto_region 8 with fail
          rw [← HW1.out]
          obtain ⟨x0, x1, x2⟩ : W1.cell? ⟨wr.heap.size, 0, none⟩ = some (.int .i64 1) ∧ W1.cell? ⟨wr.heap.size, 1, none⟩ = some (.string c.name) ∧ W1.cell? ⟨wr.heap.size, 2, none⟩ = some (.int .i64 c.n) :=
            ⟨r1.out.cell (j := 0) (by simp), r1.out.cell (j := 1) (by simp), r1.out.cell (j := 2) (by simp)⟩
          go_wp2_with fail
          refine (endK_spec (E := E) (rowTo HC.out (below_step hb1.out hbr.out)) (Ht.out.at hbw1.out) (by omega) (by omega) HE.out).mono ?_
          rintro e w2 ⟨rfl, hq2⟩
          have hb2 := Lib.hid (hq2.below W1.heap.size)
          have r2 := Lib.hid (rowTo r1.out hb2.out)
          have hbw2 := Lib.hid (below_step hb2.out hbw1.out)
          have hbr2 := Lib.hid (below_step hb2.out hb1.out)
          obtain ⟨hown2, hT2, hbV2⟩ := mat_step (k' := k) hown.out hT.out hbr0.out (hVs ▸ hzr) hbr2.out (Nat.le_refl _)
          clear x0 x1 x2 hq2 hT hown
          obtain ⟨x0, x1, x2⟩ : w2.cell? ⟨wr.heap.size, 0, none⟩ = some (.int .i64 1) ∧ w2.cell? ⟨wr.heap.size, 1, none⟩ = some (.string c.name) ∧ w2.cell? ⟨wr.heap.size, 2, none⟩ = some (.int .i64 c.n) :=
            ⟨r2.out.cell (j := 0) (by simp), r2.out.cell (j := 1) (by simp), r2.out.cell (j := 2) (by simp)⟩
          have HT2 := hT2
          cases hbd : bindS s c.n with
          | none =>
            have hhas := (HT2.out.2 c.n).1 hbd
            have hN := Lib.hid (hnew.out hbd)
            go_wp2_with (at_lookup; go_loud (refine wpList_look _ rfl _ _ 94 rfl 3 23 (Maps.int_keyed Tryz.underlying3) Tryz.underlying94 (zero_slice _) (w.heap.size + 1) k D rfl hown2.out _ _ rfl (Maps.keyOf_int_mk Tryz.underlying3 (wf_ok ok1)) (Maps.atKey_of_not_has hhas _) hhas ?_))
            --REGA
            obtain ⟨SB, hmap⟩ : ∃ SB, ta.map (fun x => x.add (q * 3)) = SB := ⟨_, rfl⟩
            have hif : (if tc = q then ta else ta.map (fun x => x.add (q * 3))) = SB := by rw [if_neg (by omega)]; exact hmap
            have hif2 : (if tc = q then ta else SB) = SB := by rw [if_neg (by omega)]
            have hEc : E ≤ tc := by omega
            have hqN : q ≤ E := by omega
            obtain ⟨v0, st, w3, w4, hme, hes, hown4, hg4, hg3⟩ := entry_own (Maps.int_keyed Tryz.underlying3) Tryz.underlying94 (z := .slice none 0 0) (fun u => zero_slice u) (w := w2.drew) (B := w.heap.size + 1) hown2.out (by unfold maxLen; omega) (Maps.keyOf_int_mk Tryz.underlying3 (wf_ok ok1)) (.slice SB (E - q) (tc - q))
            have Hme := Lib.hid hme
            have Hes := Lib.hid hes
            have Hown4 := Lib.hid hown4
            have Hg4 := Lib.hid hg4
            have x23 : w3.cell? ⟨wr.heap.size, 2, none⟩ = some (.int .i64 c.n) := (World.cell?_of_block (w := w2) (hg3.block wr.heap.size (by have := r2.out.lt; simpa using this) (by simp; omega))).trans x2
            have x24 : w4.cell? ⟨wr.heap.size, 2, none⟩ = some (.int .i64 c.n) := (World.cell?_of_block (w := w2) (Hg4.out.block wr.heap.size (by have := r2.out.lt; simpa using this) (by simp; omega))).trans x2
            clear hme hes hown4 hg4 hg3
            refine wp_region_noPanic ?_
            refine wp_region_held_drew (S := fun y => y.cell? ⟨wr.heap.size, 2, none⟩ = some (.int .i64 c.n)) (by kernel_rfl) x2 (fun hHeld => ?_)
            refine wpAnyH_take1 (i := 0) (oi := _) (v := ?_) (by kernel_rfl) rfl (by kernel_rfl) (fun _ _ _ h => h) (Or.inl ⟨by rfl, ?_⟩) hHeld ?_
            rotate_left 1
            · intro y hSw; (try dsimp only at hSw); go_simp; (try rw [if_pos hEc, if_pos hqN]); (with_reducible rfl)
            (try simp only [Act.put, List.getElem_toArray, List.getElem_cons_zero, List.setIfInBounds_toArray, List.set_cons_zero, List.set_cons_succ])
            refine wpAnyH_take1 (i := 1) (oi := _) (v := ?_) (by kernel_rfl) rfl (by kernel_rfl) (fun _ _ _ h => h) (Or.inl ⟨by rfl, ?_⟩) hHeld ?_
            rotate_left 1
            · intro y hSw; (try dsimp only at hSw); go_simp; (try rw [if_pos hEc, if_pos hqN]); (with_reducible rfl)
            (try simp only [Act.put, List.getElem_toArray, List.getElem_cons_zero, List.getElem_cons_succ, List.setIfInBounds_toArray, List.set_cons_zero, List.set_cons_succ])
            refine wpAnyH_take1 (i := 2) (oi := _) (v := ?_) (by kernel_rfl) rfl (by kernel_rfl) (fun _ _ _ h => h) (Or.inl ⟨by rfl, ?_⟩) hHeld ?_
            rotate_left 1
            · intro y hSw; (try dsimp only at hSw); go_simp; (try rw [if_pos hEc, if_pos hqN]); (with_reducible rfl)
            (try simp only [Act.put, List.getElem_toArray, List.getElem_cons_zero, List.getElem_cons_succ, List.setIfInBounds_toArray, List.set_cons_zero, List.set_cons_succ])
            refine wpAnyH_take1 (i := 3) (oi := _) (v := ?_) (by kernel_rfl) rfl (by kernel_rfl) (fun _ _ _ h => h) (Or.inl ⟨by rfl, ?_⟩) hHeld ?_
            rotate_left 1
            · intro y hSw; (try dsimp only at hSw); go_simp; (try rw [if_pos hEc, if_pos hqN]); (with_reducible rfl)
            (try simp only [Act.put, List.getElem_toArray, List.getElem_cons_zero, List.getElem_cons_succ, List.setIfInBounds_toArray, List.set_cons_zero, List.set_cons_succ])
            refine wpAnyH_take1 (i := 4) (oi := _) (v := ?_) (by kernel_rfl) rfl (by kernel_rfl) (fun _ _ _ h => h) (Or.inl ⟨by rfl, ?_⟩) hHeld ?_
            rotate_left 1
            · intro y hSw; (try dsimp only at hSw); go_simp; (try rw [if_pos hEc, if_pos hqN]); (with_reducible rfl)
            (try simp only [Act.put, List.getElem_toArray, List.getElem_cons_zero, List.getElem_cons_succ, List.setIfInBounds_toArray, List.set_cons_zero, List.set_cons_succ])
            refine wpAnyH_take1 (i := 5) (oi := _) (v := ?_) (by kernel_rfl) rfl (by kernel_rfl) (fun _ _ _ h => h) (Or.inl ⟨by rfl, ?_⟩) hHeld ?_
            rotate_left 1
            · intro y hSw; (try dsimp only at hSw); go_simp; (try rw [if_pos hEc, if_pos hqN]); (with_reducible rfl)
            (try simp only [Act.put, List.getElem_toArray, List.getElem_cons_zero, List.getElem_cons_succ, List.setIfInBounds_toArray, List.set_cons_zero, List.set_cons_succ])
            refine wpAnyH_take1 (i := 6) (oi := _) (v := ?_) (by kernel_rfl) rfl (by kernel_rfl) (fun _ _ _ h => h) (Or.inl ⟨by rfl, ?_⟩) hHeld ?_
            rotate_left 1
            · intro y hSw; (try dsimp only at hSw); go_simp; (try rw [if_pos hEc, if_pos hqN]); (with_reducible rfl)
            (try simp only [Act.put, List.getElem_toArray, List.getElem_cons_zero, List.getElem_cons_succ, List.setIfInBounds_toArray, List.set_cons_zero, List.set_cons_succ])
            refine wpAnyH_take1 (i := 7) (oi := _) (v := ?_) (by kernel_rfl) rfl (by kernel_rfl) (fun _ _ _ h => h) (Or.inl ⟨by rfl, ?_⟩) hHeld ?_
            rotate_left 1
            · intro y hSw; (try dsimp only at hSw); go_simp; (try rw [if_pos hEc, if_pos hqN]); (with_reducible rfl)
            (try simp only [Act.put, List.getElem_toArray, List.getElem_cons_zero, List.getElem_cons_succ, List.setIfInBounds_toArray, List.set_cons_zero, List.set_cons_succ])
            refine wpAnyH_one (i := 8) (by kernel_rfl) rfl (by rfl) fun K hK => ?_
            refine op_entry _ _ _ rfl rfl rfl Hme.out ?_
            (try dsimp only)
            clear hHeld
            refine hK.out _ _ x23 fun hHeld => ?_
            clear hK K
            (try simp only [Act.put, List.getElem_toArray, List.getElem_cons_zero, List.getElem_cons_succ, List.setIfInBounds_toArray, List.set_cons_zero, List.set_cons_succ])
            refine wpAnyH_take1 (i := 9) (oi := _) (v := ?_) (by kernel_rfl) rfl (by kernel_rfl) (fun _ _ _ h => h) (Or.inl ⟨by rfl, ?_⟩) hHeld ?_
            rotate_left 1
            · intro y hSw; (try dsimp only at hSw); go_simp; (try rw [if_pos hEc, if_pos hqN]); (with_reducible rfl)
            (try simp only [Act.put, List.getElem_toArray, List.getElem_cons_zero, List.getElem_cons_succ, List.setIfInBounds_toArray, List.set_cons_zero, List.set_cons_succ])
            refine wpAnyH_one (i := 10) (by kernel_rfl) rfl (by rfl) fun K hK => ?_
            refine op_entryStore _ _ _ _ rfl rfl rfl rfl Hes.out ?_
            (try dsimp only)
            clear hHeld
            refine hK.out _ _ x24 fun hHeld => ?_
            clear hK K
            (try simp only [Act.put, List.getElem_toArray, List.getElem_cons_zero, List.getElem_cons_succ])
            refine wpAnyH_one (i := 11) (by kernel_rfl) rfl (by rfl) fun K hK => ?_
            go_simp
            clear hHeld
            refine hK.out _ _ x24 fun hHeld => ?_
            clear hK K
            (try simp only [Act.put, List.getElem_toArray, List.getElem_cons_zero, List.getElem_cons_succ, List.setIfInBounds_toArray, List.set_cons_zero, List.set_cons_succ])
            refine wpAnyH_done (by kernel_rfl) ?_ _
            refine NoPanic.normal ?_
            have hb4 : Below w2.heap.size w2 w2.drew := Seq.way
            have hkeep : ∀ b, b < w2.heap.size → b ≠ w.heap.size + 1 → w4.heap[b]? = w2.heap[b]? := fun b hb hne => Hg4.out.block b hb (by simp; omega)
            have hbV4 : Below (w.heap.size + 1) V w4 := by
              refine (hbV2.out.mono (by omega)).trans ⟨Hg4.out.os, Hg4.out.tape, Hg4.out.output, Hg4.out.size, fun b hb => hkeep b (by have := hbw2.out.size; have := hzr; have := hbr2.out.size; omega) (by omega)⟩
            have hTX : TabD (fun b => T b ∧ b < w.heap.size) w4 s D := HT2.out.mono (fun _ h _ => h) fun b h hlt => hkeep b hlt (by omega)
            have hSX : Seq cellE (fun b => T b ∧ b < w.heap.size) w4 (.slice SB (E - q) (tc - q)) ((t.take E).drop q) := (Ht.out.piece hqN hE2 hif.symm rfl rfl).mono (fun _ h _ => h) fun b h hlt => (hbV4.block b (by omega)).trans (HBV.out.block b h.2)
            --ENDA
            go_wp2_with fail
            go_roundw
            case rel => exact ⟨k + 1, E, s ++ [⟨c.n, (t.take E).drop q⟩], _, hlt, by go_num, by go_num, hE2, hN, Hown4, Lib.hid (tabD_put1 hTX hSX fun n => by
                rw [bindS_snoc1]
                by_cases e : n = c.n
                · subst e; rw [hbd]; simp
                · rw [if_neg e, if_neg (fun h => e h.symm), Option.or_none]), Lib.hid hbV4⟩
            case measure => simp [intOf]; omega
          | some y =>
            obtain ⟨hhas, yv, hat, hY⟩ := (HT2.out.2 c.n).2 y hbd
            have HY := Lib.hid hY
            obtain ⟨ya, yc, rfl, -⟩ := hY
            have hO := Lib.hid (hold.out y hbd)
            have hD := Lib.hid (hdif.out y hbd)
            obtain ⟨SB, hmap⟩ : ∃ SB, ta.map (fun x => x.add (q * 3)) = SB := ⟨_, rfl⟩
            have hif : (if tc = q then ta else ta.map (fun x => x.add (q * 3))) = SB := by rw [if_neg (by omega)]; exact hmap
            have hif2 : (if tc = q then ta else SB) = SB := by rw [if_neg (by omega)]
            have hEc : E ≤ tc := by omega
            have hqN : q ≤ E := by omega
            have hSU := Lib.hid ((Ht.out.piece hqN hE2 hif.symm rfl rfl).at hbw2.out)
            have Hbd := Lib.hid hbd
            clear hbd hold hdif hnew
            go_wp2_with (at_lookup; refine wpList_look _ rfl _ _ 94 rfl 3 23 (Maps.int_keyed Tryz.underlying3) Tryz.underlying94 (zero_slice _) (w.heap.size + 1) k D rfl hown2.out _ _ rfl (Maps.keyOf_int_mk Tryz.underlying3 (wf_ok ok1)) (hat _) hhas ?_)
            refine (SameP_spec HY.out hSU.out).mono ?_
            rintro e w5 ⟨rfl, hq5⟩
            have hb5 := Lib.hid (hq5.below w2.heap.size)
            have r5 := Lib.hid (rowTo r2.out hb5.out)
            have hbw5 := Lib.hid (below_step hb5.out hbw2.out)
            have hbr5 := Lib.hid (below_step hb5.out hbr2.out)
            obtain ⟨hown5, HT5, hbV5⟩ := mat_step (k' := k) hown2.out HT2.out hbV2.out (by have := hbr2.out.size; omega) hb5.out (Nat.le_refl _)
            clear x0 x1 x2 hq5 hown2 HT2 HY hSU
            obtain ⟨x0, x1, x5⟩ : w5.cell? ⟨wr.heap.size, 0, none⟩ = some (.int .i64 1) ∧ w5.cell? ⟨wr.heap.size, 1, none⟩ = some (.string c.name) ∧ w5.cell? ⟨wr.heap.size, 2, none⟩ = some (.int .i64 c.n) :=
              ⟨r5.out.cell (j := 0) (by simp), r5.out.cell (j := 1) (by simp), r5.out.cell (j := 2) (by simp)⟩
            by_cases he : y = (t.take E).drop q
            · rw [decide_eq_true he]
              have hN := Lib.hid (hO.out he)
              have He := Lib.hid he
              clear he
              go_wp2_with fail
              --REGB
              obtain ⟨v0, st, w3, w4, hme, hes, hown4, hg4, hg3⟩ := entry_own (Maps.int_keyed Tryz.underlying3) Tryz.underlying94 (z := .slice none 0 0) (fun u => zero_slice u) (w := w5.drew) (B := w.heap.size + 1) hown5.out (by unfold maxLen; omega) (Maps.keyOf_int_mk Tryz.underlying3 (wf_ok ok1)) (.slice SB (E - q) (tc - q))
              have Hme := Lib.hid hme
              have Hes := Lib.hid hes
              have Hown4 := Lib.hid hown4
              have Hg4 := Lib.hid hg4
              have x23 : w3.cell? ⟨wr.heap.size, 2, none⟩ = some (.int .i64 c.n) := (World.cell?_of_block (w := w5) (hg3.block wr.heap.size (by have := r5.out.lt; simpa using this) (by simp; omega))).trans x5
              have x24 : w4.cell? ⟨wr.heap.size, 2, none⟩ = some (.int .i64 c.n) := (World.cell?_of_block (w := w5) (Hg4.out.block wr.heap.size (by have := r5.out.lt; simpa using this) (by simp; omega))).trans x5
              clear hme hes hown4 hg4 hg3
              refine wp_region_noPanic ?_
              refine wp_region_held_drew (S := fun y => y.cell? ⟨wr.heap.size, 2, none⟩ = some (.int .i64 c.n)) (by kernel_rfl) x5 (fun hHeld => ?_)
              refine wpAnyH_take1 (i := 0) (oi := _) (v := ?_) (by kernel_rfl) rfl (by kernel_rfl) (fun _ _ _ h => h) (Or.inl ⟨by rfl, ?_⟩) hHeld ?_
              rotate_left 1
              · intro y hSw; (try dsimp only at hSw); go_simp; (try rw [if_pos hEc, if_pos hqN]); (with_reducible rfl)
              (try simp only [Act.put, List.getElem_toArray, List.getElem_cons_zero, List.setIfInBounds_toArray, List.set_cons_zero, List.set_cons_succ])
              refine wpAnyH_take1 (i := 1) (oi := _) (v := ?_) (by kernel_rfl) rfl (by kernel_rfl) (fun _ _ _ h => h) (Or.inl ⟨by rfl, ?_⟩) hHeld ?_
              rotate_left 1
              · intro y hSw; (try dsimp only at hSw); go_simp; (try rw [if_pos hEc, if_pos hqN]); (with_reducible rfl)
              (try simp only [Act.put, List.getElem_toArray, List.getElem_cons_zero, List.getElem_cons_succ, List.setIfInBounds_toArray, List.set_cons_zero, List.set_cons_succ])
              refine wpAnyH_take1 (i := 2) (oi := _) (v := ?_) (by kernel_rfl) rfl (by kernel_rfl) (fun _ _ _ h => h) (Or.inl ⟨by rfl, ?_⟩) hHeld ?_
              rotate_left 1
              · intro y hSw; (try dsimp only at hSw); go_simp; (try rw [if_pos hEc, if_pos hqN]); (with_reducible rfl)
              (try simp only [Act.put, List.getElem_toArray, List.getElem_cons_zero, List.getElem_cons_succ, List.setIfInBounds_toArray, List.set_cons_zero, List.set_cons_succ])
              refine wpAnyH_take1 (i := 3) (oi := _) (v := ?_) (by kernel_rfl) rfl (by kernel_rfl) (fun _ _ _ h => h) (Or.inl ⟨by rfl, ?_⟩) hHeld ?_
              rotate_left 1
              · intro y hSw; (try dsimp only at hSw); go_simp; (try rw [if_pos hEc, if_pos hqN]); (with_reducible rfl)
              (try simp only [Act.put, List.getElem_toArray, List.getElem_cons_zero, List.getElem_cons_succ, List.setIfInBounds_toArray, List.set_cons_zero, List.set_cons_succ])
              refine wpAnyH_take1 (i := 4) (oi := _) (v := ?_) (by kernel_rfl) rfl (by kernel_rfl) (fun _ _ _ h => h) (Or.inl ⟨by rfl, ?_⟩) hHeld ?_
              rotate_left 1
              · intro y hSw; (try dsimp only at hSw); go_simp; (try rw [if_pos hEc, if_pos hqN]); (with_reducible rfl)
              (try simp only [Act.put, List.getElem_toArray, List.getElem_cons_zero, List.getElem_cons_succ, List.setIfInBounds_toArray, List.set_cons_zero, List.set_cons_succ])
              refine wpAnyH_take1 (i := 5) (oi := _) (v := ?_) (by kernel_rfl) rfl (by kernel_rfl) (fun _ _ _ h => h) (Or.inl ⟨by rfl, ?_⟩) hHeld ?_
              rotate_left 1
              · intro y hSw; (try dsimp only at hSw); go_simp; (try rw [if_pos hEc, if_pos hqN]); (with_reducible rfl)
              (try simp only [Act.put, List.getElem_toArray, List.getElem_cons_zero, List.getElem_cons_succ, List.setIfInBounds_toArray, List.set_cons_zero, List.set_cons_succ])
              refine wpAnyH_take1 (i := 6) (oi := _) (v := ?_) (by kernel_rfl) rfl (by kernel_rfl) (fun _ _ _ h => h) (Or.inl ⟨by rfl, ?_⟩) hHeld ?_
              rotate_left 1
              · intro y hSw; (try dsimp only at hSw); go_simp; (try rw [if_pos hEc, if_pos hqN]); (with_reducible rfl)
              (try simp only [Act.put, List.getElem_toArray, List.getElem_cons_zero, List.getElem_cons_succ, List.setIfInBounds_toArray, List.set_cons_zero, List.set_cons_succ])
              refine wpAnyH_take1 (i := 7) (oi := _) (v := ?_) (by kernel_rfl) rfl (by kernel_rfl) (fun _ _ _ h => h) (Or.inl ⟨by rfl, ?_⟩) hHeld ?_
              rotate_left 1
              · intro y hSw; (try dsimp only at hSw); go_simp; (try rw [if_pos hEc, if_pos hqN]); (with_reducible rfl)
              (try simp only [Act.put, List.getElem_toArray, List.getElem_cons_zero, List.getElem_cons_succ, List.setIfInBounds_toArray, List.set_cons_zero, List.set_cons_succ])
              refine wpAnyH_one (i := 8) (by kernel_rfl) rfl (by rfl) fun K hK => ?_
              refine op_entry _ _ _ rfl rfl rfl Hme.out ?_
              (try dsimp only)
              clear hHeld
              refine hK.out _ _ x23 fun hHeld => ?_
              clear hK K
              (try simp only [Act.put, List.getElem_toArray, List.getElem_cons_zero, List.getElem_cons_succ, List.setIfInBounds_toArray, List.set_cons_zero, List.set_cons_succ])
              refine wpAnyH_take1 (i := 9) (oi := _) (v := ?_) (by kernel_rfl) rfl (by kernel_rfl) (fun _ _ _ h => h) (Or.inl ⟨by rfl, ?_⟩) hHeld ?_
              rotate_left 1
              · intro y hSw; (try dsimp only at hSw); go_simp; (try rw [if_pos hEc, if_pos hqN]); (with_reducible rfl)
              (try simp only [Act.put, List.getElem_toArray, List.getElem_cons_zero, List.getElem_cons_succ, List.setIfInBounds_toArray, List.set_cons_zero, List.set_cons_succ])
              refine wpAnyH_one (i := 10) (by kernel_rfl) rfl (by rfl) fun K hK => ?_
              refine op_entryStore _ _ _ _ rfl rfl rfl rfl Hes.out ?_
              (try dsimp only)
              clear hHeld
              refine hK.out _ _ x24 fun hHeld => ?_
              clear hK K
              (try simp only [Act.put, List.getElem_toArray, List.getElem_cons_zero, List.getElem_cons_succ])
              refine wpAnyH_one (i := 11) (by kernel_rfl) rfl (by rfl) fun K hK => ?_
              go_simp
              clear hHeld
              refine hK.out _ _ x24 fun hHeld => ?_
              clear hK K
              (try simp only [Act.put, List.getElem_toArray, List.getElem_cons_zero, List.getElem_cons_succ, List.setIfInBounds_toArray, List.set_cons_zero, List.set_cons_succ])
              refine wpAnyH_done (by kernel_rfl) ?_ _
              refine NoPanic.normal ?_
              have hb4 : Below w5.heap.size w5 w5.drew := Seq.way
              have hkeep : ∀ b, b < w5.heap.size → b ≠ w.heap.size + 1 → w4.heap[b]? = w5.heap[b]? := fun b hb hne => Hg4.out.block b hb (by simp; omega)
              have hbV4 : Below (w.heap.size + 1) V w4 := by
                refine (hbV5.out.mono (by omega)).trans ⟨Hg4.out.os, Hg4.out.tape, Hg4.out.output, Hg4.out.size, fun b hb => hkeep b (by have := hbw5.out.size; have := hzr; have := hbr5.out.size; omega) (by omega)⟩
              have hTX : TabD (fun b => T b ∧ b < w.heap.size) w4 s D := HT5.out.mono (fun _ h _ => h) fun b h hlt => hkeep b hlt (by omega)
              have hSX : Seq cellE (fun b => T b ∧ b < w.heap.size) w4 (.slice SB (E - q) (tc - q)) ((t.take E).drop q) := (Ht.out.piece hqN hE2 hif.symm rfl rfl).mono (fun _ h _ => h) fun b h hlt => (hbV4.block b (by omega)).trans (HBV.out.block b h.2)
              --ENDB
              go_wp2_with fail
              go_roundw
              case rel => exact ⟨k + 1, E, s, _, hlt, by go_num, by go_num, hE2, hN, Hown4, Lib.hid (tabD_put1 hTX hSX fun n => by
                  by_cases e : n = c.n
                  · subst e; rw [Hbd.out, if_pos rfl, He.out]
                  · rw [if_neg e]), Lib.hid hbV4⟩
              case measure => simp [intOf]; omega
            · rw [decide_eq_false he]
              have hx := Lib.hid (mP_no (hD.out he))
              clear he hD hO
              go_wp2_with fail
              go_ret2
              refine ⟨.slice none 0 0, ?_, hbw5.out⟩
              rw [hx.out]; rfl
        · have hyes := Lib.hid (fun h => matM_fun hlt hqt hM.out hkd h)
          have hnot := Lib.hid (fun h => matM_clash hlt hqt hM.out hkd h)
          obtain ⟨b2, o2, rfl, -, hb2, d0, d1, d2, -⟩ := (htf hbw.out).out.cell hqt
          obtain ⟨c, hc⟩ : ∃ c, c = p[k] := ⟨_, rfl⟩
          obtain ⟨d, hd⟩ : ∃ d, d = t[q] := ⟨_, rfl⟩
          rw [← hc] at c0 c1 c2 ok0 ok1 ok2 hkd hyes hnot
          rw [← hd] at d0 d1 d2 hyes hnot
          clear hc hd hpf htf
          have hkd' : (c.kind != 1) = true := by simp [hkd]
          by_cases he : c = d
          · have hx := Lib.hid (hyes.out he)
            subst he
            clear hyes hnot hkd
            go_wp2_with fail
            go_quiet (fail)
            go_wp2_with fail
            go_roundw
            case rel => exact ⟨k + 1, q + 1, s, D, hlt, by go_num, by go_num, hqt, hx, mat_step hown.out hT.out hbr0.out (hVs ▸ hzr) Seq.way (by omega)⟩
            case measure => simp [intOf]; omega
          · have hx := Lib.hid (mP_no (hnot.out he))
            rcases cell_ne he with q1 | ⟨q1, q2⟩ | ⟨q1, q2, q3⟩
            all_goals
              clear hyes hnot he
              go_wp2_with fail
              go_quiet (fail)
              go_wp2_with fail
              go_ret2
              refine ⟨.slice none 0 0, ?_, below_step (Seq.way) hbw.out⟩
              rw [hx.out]; rfl
      · obtain rfl : q = t.length := by omega
        have hx := Lib.hid (mP_no (matM_end hlt hM.out))
        go_wp2_with fail
        go_ret2
        refine ⟨.slice none 0 0, ?_, below_step (Seq.way) hbw.out⟩
        rw [hx.out]; rfl
    · obtain rfl : k = p.length := by omega
      have hend := matM_done hM.out
      have hmp := Lib.hid (show mP p t = rightS (outL s (sortL (varsL p))) by unfold mP; rw [hend])
      have hbv := Lib.hid (show ∀ n ∈ sortL (varsL p), ∃ y, bindS s n = some y ∧ RightT y from fun n hn => by
        obtain ⟨c, hc, hk1, rfl⟩ := varsL_mem.1 (sortL_mem.1 hn)
        obtain ⟨j, hj, rfl⟩ := List.mem_iff_getElem.1 hc
        obtain ⟨y, hy⟩ := hM.out.vars j hj hj hk1
        exact ⟨y, hy, hM.out.right _ _ hy⟩)
      have hnl : (varsL p).length ≤ 200 := Nat.le_trans (varsL_len p) hpl
      clear hend hM hpf htf hm0
      go_wp2_with fail
      refine (VarsP_spec (Hp.out.at hbw.out) (by omega)).mono ?_
      rintro e w1 ⟨v1, rfl, hb1, hv1⟩
      have Hv1 := Lib.hid hv1
      obtain ⟨va, vc, rfl⟩ := hv1.shape
      have Hb1 := Lib.hid hb1
      have hbw1 := Lib.hid (below_step hb1 hbw.out)
      clear hv1 hb1
      go_wp2_with fail
      refine valuesI_spec.mono ?_
      rintro e w2 ⟨rfl, rfl⟩
      obtain ⟨w2, hw2⟩ : ∃ w2, w2 = w1.alloc (.cells #[.slice va (varsL p).length vc] 33) := ⟨_, rfl⟩
      have r2 := Lib.hid (show Row 33 w2 w1.heap.size [.slice va (varsL p).length vc] by rw [hw2]; exact Row.new w1 [_] _ rfl)
      have hb2 := Lib.hid (show Below w1.heap.size w1 w2 by rw [hw2]; exact Seq.way)
      rw [← hw2]
      clear hw2
      go_wp2_with fail
      refine (sortedI_spec (Bs := w1.heap.size) (r2.out.cell (j := 0) (by simp)) r2.out.lt ((Hv1.out.at hb2.out).mono (fun b h hlt => hlt) fun _ _ _ => rfl) (by omega)).mono ?_
      rintro e w3 ⟨v3, rfl, hb3, hown3⟩
      have hns := sortL_len (varsL p)
      obtain ⟨ns, hnE⟩ : ∃ ns, ns = sortL (varsL p) := ⟨_, rfl⟩
      rw [← hnE] at hown3 hmp hbv hns
      have Hs3 := Lib.hid (hown3.seq (T := fun _ => True) (by omega) fun _ _ _ => trivial)
      obtain ⟨na, nc, rfl, -, -⟩ := hown3.shape
      have hbr3 := Lib.hid (below_step hb3 (below_step hb2.out Hb1.out))
      have hbw3 := Lib.hid (below_step hbr3.out hbw.out)
      have hown := Lib.hid (ownsMap_at hown.out (hbr3.out.block (w.heap.size + 1) hlt0))
      have hT := Lib.hid (hT.out.mono (w' := w3) (fun _ h _ => h) fun b _ hlt => hbr3.out.block b hlt)
      have hnl' : ns.length ≤ 200 := by omega
      obtain ⟨_, _, ee, -, -, -, -, n5⟩ := Hs3.out
      simp only [Value.slice.injEq, true_and] at ee
      obtain ⟨rfl, rfl⟩ := ee
      have hnf := fun {w' : World} (h : Below w3.heap.size w3 w') => Lib.hid (n5.below h fun _ _ h => h : SeqAt intE _ w' na ns)
      clear hown3 hb3 n5 hnE r2 hns
      go_wp2_with fail
      go_loopw [14, 79] (fun o i wr => ∃ k : Nat, k ≤ ns.length ∧ i = .int .i64 k ∧ Hid (Own bindE (fun b => w3.heap.size ≤ b) w3.heap.size 88 wr o (outL s (ns.take k))) ∧ Hid (Below w3.heap.size w3 wr)) (fun _ i _ => ns.length - (intOf i).toNat)
      case atStart => exact ⟨0, Nat.zero_le _, rfl, Lib.hid (Own.nil _ _ _ _ _), Lib.hid Seq.way⟩
      case round =>
        obtain ⟨k, hk, rfl, hO, hbx⟩ := hrel
        have hzx := hbx.out.size
        have hlen := outL_len s (ns.take k)
        rw [List.length_take] at hlen
        obtain ⟨oa, oc, rfl, -, -⟩ := hO.out.shape
        by_cases hlt : k < ns.length
        · obtain ⟨b, off, rfl, -, hb, c0, ok0⟩ := (hnf hbx.out).out.int hlt
          obtain ⟨y, hy, hyr⟩ := hbv.out _ (List.getElem_mem hlt)
          have hyes := Lib.hid (outL_yes hlt hy)
          have hno := Lib.hid (outL_no hlt hy)
          obtain ⟨n, hn⟩ : ∃ n, n = ns[k] := ⟨_, rfl⟩
          rw [← hn] at c0 ok0 hy hyes hno
          obtain ⟨-, yv, hat, hY⟩ := (hT.out.2 n).2 y hy
          have HY := Lib.hid (hY.mono (T := fun b => b < w3.heap.size) (w' := wr) (fun b h _ => by have := hbw3.out.size; omega) fun b _ hlt => hbx.out.block b hlt)
          obtain ⟨c, l, rfl, hck, hcl⟩ := hyr.cons
          have hV := Lib.hid (isV_head (n := n) hyr)
          have hownx := ownsMap_at hown.out (hbx.out.block (w.heap.size + 1) hown.out.lt)
          obtain ⟨yv', ps, hrun, hrv⟩ := hownx.lookup (Maps.int_keyed Tryz.underlying3) Tryz.underlying94 (zero_slice wr) (zd := .held (.slice none 0 0)) (zp := []) rfl (Maps.keyOf_int_mk Tryz.underlying3 (wf_ok ok0))
          rw [hat] at hrv
          obtain rfl : yv' = yv := by
            unfold Rv at hrv
            simp only [Option.some.injEq, Prod.mk.injEq] at hrv
            have h := hrv.1
            injection h
          obtain ⟨ya, yc, rfl, hyc, hym, hyl, -, y5⟩ := HY.out
          obtain ⟨b2, o2, rfl, -, hb2', d0, d1, d2, -⟩ := y5.cell (k := 0) (by simp)
          simp only [Nat.zero_mul, Nat.add_zero, List.getElem_cons_zero] at d0 d1 d2
          have hll : 0 < (c :: l).length := by simp
          have hll2 : (0 : Int) < ((c :: l).length : Int) := by omega
          have hyl' := hyr.1
          have Hrun := Lib.hid hrun
          obtain ⟨Y, hYY⟩ : ∃ Y, Y = c :: l := ⟨_, rfl⟩
          rw [← hYY] at hrun hll hll2 hyl' hyes hno HY hV
          have hkl : (k : Int) < (ns.length : Int) := by omega
          have hk0 : (0 : Int) ≤ (k : Int) := by omega
          clear hn hY hat hrv hownx y5 hnf hbv hYY hy hyr hck hcl Hrun d1
          by_cases hkd : c.kind = 1
          · by_cases hcn : c.n = n
            · have hx := Lib.hid (hno.out (by rw [hV.out, decide_eq_true hkd, decide_eq_true hcn]; rfl))
              have hkd' : (c.kind != 1) = false := by simp [hkd]
              have hcn' : (c.n != n) = false := by simp [hcn]
              rw [hkd] at d0
              rw [hcn] at d2
              clear hkd hcn hkd' hcn' hyes hno hV
              go_wp2_with fail
              go_roundw
              case rel => exact ⟨k + 1, hlt, by go_num, Lib.hid (by rw [hx.out]; exact hO.out.move Seq.way), Lib.hid (below_step Seq.way hbx.out)⟩
              case measure => simp [intOf]; omega
            · have hx := Lib.hid (hyes.out (by rw [hV.out, decide_eq_true hkd, decide_eq_false hcn]; rfl))
              have hkd' : (c.kind != 1) = false := by simp [hkd]
              have hcn' : (c.n != n) = true := by simp [hcn]
              rw [hkd] at d0
              clear hkd hcn hkd' hyes hno hV
              go_wp2_with fail
              refine (cloneC_spec HY.out (by omega)).mono ?_
              rintro e w5 ⟨v5, rfl, hb5, hown5⟩
              have Hs5 := Lib.hid ((own_cellS (T := fun _ => False) hown5).seqB (T := fun b => wr.heap.size ≤ b) (by omega) fun b _ h => h.elim False.elim fun h => (hown5.blk h).1)
              obtain ⟨a5, c5, rfl, -, -⟩ := hown5.shape
              have HO5 := Lib.hid (hO.out.move hb5)
              have Hb5 := Lib.hid hb5
              have hz5 := hb5.size
              clear hown5 hb5
              go_wp2_with (at_builtin; refine wpList_app_bindS (y := ⟨n, Y⟩) rfl _ _ 67 rfl Tryz.underlying67 infoBindS rfl (HO5.out.move Seq.way) rfl ok0 (Hs5.out.at Seq.way) (fun b h _ => ⟨by omega, fun e => by have := (hO.out.blk e).2; omega⟩) (by go_simp) (by go_simp) (by omega) (by simp; omega) ?_)
              intro ao cap w6 hown6 hkept6
              have H6 := Lib.hid hown6
              have K6 := Lib.hid (hbx.out.trans ((Hb5.out.mono hzx).trans (Below.trans Seq.way hkept6.below)))
              clear hown6 hkept6
              go_wp2_with fail
              go_roundw
              case rel => exact ⟨k + 1, hlt, by go_num, Lib.hid (by rw [hx.out]; simpa using H6.out), K6⟩
              case measure => simp [intOf]; omega
          · have hx := Lib.hid (hyes.out (by rw [hV.out, decide_eq_false hkd]; rfl))
            have hkd' : (c.kind != 1) = true := by simp [hkd]
            clear hkd hyes hno hV
            go_wp2_with fail
            refine (cloneC_spec HY.out (by omega)).mono ?_
            rintro e w5 ⟨v5, rfl, hb5, hown5⟩
            have Hs5 := Lib.hid ((own_cellS (T := fun _ => False) hown5).seqB (T := fun b => wr.heap.size ≤ b) (by omega) fun b _ h => h.elim False.elim fun h => (hown5.blk h).1)
            obtain ⟨a5, c5, rfl, -, -⟩ := hown5.shape
            have HO5 := Lib.hid (hO.out.move hb5)
            have Hb5 := Lib.hid hb5
            have hz5 := hb5.size
            clear hown5 hb5
            go_wp2_with (at_builtin; refine wpList_app_bindS (y := ⟨n, Y⟩) rfl _ _ 67 rfl Tryz.underlying67 infoBindS rfl (HO5.out.move Seq.way) rfl ok0 (Hs5.out.at Seq.way) (fun b h _ => ⟨by omega, fun e => by have := (hO.out.blk e).2; omega⟩) (by go_simp) (by go_simp) (by omega) (by simp; omega) ?_)
            intro ao cap w6 hown6 hkept6
            have H6 := Lib.hid hown6
            have K6 := Lib.hid (hbx.out.trans ((Hb5.out.mono hzx).trans (Below.trans Seq.way hkept6.below)))
            clear hown6 hkept6
            go_wp2_with fail
            go_roundw
            case rel => exact ⟨k + 1, hlt, by go_num, Lib.hid (by rw [hx.out]; simpa using H6.out), K6⟩
            case measure => simp [intOf]; omega
        · obtain rfl : k = ns.length := by omega
          rw [List.take_length] at hO hlen
          have hsq := Lib.hid (hO.out.seq (T := fun _ => True) (by omega) fun _ _ _ => trivial)
          go_wp2_with fail
          refine (RightS02_spec (hsq.out.at Seq.way)).mono ?_
          rintro e w5 ⟨rfl, hb5⟩
          go_wp2_with fail
          go_ret2
          refine ⟨.slice oa (outL s ns).length oc, ?_, below_step hb5 (below_step hbx.out hbw3.out)⟩
          rw [hmp.out]; rfl
end Go.Proofs.YtckkjjiaecnciaaGreat
