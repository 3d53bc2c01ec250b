/-
  R03.Match: the document's walk.
-/
import Derived.Test.YtckkjjiaecnciaaGreatMtL
import Derived.Test.YtckkjjiaecnciaaGreatMtN
import Derived.Test.YtckkjjiaecnciaaGreatMtH
namespace Go.Proofs.YtckkjjiaecnciaaGreat
open Go Go.RowKit

theorem matchB_yes {p t : List Cell} {s : List Bnd} (h : matchL p t [] = some s) : matchB p t = true := by unfold matchB; rw [h]; rfl
theorem matM_len {p t : List Cell} {k q : Nat} {s : List Bnd} (h : MatM p t k q s) {n : Int} {y : List Cell} (hb : bindS s n = some y) : 0 < y.length := (h.right n y hb).pos

set_option maxHeartbeats 16000000 in
set_option maxRecDepth 100000 in
theorem MatchR_spec {S T : Nat → Prop} {w : World} {v u : Value} {p t : List Cell} (hp : Seq cellE S w v p) (ht : Seq cellE T w u t) (hpl : p.length ≤ 1000) (hrt : RightT t) :
    Calls Tryz.prog 50 #[v, u] w (fun e w' => ∃ x, e = .returned (.tuple #[x, .bool (matchB p t)]) ∧ Below w.heap.size w w') := by
  have Hp := Lib.hid hp
  have Ht := Lib.hid (ht.mono (T := fun b => b < w.heap.size) (fun _ _ h2 => h2) fun _ _ _ => rfl)
  have htl := hrt.1
  have hm0 := Lib.hid (matM_zero (p := p) hrt)
  obtain ⟨pa, pc, rfl, -, -, -, -, p5⟩ := hp
  obtain ⟨ta, tc, rfl, htc, htm, -, htn, t5⟩ := ht
  have hpf := fun {w' : World} (h : Below w.heap.size w w') => Lib.hid (p5.below h fun _ _ h => h : SeqAt cellE S w' pa p)
  have htf := fun {w' : World} (h : Below w.heap.size w w') => Lib.hid (t5.below h fun _ _ h => h : SeqAt cellE T w' ta t)
  clear p5 t5 hrt
  go_enter Tryz.func50, Tryz.ntmps50
  go_wp2_with fail
  go_loopw [6, 7, 8] (fun al tq i wr => ∃ (k q : Nat) (s : List Bnd), k ≤ p.length ∧ i = .int .i64 k ∧ tq = .int .i64 q ∧ q ≤ t.length ∧ Hid (MatM p t k q s) ∧ s.length ≤ k ∧
    Hid (Own bindE (fun b => b < w.heap.size) w.heap.size 88 wr al s) ∧ Hid (Below w.heap.size w wr)) (fun _ _ i _ => p.length - (intOf i).toNat)
  case atStart =>
    exact ⟨0, 0, [], Nat.zero_le _, rfl, rfl, Nat.zero_le _, hm0, Nat.le_refl _, Lib.hid (Own.lit0 rfl (Nat.le_refl _) rfl), Lib.hid Seq.way⟩
  case round =>
    obtain ⟨k, q, s, hk, rfl, rfl, hq, hM, hsl, hO, hbr⟩ := hrel
    have hzr := hbr.out.size
    obtain ⟨oa, oc, rfl, -, -⟩ := hO.out.shape
    by_cases hlt : k < p.length
    · obtain ⟨b, off, rfl, -, hb, c0, c1, c2, ok0, ok1, ok2⟩ := (hpf hbr.out).out.cell hlt
      have hkl : (k : Int) < (p.length : Int) := by omega
      have hk0 : (0 : Int) ≤ (k : Int) := by omega
      by_cases hqt : q < t.length
      · have hql : (q : Int) < (t.length : Int) := by omega
        have hq0 : (0 : Int) ≤ (q : Int) := by omega
        by_cases hkd : p[k].kind = 1
        · have hsub := matM_sub hqt hM.out
          obtain ⟨hE, hE1, hE2, hER, -⟩ := hsub
          have hold := Lib.hid (fun y h1 h2 => matM_old (y := y) hlt hqt hM.out hkd h1 h2)
          have hdif := Lib.hid (fun y h1 h2 => matM_differ (y := y) hlt hqt hM.out hkd h1 h2)
          have hnew := Lib.hid (fun h1 => matM_new hlt hqt hM.out hkd h1)
          have hlen := Lib.hid (fun n y h => matM_len hM.out (n := n) (y := y) h)
          obtain ⟨c, hc⟩ : ∃ c, c = p[k] := ⟨_, rfl⟩
          rw [← hc] at c0 c1 c2 ok0 ok1 ok2 hkd hold hdif hnew
          obtain ⟨E, hEE⟩ : ∃ E, E = endM t q := ⟨_, rfl⟩
          rw [← hEE] at hE hE1 hE2 hER hold hdif hnew
          have HE := Lib.hid hE
          clear hc hEE hM hE
          rw [hkd] at c0
          clear hkd ok0
          have hEc : E ≤ tc := by omega
          have hqN : q ≤ E := by omega
          have hEl : (E : Int) ≤ (t.length : Int) := by omega
          have hqE : (q : Int) ≤ (E : Int) := by omega
          obtain ⟨SB, hmap⟩ : ∃ SB, ta.map (fun x => x.add (q * 3)) = SB := ⟨_, rfl⟩
          have hif : (if tc = q then ta else ta.map (fun x => x.add (q * 3))) = SB := by rw [if_neg (by omega)]; exact hmap
          have hif2 : (if tc = q then ta else SB) = SB := by rw [if_neg (by omega)]
          have hSU := fun {w' : World} (h : Below w.heap.size w w') => Lib.hid ((Ht.out.piece hqN hE2 hif.symm rfl rfl).at h)
          have hSX := Lib.hid (hO.out.seqB (T := fun _ => True) (by omega) fun _ _ _ => trivial)
          have hbd0 := Lib.hid (BoundR3_spec (n := c.n) (hO.out.seqB (T := fun b => b < wr.heap.size) (by omega) fun b h _ => h))
          go_wp2_with fail
          refine wp_region_noPanic ?_
          refine wp_region_held_drew (S := fun y => y.cell? ⟨b, off + k * 3 + 2, none⟩ = some (.int .i64 c.n)) (by kernel_rfl) c2 (fun hHeld => ?_)
          refine wpAnyH_take1 (i := 0) (oi := _) (v := ?_) (by kernel_rfl) rfl (by kernel_rfl) (fun _ _ _ h => h) (Or.inl ⟨by rfl, ?_⟩) hHeld ?_
          rotate_left 1
          · intro y hSw; (try dsimp only at hSw); go_simp; (try rw [if_pos hEc, if_pos hqN]); (with_reducible rfl)
          (try simp only [Act.put, List.getElem_toArray, List.getElem_cons_zero, List.setIfInBounds_toArray, List.set_cons_zero, List.set_cons_succ])
          refine wpAnyH_take1 (i := 1) (oi := _) (v := ?_) (by kernel_rfl) rfl (by kernel_rfl) (fun _ _ _ h => h) (Or.inl ⟨by rfl, ?_⟩) hHeld ?_
          rotate_left 1
          · intro y hSw; (try dsimp only at hSw); go_simp; (try rw [if_pos hEc, if_pos hqN]); (with_reducible rfl)
          (try simp only [Act.put, List.getElem_toArray, List.getElem_cons_zero, List.getElem_cons_succ, List.setIfInBounds_toArray, List.set_cons_zero, List.set_cons_succ])
          refine wpAnyH_take1 (i := 2) (oi := _) (v := ?_) (by kernel_rfl) rfl (by kernel_rfl) (fun _ _ _ h => h) (Or.inl ⟨by rfl, ?_⟩) hHeld ?_
          rotate_left 1
          · intro y hSw; (try dsimp only at hSw); go_simp; (try rw [if_pos hEc, if_pos hqN]); (with_reducible rfl)
          (try simp only [Act.put, List.getElem_toArray, List.getElem_cons_zero, List.getElem_cons_succ, List.setIfInBounds_toArray, List.set_cons_zero, List.set_cons_succ])
          refine wpAnyH_take1 (i := 3) (oi := _) (v := ?_) (by kernel_rfl) rfl (by kernel_rfl) (fun _ _ _ h => h) (Or.inl ⟨by rfl, ?_⟩) hHeld ?_
          rotate_left 1
          · intro y hSw; (try dsimp only at hSw); go_simp; (try rw [if_pos hEc, if_pos hqN]); (with_reducible rfl)
          (try simp only [Act.put, List.getElem_toArray, List.getElem_cons_zero, List.getElem_cons_succ, List.setIfInBounds_toArray, List.set_cons_zero, List.set_cons_succ])
          refine wpAnyH_take1 (i := 6) (oi := _) (v := ?_) (by kernel_rfl) rfl (by kernel_rfl) (fun _ _ _ h => h) (Or.inl ⟨by rfl, ?_⟩) hHeld ?_
          rotate_left 1
          · intro y hSw; (try dsimp only at hSw); go_simp; (try rw [if_pos hEc, if_pos hqN]); (with_reducible rfl)
          (try simp only [Act.put, List.getElem_toArray, List.getElem_cons_zero, List.getElem_cons_succ, List.setIfInBounds_toArray, List.set_cons_zero, List.set_cons_succ])
          refine wpAnyH_take1 (i := 7) (oi := _) (v := ?_) (by kernel_rfl) rfl (by kernel_rfl) (fun _ _ _ h => h) (Or.inl ⟨by rfl, ?_⟩) hHeld ?_
          rotate_left 1
          · intro y hSw; (try dsimp only at hSw); go_simp; (try rw [if_pos hEc, if_pos hqN]); (with_reducible rfl)
          (try simp only [Act.put, List.getElem_toArray, List.getElem_cons_zero, List.getElem_cons_succ, List.setIfInBounds_toArray, List.set_cons_zero, List.set_cons_succ])
          refine wpAnyH_take1 (i := 8) (oi := _) (v := ?_) (by kernel_rfl) rfl (by kernel_rfl) (fun _ _ _ h => h) (Or.inl ⟨by rfl, ?_⟩) hHeld ?_
          rotate_left 1
          · intro y hSw; (try dsimp only at hSw); go_simp; (try rw [if_pos hEc, if_pos hqN]); (with_reducible rfl)
          (try simp only [Act.put, List.getElem_toArray, List.getElem_cons_zero, List.getElem_cons_succ, List.setIfInBounds_toArray, List.set_cons_zero, List.set_cons_succ])
          refine wpAnyH_take1 (i := 9) (oi := _) (v := ?_) (by kernel_rfl) rfl (by kernel_rfl) (fun _ _ _ h => h) (Or.inl ⟨by rfl, ?_⟩) hHeld ?_
          rotate_left 1
          · intro y hSw; (try dsimp only at hSw); go_simp; (try rw [if_pos hEc, if_pos hqN]); (with_reducible rfl)
          (try simp only [Act.put, List.getElem_toArray, List.getElem_cons_zero, List.getElem_cons_succ, List.setIfInBounds_toArray, List.set_cons_zero, List.set_cons_succ])
          refine wpAnyH_take1 (i := 10) (oi := _) (v := ?_) (by kernel_rfl) rfl (by kernel_rfl) (fun _ _ _ h => h) (Or.inl ⟨by rfl, ?_⟩) hHeld ?_
          rotate_left 1
          · intro y hSw; (try dsimp only at hSw); go_simp; (try rw [if_pos hEc, if_pos hqN]); (with_reducible rfl)
          (try simp only [Act.put, List.getElem_toArray, List.getElem_cons_zero, List.getElem_cons_succ, List.setIfInBounds_toArray, List.set_cons_zero, List.set_cons_succ])
          refine wpAnyH_take1 (i := 11) (oi := _) (v := ?_) (by kernel_rfl) rfl (by kernel_rfl) (fun _ _ _ h => h) (Or.inl ⟨by rfl, ?_⟩) hHeld ?_
          rotate_left 1
          · intro y hSw; (try dsimp only at hSw); go_simp; (try rw [if_pos hEc, if_pos hqN]); (with_reducible rfl)
          (try simp only [Act.put, List.getElem_toArray, List.getElem_cons_zero, List.getElem_cons_succ, List.setIfInBounds_toArray, List.set_cons_zero, List.set_cons_succ])
          refine wpAnyH_one (i := 4) (by kernel_rfl) rfl (by rfl) fun K hK => ?_
          go_simp
          refine (EndR3_spec (E := E) (Ht.out.at (below_step Seq.way hbr.out)) (by omega) (by omega) HE.out).mono ?_
          rintro e _ ⟨rfl, rfl⟩
          (try dsimp only)
          clear hHeld
          refine hK.out _ _ c2 fun hHeld => ?_
          clear hK K
          (try simp only [Act.put, List.getElem_toArray, List.getElem_cons_zero, List.getElem_cons_succ, List.setIfInBounds_toArray, List.set_cons_zero, List.set_cons_succ])
          refine wpAnyH_take1 (i := 5) (oi := _) (v := ?_) (by kernel_rfl) rfl (by kernel_rfl) (fun _ _ _ h => h) (Or.inl ⟨by rfl, ?_⟩) hHeld ?_
          rotate_left 1
          · intro y hSw; (try dsimp only at hSw); go_simp; (try rw [if_pos hEc, if_pos hqN]); (with_reducible rfl)
          (try simp only [Act.put, List.getElem_toArray, List.getElem_cons_zero, List.getElem_cons_succ, List.setIfInBounds_toArray, List.set_cons_zero, List.set_cons_succ])
          refine wpAnyH_one (i := 12) (by kernel_rfl) rfl (by rfl) fun K hK => ?_
          go_simp
          refine (BoundR3_spec (n := c.n) (hSX.out.at Seq.way)).mono ?_
          rintro e _ ⟨rfl, u, rfl, hu⟩
          (try dsimp only)
          clear hHeld
          refine hK.out _ _ c2 fun hHeld => ?_
          clear hK K
          (try simp only [Act.put, List.getElem_toArray, List.getElem_cons_zero, List.getElem_cons_succ, List.setIfInBounds_toArray, List.set_cons_zero, List.set_cons_succ])
          refine wpAnyH_one (i := 13) (by kernel_rfl) rfl (by rfl) fun K hK => ?_
          go_simp
          clear hHeld
          refine hK.out _ _ c2 fun hHeld => ?_
          clear hK K
          (try simp only [Act.put, List.getElem_toArray, List.getElem_cons_zero, List.getElem_cons_succ, List.setIfInBounds_toArray, List.set_cons_zero, List.set_cons_succ])
          refine wpAnyH_one (i := 14) (by kernel_rfl) rfl (by rfl) fun K hK => ?_
          go_simp
          clear hHeld
          refine hK.out _ _ c2 fun hHeld => ?_
          clear hK K hHeld
          (try simp only [Act.put, List.getElem_toArray, List.getElem_cons_zero, List.getElem_cons_succ, List.setIfInBounds_toArray, List.set_cons_zero, List.set_cons_succ])
          refine wpAnyH_done (by kernel_rfl) ?_ _
          refine NoPanic.normal ?_
          have Hu := Lib.hid hu
          clear hu hbd0
          cases hbd : bindS s c.n with
          | none =>
            have hu' := Hu.out
            rw [hbd] at hu'
            obtain rfl := hu'
            have hN := Lib.hid (hnew.out hbd)
            clear hold hdif hnew hbd Hu hlen
            go_wp2_with (at_builtin; (refine wpList_app_bindS (y := ⟨c.n, (t.take E).drop q⟩) rfl _ _ 67 rfl Tryz.underlying67 infoBindS rfl (hO.out.move Seq.way) rfl ok1 ((hSU (below_step Seq.way hbr.out)).out) (fun b h _ => ⟨h, fun e => by have := (hO.out.blk e).1; omega⟩) (by go_simp) (by go_simp) (by omega) (by simp; omega) ?_))
            intro ao cap w' hown' hkept
            have H' := Lib.hid hown'
            have K' := Lib.hid (show Below w.heap.size w w' from hbr.out.trans (Below.trans Seq.way hkept.below))
            clear hown' hkept
            go_wp2_with fail
            refine (EndR3_spec (E := E) (Ht.out.at K'.out) (by omega) (by omega) HE.out).mono ?_
            rintro e _ ⟨rfl, rfl⟩
            go_wp2_with fail
            go_roundw
            case rel => exact ⟨k + 1, E, s ++ [⟨c.n, (t.take E).drop q⟩], hlt, by go_num, by go_num, hE2, hN, by simp; omega, Lib.hid (by simpa using H'.out), K'⟩
            case measure => simp [intOf]; omega
          | some y =>
            have hu' := Hu.out
            rw [hbd] at hu'
            have HY := Lib.hid hu'
            obtain ⟨ya, yc, rfl, -⟩ := hu'
            have hO' := Lib.hid (hold.out y hbd)
            have hD := Lib.hid (hdif.out y hbd)
            have hyl := hlen.out _ _ hbd
            have hyl2 : (0 : Int) < (y.length : Int) := by omega
            have hyl3 : ((y.length : Int) == 0) = false := by rw [beq_eq_false_iff_ne]; omega
            clear hold hdif hnew hbd Hu hlen
            go_wp2_with fail
            refine (SameT_spec (HY.out.at (by repeat (first | exact Below.refl _ _ | refine below_drewN ?_ _))) (hSU (below_step Seq.way hbr.out)).out).mono ?_
            rintro e w5 ⟨rfl, hq5⟩
            have hb5 := Lib.hid (below_step (below_step (hq5.below _) Seq.way) hbr.out)
            have hbx5 := Lib.hid (below_step (hq5.below _) (Seq.way : Below wr.heap.size wr _))
            clear hq5
            by_cases he : y = (t.take E).drop q
            · rw [decide_eq_true he]
              have hN := Lib.hid (hO'.out he)
              clear he hD hO'
              go_wp2_with fail
              refine (EndR3_spec (E := E) (Ht.out.at hb5.out) (by omega) (by omega) HE.out).mono ?_
              rintro e _ ⟨rfl, rfl⟩
              go_wp2_with fail
              go_roundw
              case rel => exact ⟨k + 1, E, s, hlt, by go_num, by go_num, hE2, hN, by omega, Lib.hid (hO.out.move hbx5.out), hb5⟩
              case measure => simp [intOf]; omega
            · rw [decide_eq_false he]
              have hx := Lib.hid (hD.out he)
              clear he hD hO'
              go_wp2_with fail
              go_ret2
              refine ⟨.slice none 0 0, ?_, hb5.out⟩
              rw [hx.out]; rfl
        · have hyes := Lib.hid (fun h => matM_fun hlt hqt hM.out hkd h)
          have hnot := Lib.hid (fun h => matM_clash hlt hqt hM.out hkd h)
          obtain ⟨b2, o2, rfl, -, hb2, d0, d1, d2, -⟩ := (htf hbr.out).out.cell hqt
          obtain ⟨c, hc⟩ : ∃ c, c = p[k] := ⟨_, rfl⟩
          obtain ⟨d, hd⟩ : ∃ d, d = t[q] := ⟨_, rfl⟩
          rw [← hc] at c0 c1 c2 ok0 ok1 ok2 hkd hyes hnot
          rw [← hd] at d0 d1 d2 hyes hnot
          clear hc hd hpf htf
          have hkd' : (c.kind != 1) = true := by simp [hkd]
          by_cases he : c = d
          · have hx := Lib.hid (hyes.out he)
            subst he
            clear hyes hnot hkd
            go_wp2_with fail
            go_quiet (fail)
            go_wp2_with fail
            go_roundw
            case rel => exact ⟨k + 1, q + 1, s, hlt, by go_num, by go_num, hqt, hx, by omega, Lib.hid (hO.out.move (by repeat (first | exact Below.refl _ _ | refine below_drewN ?_ _))), Lib.hid (below_step (by repeat (first | exact Below.refl _ _ | refine below_drewN ?_ _)) hbr.out)⟩
            case measure => simp [intOf]; omega
          · have hx := Lib.hid (hnot.out he)
            rcases cell_ne he with q1 | ⟨q1, q2⟩ | ⟨q1, q2, q3⟩
            all_goals
              clear hyes hnot he
              go_wp2_with fail
              go_quiet (fail)
              go_wp2_with fail
              go_ret2
              refine ⟨.slice none 0 0, ?_, below_step (by repeat (first | exact Below.refl _ _ | refine below_drewN ?_ _)) hbr.out⟩
              rw [hx.out]; rfl
      · obtain rfl : q = t.length := by omega
        have hx := Lib.hid (matM_end hlt hM.out)
        go_wp2_with fail
        go_ret2
        refine ⟨.slice none 0 0, ?_, hbr.out⟩
        rw [hx.out]; rfl
    · obtain rfl : k = p.length := by omega
      have hend := matM_done hM.out
      have hmb := Lib.hid (matchB_yes hend)
      have hbv := Lib.hid (show ∀ n ∈ varsL p, ∃ y, bindS s n = some y ∧ RightT y from fun n hn => by
        obtain ⟨c, hc, hk1, rfl⟩ := varsL_mem.1 hn
        obtain ⟨j, hj, rfl⟩ := List.mem_iff_getElem.1 hc
        obtain ⟨y, hy⟩ := hM.out.vars j hj hj hk1
        exact ⟨y, hy, hM.out.right _ _ hy⟩)
      clear hend hM hpf htf hm0
      obtain ⟨W1, hW1⟩ : ∃ W, W = wr.alloc (.cells #[] 88) := ⟨_, rfl⟩
      have hbW1 := Lib.hid (show Below wr.heap.size wr W1 by rw [hW1]; exact Seq.way)
      have hL0 := Lib.hid (show Own bindE (fun _ => True) wr.heap.size 88 W1 (.slice (some ⟨wr.heap.size, 0, none⟩) 0 0) [] by rw [hW1]; exact Own.lit0 rfl (Nat.le_refl _) rfl)
      have HW1 := Lib.hid hW1
      clear hW1
      go_wp2_with fail
      rw [← HW1.out]
      refine (RisingR3_spec (Hp.out.at (below_step hbW1.out hbr.out)) (by omega)).mono ?_
      rintro e w1 ⟨v1, rfl, hb1, ns, hns, hnl, hnm⟩
      have Hns := Lib.hid hns
      obtain ⟨na, nc, rfl⟩ := hns.shape
      have hbr1 := Lib.hid (below_step hb1 hbW1.out)
      have hL1 := Lib.hid (hL0.out.move hb1)
      have hnf := Lib.hid hns
      have hnv := Lib.hid (fun n hn => hbv.out n (hnm n hn))
      have hO1 := Lib.hid ((hO.out.seqB (T := fun b => b < wr.heap.size) (by omega) fun b h _ => h).at hbr1.out)
      have hw1 := Lib.hid (below_step hbr1.out hbr.out)
      have Hb1 := Lib.hid hb1
      clear hns hnm hbv hb1
      obtain ⟨B0, hB0⟩ : ∃ B, B = wr.heap.size := ⟨_, rfl⟩
      have hB1 : W1.heap.size = B0 + 1 := by rw [HW1.out, hB0]; simp
      have hBw : B0 < w1.heap.size := by have := Hb1.out.size; omega
      have hwB : w.heap.size ≤ B0 := by omega
      rw [← hB0] at hL1 hO1 ⊢
      clear hB0
      go_wp2_with fail
      go_loopw [11, 13] (fun o i wx => ∃ (k : Nat) (L : List Bnd), k ≤ ns.length ∧ i = .int .i64 k ∧ L.length ≤ k ∧ Hid (Own bindE (fun _ => True) B0 88 wx o L) ∧ Hid (∀ b, o.ownBlock = some b → b = B0 ∨ w1.heap.size ≤ b) ∧ Hid (Below B0 w1 wx) ∧ Hid (∀ b, b < w1.heap.size → b ≠ B0 → wx.heap[b]? = w1.heap[b]?)) (fun _ i _ => ns.length - (intOf i).toNat)
      case atStart => exact ⟨0, [], Nat.zero_le _, rfl, Nat.le_refl _, hL1, Lib.hid (fun b h => .inl (by simpa [Value.ownBlock] using h.symm)), Lib.hid (Below.refl _ _), Lib.hid (fun _ _ _ => rfl)⟩
      case round =>
        obtain ⟨k, L, hk, rfl, hLk, hOx, hOb, hbx, hkx⟩ := hrel
        have hzx := hbx.out.size
        obtain ⟨xa, xc, rfl, -, -⟩ := hOx.out.shape
        by_cases hlt : k < ns.length
        · obtain ⟨_, _, ee, -, -, -, -, n5⟩ := hnf.out.mono (w' := wr) (fun b h _ => h) (fun b h hlt => hkx.out b hlt (by omega))
          simp only [Value.slice.injEq, true_and] at ee
          obtain ⟨rfl, rfl⟩ := ee
          obtain ⟨b, off, rfl, -, hb, c0, ok0⟩ := n5.int hlt
          obtain ⟨y, hy, hyr⟩ := hnv.out _ (List.getElem_mem hlt)
          obtain ⟨n, hn⟩ : ∃ n, n = ns[k] := ⟨_, rfl⟩
          rw [← hn] at c0 ok0 hy
          obtain ⟨c, l, rfl, hck, hcl⟩ := hyr.cons
          have hyl' := hyr.1
          have hkl : (k : Int) < (ns.length : Int) := by omega
          have hk0 : (0 : Int) ≤ (k : Int) := by omega
          clear hn n5 hnf hnv
          go_wp2_with fail
          refine (BoundR3_spec (n := n) (hO1.out.below hbx.out fun b h _ => h)).mono ?_
          rintro e _ ⟨rfl, u, rfl, hu⟩
          rw [hy] at hu
          have HY := Lib.hid (hu.mono (T := fun b => b < wr.heap.size) (fun b _ h => h) fun _ _ _ => rfl)
          obtain ⟨ya, yc, rfl, hyc, hym, hyl, -, y5⟩ := hu
          obtain ⟨b2, o2, rfl, -, hb2', d0, d1, d2, -⟩ := y5.cell (k := 0) (by simp)
          simp only [Nat.zero_mul, Nat.add_zero, List.getElem_cons_zero] at d0 d1 d2
          have hll : 0 < (c :: l).length := by simp
          have hll2 : (0 : Int) < ((c :: l).length : Int) := by omega
          obtain ⟨Y, hYY⟩ : ∃ Y, Y = c :: l := ⟨_, rfl⟩
          rw [← hYY] at hll hll2 hyl' HY hyl ⊢
          clear hYY hy hyr hck hcl y5 d1
          by_cases hkd : c.kind = 1
          · by_cases hcn : c.n = n
            · have hkd' : (c.kind != 1) = false := by simp [hkd]
              have hcn' : (c.n != n) = false := by simp [hcn]
              rw [hkd] at d0
              rw [hcn] at d2
              clear hkd hcn hkd' hcn'
              go_wp2_with fail
              go_roundw
              case rel => exact ⟨k + 1, L, hlt, by go_num, by omega, hOx, hOb, hbx, hkx⟩
              case measure => simp [intOf]; omega
            · have hkd' : (c.kind != 1) = false := by simp [hkd]
              have hcn' : (c.n != n) = true := by simp [hcn]
              rw [hkd] at d0
              clear hkd hcn hkd'
              have hYa := Lib.hid (HY.out.at (Seq.way (w' := wr.alloc (.cells #[] 51))))
              go_wp2_with (at_builtin; (refine wpList_appL (S := fun _ => True) (base := wr.heap.size) (wm := wr.alloc (.cells #[] 51)) (zs := Y) rfl _ _ 23 rfl Tryz.underlying23 infoCellS rfl rfl (Own.lit0 rfl (Nat.le_refl _) rfl) (Below.refl _ _) rfl hYa.out (fun b h _ => ⟨trivial, .inl h⟩) rfl (by omega) (by omega) (by simp) ?_))
              intro oa5 oc5 w5 hown5 hk5
              have hb5 := Lib.hid ((Seq.way (B := wr.heap.size) (w := wr) (w' := wr.alloc (.cells #[] 51))).trans hk5.below)
              have Hs5 := Lib.hid ((own_cellS (T := fun _ => False) hown5).seqB (T := fun b => wr.heap.size ≤ b) (by omega) fun b _ h => h.elim False.elim fun h => (hown5.blk h).1)
              have HO5 := Lib.hid (hOx.out.move hb5.out)
              have hz5 := hb5.out.size
              clear hown5 hk5 hYa
              go_wp2_with (at_builtin; (refine wpList_app_bindS (y := ⟨n, Y⟩) rfl _ _ 67 rfl Tryz.underlying67 infoBindS rfl (HO5.out.move Seq.way) rfl ok0 (Hs5.out.at Seq.way) (fun b h _ => ⟨trivial, fun e => by have := (hOx.out.blk e).2; omega⟩) (by go_simp) (by go_simp) (by omega) (by simp; omega) ?_))
              intro ao cap w6 hown6 hkept6
              have H6 := Lib.hid hown6
              have K6 := Lib.hid (hbx.out.trans ((hb5.out.mono (by omega)).trans (Below.trans Seq.way hkept6.below)))
              have O6 := Lib.hid (show ∀ b, (Value.slice ao (L.length + 1) cap).ownBlock = some b → b = B0 ∨ w1.heap.size ≤ b from fun b h => by
                rcases hkept6.blk with e | e
                · exact hOb.out b (by rw [← h, e])
                · rw [e] at h; simp at h; omega)
              have X6 := Lib.hid (show ∀ b, b < w1.heap.size → b ≠ B0 → w6.heap[b]? = w1.heap[b]? from fun b h1 h2 => by
                rw [hkept6.keep b (by simp; omega) (fun e => by rcases hOb.out b e with h | h <;> omega), ← hkx.out b h1 h2, ← hb5.out.block b (by omega)]
                exact (Seq.way (B := w5.heap.size) (w := w5)).block b (by omega))
              clear hown6 hkept6
              go_wp2_with fail
              go_roundw
              case rel => exact ⟨k + 1, L ++ [⟨n, Y⟩], hlt, by go_num, by simp; omega, Lib.hid (by simpa using H6.out), O6, K6, X6⟩
              case measure => simp [intOf]; omega
          · have hkd' : (c.kind != 1) = true := by simp [hkd]
            clear hkd
            have hYa := Lib.hid (HY.out.at (Seq.way (w' := wr.alloc (.cells #[] 51))))
            go_wp2_with (at_builtin; (refine wpList_appL (S := fun _ => True) (base := wr.heap.size) (wm := wr.alloc (.cells #[] 51)) (zs := Y) rfl _ _ 23 rfl Tryz.underlying23 infoCellS rfl rfl (Own.lit0 rfl (Nat.le_refl _) rfl) (Below.refl _ _) rfl hYa.out (fun b h _ => ⟨trivial, .inl h⟩) rfl (by omega) (by omega) (by simp) ?_))
            intro oa5 oc5 w5 hown5 hk5
            have hb5 := Lib.hid ((Seq.way (B := wr.heap.size) (w := wr) (w' := wr.alloc (.cells #[] 51))).trans hk5.below)
            have Hs5 := Lib.hid ((own_cellS (T := fun _ => False) hown5).seqB (T := fun b => wr.heap.size ≤ b) (by omega) fun b _ h => h.elim False.elim fun h => (hown5.blk h).1)
            have HO5 := Lib.hid (hOx.out.move hb5.out)
            have hz5 := hb5.out.size
            clear hown5 hk5 hYa
            go_wp2_with (at_builtin; (refine wpList_app_bindS (y := ⟨n, Y⟩) rfl _ _ 67 rfl Tryz.underlying67 infoBindS rfl (HO5.out.move Seq.way) rfl ok0 (Hs5.out.at Seq.way) (fun b h _ => ⟨trivial, fun e => by have := (hOx.out.blk e).2; omega⟩) (by go_simp) (by go_simp) (by omega) (by simp; omega) ?_))
            intro ao cap w6 hown6 hkept6
            have H6 := Lib.hid hown6
            have K6 := Lib.hid (hbx.out.trans ((hb5.out.mono (by omega)).trans (Below.trans Seq.way hkept6.below)))
            have O6 := Lib.hid (show ∀ b, (Value.slice ao (L.length + 1) cap).ownBlock = some b → b = B0 ∨ w1.heap.size ≤ b from fun b h => by
              rcases hkept6.blk with e | e
              · exact hOb.out b (by rw [← h, e])
              · rw [e] at h; simp at h; omega)
            have X6 := Lib.hid (show ∀ b, b < w1.heap.size → b ≠ B0 → w6.heap[b]? = w1.heap[b]? from fun b h1 h2 => by
              rw [hkept6.keep b (by simp; omega) (fun e => by rcases hOb.out b e with h | h <;> omega), ← hkx.out b h1 h2, ← hb5.out.block b (by omega)]
              exact (Seq.way (B := w5.heap.size) (w := w5)).block b (by omega))
            clear hown6 hkept6
            go_wp2_with fail
            go_roundw
            case rel => exact ⟨k + 1, L ++ [⟨n, Y⟩], hlt, by go_num, by simp; omega, Lib.hid (by simpa using H6.out), O6, K6, X6⟩
            case measure => simp [intOf]; omega
        · obtain rfl : k = ns.length := by omega
          go_wp2_with fail
          go_ret2
          refine ⟨.slice xa L.length xc, ?_, hw1.out.trans (hbx.out.mono hwB)⟩
          rw [hmb.out]; rfl
end Go.Proofs.YtckkjjiaecnciaaGreat
