/-
  Layer 16, the law: an instance with its literals turned about (turned).
-/
import Derived.Test.YtaedgpcmkagpeaaGreatGtD
namespace Go.Proofs.YtaedgpcmkagpeaaGreat
open Go Go.RowKit

def turnI (i : Ins) : Ins := ⟨i.head, i.pos.reverse ++ i.pos.take 1, i.neg.reverse⟩
theorem drop_rev {α : Type} {l : List α} {q : Nat} (hq : q < l.length) : (l.drop q).reverse = (l.drop (q + 1)).reverse ++ [l[q]] := by
  rw [List.drop_eq_getElem_cons hq, List.reverse_cons]

set_option maxHeartbeats 6400000 in
set_option maxRecDepth 100000 in
theorem turnedL_spec {S : Nat → Prop} {w : World} {v : Value} {i : Ins} (hi : InsV S w v i) (hpl : i.pos.length ≤ 100000) (hnl : i.neg.length ≤ 100000) :
    Calls Tryz.prog 26 #[v] w (Ret (fun r w' => InsV (Fr S w) w' r (turnI i)) w) := by
  obtain ⟨vh, vp, vn, rfl, hH, hP, hN⟩ := hi
  have HH := Lib.hid hH.bnd
  have HP := Lib.hid hP.bnd
  have HN := Lib.hid hN.bnd
  obtain ⟨ha, hc, rfl⟩ := hH.shape
  obtain ⟨pa, pc, rfl⟩ := hP.shape
  obtain ⟨na, nc, rfl⟩ := hN.shape
  clear hH hP hN
  obtain ⟨W, hW⟩ : ∃ W, W = ((w.alloc (.cells #[.slice ha i.head.length hc, .slice pa i.pos.length pc, .slice na i.neg.length nc] 41)).alloc (.cells #[.slice none 0 0, .slice none 0 0, .slice none 0 0] 41)).alloc (.cells #[.slice ha i.head.length hc, .slice none 0 0, .slice none 0 0] 41) := ⟨_, rfl⟩
  have HB := Lib.hid (show Below w.heap.size w W by rw [hW]; exact Seq.way)
  have hzW1 : W.heap.size ≤ w.heap.size + 3 := by rw [hW]; simp
  have hzW2 : w.heap.size + 3 ≤ W.heap.size := by rw [hW]; simp
  have HI := Lib.hid (show Row 41 W w.heap.size [.slice ha i.head.length hc, .slice pa i.pos.length pc, .slice na i.neg.length nc] by rw [hW]; exact ((Row.new w [_, _, _] _ rfl).alloc _).alloc _)
  have HZ := Lib.hid (show Row 41 W (w.heap.size + 1) [.slice none 0 0, .slice none 0 0, .slice none 0 0] by rw [hW]; exact (Row.new _ [_, _, _] _ (by simp)).alloc _)
  have HO0 := Lib.hid (show Row 41 W (w.heap.size + 1 + 1) [.slice ha i.head.length hc, .slice none 0 0, .slice none 0 0] by rw [hW]; exact Row.new _ [_, _, _] _ (by simp))
  have HW := Lib.hid hW
  clear hW
  go_enter Tryz.func26, Tryz.ntmps26
  go_upto_region 2 with fail
  rw [← HW.out]
  have e1 := HI.out.cell (j := 1) (by simp)
  have lI := HI.out.lt
  simp only [List.getElem_cons_zero, List.getElem_cons_succ] at e1
  have hwp : wrap64 ((i.pos.length : Int) - 1) = (i.pos.length : Int) - 1 := by unfold wrap64; omega
  go_wp2_with fail
  clear e1 lI hwp
  go_loopw [4] (fun q wr => ∃ (m : Nat) (x : Int) (vo : Value), m ≤ i.pos.length ∧ x = (m : Int) - 1 ∧ q = .int .i64 x ∧ Hid (Row 41 wr (w.heap.size + 1 + 1) [.slice ha i.head.length hc, vo, .slice none 0 0]) ∧ Hid (Own (seqE cellE) (fun b => S b ∧ b < w.heap.size) W.heap.size 33 wr vo (i.pos.drop m).reverse) ∧ Hid (W.grownBy wr (some (w.heap.size + 1 + 1)))) (fun q _ => (intOf q + 1).toNat)
  case atStart => exact ⟨i.pos.length, _, _, Nat.le_refl _, rfl, rfl, HO0, Lib.hid (by rw [List.drop_length]; exact Own.nil _ _ _ _ _), Lib.hid (gr_refl _ _)⟩
  case round =>
    obtain ⟨m, x0, vo, hm, hx0, rfl, hrow, hO, hgr⟩ := hrel
    have hzr := hgr.out.size
    have HIr := Lib.hid (HI.out.at (hgr.out.block _ HI.out.lt (by simp <;> omega)))
    have HZr := Lib.hid (HZ.out.at (hgr.out.block _ HZ.out.lt (by simp <;> omega)))
    have hbw := Lib.hid (HB.out.trans (gr_below hgr.out (B := w.heap.size) (by omega) (by omega)))
    rcases m with _ | q
    · obtain rfl : x0 = -1 := by omega
      have hO1 := Lib.hid (show Own (seqE cellE) (fun b => S b ∧ b < w.heap.size) W.heap.size 33 wr vo i.pos.reverse from hO.out)
      clear hO hx0 hm
      have lI := HIr.out.lt
      have lO := hrow.out.lt
      have e1 := HIr.out.cell (j := 1) (by simp)
      have o1 := hrow.out.cell (j := 1) (by simp)
      simp only [List.getElem_cons_zero, List.getElem_cons_succ] at e1 o1
      by_cases hp0 : 0 < i.pos.length
      · have hpI : (i.pos.length : Int) > 0 := by omega
        have hpI2 : (0 : Int) < (i.pos.length : Int) := by omega
        obtain ⟨_, _, ee, -, -, -, -, x5⟩ := (HP.out.at hbw.out)
        simp only [Value.slice.injEq, true_and] at ee
        obtain ⟨rfl, rfl⟩ := ee
        obtain ⟨b2, off2, p1, n1, rfl, ⟨-, hbW2⟩, hb2, hc2, hX⟩ := x5.seq hp0
        have HX := Lib.hid hX
        obtain ⟨A, hAe⟩ : ∃ A, A = i.pos.reverse ++ i.pos.take 1 := ⟨_, rfl⟩
        have hA := Lib.hid hAe
        have hst := Lib.hid (show A = i.pos.reverse ++ [i.pos[0]] by rw [hAe, List.take_one, List.head?_eq_getElem?, List.getElem?_eq_getElem hp0]; rfl)
        have hAl : A.length ≤ 100001 := by rw [hst.out]; simp; omega
        obtain ⟨Q, hQ⟩ : ∃ Q, Q = i.pos.reverse := ⟨_, rfl⟩
        have hQl : Q.length ≤ 100000 := by rw [hQ, List.length_reverse]; omega
        rw [← hQ] at hO1 hst
        have hO := hO1
        obtain ⟨x, hx⟩ : ∃ x, x = i.pos[0] := ⟨_, rfl⟩
        rw [← hx] at hc2 HX hst
        obtain ⟨oa, oc, rfl, -, -⟩ := hO.out.shape
        simp only [Nat.add_zero] at hc2
        clear hX x5 hx hQ hAe hO1
        go_upto_region 7 with fail
        have Hkeep := fun {Wk : World} (hW : Below W.heap.size wr Wk) => Lib.hid (show Wk.cell? ⟨w.heap.size + 1 + 1, 1, none⟩ = some (.slice oa Q.length oc) ∧ Wk.cell? ⟨w.heap.size, 1, none⟩ = some (.slice (some ⟨b2, off2, none⟩) i.pos.length pc) ∧ Wk.cell? ⟨b2, off2, none⟩ = some (.slice p1 x.length n1) from ⟨(hW.cell (p := ⟨w.heap.size + 1 + 1, 1, none⟩) (show w.heap.size + 1 + 1 < W.heap.size by omega)).trans o1, (hW.cell (p := ⟨w.heap.size, 1, none⟩) (show w.heap.size < W.heap.size by omega)).trans e1, (hW.cell (p := ⟨b2, off2, none⟩) (show b2 < W.heap.size by omega)).trans hc2⟩)
        (try simp only [List.append_eq, List.cons_append, List.nil_append])
        refine wp_region_noPanic ?_
        refine wp_region_last (S := fun w' => w'.cell? ⟨w.heap.size + 1 + 1, 1, none⟩ = some (.slice oa Q.length oc) ∧ w'.cell? ⟨w.heap.size, 1, none⟩ = some (.slice (some ⟨b2, off2, none⟩) i.pos.length pc) ∧ w'.cell? ⟨b2, off2, none⟩ = some (.slice p1 x.length n1)) (by kernel_rfl) ?_ rfl ?_ (fun hHeld => ?_)
        · kernel_rfl
        · exact (Hkeep (Below.drew (Below.refl _ _))).out
        dsimp only [List.dropLast]
        refine wpAnyH_take1 (i := 0) (oi := _) (v := ?_) (by kernel_rfl) rfl (by kernel_rfl) (fun _ _ _ h => h) (Or.inl ⟨by rfl, ?_⟩) (by assumption) ?_
        rotate_left 1
        · intro w hSw; (try dsimp only at hSw); go_simp; (with_reducible rfl)
        (try simp only [Act.put, List.getElem_toArray, List.getElem_cons_zero, List.setIfInBounds_toArray, List.set_cons_zero, List.set_cons_succ])
        refine wpAnyH_take1 (i := 1) (oi := _) (v := ?_) (by kernel_rfl) rfl (by kernel_rfl) (fun _ _ _ h => h) (Or.inl ⟨by rfl, ?_⟩) (by assumption) ?_
        rotate_left 1
        · intro w hSw; (try dsimp only at hSw); go_simp; (with_reducible rfl)
        (try simp only [Act.put, List.getElem_toArray, List.getElem_cons_zero, List.getElem_cons_succ, List.setIfInBounds_toArray, List.set_cons_zero, List.set_cons_succ])
        refine wpAnyH_take1 (i := 2) (oi := _) (v := ?_) (by kernel_rfl) rfl (by kernel_rfl) (fun _ _ _ h => h) (Or.inl ⟨by rfl, ?_⟩) (by assumption) ?_
        rotate_left 1
        · intro w hSw; (try dsimp only at hSw); go_simp; (with_reducible rfl)
        (try simp only [Act.put, List.getElem_toArray, List.getElem_cons_zero, List.getElem_cons_succ, List.setIfInBounds_toArray, List.set_cons_zero, List.set_cons_succ])
        refine wpAnyH_take1 (i := 3) (oi := _) (v := ?_) (by kernel_rfl) rfl (by kernel_rfl) (fun _ _ _ h => h) (Or.inl ⟨by rfl, ?_⟩) (by assumption) ?_
        rotate_left 1
        · intro w hSw; (try dsimp only at hSw); go_simp; (with_reducible rfl)
        (try simp only [Act.put, List.getElem_toArray, List.getElem_cons_zero, List.getElem_cons_succ, List.setIfInBounds_toArray, List.set_cons_zero, List.set_cons_succ])
        refine wpAnyH_take1 (i := 4) (oi := _) (v := ?_) (by kernel_rfl) rfl (by kernel_rfl) (fun _ _ _ h => h) (Or.inl ⟨by rfl, ?_⟩) (by assumption) ?_
        rotate_left 1
        · intro w hSw; (try dsimp only at hSw); go_simp; (with_reducible rfl)
        (try simp only [Act.put, List.getElem_toArray, List.getElem_cons_zero, List.getElem_cons_succ, List.setIfInBounds_toArray, List.set_cons_zero, List.set_cons_succ])
        refine wpAnyH_take1 (i := 5) (oi := _) (v := ?_) (by kernel_rfl) rfl (by kernel_rfl) (fun _ _ _ h => h) (Or.inl ⟨by rfl, ?_⟩) (by assumption) ?_
        rotate_left 1
        · intro w hSw; (try dsimp only at hSw); go_simp; (with_reducible rfl)
        (try simp only [Act.put, List.getElem_toArray, List.getElem_cons_zero, List.getElem_cons_succ, List.setIfInBounds_toArray, List.set_cons_zero, List.set_cons_succ])
        refine wpAnyH_one (i := 6) (by kernel_rfl) rfl (by rfl) fun K hK => ?_
        go_simp
        (try dsimp only)
        clear hHeld
        refine hK.out _ _ (Hkeep (Below.mono (Seq.way : Below wr.heap.size wr _) hzr)).out fun hHeld => ?_
        clear hK K
        (try simp only [Act.put, List.getElem_toArray, List.getElem_cons_zero, List.getElem_cons_succ, List.setIfInBounds_toArray, List.set_cons_zero, List.set_cons_succ])
        refine wpAnyH_one (i := 7) (by kernel_rfl) rfl (by rfl) fun K hK => ?_
        refine (wp_app_seqK (E := cellE) (S := fun b => S b ∧ b < w.heap.size) (Sy := fun b => S b ∧ b < w.heap.size) (base := W.heap.size) (wm := wr) (y := x) (vy := .slice p1 x.length n1) _ _ 23 rfl Tryz.underlying23 infoSeq rfl hO.out rfl Seq.way (HX.out.at Seq.way) (fun b h _ => ⟨h, .inl (by have := h.2; omega)⟩) ((Row.new _ [_] _ rfl).cell (j := 0) (by simp)) (by omega) hzr ?_)
        intro ao5 cap5 w5 hown5 hk5
        have H5 := Lib.hid hown5
        have B5 := Lib.hid (Below.trans (Below.mono (Seq.way : Below wr.heap.size wr _) hzr) hk5.below)
        have row5 := Lib.hid (hrow.out.at (B5.out.block _ (show w.heap.size + 1 + 1 < W.heap.size by omega)))
        have fz5 := row5.out.frozen 1
        have oc5 := row5.out.cell (j := 1) (by simp)
        simp only [List.getElem_cons_zero, List.getElem_cons_succ] at oc5
        clear hown5 hk5
        clear hHeld
        refine hK.out _ _ (Hkeep B5.out).out fun hHeld => ?_
        clear hK K
        (try simp only [Act.put, List.getElem_toArray, List.getElem_cons_zero, List.getElem_cons_succ, List.setIfInBounds_toArray, List.set_cons_zero, List.set_cons_succ])
        refine wpAnyH_take1 (i := 8) (oi := _) (v := ?_) (by kernel_rfl) rfl (by kernel_rfl) (fun _ _ _ h => h) (Or.inl ⟨by rfl, ?_⟩) (by assumption) ?_
        rotate_left 1
        · intro w hSw; (try dsimp only at hSw); go_simp; (with_reducible rfl)
        (try simp only [Act.put, List.getElem_toArray, List.getElem_cons_zero, List.getElem_cons_succ, List.setIfInBounds_toArray, List.set_cons_zero, List.set_cons_succ])
        refine wpAnyH_done (by kernel_rfl) ?_ _
        refine (show Oper.wp _ _ _ _ _ _ from ?_)
        clear hHeld
        go_simp
        refine NoPanic.normal ?_
        obtain ⟨w6, hw6⟩ : ∃ w6, w6 = w5.setCell ⟨w.heap.size + 1 + 1, 1, none⟩ (.slice ao5 (Q.length + 1) cap5) := ⟨_, rfl⟩
        rw [← hw6]
        have va := Value.slice ao5 (Q.length + 1) cap5
        have hgA := Lib.hid (show W.grownBy w6 (some (w.heap.size + 1 + 1)) by rw [hw6]; exact gr_trans (gr_of hgr.out B5.out) (gr_set _ _ _ _))
        have hrowA := Lib.hid (show Row 41 w6 (w.heap.size + 1 + 1) [.slice ha i.head.length hc, .slice ao5 (Q.length + 1) cap5, .slice none 0 0] by rw [hw6]; exact row5.out.set 1 _)
        have HOA := Lib.hid (show Own (seqE cellE) (fun b => S b ∧ b < w.heap.size) W.heap.size 33 w6 (.slice ao5 (Q.length + 1) cap5) A by
          rw [hw6, hst.out]; exact own_set (by simpa using H5.out) (by omega) fun b h => by have := h.2; omega)
        clear hw6 va fz5 oc5 e1 o1 hc2 row5 hrow HIr HZr hbw hO
        obtain ⟨va, hva⟩ : ∃ va, va = Value.slice ao5 (Q.length + 1) cap5 := ⟨_, rfl⟩
        rw [← hva] at hrowA HOA
        clear hva
        obtain ⟨wr, rfl⟩ : ∃ wr, wr = w6 := ⟨_, rfl⟩
        have hzA := hgA.out.size
        have HIa := Lib.hid (HI.out.at (hgA.out.block _ HI.out.lt (by simp <;> omega)))
        have HZa := Lib.hid (HZ.out.at (hgA.out.block _ HZ.out.lt (by simp <;> omega)))
        have hbwA := Lib.hid (HB.out.trans (gr_below hgA.out (B := w.heap.size) (by omega) (by omega)))
        obtain ⟨wz, rfl⟩ : ∃ wz, wz = wr := ⟨_, rfl⟩
        have e2 := HIa.out.cell (j := 2) (by simp)
        have lI := HIa.out.lt
        simp only [List.getElem_cons_zero, List.getElem_cons_succ] at e2
        have hwn : wrap64 ((i.neg.length : Int) - 1) = (i.neg.length : Int) - 1 := by unfold wrap64; omega
        go_wp2_with fail
        clear e2 lI hwn
        go_loopw [5] (fun q wr => ∃ (m : Nat) (x : Int) (vo : Value), m ≤ i.neg.length ∧ x = (m : Int) - 1 ∧ q = .int .i64 x ∧ Hid (Row 41 wr (w.heap.size + 1 + 1) [.slice ha i.head.length hc, va, vo]) ∧ Hid (Own (seqE cellE) (fun b => S b ∧ b < w.heap.size) wz.heap.size 33 wr vo (i.neg.drop m).reverse) ∧ Hid (wz.grownBy wr (some (w.heap.size + 1 + 1)))) (fun q _ => (intOf q + 1).toNat)
        case atStart => exact ⟨i.neg.length, _, _, Nat.le_refl _, rfl, rfl, hrowA, Lib.hid (by rw [List.drop_length]; exact Own.nil _ _ _ _ _), Lib.hid (gr_refl _ _)⟩
        case round =>
          obtain ⟨m, x0, vo, hm, hx0, rfl, hrow, hO, hgr⟩ := hrel
          have hzr := hgr.out.size
          have HIr := Lib.hid (HIa.out.at (hgr.out.block _ HIa.out.lt (by simp <;> omega)))
          have HZr := Lib.hid (HZa.out.at (hgr.out.block _ HZa.out.lt (by simp <;> omega)))
          have hbw := Lib.hid (hbwA.out.trans (gr_below hgr.out (B := w.heap.size) (by omega) (by omega)))
          rcases m with _ | q
          · obtain rfl : x0 = -1 := by omega
            have hO2 := Lib.hid (show Own (seqE cellE) (fun b => S b ∧ b < w.heap.size) wz.heap.size 33 wr vo i.neg.reverse from hO.out)
            clear hO hx0 hm
            have HOb := Lib.hid (gr_own HOA.out hgr.out (fun b hb e => by have := (HOA.out.blk hb).1; simp at e; omega) fun b h e => by have := h.2; simp at e; omega)
            obtain ⟨R, hRe⟩ : ∃ R, R = i.neg.reverse := ⟨_, rfl⟩
            have hRl : R.length ≤ 100000 := by rw [hRe, List.length_reverse]; omega
            rw [← hRe] at hO2
            have HR := Lib.hid hRe
            clear hRe
            obtain ⟨oa, oc, rfl, -, -⟩ := hO2.out.shape
            obtain ⟨oa1, oc1, rfl, -, -⟩ := HOb.out.shape
            have o0 := hrow.out.cell (j := 0) (by simp)
            have o1 := hrow.out.cell (j := 1) (by simp)
            have o2 := hrow.out.cell (j := 2) (by simp)
            have r0 := HZr.out.cell (j := 0) (by simp)
            have r1 := HZr.out.cell (j := 1) (by simp)
            have r2 := HZr.out.cell (j := 2) (by simp)
            simp only [List.getElem_cons_zero, List.getElem_cons_succ] at o0 o1 o2 r0 r1 r2
            have fz0 := HZr.out.frozen 0
            have fz1 := HZr.out.frozen 1
            have fz2 := HZr.out.frozen 2
            go_wp2_with fail
            have SR := ((HZr.out.set 0 (.slice ha i.head.length hc)).set 1 (.slice oa1 A.length oc1)).set 2 (.slice oa R.length oc)
            obtain ⟨Wz, hWz⟩ : ∃ Wz, Wz = ((wr.setCell ⟨w.heap.size + 1, 0, none⟩ (.slice ha i.head.length hc)).setCell ⟨w.heap.size + 1, 1, none⟩ (.slice oa1 A.length oc1)).setCell ⟨w.heap.size + 1, 2, none⟩ (.slice oa R.length oc) := ⟨_, rfl⟩
            have GZ := Lib.hid (show wr.grownBy Wz (some (w.heap.size + 1)) by rw [hWz]; exact gr_trans (gr_trans (gr_set _ _ _ _) (gr_set _ _ _ _)) (gr_set _ _ _ _))
            rw [← hWz] at SR
            rw [← hWz]
            have s0 := SR.cell (j := 0) (by simp)
            have s1 := SR.cell (j := 1) (by simp)
            have s2 := SR.cell (j := 2) (by simp)
            simp at s0 s1 s2
            refine bodyPost_ret (v := .agg #[.slice ha i.head.length hc, .slice oa1 A.length oc1, .slice oa R.length oc]) (by simp [results, Tryz.results26, go_sem, s0, s1, s2]) rfl ?_
            refine ⟨_, rfl, hbw.out.trans (gr_below GZ.out (by omega) (by omega)), ?_⟩
            have HAe := hA.out
            refine ⟨_, _, _, rfl, ?_, ?_, ?_⟩
            · refine (gr_seq (HH.out.at hbw.out) GZ.out fun b h e => ?_).mono (fun b h _ => .inl h.1) fun _ _ _ => rfl
              have := h.2; simp at e; omega
            · show Seq (seqE cellE) _ _ _ (i.pos.reverse ++ i.pos.take 1)
              rw [← HAe]
              exact (gr_own HOb.out GZ.out (fun b hb e => by have := (HOb.out.blk hb).1; simp at e; omega) fun b h e => by have := h.2; simp at e; omega).seq (by omega) fun b _ h => h.elim (fun h => .inl h.1) fun h => .inr (by omega)
            · show Seq (seqE cellE) _ _ _ i.neg.reverse
              rw [← HR.out]
              exact (gr_own hO2.out GZ.out (fun b hb e => by have := (hO2.out.blk hb).1; simp at e; omega) fun b h e => by have := h.2; simp at e; omega).seq (by omega) fun b _ h => h.elim (fun h => .inl h.1) fun h => .inr (by omega)
          · obtain rfl : x0 = (q : Int) := by omega
            have hql : q < i.neg.length := hm
            obtain ⟨_, _, ee, -, -, -, -, x5⟩ := (HN.out.at hbw.out)
            simp only [Value.slice.injEq, true_and] at ee
            obtain ⟨rfl, rfl⟩ := ee
            obtain ⟨b2, off2, p1, n1, rfl, ⟨-, hbW2⟩, hb2, hc2, hX⟩ := x5.seq hql
            have HX := Lib.hid hX
            have hst := Lib.hid (drop_rev (l := i.neg) hql)
            have hQl : ((i.neg.drop (q + 1)).reverse).length ≤ 100000 := by rw [List.length_reverse, List.length_drop]; omega
            obtain ⟨Q, hQ⟩ : ∃ Q, Q = (i.neg.drop (q + 1)).reverse := ⟨_, rfl⟩
            rw [← hQ] at hO hst hQl
            obtain ⟨x, hx⟩ : ∃ x, x = i.neg[q] := ⟨_, rfl⟩
            rw [← hx] at hc2 HX hst
            obtain ⟨oa, oc, rfl, -, -⟩ := hO.out.shape
            have lI := HIr.out.lt
            have lO := hrow.out.lt
            have e1 := HIr.out.cell (j := 2) (by simp)
            have o1 := hrow.out.cell (j := 2) (by simp)
            simp only [List.getElem_cons_zero, List.getElem_cons_succ] at e1 o1
            have hqI : (q : Int) < (i.neg.length : Int) := by omega
            have hq0 : (q : Int) ≥ 0 := by omega
            have hq00 : (0 : Int) ≤ (q : Int) := by omega
            have hqt : ((q : Int)).toNat = q := Int.toNat_natCast q
            have hwr : wrap64 ((q : Int) - 1) = (q : Int) - 1 := by unfold wrap64; omega
            clear hX x5 hx hQ hx0
            go_upto_region 11 with fail
            have Hkeep := fun {Wk : World} (hW : Below wz.heap.size wr Wk) => Lib.hid (show Wk.cell? ⟨w.heap.size + 1 + 1, 2, none⟩ = some (.slice oa Q.length oc) ∧ Wk.cell? ⟨w.heap.size, 2, none⟩ = some (.slice (some ⟨b2, off2, none⟩) i.neg.length nc) ∧ Wk.cell? ⟨b2, off2 + q, none⟩ = some (.slice p1 x.length n1) from ⟨(hW.cell (p := ⟨w.heap.size + 1 + 1, 2, none⟩) (show w.heap.size + 1 + 1 < wz.heap.size by omega)).trans o1, (hW.cell (p := ⟨w.heap.size, 2, none⟩) (show w.heap.size < wz.heap.size by omega)).trans e1, (hW.cell (p := ⟨b2, off2 + q, none⟩) (show b2 < wz.heap.size by omega)).trans hc2⟩)
            (try simp only [List.append_eq, List.cons_append, List.nil_append])
            refine wp_region_noPanic ?_
            refine wp_region_last (S := fun w' => w'.cell? ⟨w.heap.size + 1 + 1, 2, none⟩ = some (.slice oa Q.length oc) ∧ w'.cell? ⟨w.heap.size, 2, none⟩ = some (.slice (some ⟨b2, off2, none⟩) i.neg.length nc) ∧ w'.cell? ⟨b2, off2 + q, none⟩ = some (.slice p1 x.length n1)) (by kernel_rfl) ?_ rfl ?_ (fun hHeld => ?_)
            · kernel_rfl
            · exact (Hkeep (Below.drew (Below.refl _ _))).out
            dsimp only [List.dropLast]
            refine wpAnyH_take1 (i := 0) (oi := _) (v := ?_) (by kernel_rfl) rfl (by kernel_rfl) (fun _ _ _ h => h) (Or.inl ⟨by rfl, ?_⟩) (by assumption) ?_
            rotate_left 1
            · intro w hSw; (try dsimp only at hSw); go_simp; (with_reducible rfl)
            (try simp only [Act.put, List.getElem_toArray, List.getElem_cons_zero, List.setIfInBounds_toArray, List.set_cons_zero, List.set_cons_succ])
            refine wpAnyH_take1 (i := 1) (oi := _) (v := ?_) (by kernel_rfl) rfl (by kernel_rfl) (fun _ _ _ h => h) (Or.inl ⟨by rfl, ?_⟩) (by assumption) ?_
            rotate_left 1
            · intro w hSw; (try dsimp only at hSw); go_simp; (with_reducible rfl)
            (try simp only [Act.put, List.getElem_toArray, List.getElem_cons_zero, List.getElem_cons_succ, List.setIfInBounds_toArray, List.set_cons_zero, List.set_cons_succ])
            refine wpAnyH_take1 (i := 2) (oi := _) (v := ?_) (by kernel_rfl) rfl (by kernel_rfl) (fun _ _ _ h => h) (Or.inl ⟨by rfl, ?_⟩) (by assumption) ?_
            rotate_left 1
            · intro w hSw; (try dsimp only at hSw); go_simp; (with_reducible rfl)
            (try simp only [Act.put, List.getElem_toArray, List.getElem_cons_zero, List.getElem_cons_succ, List.setIfInBounds_toArray, List.set_cons_zero, List.set_cons_succ])
            refine wpAnyH_take1 (i := 3) (oi := _) (v := ?_) (by kernel_rfl) rfl (by kernel_rfl) (fun _ _ _ h => h) (Or.inl ⟨by rfl, ?_⟩) (by assumption) ?_
            rotate_left 1
            · intro w hSw; (try dsimp only at hSw); go_simp; (with_reducible rfl)
            (try simp only [Act.put, List.getElem_toArray, List.getElem_cons_zero, List.getElem_cons_succ, List.setIfInBounds_toArray, List.set_cons_zero, List.set_cons_succ])
            refine wpAnyH_take1 (i := 4) (oi := _) (v := ?_) (by kernel_rfl) rfl (by kernel_rfl) (fun _ _ _ h => h) (Or.inl ⟨by rfl, ?_⟩) (by assumption) ?_
            rotate_left 1
            · intro w hSw; (try dsimp only at hSw); go_simp; (with_reducible rfl)
            (try simp only [Act.put, List.getElem_toArray, List.getElem_cons_zero, List.getElem_cons_succ, List.setIfInBounds_toArray, List.set_cons_zero, List.set_cons_succ])
            refine wpAnyH_take1 (i := 5) (oi := _) (v := ?_) (by kernel_rfl) rfl (by kernel_rfl) (fun _ _ _ h => h) (Or.inl ⟨by rfl, ?_⟩) (by assumption) ?_
            rotate_left 1
            · intro w hSw; (try dsimp only at hSw); go_simp; (with_reducible rfl)
            (try simp only [Act.put, List.getElem_toArray, List.getElem_cons_zero, List.getElem_cons_succ, List.setIfInBounds_toArray, List.set_cons_zero, List.set_cons_succ])
            refine wpAnyH_take1 (i := 6) (oi := _) (v := ?_) (by kernel_rfl) rfl (by kernel_rfl) (fun _ _ _ h => h) (Or.inl ⟨by rfl, ?_⟩) (by assumption) ?_
            rotate_left 1
            · intro w hSw; (try dsimp only at hSw); go_simp; (with_reducible rfl)
            (try simp only [Act.put, List.getElem_toArray, List.getElem_cons_zero, List.getElem_cons_succ, List.setIfInBounds_toArray, List.set_cons_zero, List.set_cons_succ])
            refine wpAnyH_one (i := 7) (by kernel_rfl) rfl (by rfl) fun K hK => ?_
            go_simp
            (try dsimp only)
            clear hHeld
            refine hK.out _ _ (Hkeep (Below.mono (Seq.way : Below wr.heap.size wr _) hzr)).out fun hHeld => ?_
            clear hK K
            (try simp only [Act.put, List.getElem_toArray, List.getElem_cons_zero, List.getElem_cons_succ, List.setIfInBounds_toArray, List.set_cons_zero, List.set_cons_succ])
            refine wpAnyH_one (i := 8) (by kernel_rfl) rfl (by rfl) fun K hK => ?_
            refine (wp_app_seqK (E := cellE) (S := fun b => S b ∧ b < w.heap.size) (Sy := fun b => S b ∧ b < w.heap.size) (base := wz.heap.size) (wm := wr) (y := x) (vy := .slice p1 x.length n1) _ _ 23 rfl Tryz.underlying23 infoSeq rfl hO.out rfl Seq.way (HX.out.at Seq.way) (fun b h _ => ⟨h, .inl (by have := h.2; omega)⟩) ((Row.new _ [_] _ rfl).cell (j := 0) (by simp)) (by omega) hzr ?_)
            intro ao5 cap5 w5 hown5 hk5
            have H5 := Lib.hid hown5
            have B5 := Lib.hid (Below.trans (Below.mono (Seq.way : Below wr.heap.size wr _) hzr) hk5.below)
            have row5 := Lib.hid (hrow.out.at (B5.out.block _ (show w.heap.size + 1 + 1 < wz.heap.size by omega)))
            have fz5 := row5.out.frozen 2
            have oc5 := row5.out.cell (j := 2) (by simp)
            simp only [List.getElem_cons_zero, List.getElem_cons_succ] at oc5
            clear hown5 hk5
            clear hHeld
            refine hK.out _ _ (Hkeep B5.out).out fun hHeld => ?_
            clear hK K
            (try simp only [Act.put, List.getElem_toArray, List.getElem_cons_zero, List.getElem_cons_succ, List.setIfInBounds_toArray, List.set_cons_zero, List.set_cons_succ])
            refine wpAnyH_take1 (i := 9) (oi := _) (v := ?_) (by kernel_rfl) rfl (by kernel_rfl) (fun _ _ _ h => h) (Or.inl ⟨by rfl, ?_⟩) (by assumption) ?_
            rotate_left 1
            · intro w hSw; (try dsimp only at hSw); go_simp; (with_reducible rfl)
            (try simp only [Act.put, List.getElem_toArray, List.getElem_cons_zero, List.getElem_cons_succ, List.setIfInBounds_toArray, List.set_cons_zero, List.set_cons_succ])
            refine wpAnyH_done (by kernel_rfl) ?_ _
            refine (show Oper.wp _ _ _ _ _ _ from ?_)
            clear hHeld
            go_simp
            refine NoPanic.normal ?_
            go_wp2_with fail
            go_roundw
            case rel =>
              refine ⟨q, _, .slice ao5 (Q.length + 1) cap5, by omega, rfl, rfl, Lib.hid ?_, Lib.hid ?_, Lib.hid ?_⟩
              · exact row5.out.set 2 _
              · rw [hst.out]
                exact own_set (by simpa using H5.out) (by omega) fun b h => by have := h.2; omega
              · exact gr_trans (gr_of hgr.out B5.out) (gr_set _ _ _ _)
            case measure => simp [intOf] <;> omega
      · have hpI : ¬ (i.pos.length : Int) > 0 := by omega
        obtain ⟨A, hAe⟩ : ∃ A, A = i.pos.reverse ++ i.pos.take 1 := ⟨_, rfl⟩
        have hA := Lib.hid hAe
        have hp00 : i.pos = [] := List.length_eq_zero_iff.1 (by omega)
        have hAl : A.length ≤ 100001 := by rw [hAe, hp00]; simp
        have HOA := Lib.hid (show Own (seqE cellE) (fun b => S b ∧ b < w.heap.size) W.heap.size 33 wr vo A by
          have := hO1.out
          rw [hp00] at this
          rw [hAe, hp00]; exact this)
        have hrowA := hrow
        have HIa := HIr
        have HZa := HZr
        have hbwA := hbw
        have hzA := hzr
        obtain ⟨va, rfl⟩ : ∃ va, va = vo := ⟨_, rfl⟩
        clear hp00 hp0 hAe hO1 hrow HIr HZr hbw
        go_upto_region 8 with fail
        clear e1 o1 lI lO
        obtain ⟨wz, rfl⟩ : ∃ wz, wz = wr := ⟨_, rfl⟩
        have e2 := HIa.out.cell (j := 2) (by simp)
        have lI := HIa.out.lt
        simp only [List.getElem_cons_zero, List.getElem_cons_succ] at e2
        have hwn : wrap64 ((i.neg.length : Int) - 1) = (i.neg.length : Int) - 1 := by unfold wrap64; omega
        go_wp2_with fail
        clear e2 lI hwn
        go_loopw [5] (fun q wr => ∃ (m : Nat) (x : Int) (vo : Value), m ≤ i.neg.length ∧ x = (m : Int) - 1 ∧ q = .int .i64 x ∧ Hid (Row 41 wr (w.heap.size + 1 + 1) [.slice ha i.head.length hc, va, vo]) ∧ Hid (Own (seqE cellE) (fun b => S b ∧ b < w.heap.size) wz.heap.size 33 wr vo (i.neg.drop m).reverse) ∧ Hid (wz.grownBy wr (some (w.heap.size + 1 + 1)))) (fun q _ => (intOf q + 1).toNat)
        case atStart => exact ⟨i.neg.length, _, _, Nat.le_refl _, rfl, rfl, hrowA, Lib.hid (by rw [List.drop_length]; exact Own.nil _ _ _ _ _), Lib.hid (gr_refl _ _)⟩
        case round =>
          obtain ⟨m, x0, vo, hm, hx0, rfl, hrow, hO, hgr⟩ := hrel
          have hzr := hgr.out.size
          have HIr := Lib.hid (HIa.out.at (hgr.out.block _ HIa.out.lt (by simp <;> omega)))
          have HZr := Lib.hid (HZa.out.at (hgr.out.block _ HZa.out.lt (by simp <;> omega)))
          have hbw := Lib.hid (hbwA.out.trans (gr_below hgr.out (B := w.heap.size) (by omega) (by omega)))
          rcases m with _ | q
          · obtain rfl : x0 = -1 := by omega
            have hO2 := Lib.hid (show Own (seqE cellE) (fun b => S b ∧ b < w.heap.size) wz.heap.size 33 wr vo i.neg.reverse from hO.out)
            clear hO hx0 hm
            have HOb := Lib.hid (gr_own HOA.out hgr.out (fun b hb e => by have := (HOA.out.blk hb).1; simp at e; omega) fun b h e => by have := h.2; simp at e; omega)
            obtain ⟨R, hRe⟩ : ∃ R, R = i.neg.reverse := ⟨_, rfl⟩
            have hRl : R.length ≤ 100000 := by rw [hRe, List.length_reverse]; omega
            rw [← hRe] at hO2
            have HR := Lib.hid hRe
            clear hRe
            obtain ⟨oa, oc, rfl, -, -⟩ := hO2.out.shape
            obtain ⟨oa1, oc1, rfl, -, -⟩ := HOb.out.shape
            have o0 := hrow.out.cell (j := 0) (by simp)
            have o1 := hrow.out.cell (j := 1) (by simp)
            have o2 := hrow.out.cell (j := 2) (by simp)
            have r0 := HZr.out.cell (j := 0) (by simp)
            have r1 := HZr.out.cell (j := 1) (by simp)
            have r2 := HZr.out.cell (j := 2) (by simp)
            simp only [List.getElem_cons_zero, List.getElem_cons_succ] at o0 o1 o2 r0 r1 r2
            have fz0 := HZr.out.frozen 0
            have fz1 := HZr.out.frozen 1
            have fz2 := HZr.out.frozen 2
            go_wp2_with fail
            have SR := ((HZr.out.set 0 (.slice ha i.head.length hc)).set 1 (.slice oa1 A.length oc1)).set 2 (.slice oa R.length oc)
            obtain ⟨Wz, hWz⟩ : ∃ Wz, Wz = ((wr.setCell ⟨w.heap.size + 1, 0, none⟩ (.slice ha i.head.length hc)).setCell ⟨w.heap.size + 1, 1, none⟩ (.slice oa1 A.length oc1)).setCell ⟨w.heap.size + 1, 2, none⟩ (.slice oa R.length oc) := ⟨_, rfl⟩
            have GZ := Lib.hid (show wr.grownBy Wz (some (w.heap.size + 1)) by rw [hWz]; exact gr_trans (gr_trans (gr_set _ _ _ _) (gr_set _ _ _ _)) (gr_set _ _ _ _))
            rw [← hWz] at SR
            rw [← hWz]
            have s0 := SR.cell (j := 0) (by simp)
            have s1 := SR.cell (j := 1) (by simp)
            have s2 := SR.cell (j := 2) (by simp)
            simp at s0 s1 s2
            refine bodyPost_ret (v := .agg #[.slice ha i.head.length hc, .slice oa1 A.length oc1, .slice oa R.length oc]) (by simp [results, Tryz.results26, go_sem, s0, s1, s2]) rfl ?_
            refine ⟨_, rfl, hbw.out.trans (gr_below GZ.out (by omega) (by omega)), ?_⟩
            have HAe := hA.out
            refine ⟨_, _, _, rfl, ?_, ?_, ?_⟩
            · refine (gr_seq (HH.out.at hbw.out) GZ.out fun b h e => ?_).mono (fun b h _ => .inl h.1) fun _ _ _ => rfl
              have := h.2; simp at e; omega
            · show Seq (seqE cellE) _ _ _ (i.pos.reverse ++ i.pos.take 1)
              rw [← HAe]
              exact (gr_own HOb.out GZ.out (fun b hb e => by have := (HOb.out.blk hb).1; simp at e; omega) fun b h e => by have := h.2; simp at e; omega).seq (by omega) fun b _ h => h.elim (fun h => .inl h.1) fun h => .inr (by omega)
            · show Seq (seqE cellE) _ _ _ i.neg.reverse
              rw [← HR.out]
              exact (gr_own hO2.out GZ.out (fun b hb e => by have := (hO2.out.blk hb).1; simp at e; omega) fun b h e => by have := h.2; simp at e; omega).seq (by omega) fun b _ h => h.elim (fun h => .inl h.1) fun h => .inr (by omega)
          · obtain rfl : x0 = (q : Int) := by omega
            have hql : q < i.neg.length := hm
            obtain ⟨_, _, ee, -, -, -, -, x5⟩ := (HN.out.at hbw.out)
            simp only [Value.slice.injEq, true_and] at ee
            obtain ⟨rfl, rfl⟩ := ee
            obtain ⟨b2, off2, p1, n1, rfl, ⟨-, hbW2⟩, hb2, hc2, hX⟩ := x5.seq hql
            have HX := Lib.hid hX
            have hst := Lib.hid (drop_rev (l := i.neg) hql)
            have hQl : ((i.neg.drop (q + 1)).reverse).length ≤ 100000 := by rw [List.length_reverse, List.length_drop]; omega
            obtain ⟨Q, hQ⟩ : ∃ Q, Q = (i.neg.drop (q + 1)).reverse := ⟨_, rfl⟩
            rw [← hQ] at hO hst hQl
            obtain ⟨x, hx⟩ : ∃ x, x = i.neg[q] := ⟨_, rfl⟩
            rw [← hx] at hc2 HX hst
            obtain ⟨oa, oc, rfl, -, -⟩ := hO.out.shape
            have lI := HIr.out.lt
            have lO := hrow.out.lt
            have e1 := HIr.out.cell (j := 2) (by simp)
            have o1 := hrow.out.cell (j := 2) (by simp)
            simp only [List.getElem_cons_zero, List.getElem_cons_succ] at e1 o1
            have hqI : (q : Int) < (i.neg.length : Int) := by omega
            have hq0 : (q : Int) ≥ 0 := by omega
            have hq00 : (0 : Int) ≤ (q : Int) := by omega
            have hqt : ((q : Int)).toNat = q := Int.toNat_natCast q
            have hwr : wrap64 ((q : Int) - 1) = (q : Int) - 1 := by unfold wrap64; omega
            clear hX x5 hx hQ hx0
            go_upto_region 11 with fail
            have Hkeep := fun {Wk : World} (hW : Below wz.heap.size wr Wk) => Lib.hid (show Wk.cell? ⟨w.heap.size + 1 + 1, 2, none⟩ = some (.slice oa Q.length oc) ∧ Wk.cell? ⟨w.heap.size, 2, none⟩ = some (.slice (some ⟨b2, off2, none⟩) i.neg.length nc) ∧ Wk.cell? ⟨b2, off2 + q, none⟩ = some (.slice p1 x.length n1) from ⟨(hW.cell (p := ⟨w.heap.size + 1 + 1, 2, none⟩) (show w.heap.size + 1 + 1 < wz.heap.size by omega)).trans o1, (hW.cell (p := ⟨w.heap.size, 2, none⟩) (show w.heap.size < wz.heap.size by omega)).trans e1, (hW.cell (p := ⟨b2, off2 + q, none⟩) (show b2 < wz.heap.size by omega)).trans hc2⟩)
            (try simp only [List.append_eq, List.cons_append, List.nil_append])
            refine wp_region_noPanic ?_
            refine wp_region_last (S := fun w' => w'.cell? ⟨w.heap.size + 1 + 1, 2, none⟩ = some (.slice oa Q.length oc) ∧ w'.cell? ⟨w.heap.size, 2, none⟩ = some (.slice (some ⟨b2, off2, none⟩) i.neg.length nc) ∧ w'.cell? ⟨b2, off2 + q, none⟩ = some (.slice p1 x.length n1)) (by kernel_rfl) ?_ rfl ?_ (fun hHeld => ?_)
            · kernel_rfl
            · exact (Hkeep (Below.drew (Below.refl _ _))).out
            dsimp only [List.dropLast]
            refine wpAnyH_take1 (i := 0) (oi := _) (v := ?_) (by kernel_rfl) rfl (by kernel_rfl) (fun _ _ _ h => h) (Or.inl ⟨by rfl, ?_⟩) (by assumption) ?_
            rotate_left 1
            · intro w hSw; (try dsimp only at hSw); go_simp; (with_reducible rfl)
            (try simp only [Act.put, List.getElem_toArray, List.getElem_cons_zero, List.setIfInBounds_toArray, List.set_cons_zero, List.set_cons_succ])
            refine wpAnyH_take1 (i := 1) (oi := _) (v := ?_) (by kernel_rfl) rfl (by kernel_rfl) (fun _ _ _ h => h) (Or.inl ⟨by rfl, ?_⟩) (by assumption) ?_
            rotate_left 1
            · intro w hSw; (try dsimp only at hSw); go_simp; (with_reducible rfl)
            (try simp only [Act.put, List.getElem_toArray, List.getElem_cons_zero, List.getElem_cons_succ, List.setIfInBounds_toArray, List.set_cons_zero, List.set_cons_succ])
            refine wpAnyH_take1 (i := 2) (oi := _) (v := ?_) (by kernel_rfl) rfl (by kernel_rfl) (fun _ _ _ h => h) (Or.inl ⟨by rfl, ?_⟩) (by assumption) ?_
            rotate_left 1
            · intro w hSw; (try dsimp only at hSw); go_simp; (with_reducible rfl)
            (try simp only [Act.put, List.getElem_toArray, List.getElem_cons_zero, List.getElem_cons_succ, List.setIfInBounds_toArray, List.set_cons_zero, List.set_cons_succ])
            refine wpAnyH_take1 (i := 3) (oi := _) (v := ?_) (by kernel_rfl) rfl (by kernel_rfl) (fun _ _ _ h => h) (Or.inl ⟨by rfl, ?_⟩) (by assumption) ?_
            rotate_left 1
            · intro w hSw; (try dsimp only at hSw); go_simp; (with_reducible rfl)
            (try simp only [Act.put, List.getElem_toArray, List.getElem_cons_zero, List.getElem_cons_succ, List.setIfInBounds_toArray, List.set_cons_zero, List.set_cons_succ])
            refine wpAnyH_take1 (i := 4) (oi := _) (v := ?_) (by kernel_rfl) rfl (by kernel_rfl) (fun _ _ _ h => h) (Or.inl ⟨by rfl, ?_⟩) (by assumption) ?_
            rotate_left 1
            · intro w hSw; (try dsimp only at hSw); go_simp; (with_reducible rfl)
            (try simp only [Act.put, List.getElem_toArray, List.getElem_cons_zero, List.getElem_cons_succ, List.setIfInBounds_toArray, List.set_cons_zero, List.set_cons_succ])
            refine wpAnyH_take1 (i := 5) (oi := _) (v := ?_) (by kernel_rfl) rfl (by kernel_rfl) (fun _ _ _ h => h) (Or.inl ⟨by rfl, ?_⟩) (by assumption) ?_
            rotate_left 1
            · intro w hSw; (try dsimp only at hSw); go_simp; (with_reducible rfl)
            (try simp only [Act.put, List.getElem_toArray, List.getElem_cons_zero, List.getElem_cons_succ, List.setIfInBounds_toArray, List.set_cons_zero, List.set_cons_succ])
            refine wpAnyH_take1 (i := 6) (oi := _) (v := ?_) (by kernel_rfl) rfl (by kernel_rfl) (fun _ _ _ h => h) (Or.inl ⟨by rfl, ?_⟩) (by assumption) ?_
            rotate_left 1
            · intro w hSw; (try dsimp only at hSw); go_simp; (with_reducible rfl)
            (try simp only [Act.put, List.getElem_toArray, List.getElem_cons_zero, List.getElem_cons_succ, List.setIfInBounds_toArray, List.set_cons_zero, List.set_cons_succ])
            refine wpAnyH_one (i := 7) (by kernel_rfl) rfl (by rfl) fun K hK => ?_
            go_simp
            (try dsimp only)
            clear hHeld
            refine hK.out _ _ (Hkeep (Below.mono (Seq.way : Below wr.heap.size wr _) hzr)).out fun hHeld => ?_
            clear hK K
            (try simp only [Act.put, List.getElem_toArray, List.getElem_cons_zero, List.getElem_cons_succ, List.setIfInBounds_toArray, List.set_cons_zero, List.set_cons_succ])
            refine wpAnyH_one (i := 8) (by kernel_rfl) rfl (by rfl) fun K hK => ?_
            refine (wp_app_seqK (E := cellE) (S := fun b => S b ∧ b < w.heap.size) (Sy := fun b => S b ∧ b < w.heap.size) (base := wz.heap.size) (wm := wr) (y := x) (vy := .slice p1 x.length n1) _ _ 23 rfl Tryz.underlying23 infoSeq rfl hO.out rfl Seq.way (HX.out.at Seq.way) (fun b h _ => ⟨h, .inl (by have := h.2; omega)⟩) ((Row.new _ [_] _ rfl).cell (j := 0) (by simp)) (by omega) hzr ?_)
            intro ao5 cap5 w5 hown5 hk5
            have H5 := Lib.hid hown5
            have B5 := Lib.hid (Below.trans (Below.mono (Seq.way : Below wr.heap.size wr _) hzr) hk5.below)
            have row5 := Lib.hid (hrow.out.at (B5.out.block _ (show w.heap.size + 1 + 1 < wz.heap.size by omega)))
            have fz5 := row5.out.frozen 2
            have oc5 := row5.out.cell (j := 2) (by simp)
            simp only [List.getElem_cons_zero, List.getElem_cons_succ] at oc5
            clear hown5 hk5
            clear hHeld
            refine hK.out _ _ (Hkeep B5.out).out fun hHeld => ?_
            clear hK K
            (try simp only [Act.put, List.getElem_toArray, List.getElem_cons_zero, List.getElem_cons_succ, List.setIfInBounds_toArray, List.set_cons_zero, List.set_cons_succ])
            refine wpAnyH_take1 (i := 9) (oi := _) (v := ?_) (by kernel_rfl) rfl (by kernel_rfl) (fun _ _ _ h => h) (Or.inl ⟨by rfl, ?_⟩) (by assumption) ?_
            rotate_left 1
            · intro w hSw; (try dsimp only at hSw); go_simp; (with_reducible rfl)
            (try simp only [Act.put, List.getElem_toArray, List.getElem_cons_zero, List.getElem_cons_succ, List.setIfInBounds_toArray, List.set_cons_zero, List.set_cons_succ])
            refine wpAnyH_done (by kernel_rfl) ?_ _
            refine (show Oper.wp _ _ _ _ _ _ from ?_)
            clear hHeld
            go_simp
            refine NoPanic.normal ?_
            go_wp2_with fail
            go_roundw
            case rel =>
              refine ⟨q, _, .slice ao5 (Q.length + 1) cap5, by omega, rfl, rfl, Lib.hid ?_, Lib.hid ?_, Lib.hid ?_⟩
              · exact row5.out.set 2 _
              · rw [hst.out]
                exact own_set (by simpa using H5.out) (by omega) fun b h => by have := h.2; omega
              · exact gr_trans (gr_of hgr.out B5.out) (gr_set _ _ _ _)
            case measure => simp [intOf] <;> omega
    · obtain rfl : x0 = (q : Int) := by omega
      have hql : q < i.pos.length := hm
      obtain ⟨_, _, ee, -, -, -, -, x5⟩ := (HP.out.at hbw.out)
      simp only [Value.slice.injEq, true_and] at ee
      obtain ⟨rfl, rfl⟩ := ee
      obtain ⟨b2, off2, p1, n1, rfl, ⟨-, hbW2⟩, hb2, hc2, hX⟩ := x5.seq hql
      have HX := Lib.hid hX
      have hst := Lib.hid (drop_rev (l := i.pos) hql)
      have hQl : ((i.pos.drop (q + 1)).reverse).length ≤ 100000 := by rw [List.length_reverse, List.length_drop]; omega
      obtain ⟨Q, hQ⟩ : ∃ Q, Q = (i.pos.drop (q + 1)).reverse := ⟨_, rfl⟩
      rw [← hQ] at hO hst hQl
      obtain ⟨x, hx⟩ : ∃ x, x = i.pos[q] := ⟨_, rfl⟩
      rw [← hx] at hc2 HX hst
      obtain ⟨oa, oc, rfl, -, -⟩ := hO.out.shape
      have lI := HIr.out.lt
      have lO := hrow.out.lt
      have e1 := HIr.out.cell (j := 1) (by simp)
      have o1 := hrow.out.cell (j := 1) (by simp)
      simp only [List.getElem_cons_zero, List.getElem_cons_succ] at e1 o1
      have hqI : (q : Int) < (i.pos.length : Int) := by omega
      have hq0 : (q : Int) ≥ 0 := by omega
      have hq00 : (0 : Int) ≤ (q : Int) := by omega
      have hqt : ((q : Int)).toNat = q := Int.toNat_natCast q
      have hwr : wrap64 ((q : Int) - 1) = (q : Int) - 1 := by unfold wrap64; omega
      clear hX x5 hx hQ hx0
      go_upto_region 5 with fail
      have Hkeep := fun {Wk : World} (hW : Below W.heap.size wr Wk) => Lib.hid (show Wk.cell? ⟨w.heap.size + 1 + 1, 1, none⟩ = some (.slice oa Q.length oc) ∧ Wk.cell? ⟨w.heap.size, 1, none⟩ = some (.slice (some ⟨b2, off2, none⟩) i.pos.length pc) ∧ Wk.cell? ⟨b2, off2 + q, none⟩ = some (.slice p1 x.length n1) from ⟨(hW.cell (p := ⟨w.heap.size + 1 + 1, 1, none⟩) (show w.heap.size + 1 + 1 < W.heap.size by omega)).trans o1, (hW.cell (p := ⟨w.heap.size, 1, none⟩) (show w.heap.size < W.heap.size by omega)).trans e1, (hW.cell (p := ⟨b2, off2 + q, none⟩) (show b2 < W.heap.size by omega)).trans hc2⟩)
      (try simp only [List.append_eq, List.cons_append, List.nil_append])
      refine wp_region_noPanic ?_
      refine wp_region_last (S := fun w' => w'.cell? ⟨w.heap.size + 1 + 1, 1, none⟩ = some (.slice oa Q.length oc) ∧ w'.cell? ⟨w.heap.size, 1, none⟩ = some (.slice (some ⟨b2, off2, none⟩) i.pos.length pc) ∧ w'.cell? ⟨b2, off2 + q, none⟩ = some (.slice p1 x.length n1)) (by kernel_rfl) ?_ rfl ?_ (fun hHeld => ?_)
      · kernel_rfl
      · exact (Hkeep (Below.drew (Below.refl _ _))).out
      dsimp only [List.dropLast]
      refine wpAnyH_take1 (i := 0) (oi := _) (v := ?_) (by kernel_rfl) rfl (by kernel_rfl) (fun _ _ _ h => h) (Or.inl ⟨by rfl, ?_⟩) (by assumption) ?_
      rotate_left 1
      · intro w hSw; (try dsimp only at hSw); go_simp; (with_reducible rfl)
      (try simp only [Act.put, List.getElem_toArray, List.getElem_cons_zero, List.setIfInBounds_toArray, List.set_cons_zero, List.set_cons_succ])
      refine wpAnyH_take1 (i := 1) (oi := _) (v := ?_) (by kernel_rfl) rfl (by kernel_rfl) (fun _ _ _ h => h) (Or.inl ⟨by rfl, ?_⟩) (by assumption) ?_
      rotate_left 1
      · intro w hSw; (try dsimp only at hSw); go_simp; (with_reducible rfl)
      (try simp only [Act.put, List.getElem_toArray, List.getElem_cons_zero, List.getElem_cons_succ, List.setIfInBounds_toArray, List.set_cons_zero, List.set_cons_succ])
      refine wpAnyH_take1 (i := 2) (oi := _) (v := ?_) (by kernel_rfl) rfl (by kernel_rfl) (fun _ _ _ h => h) (Or.inl ⟨by rfl, ?_⟩) (by assumption) ?_
      rotate_left 1
      · intro w hSw; (try dsimp only at hSw); go_simp; (with_reducible rfl)
      (try simp only [Act.put, List.getElem_toArray, List.getElem_cons_zero, List.getElem_cons_succ, List.setIfInBounds_toArray, List.set_cons_zero, List.set_cons_succ])
      refine wpAnyH_take1 (i := 3) (oi := _) (v := ?_) (by kernel_rfl) rfl (by kernel_rfl) (fun _ _ _ h => h) (Or.inl ⟨by rfl, ?_⟩) (by assumption) ?_
      rotate_left 1
      · intro w hSw; (try dsimp only at hSw); go_simp; (with_reducible rfl)
      (try simp only [Act.put, List.getElem_toArray, List.getElem_cons_zero, List.getElem_cons_succ, List.setIfInBounds_toArray, List.set_cons_zero, List.set_cons_succ])
      refine wpAnyH_take1 (i := 4) (oi := _) (v := ?_) (by kernel_rfl) rfl (by kernel_rfl) (fun _ _ _ h => h) (Or.inl ⟨by rfl, ?_⟩) (by assumption) ?_
      rotate_left 1
      · intro w hSw; (try dsimp only at hSw); go_simp; (with_reducible rfl)
      (try simp only [Act.put, List.getElem_toArray, List.getElem_cons_zero, List.getElem_cons_succ, List.setIfInBounds_toArray, List.set_cons_zero, List.set_cons_succ])
      refine wpAnyH_take1 (i := 5) (oi := _) (v := ?_) (by kernel_rfl) rfl (by kernel_rfl) (fun _ _ _ h => h) (Or.inl ⟨by rfl, ?_⟩) (by assumption) ?_
      rotate_left 1
      · intro w hSw; (try dsimp only at hSw); go_simp; (with_reducible rfl)
      (try simp only [Act.put, List.getElem_toArray, List.getElem_cons_zero, List.getElem_cons_succ, List.setIfInBounds_toArray, List.set_cons_zero, List.set_cons_succ])
      refine wpAnyH_take1 (i := 6) (oi := _) (v := ?_) (by kernel_rfl) rfl (by kernel_rfl) (fun _ _ _ h => h) (Or.inl ⟨by rfl, ?_⟩) (by assumption) ?_
      rotate_left 1
      · intro w hSw; (try dsimp only at hSw); go_simp; (with_reducible rfl)
      (try simp only [Act.put, List.getElem_toArray, List.getElem_cons_zero, List.getElem_cons_succ, List.setIfInBounds_toArray, List.set_cons_zero, List.set_cons_succ])
      refine wpAnyH_one (i := 7) (by kernel_rfl) rfl (by rfl) fun K hK => ?_
      go_simp
      (try dsimp only)
      clear hHeld
      refine hK.out _ _ (Hkeep (Below.mono (Seq.way : Below wr.heap.size wr _) hzr)).out fun hHeld => ?_
      clear hK K
      (try simp only [Act.put, List.getElem_toArray, List.getElem_cons_zero, List.getElem_cons_succ, List.setIfInBounds_toArray, List.set_cons_zero, List.set_cons_succ])
      refine wpAnyH_one (i := 8) (by kernel_rfl) rfl (by rfl) fun K hK => ?_
      refine (wp_app_seqK (E := cellE) (S := fun b => S b ∧ b < w.heap.size) (Sy := fun b => S b ∧ b < w.heap.size) (base := W.heap.size) (wm := wr) (y := x) (vy := .slice p1 x.length n1) _ _ 23 rfl Tryz.underlying23 infoSeq rfl hO.out rfl Seq.way (HX.out.at Seq.way) (fun b h _ => ⟨h, .inl (by have := h.2; omega)⟩) ((Row.new _ [_] _ rfl).cell (j := 0) (by simp)) (by omega) hzr ?_)
      intro ao5 cap5 w5 hown5 hk5
      have H5 := Lib.hid hown5
      have B5 := Lib.hid (Below.trans (Below.mono (Seq.way : Below wr.heap.size wr _) hzr) hk5.below)
      have row5 := Lib.hid (hrow.out.at (B5.out.block _ (show w.heap.size + 1 + 1 < W.heap.size by omega)))
      have fz5 := row5.out.frozen 1
      have oc5 := row5.out.cell (j := 1) (by simp)
      simp only [List.getElem_cons_zero, List.getElem_cons_succ] at oc5
      clear hown5 hk5
      clear hHeld
      refine hK.out _ _ (Hkeep B5.out).out fun hHeld => ?_
      clear hK K
      (try simp only [Act.put, List.getElem_toArray, List.getElem_cons_zero, List.getElem_cons_succ, List.setIfInBounds_toArray, List.set_cons_zero, List.set_cons_succ])
      refine wpAnyH_take1 (i := 9) (oi := _) (v := ?_) (by kernel_rfl) rfl (by kernel_rfl) (fun _ _ _ h => h) (Or.inl ⟨by rfl, ?_⟩) (by assumption) ?_
      rotate_left 1
      · intro w hSw; (try dsimp only at hSw); go_simp; (with_reducible rfl)
      (try simp only [Act.put, List.getElem_toArray, List.getElem_cons_zero, List.getElem_cons_succ, List.setIfInBounds_toArray, List.set_cons_zero, List.set_cons_succ])
      refine wpAnyH_done (by kernel_rfl) ?_ _
      refine (show Oper.wp _ _ _ _ _ _ from ?_)
      clear hHeld
      go_simp
      refine NoPanic.normal ?_
      go_wp2_with fail
      go_roundw
      case rel =>
        refine ⟨q, _, .slice ao5 (Q.length + 1) cap5, by omega, rfl, rfl, Lib.hid ?_, Lib.hid ?_, Lib.hid ?_⟩
        · exact row5.out.set 1 _
        · rw [hst.out]
          exact own_set (by simpa using H5.out) (by omega) fun b h => by have := h.2; omega
        · exact gr_trans (gr_of hgr.out B5.out) (gr_set _ _ _ _)
      case measure => simp [intOf] <;> omega
end Go.Proofs.YtaedgpcmkagpeaaGreat
