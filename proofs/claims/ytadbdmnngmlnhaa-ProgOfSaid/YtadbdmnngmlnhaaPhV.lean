/-
  Layer 7: the walk of ProgOf.
-/
import Derived.Test.YtadbdmnngmlnhaaPhCm
namespace Go.Proofs.Ytadbdmnngmlnhaa
open Go Go.RowKit

set_option maxHeartbeats 25600000 in
set_option maxRecDepth 100000 in
theorem of_spec {S : Nat → Prop} {w : World} {v : Value} {l : List Cls} (hl : Seq clsE S w v l) : Calls Try.prog 8 #[v] w (RetV (.bool true) w) := by
  have HL := Lib.hid hl
  obtain ⟨aa, ac, rfl⟩ := hl.shape
  clear hl
  go_enter Try.func8, Try.ntmps8
  go_wp2_with fail
  refine head_spec.mono ?_
  rintro e w1 ⟨rfl, hb1⟩
  have B1 := Lib.hid hb1
  clear hb1
  go_wp2_with fail
  refine (GreatL_spec (HL.out.at B1.out)).mono ?_
  rintro e w2 ⟨rfl, hb2⟩
  have B2 := Lib.hid (below_step hb2 B1.out)
  clear hb2
  cases hg : greatC l with
  | true =>
    clear hg
    go_wp2_with fail
    go_ret
    exact ⟨rfl, B2.out⟩
  | false =>
    have hll := great_len hg
    clear hg
    go_wp2_with fail
    refine (MadeL_spec (HL.out.at B2.out) (by omega)).mono ?_
    rintro e w3 ⟨v3, rfl, hb3, hs3⟩
    obtain ⟨m, hm⟩ : ∃ m, m = madeL l := ⟨_, rfl⟩
    rw [← hm] at hs3
    obtain ⟨ma, mc, rfl⟩ := hs3.shape
    have HM := Lib.hid hs3.any
    have HMay := Lib.hid (show ∀ c ∈ m, mayC c = true by rw [hm]; exact made_may)
    have hmlen : m.length ≤ 70 := by rw [hm]; exact Nat.le_trans (made_len l) hll
    have B3 := Lib.hid (below_step hb3 B2.out)
    clear hs3 hb3 hm
    go_wp2_with fail
    refine (PredsP_spec HM.out HMay.out (by omega)).mono ?_
    rintro e w4 ⟨v4, rfl, hb4, hs4⟩
    have hpl := preds_len HMay.out (by omega)
    obtain ⟨pa, pc, rfl⟩ := hs4.shape
    have HP := Lib.hid hs4.any
    have HM4 := Lib.hid (HM.out.at hb4)
    have B4 := Lib.hid (below_step hb4 B3.out)
    clear hs4 hb4 HM
    have hn0 : (0 : Int) ≤ (m.length : Int) := by omega
    have hmk := run_make_row' (P := Try.prog) 33 3 (.int .i64 0) 8 Try.underlying33 infoInt rfl .i64 .i64 m.length (by omega) (by omega)
    go_wp2_with fail
    clear hmk
    have hr := RowI.made w4 m.length 3 rfl
    obtain ⟨W, hW⟩ : ∃ W, W = w4.alloc (.cells (madeCells #[.int .i64 0] m.length) 3) := ⟨_, rfl⟩
    rw [← hW] at hr ⊢
    obtain ⟨g, hg⟩ : ∃ b, b = w4.heap.size := ⟨_, rfl⟩
    rw [← hg] at hr ⊢
    have hY : Below w4.heap.size w4 W := by rw [hW]; exact Seq.way
    have HO := Lib.hid (show Own intE (fun _ => True) g 3 W (.slice (some ⟨g, 0, none⟩) m.length m.length) (natsI (List.replicate m.length 0)) by
      rw [← natsI_zeros] at hr
      exact own_of_rowI hr (by rw [natsI_len]; simp) (Nat.le_refl _) (fun x hx => by rw [natsI_zeros] at hx; rw [List.eq_of_mem_replicate hx]; exact ⟨by decide, by decide⟩) (by rw [natsI_len]; simp; unfold maxLen; omega))
    have HPW := Lib.hid (show Seq prdE (fun b => b < g) W (.slice pa (predsL m).length pc) (predsL m) from by rw [hg]; exact (HP.out.bnd.mono (T := fun b => b < w4.heap.size) (fun _ h _ => h.2) fun _ _ _ => rfl).at hY)
    have HMW := Lib.hid (show Seq clsE (fun b => b < g) W (.slice ma m.length mc) m from by rw [hg]; exact (HM4.out.bnd.mono (T := fun b => b < w4.heap.size) (fun _ h _ => h.2) fun _ _ _ => rfl).at hY)
    have BW := Lib.hid (below_step hY B4.out)
    have hgW := Lib.hid (show g < W.heap.size ∧ w.heap.size ≤ g from ⟨by rw [hW, hg]; simp, by rw [hg]; exact B4.out.size⟩)
    have hfP := fun {W' : World} (h : W.grownBy W' (some g)) => Lib.hid (show Seq prdE (fun b => b < g) W' _ (predsL m) from grown_seq HPW.out h (fun b hb e => by simp only [Option.some.injEq] at e; omega))
    have hfM := fun {W' : World} (h : W.grownBy W' (some g)) => Lib.hid (show Seq clsE (fun b => b < g) W' _ m from grown_seq HMW.out h (fun b hb e => by simp only [Option.some.injEq] at e; omega))
    clear hW hg hr hY HP HM4
    go_loopw [7] (fun i wr => ∃ (k : Nat) (t : List Nat), k ≤ (predsL m).length ∧ i = .int .i64 k ∧ Hid (Times m k 0 t) ∧ Hid (Own intE (fun _ => True) g 3 wr (.slice (some ⟨g, 0, none⟩) m.length m.length) (natsI t)) ∧ Hid (W.grownBy wr (some g))) (fun i _ => (predsL m).length - (intOf i).toNat)
    case atStart => exact ⟨0, _, Nat.zero_le _, rfl, Lib.hid (times_zero m), HO, Lib.hid (World.grownBy.refl _ _)⟩
    case round =>
      clear HO
      obtain ⟨i, t, hi, rfl, hT, hO, hgr⟩ := hrel
      have hzr := hgr.out.size
      by_cases hlt : i < (predsL m).length
      · obtain ⟨_, _, ee, -, -, -, -, x5⟩ := (hfP hgr.out).out
        simp only [Value.slice.injEq, true_and] at ee
        obtain ⟨rfl, rfl⟩ := ee
        obtain ⟨bp, op, rfl, hbp, l1, c0, c1, -, -⟩ := x5.prd hlt
        have hspec := Lib.hid (OfP_spec (p := (predsL m)[i]) (hfM hgr.out).out HMay.out (by omega))
        have hnx0 := Lib.hid (show ∀ Q, Q = ofL m (predsL m)[i] → ∀ k t, Times m i k t → ∀ hk : k < Q.length, lv t Q[k] = 0 ∧ Times m i (k + 1) (t.set Q[k] 1) from by rintro _ rfl k t h hk; exact times_next h hlt hk)
        have hrw0 := Lib.hid (show ∀ Q, Q = ofL m (predsL m)[i] → ∀ t, Times m i Q.length t → Times m (i + 1) 0 t from by rintro _ rfl t h; exact times_row hlt h)
        have hog0 := Lib.hid (show ∀ Q, Q = ofL m (predsL m)[i] → ∀ k, ∀ hk : k < Q.length, ∃ h : Q[k] < m.length, prT m[Q[k]].head = (predsL m)[i] from by rintro _ rfl k hk; exact ofL_get hk)
        have hor0 := Lib.hid (show ∀ Q, Q = ofL m (predsL m)[i] → Q.Pairwise (· < ·) from by rintro _ rfl; exact ofL_rise m _)
        have hol : (ofL m (predsL m)[i]).length ≤ 70 := by have := ofTo_len m (predsL m)[i] m.length; show (ofTo m (predsL m)[i] m.length).length ≤ 70; omega
        obtain ⟨p, hp⟩ : ∃ p, p = (predsL m)[i] := ⟨_, rfl⟩
        simp only [← hp] at c0 c1 hspec hnx0 hrw0 hog0 hor0 hol
        have hpe := Lib.hid hp
        obtain ⟨O, hOe⟩ : ∃ O, O = ofL m p := ⟨_, rfl⟩
        have hnx := Lib.hid (hnx0.out O hOe)
        have hrw := Lib.hid (hrw0.out O hOe)
        have hog := Lib.hid (hog0.out O hOe)
        have hor := Lib.hid (hor0.out O hOe)
        rw [← hOe] at hspec hol
        have hiI : (i : Int) < ((predsL m).length : Int) := by omega
        have hi0 : (0 : Int) ≤ (i : Int) := by omega
        clear hp x5 hOe hnx0 hrw0 hog0 hor0
        go_wp2_with fail
        refine hspec.out.mono ?_
        rintro e y1 ⟨v1, rfl, hb1, hs1⟩
        have hol2 : (natsI O).length = O.length := natsI_len O
        obtain ⟨oa, oc, rfl⟩ := hs1.shape
        rw [hol2] at hs1 ⊢
        have HS1 := Lib.hid hs1
        have Hg1 := Lib.hid (grown_of hgr.out hb1)
        have HO1 := Lib.hid (hO.out.move hb1)
        have hgy := Lib.hid (show g < wr.heap.size from by have := hgW.out.1; omega)
        clear hs1 hb1 c0 c1
        go_wp2_with fail
        go_loopw [9] (fun z wz => ∃ (k : Nat) (t : List Nat), k ≤ O.length ∧ z = .int .i64 k ∧ Hid (Times m i k t) ∧ Hid (Own intE (fun _ => True) g 3 wz (.slice (some ⟨g, 0, none⟩) m.length m.length) (natsI t)) ∧ Hid (y1.grownBy wz (some g))) (fun z _ => O.length - (intOf z).toNat)
        case atStart => exact ⟨0, t, Nat.zero_le _, rfl, hT, HO1, Lib.hid (World.grownBy.refl _ _)⟩
        case round =>
          clear hT hO HO1
          obtain ⟨k, t, hk, rfl, hT, hO, hgz⟩ := hrel
          have hgt := Lib.hid (grown_trans Hg1.out hgz.out)
          by_cases hkl : k < O.length
          · obtain ⟨hok, hoh⟩ := hog.out k hkl
            obtain ⟨hz0, hTn⟩ := hnx.out k t hT.out hkl
            have HTn := Lib.hid hTn
            have hokt : O[k] < t.length := by rw [hT.out.1]; exact hok
            obtain ⟨_, _, ee, -, -, -, -, x6⟩ := grown_seq HS1.out hgz.out (fun b hb e => by simp only [Option.some.injEq] at e; have := hgy.out; omega)
            simp only [Value.slice.injEq] at ee
            obtain ⟨rfl, -, rfl⟩ := ee
            have x6b := Lib.hid x6
            obtain ⟨b2, o2, rfl, -, l2, e0, -⟩ := x6.int (k := k) (by rw [natsI_len]; exact hkl)
            rw [natsI_get hkl] at e0
            obtain ⟨_, _, ee, -, -, -, -, x7⟩ := (hfM hgt.out).out
            simp only [Value.slice.injEq, true_and] at ee
            obtain ⟨rfl, rfl⟩ := ee
            obtain ⟨bm, om, ha, hc, la, lc, rfl, -, l3, d0, -, hH, -⟩ := x7.cls hok
            obtain ⟨_, _, ee, -, -, -, -, x8⟩ := (hfP hgt.out).out
            simp only [Value.slice.injEq, true_and] at ee
            obtain ⟨rfl, rfl⟩ := ee
            obtain ⟨bp2, op2, ee2, -, l4, p0, p1, -, -⟩ := x8.prd hlt
            simp only [Option.some.injEq, Addr.mk.injEq, and_true] at ee2
            obtain ⟨rfl, rfl⟩ := ee2
            rw [← hpe.out] at p0 p1
            obtain ⟨_, _, eo, -, gl, q0, q1⟩ := hO.out.getI (k := O[k]) (by rw [natsI_len]; exact hokt)
            simp only [Value.slice.injEq, Option.some.injEq, Addr.mk.injEq, and_true] at eo
            obtain ⟨rfl, -, -⟩ := eo
            have q2 := q0 O[k] (by rw [natsI_len]; exact hokt)
            rw [natsI_lv hokt, hz0] at q2
            have q3 := q1 O[k]
            have hset := Lib.hid (fun (W' : World) (h : Below wr.heap.size wr W') => (show Own intE (fun _ => True) g 3 (W'.setCell ⟨g, O[k], none⟩ (.int .i64 ((1 : Nat) : Int))) (.slice (some ⟨g, 0, none⟩) m.length m.length) (natsI (t.set O[k] 1)) from by
              rw [← natsI_set]
              exact (hO.out.move h).setI (by rw [natsI_len, hT.out.1]) (k := O[k]) (by rw [natsI_len]; exact hokt) (y := ((1 : Nat) : Int)) ⟨by decide, by decide⟩))
            have hpos := (mayC_parts (HMay.out _ (List.getElem_mem hok))).2.1.pos
            have HH := Lib.hid hH
            have hspec2 := Lib.hid (fun (W' : World) (h : Below wr.heap.size wr W') => PredR_spec (w := W') (HH.out.at h) hpos)
            rw [hoh] at hspec2
            unfold prdV at hspec2
            obtain ⟨hl, hhe⟩ : ∃ hl, hl = m[O[k]].head.length := ⟨_, rfl⟩
            simp only [← hhe] at d0 hspec2
            obtain ⟨ok, hoke⟩ : ∃ ok, ok = O[k] := ⟨_, rfl⟩
            have hok2 : ok < m.length := by rw [hoke]; exact hok
            rw [← hoke] at e0 d0 q2 q3 hset HTn
            have hkI : (k : Int) < (O.length : Int) := by omega
            have hk0 : (0 : Int) ≤ (k : Int) := by omega
            have hiI2 : (i : Int) < ((predsL m).length : Int) := by omega
            have hi02 : (0 : Int) ≤ (i : Int) := by omega
            have hoI : (ok : Int) < (m.length : Int) := by omega
            have ho0 : (0 : Int) ≤ (ok : Int) := by omega
            have hon : ((ok : Int) < 0) = False := eq_false (by omega)
            have hoge : ((ok : Int) ≥ (m.length : Int)) = False := eq_false (by omega)
            have hobe : ((m.length : Int) ≤ (ok : Int)) = False := eq_false (by omega)
            have hprev := Lib.hid (fun q (hq : q + 1 = k) => (show ∃ hq2 : q < O.length, O[q] < ok by rw [hoke]; exact ⟨by omega, List.pairwise_iff_getElem.1 hor.out q k (by omega) hkl (by omega)⟩))
            clear hog hnx hoh hz0 hTn hoke hhe hH x6 x7 x8 q0 q1 hokt hpos
            rcases k with _ | q
            · rw [Nat.add_zero] at e0
              have Kq := fun {W' : World} (h : Below wr.heap.size wr W') => Lib.hid (show W'.cell? ⟨b2, o2, none⟩ = some (.int .i64 (ok : Nat)) ∧ W'.cell? ⟨bm, om + ok * 2, none⟩ = some (.slice ha hl hc) ∧ W'.cell? ⟨bp, op + i * 2, none⟩ = some (.string p.name) ∧ W'.cell? ⟨bp, op + i * 2 + 1, none⟩ = some (.int .i64 p.n) from
                ⟨(h.cell (p := ⟨b2, o2, none⟩) l2).trans e0, (h.cell (p := ⟨bm, om + ok * 2, none⟩) l3).trans d0, (h.cell (p := ⟨bp, op + i * 2, none⟩) l4).trans p0, (h.cell (p := ⟨bp, op + i * 2 + 1, none⟩) l4).trans p1⟩)
              clear e0 d0 p0 p1
              go_upto_region 14 with fail
              (try simp only [List.append_eq, List.cons_append, List.nil_append])
              refine wp_region_noPanic ?_
              refine wp_region_held_drew (S := fun w' => w'.cell? ⟨b2, o2, none⟩ = some (.int .i64 (ok : Nat)) ∧ w'.cell? ⟨bm, om + ok * 2, none⟩ = some (.slice ha hl hc) ∧ w'.cell? ⟨bp, op + i * 2, none⟩ = some (.string p.name) ∧ w'.cell? ⟨bp, op + i * 2 + 1, none⟩ = some (.int .i64 p.n)) (by kernel_rfl) ?_ (fun hHeld => ?_)
              · exact (Kq (Below.drew (Below.refl _ _))).out
              refine wpAnyH_take1 (i := 0) (oi := _) (v := ?_) (by kernel_rfl) rfl (by kernel_rfl) (fun _ _ _ h => h) (Or.inl ⟨by rfl, ?_⟩) (by assumption) ?_
              rotate_left 1
              · intro w hSw; (try dsimp only at hSw); go_simp; (with_reducible rfl)
              (try simp only [Act.put, List.getElem_toArray, List.getElem_cons_zero, List.setIfInBounds_toArray, List.set_cons_zero, List.set_cons_succ])
              refine wpAnyH_take1 (i := 1) (oi := _) (v := ?_) (by kernel_rfl) rfl (by kernel_rfl) (fun _ _ _ h => h) (Or.inl ⟨by rfl, ?_⟩) (by assumption) ?_
              rotate_left 1
              · intro w hSw; (try dsimp only at hSw); go_simp; (with_reducible rfl)
              (try simp only [Act.put, List.getElem_toArray, List.getElem_cons_zero, List.getElem_cons_succ, List.setIfInBounds_toArray, List.set_cons_zero, List.set_cons_succ])
              refine wpAnyH_take1 (i := 2) (oi := _) (v := ?_) (by kernel_rfl) rfl (by kernel_rfl) (fun _ _ _ h => h) (Or.inl ⟨by rfl, ?_⟩) (by assumption) ?_
              rotate_left 1
              · intro w hSw; (try dsimp only at hSw); go_simp; (with_reducible rfl)
              (try simp only [Act.put, List.getElem_toArray, List.getElem_cons_zero, List.getElem_cons_succ, List.setIfInBounds_toArray, List.set_cons_zero, List.set_cons_succ])
              refine wpAnyH_take1 (i := 3) (oi := _) (v := ?_) (by kernel_rfl) rfl (by kernel_rfl) (fun _ _ _ h => h) (Or.inl ⟨by rfl, ?_⟩) (by assumption) ?_
              rotate_left 1
              · intro w hSw; (try dsimp only at hSw); go_simp; (with_reducible rfl)
              (try simp only [Act.put, List.getElem_toArray, List.getElem_cons_zero, List.getElem_cons_succ, List.setIfInBounds_toArray, List.set_cons_zero, List.set_cons_succ])
              refine wpAnyH_take1 (i := 4) (oi := _) (v := ?_) (by kernel_rfl) rfl (by kernel_rfl) (fun _ _ _ h => h) (Or.inl ⟨by rfl, ?_⟩) (by assumption) ?_
              rotate_left 1
              · intro w hSw; (try dsimp only at hSw); go_simp; (with_reducible rfl)
              (try simp only [Act.put, List.getElem_toArray, List.getElem_cons_zero, List.getElem_cons_succ, List.setIfInBounds_toArray, List.set_cons_zero, List.set_cons_succ])
              refine wpAnyH_take1 (i := 5) (oi := _) (v := ?_) (by kernel_rfl) rfl (by kernel_rfl) (fun _ _ _ h => h) (Or.inl ⟨by rfl, ?_⟩) (by assumption) ?_
              rotate_left 1
              · intro w hSw; (try dsimp only at hSw); go_simp; (with_reducible rfl)
              (try simp only [Act.put, List.getElem_toArray, List.getElem_cons_zero, List.getElem_cons_succ, List.setIfInBounds_toArray, List.set_cons_zero, List.set_cons_succ])
              refine wpAnyH_take1 (i := 6) (oi := _) (v := ?_) (by kernel_rfl) rfl (by kernel_rfl) (fun _ _ _ h => h) (Or.inl ⟨by rfl, ?_⟩) (by assumption) ?_
              rotate_left 1
              · intro w hSw; (try dsimp only at hSw); go_simp; (with_reducible rfl)
              (try simp only [Act.put, List.getElem_toArray, List.getElem_cons_zero, List.getElem_cons_succ, List.setIfInBounds_toArray, List.set_cons_zero, List.set_cons_succ])
              refine wpAnyH_take1 (i := 7) (oi := _) (v := ?_) (by kernel_rfl) rfl (by kernel_rfl) (fun _ _ _ h => h) (Or.inl ⟨by rfl, ?_⟩) (by assumption) ?_
              rotate_left 1
              · intro w hSw; (try dsimp only at hSw); go_simp; (with_reducible rfl)
              (try simp only [Act.put, List.getElem_toArray, List.getElem_cons_zero, List.getElem_cons_succ, List.setIfInBounds_toArray, List.set_cons_zero, List.set_cons_succ])
              refine wpAnyH_take1 (i := 8) (oi := _) (v := ?_) (by kernel_rfl) rfl (by kernel_rfl) (fun _ _ _ h => h) (Or.inl ⟨by rfl, ?_⟩) (by assumption) ?_
              rotate_left 1
              · intro w hSw; (try dsimp only at hSw); go_simp; (with_reducible rfl)
              (try simp only [Act.put, List.getElem_toArray, List.getElem_cons_zero, List.getElem_cons_succ, List.setIfInBounds_toArray, List.set_cons_zero, List.set_cons_succ])
              refine wpAnyH_take1 (i := 9) (oi := _) (v := ?_) (by kernel_rfl) rfl (by kernel_rfl) (fun _ _ _ h => h) (Or.inl ⟨by rfl, ?_⟩) (by assumption) ?_
              rotate_left 1
              · intro w hSw; (try dsimp only at hSw); go_simp; (with_reducible rfl)
              (try simp only [Act.put, List.getElem_toArray, List.getElem_cons_zero, List.getElem_cons_succ, List.setIfInBounds_toArray, List.set_cons_zero, List.set_cons_succ])
              refine wpAnyH_take1 (i := 10) (oi := _) (v := ?_) (by kernel_rfl) rfl (by kernel_rfl) (fun _ _ _ h => h) (Or.inl ⟨by rfl, ?_⟩) (by assumption) ?_
              rotate_left 1
              · intro w hSw; (try dsimp only at hSw); go_simp; (with_reducible rfl)
              (try simp only [Act.put, List.getElem_toArray, List.getElem_cons_zero, List.getElem_cons_succ, List.setIfInBounds_toArray, List.set_cons_zero, List.set_cons_succ])
              refine wpAnyH_take1 (i := 11) (oi := _) (v := ?_) (by kernel_rfl) rfl (by kernel_rfl) (fun _ _ _ h => h) (Or.inl ⟨by rfl, ?_⟩) (by assumption) ?_
              rotate_left 1
              · intro w hSw; (try dsimp only at hSw); go_simp; (with_reducible rfl)
              (try simp only [Act.put, List.getElem_toArray, List.getElem_cons_zero, List.getElem_cons_succ, List.setIfInBounds_toArray, List.set_cons_zero, List.set_cons_succ])
              refine wpAnyH_take1 (i := 12) (oi := _) (v := ?_) (by kernel_rfl) rfl (by kernel_rfl) (fun _ _ _ h => h) (Or.inl ⟨by rfl, ?_⟩) (by assumption) ?_
              rotate_left 1
              · intro w hSw; (try dsimp only at hSw); go_simp; (with_reducible rfl)
              (try simp only [Act.put, List.getElem_toArray, List.getElem_cons_zero, List.getElem_cons_succ, List.setIfInBounds_toArray, List.set_cons_zero, List.set_cons_succ])
              refine wpAnyH_take1 (i := 13) (oi := _) (v := ?_) (by kernel_rfl) rfl (by kernel_rfl) (fun _ _ _ h => h) (Or.inl ⟨by rfl, ?_⟩) (by assumption) ?_
              rotate_left 1
              · intro w hSw; (try dsimp only at hSw); go_simp; (with_reducible rfl)
              (try simp only [Act.put, List.getElem_toArray, List.getElem_cons_zero, List.getElem_cons_succ, List.setIfInBounds_toArray, List.set_cons_zero, List.set_cons_succ])
              refine wpAnyH_take1 (i := 14) (oi := _) (v := ?_) (by kernel_rfl) rfl (by kernel_rfl) (fun _ _ _ h => h) (Or.inl ⟨by rfl, ?_⟩) (by assumption) ?_
              rotate_left 1
              · intro w hSw; (try dsimp only at hSw); go_simp; (with_reducible rfl)
              (try simp only [Act.put, List.getElem_toArray, List.getElem_cons_zero, List.getElem_cons_succ, List.setIfInBounds_toArray, List.set_cons_zero, List.set_cons_succ])
              refine wpAnyH_take1 (i := 15) (oi := _) (v := ?_) (by kernel_rfl) rfl (by kernel_rfl) (fun _ _ _ h => h) (Or.inl ⟨by rfl, ?_⟩) (by assumption) ?_
              rotate_left 1
              · intro w hSw; (try dsimp only at hSw); go_simp; (with_reducible rfl)
              (try simp only [Act.put, List.getElem_toArray, List.getElem_cons_zero, List.getElem_cons_succ, List.setIfInBounds_toArray, List.set_cons_zero, List.set_cons_succ])
              refine wpAnyH_take1 (i := 16) (oi := _) (v := ?_) (by kernel_rfl) rfl (by kernel_rfl) (fun _ _ _ h => h) (Or.inl ⟨by rfl, ?_⟩) (by assumption) ?_
              rotate_left 1
              · intro w hSw; (try dsimp only at hSw); go_simp; (with_reducible rfl)
              (try simp only [Act.put, List.getElem_toArray, List.getElem_cons_zero, List.getElem_cons_succ, List.setIfInBounds_toArray, List.set_cons_zero, List.set_cons_succ])
              refine wpAnyH_take1 (i := 17) (oi := _) (v := ?_) (by kernel_rfl) rfl (by kernel_rfl) (fun _ _ _ h => h) (Or.inl ⟨by rfl, ?_⟩) (by assumption) ?_
              rotate_left 1
              · intro w hSw; (try dsimp only at hSw); go_simp; (with_reducible rfl)
              (try simp only [Act.put, List.getElem_toArray, List.getElem_cons_zero, List.getElem_cons_succ, List.setIfInBounds_toArray, List.set_cons_zero, List.set_cons_succ])
              refine wpAnyH_take1 (i := 18) (oi := _) (v := undef) (by kernel_rfl) rfl (by kernel_rfl) (fun _ _ _ h => h) (Or.inr ⟨by rfl, rfl⟩) (by assumption) ?_
              (try simp only [Act.put, List.getElem_toArray, List.getElem_cons_zero, List.getElem_cons_succ, List.setIfInBounds_toArray, List.set_cons_zero, List.set_cons_succ])
              refine wpAnyH_take1 (i := 19) (oi := _) (v := undef) (by kernel_rfl) rfl (by kernel_rfl) (fun _ _ _ h => h) (Or.inr ⟨by rfl, rfl⟩) (by assumption) ?_
              (try simp only [Act.put, List.getElem_toArray, List.getElem_cons_zero, List.getElem_cons_succ, List.setIfInBounds_toArray, List.set_cons_zero, List.set_cons_succ])
              refine wpAnyH_take1 (i := 20) (oi := _) (v := undef) (by kernel_rfl) rfl (by kernel_rfl) (fun _ _ _ h => h) (Or.inr ⟨by rfl, rfl⟩) (by assumption) ?_
              (try simp only [Act.put, List.getElem_toArray, List.getElem_cons_zero, List.getElem_cons_succ, List.setIfInBounds_toArray, List.set_cons_zero, List.set_cons_succ])
              refine wpAnyH_take1 (i := 21) (oi := _) (v := undef) (by kernel_rfl) rfl (by kernel_rfl) (fun _ _ _ h => h) (Or.inr ⟨by rfl, rfl⟩) (by assumption) ?_
              (try simp only [Act.put, List.getElem_toArray, List.getElem_cons_zero, List.getElem_cons_succ, List.setIfInBounds_toArray, List.set_cons_zero, List.set_cons_succ])
              refine wpAnyH_take1 (i := 22) (oi := _) (v := undef) (by kernel_rfl) rfl (by kernel_rfl) (fun _ _ _ h => h) (Or.inr ⟨by rfl, rfl⟩) (by assumption) ?_
              (try simp only [Act.put, List.getElem_toArray, List.getElem_cons_zero, List.getElem_cons_succ, List.setIfInBounds_toArray, List.set_cons_zero, List.set_cons_succ])
              refine wpAnyH_take1 (i := 23) (oi := _) (v := undef) (by kernel_rfl) rfl (by kernel_rfl) (fun _ _ _ h => h) (Or.inr ⟨by rfl, rfl⟩) (by assumption) ?_
              (try simp only [Act.put, List.getElem_toArray, List.getElem_cons_zero, List.getElem_cons_succ, List.setIfInBounds_toArray, List.set_cons_zero, List.set_cons_succ])
              refine wpAnyH_take1 (i := 24) (oi := _) (v := undef) (by kernel_rfl) rfl (by kernel_rfl) (fun _ _ _ h => h) (Or.inr ⟨by rfl, rfl⟩) (by assumption) ?_
              (try simp only [Act.put, List.getElem_toArray, List.getElem_cons_zero, List.getElem_cons_succ, List.setIfInBounds_toArray, List.set_cons_zero, List.set_cons_succ])
              refine wpAnyH_take1 (i := 25) (oi := _) (v := undef) (by kernel_rfl) rfl (by kernel_rfl) (fun _ _ _ h => h) (Or.inr ⟨by rfl, rfl⟩) (by assumption) ?_
              (try simp only [Act.put, List.getElem_toArray, List.getElem_cons_zero, List.getElem_cons_succ, List.setIfInBounds_toArray, List.set_cons_zero, List.set_cons_succ])
              refine wpAnyH_take1 (i := 26) (oi := _) (v := undef) (by kernel_rfl) rfl (by kernel_rfl) (fun _ _ _ h => h) (Or.inr ⟨by rfl, rfl⟩) (by assumption) ?_
              (try simp only [Act.put, List.getElem_toArray, List.getElem_cons_zero, List.getElem_cons_succ, List.setIfInBounds_toArray, List.set_cons_zero, List.set_cons_succ])
              refine wpAnyH_take1 (i := 27) (oi := _) (v := undef) (by kernel_rfl) rfl (by kernel_rfl) (fun _ _ _ h => h) (Or.inr ⟨by rfl, rfl⟩) (by assumption) ?_
              (try simp only [Act.put, List.getElem_toArray, List.getElem_cons_zero, List.getElem_cons_succ, List.setIfInBounds_toArray, List.set_cons_zero, List.set_cons_succ])
              refine wpAnyH_take1 (i := 28) (oi := _) (v := ?_) (by kernel_rfl) rfl (by kernel_rfl) (fun _ _ _ h => h) (Or.inl ⟨by rfl, ?_⟩) (by assumption) ?_
              rotate_left 1
              · intro w hSw; (try dsimp only at hSw); go_simp; (with_reducible rfl)
              (try simp only [Act.put, List.getElem_toArray, List.getElem_cons_zero, List.getElem_cons_succ, List.setIfInBounds_toArray, List.set_cons_zero, List.set_cons_succ])
              refine wpAnyH_take1 (i := 29) (oi := _) (v := ?_) (by kernel_rfl) rfl (by kernel_rfl) (fun _ _ _ h => h) (Or.inl ⟨by rfl, ?_⟩) (by assumption) ?_
              rotate_left 1
              · intro w hSw; (try dsimp only at hSw); go_simp; (with_reducible rfl)
              (try simp only [Act.put, List.getElem_toArray, List.getElem_cons_zero, List.getElem_cons_succ, List.setIfInBounds_toArray, List.set_cons_zero, List.set_cons_succ])
              refine wpAnyH_take1 (i := 30) (oi := _) (v := ?_) (by kernel_rfl) rfl (by kernel_rfl) (fun _ _ _ h => h) (Or.inl ⟨by rfl, ?_⟩) (by assumption) ?_
              rotate_left 1
              · intro w hSw; (try dsimp only at hSw); go_simp; (with_reducible rfl)
              (try simp only [Act.put, List.getElem_toArray, List.getElem_cons_zero, List.getElem_cons_succ, List.setIfInBounds_toArray, List.set_cons_zero, List.set_cons_succ])
              refine wpAnyH_take1 (i := 31) (oi := _) (v := ?_) (by kernel_rfl) rfl (by kernel_rfl) (fun _ _ _ h => h) (Or.inl ⟨by rfl, ?_⟩) (by assumption) ?_
              rotate_left 1
              · intro w hSw; (try dsimp only at hSw); go_simp; (with_reducible rfl)
              (try simp only [Act.put, List.getElem_toArray, List.getElem_cons_zero, List.getElem_cons_succ, List.setIfInBounds_toArray, List.set_cons_zero, List.set_cons_succ])
              refine wpAnyH_take1 (i := 32) (oi := _) (v := ?_) (by kernel_rfl) rfl (by kernel_rfl) (fun _ _ _ h => h) (Or.inl ⟨by rfl, ?_⟩) (by assumption) ?_
              rotate_left 1
              · intro w hSw; (try dsimp only at hSw); go_simp; (with_reducible rfl)
              (try simp only [Act.put, List.getElem_toArray, List.getElem_cons_zero, List.getElem_cons_succ, List.setIfInBounds_toArray, List.set_cons_zero, List.set_cons_succ])
              refine wpAnyH_take1 (i := 33) (oi := _) (v := ?_) (by kernel_rfl) rfl (by kernel_rfl) (fun _ _ _ h => h) (Or.inl ⟨by rfl, ?_⟩) (by assumption) ?_
              rotate_left 1
              · intro w hSw; (try dsimp only at hSw); go_simp; (with_reducible rfl)
              (try simp only [Act.put, List.getElem_toArray, List.getElem_cons_zero, List.getElem_cons_succ, List.setIfInBounds_toArray, List.set_cons_zero, List.set_cons_succ])
              refine wpAnyH_take1 (i := 34) (oi := _) (v := ?_) (by kernel_rfl) rfl (by kernel_rfl) (fun _ _ _ h => h) (Or.inl ⟨by rfl, ?_⟩) (by assumption) ?_
              rotate_left 1
              · intro w hSw; (try dsimp only at hSw); go_simp; (with_reducible rfl)
              (try simp only [Act.put, List.getElem_toArray, List.getElem_cons_zero, List.getElem_cons_succ, List.setIfInBounds_toArray, List.set_cons_zero, List.set_cons_succ])
              refine wpAnyH_take1 (i := 35) (oi := _) (v := ?_) (by kernel_rfl) rfl (by kernel_rfl) (fun _ _ _ h => h) (Or.inl ⟨by rfl, ?_⟩) (by assumption) ?_
              rotate_left 1
              · intro w hSw; (try dsimp only at hSw); go_simp; (with_reducible rfl)
              (try simp only [Act.put, List.getElem_toArray, List.getElem_cons_zero, List.getElem_cons_succ, List.setIfInBounds_toArray, List.set_cons_zero, List.set_cons_succ])
              refine wpAnyH_take1 (i := 36) (oi := _) (v := ?_) (by kernel_rfl) rfl (by kernel_rfl) (fun _ _ _ h => h) (Or.inl ⟨by rfl, ?_⟩) (by assumption) ?_
              rotate_left 1
              · intro w hSw; (try dsimp only at hSw); go_simp; (with_reducible rfl)
              (try simp only [Act.put, List.getElem_toArray, List.getElem_cons_zero, List.getElem_cons_succ, List.setIfInBounds_toArray, List.set_cons_zero, List.set_cons_succ])
              refine wpAnyH_take1 (i := 37) (oi := _) (v := ?_) (by kernel_rfl) rfl (by kernel_rfl) (fun _ _ _ h => h) (Or.inl ⟨by rfl, ?_⟩) (by assumption) ?_
              rotate_left 1
              · intro w hSw; (try dsimp only at hSw); go_simp; (with_reducible rfl)
              (try simp only [Act.put, List.getElem_toArray, List.getElem_cons_zero, List.getElem_cons_succ, List.setIfInBounds_toArray, List.set_cons_zero, List.set_cons_succ])
              refine wpAnyH_take1 (i := 38) (oi := _) (v := ?_) (by kernel_rfl) rfl (by kernel_rfl) (fun _ _ _ h => h) (Or.inl ⟨by rfl, ?_⟩) (by assumption) ?_
              rotate_left 1
              · intro w hSw; (try dsimp only at hSw); go_simp; (with_reducible rfl)
              (try simp only [Act.put, List.getElem_toArray, List.getElem_cons_zero, List.getElem_cons_succ, List.setIfInBounds_toArray, List.set_cons_zero, List.set_cons_succ])
              refine wpAnyH_take1 (i := 40) (oi := _) (v := ?_) (by kernel_rfl) rfl (by kernel_rfl) (fun _ _ _ h => h) (Or.inl ⟨by rfl, ?_⟩) (by assumption) ?_
              rotate_left 1
              · intro w hSw; (try dsimp only at hSw); go_simp; (with_reducible rfl)
              (try simp only [Act.put, List.getElem_toArray, List.getElem_cons_zero, List.getElem_cons_succ, List.setIfInBounds_toArray, List.set_cons_zero, List.set_cons_succ])
              refine wpAnyH_take1 (i := 41) (oi := _) (v := ?_) (by kernel_rfl) rfl (by kernel_rfl) (fun _ _ _ h => h) (Or.inl ⟨by rfl, ?_⟩) (by assumption) ?_
              rotate_left 1
              · intro w hSw; (try dsimp only at hSw); go_simp; (with_reducible rfl)
              (try simp only [Act.put, List.getElem_toArray, List.getElem_cons_zero, List.getElem_cons_succ, List.setIfInBounds_toArray, List.set_cons_zero, List.set_cons_succ])
              refine wpAnyH_take1 (i := 42) (oi := _) (v := ?_) (by kernel_rfl) rfl (by kernel_rfl) (fun _ _ _ h => h) (Or.inl ⟨by rfl, ?_⟩) (by assumption) ?_
              rotate_left 1
              · intro w hSw; (try dsimp only at hSw); go_simp; (with_reducible rfl)
              (try simp only [Act.put, List.getElem_toArray, List.getElem_cons_zero, List.getElem_cons_succ, List.setIfInBounds_toArray, List.set_cons_zero, List.set_cons_succ])
              refine wpAnyH_take1 (i := 43) (oi := _) (v := ?_) (by kernel_rfl) rfl (by kernel_rfl) (fun _ _ _ h => h) (Or.inl ⟨by rfl, ?_⟩) (by assumption) ?_
              rotate_left 1
              · intro w hSw; (try dsimp only at hSw); go_simp; (with_reducible rfl)
              (try simp only [Act.put, List.getElem_toArray, List.getElem_cons_zero, List.getElem_cons_succ, List.setIfInBounds_toArray, List.set_cons_zero, List.set_cons_succ])
              refine wpAnyH_one (i := 39) (by kernel_rfl) rfl (by rfl) fun K hK => ?_
              go_simp
              refine (hspec2.out _ Seq.way).mono ?_
              rintro e y3 ⟨rfl, hy3⟩
              have HY3 := below_step hy3 (Seq.way : Below wr.heap.size wr _)
              have zy3 := HY3.size
              (try dsimp only)
              clear hHeld
              refine hK.out _ _ (Kq HY3).out fun hHeld => ?_
              clear hK K
              (try simp only [Act.put, List.getElem_toArray, List.getElem_cons_zero, List.getElem_cons_succ, List.setIfInBounds_toArray, List.set_cons_zero, List.set_cons_succ])
              refine wpAnyH_take1 (i := 44) (oi := _) (v := ?_) (by kernel_rfl) rfl (by kernel_rfl) (fun _ _ _ h => h) (Or.inl ⟨by rfl, ?_⟩) (by assumption) ?_
              rotate_left 1
              · intro w hSw; (try dsimp only at hSw); go_simp; (with_reducible rfl)
              (try simp only [Act.put, List.getElem_toArray, List.getElem_cons_zero, List.getElem_cons_succ, List.setIfInBounds_toArray, List.set_cons_zero, List.set_cons_succ])
              refine wpAnyH_take1 (i := 45) (oi := _) (v := ?_) (by kernel_rfl) rfl (by kernel_rfl) (fun _ _ _ h => h) (Or.inl ⟨by rfl, ?_⟩) (by assumption) ?_
              rotate_left 1
              · intro w hSw; (try dsimp only at hSw); go_simp; (with_reducible rfl)
              (try simp only [Act.put, List.getElem_toArray, List.getElem_cons_zero, List.getElem_cons_succ, List.setIfInBounds_toArray, List.set_cons_zero, List.set_cons_succ])
              refine wpAnyH_done (by kernel_rfl) ?_ _
              refine NoPanic.normal ?_
              have Hb := Lib.hid (show Below wr.heap.size wr y3 from HY3)
              obtain ⟨e0, -, -, -⟩ := (Kq Hb.out).out
              have q2' : y3.cell? ⟨g, ok, none⟩ = _ := (Hb.out.cell (p := ⟨g, ok, none⟩) gl).trans q2
              have q3' : y3.frozen? ⟨g, ok, none⟩ = false := by rw [World.frozen?_of_block (Hb.out.block g gl)]; exact q3
              clear hy3 HY3 zy3 Kq hspec2 q2 q3 hHeld
              go_wp2_with fail
              go_roundw
              case rel => exact ⟨1, t.set ok 1, hkl, by go_num, HTn, Lib.hid (hset.out _ Hb.out), Lib.hid (grown_trans (grown_of hgz.out Hb.out) (grown_setCell _ g _ _))⟩
              case measure => simp [intOf]; omega
            · obtain ⟨hq2x, hq3⟩ := hprev.out q rfl
              obtain ⟨_, _, ee, -, lq, e2, -⟩ := x6b.out.int (k := q) (by rw [natsI_len]; exact hq2x)
              simp only [Option.some.injEq, Addr.mk.injEq, and_true] at ee
              obtain ⟨rfl, rfl⟩ := ee
              rw [natsI_get hq2x] at e2
              obtain ⟨oq, hoq⟩ : ∃ oq, oq = O[q] := ⟨_, rfl⟩
              rw [← hoq] at e2 hq3
              have hqI : ((q + 1 : Nat) : Int) - 1 = (q : Int) := by omega
              have hqI2 : (q : Int) < (O.length : Int) := by omega
              have hq0 : (0 : Int) ≤ (q : Int) := by omega
              have hq1 : (0 : Int) ≤ (q : Int) + 1 := by omega
              have hq2 : (q : Int) + 1 < (O.length : Int) := by omega
              have hq4 : (0 : Int) < (q : Int) + 1 := by omega
              have hq5 : (q : Int) + 1 - 1 = (q : Int) := by omega
              have hqw : IntKind.i64.wrap (q : Int) = (q : Int) := by rw [IntKind.wrap_i64]; omega
              have hqk : ((q + 1 : Nat) : Int) > 0 := by omega
              have hql : ((ok : Int) ≤ (oq : Int)) = False := eq_false (by omega)
              have hql2 : ((oq : Int) < (ok : Int)) := by omega
              have Kq := fun {W' : World} (h : Below wr.heap.size wr W') => Lib.hid (show W'.cell? ⟨b2, o2 + (q + 1), none⟩ = some (.int .i64 (ok : Nat)) ∧ W'.cell? ⟨b2, o2 + q, none⟩ = some (.int .i64 (oq : Nat)) ∧ W'.cell? ⟨bm, om + ok * 2, none⟩ = some (.slice ha hl hc) ∧ W'.cell? ⟨bp, op + i * 2, none⟩ = some (.string p.name) ∧ W'.cell? ⟨bp, op + i * 2 + 1, none⟩ = some (.int .i64 p.n) from
                ⟨(h.cell (p := ⟨b2, o2 + (q + 1), none⟩) l2).trans e0, (h.cell (p := ⟨b2, o2 + q, none⟩) l2).trans e2, (h.cell (p := ⟨bm, om + ok * 2, none⟩) l3).trans d0, (h.cell (p := ⟨bp, op + i * 2, none⟩) l4).trans p0, (h.cell (p := ⟨bp, op + i * 2 + 1, none⟩) l4).trans p1⟩)
              clear e0 d0 p0 p1 hoq e2
              go_upto_region 14 with fail
              (try simp only [List.append_eq, List.cons_append, List.nil_append])
              refine wp_region_noPanic ?_
              refine wp_region_held_drew (S := fun w' => w'.cell? ⟨b2, o2 + (q + 1), none⟩ = some (.int .i64 (ok : Nat)) ∧ w'.cell? ⟨b2, o2 + q, none⟩ = some (.int .i64 (oq : Nat)) ∧ w'.cell? ⟨bm, om + ok * 2, none⟩ = some (.slice ha hl hc) ∧ w'.cell? ⟨bp, op + i * 2, none⟩ = some (.string p.name) ∧ w'.cell? ⟨bp, op + i * 2 + 1, none⟩ = some (.int .i64 p.n)) (by kernel_rfl) ?_ (fun hHeld => ?_)
              · exact (Kq (Below.drew (Below.refl _ _))).out
              refine wpAnyH_take1 (i := 0) (oi := _) (v := ?_) (by kernel_rfl) rfl (by kernel_rfl) (fun _ _ _ h => h) (Or.inl ⟨by rfl, ?_⟩) (by assumption) ?_
              rotate_left 1
              · intro w hSw; (try dsimp only at hSw); go_simp; (with_reducible rfl)
              (try simp only [Act.put, List.getElem_toArray, List.getElem_cons_zero, List.setIfInBounds_toArray, List.set_cons_zero, List.set_cons_succ])
              refine wpAnyH_take1 (i := 1) (oi := _) (v := ?_) (by kernel_rfl) rfl (by kernel_rfl) (fun _ _ _ h => h) (Or.inl ⟨by rfl, ?_⟩) (by assumption) ?_
              rotate_left 1
              · intro w hSw; (try dsimp only at hSw); go_simp; (with_reducible rfl)
              (try simp only [Act.put, List.getElem_toArray, List.getElem_cons_zero, List.getElem_cons_succ, List.setIfInBounds_toArray, List.set_cons_zero, List.set_cons_succ])
              refine wpAnyH_take1 (i := 2) (oi := _) (v := ?_) (by kernel_rfl) rfl (by kernel_rfl) (fun _ _ _ h => h) (Or.inl ⟨by rfl, ?_⟩) (by assumption) ?_
              rotate_left 1
              · intro w hSw; (try dsimp only at hSw); go_simp; (with_reducible rfl)
              (try simp only [Act.put, List.getElem_toArray, List.getElem_cons_zero, List.getElem_cons_succ, List.setIfInBounds_toArray, List.set_cons_zero, List.set_cons_succ])
              refine wpAnyH_take1 (i := 3) (oi := _) (v := ?_) (by kernel_rfl) rfl (by kernel_rfl) (fun _ _ _ h => h) (Or.inl ⟨by rfl, ?_⟩) (by assumption) ?_
              rotate_left 1
              · intro w hSw; (try dsimp only at hSw); go_simp; (with_reducible rfl)
              (try simp only [Act.put, List.getElem_toArray, List.getElem_cons_zero, List.getElem_cons_succ, List.setIfInBounds_toArray, List.set_cons_zero, List.set_cons_succ])
              refine wpAnyH_take1 (i := 4) (oi := _) (v := ?_) (by kernel_rfl) rfl (by kernel_rfl) (fun _ _ _ h => h) (Or.inl ⟨by rfl, ?_⟩) (by assumption) ?_
              rotate_left 1
              · intro w hSw; (try dsimp only at hSw); go_simp; (with_reducible rfl)
              (try simp only [Act.put, List.getElem_toArray, List.getElem_cons_zero, List.getElem_cons_succ, List.setIfInBounds_toArray, List.set_cons_zero, List.set_cons_succ])
              refine wpAnyH_take1 (i := 5) (oi := _) (v := ?_) (by kernel_rfl) rfl (by kernel_rfl) (fun _ _ _ h => h) (Or.inl ⟨by rfl, ?_⟩) (by assumption) ?_
              rotate_left 1
              · intro w hSw; (try dsimp only at hSw); go_simp; (with_reducible rfl)
              (try simp only [Act.put, List.getElem_toArray, List.getElem_cons_zero, List.getElem_cons_succ, List.setIfInBounds_toArray, List.set_cons_zero, List.set_cons_succ])
              refine wpAnyH_take1 (i := 6) (oi := _) (v := ?_) (by kernel_rfl) rfl (by kernel_rfl) (fun _ _ _ h => h) (Or.inl ⟨by rfl, ?_⟩) (by assumption) ?_
              rotate_left 1
              · intro w hSw; (try dsimp only at hSw); go_simp; (with_reducible rfl)
              (try simp only [Act.put, List.getElem_toArray, List.getElem_cons_zero, List.getElem_cons_succ, List.setIfInBounds_toArray, List.set_cons_zero, List.set_cons_succ])
              refine wpAnyH_take1 (i := 7) (oi := _) (v := ?_) (by kernel_rfl) rfl (by kernel_rfl) (fun _ _ _ h => h) (Or.inl ⟨by rfl, ?_⟩) (by assumption) ?_
              rotate_left 1
              · intro w hSw; (try dsimp only at hSw); go_simp; (with_reducible rfl)
              (try simp only [Act.put, List.getElem_toArray, List.getElem_cons_zero, List.getElem_cons_succ, List.setIfInBounds_toArray, List.set_cons_zero, List.set_cons_succ])
              refine wpAnyH_take1 (i := 8) (oi := _) (v := ?_) (by kernel_rfl) rfl (by kernel_rfl) (fun _ _ _ h => h) (Or.inl ⟨by rfl, ?_⟩) (by assumption) ?_
              rotate_left 1
              · intro w hSw; (try dsimp only at hSw); go_simp; (with_reducible rfl)
              (try simp only [Act.put, List.getElem_toArray, List.getElem_cons_zero, List.getElem_cons_succ, List.setIfInBounds_toArray, List.set_cons_zero, List.set_cons_succ])
              refine wpAnyH_take1 (i := 9) (oi := _) (v := ?_) (by kernel_rfl) rfl (by kernel_rfl) (fun _ _ _ h => h) (Or.inl ⟨by rfl, ?_⟩) (by assumption) ?_
              rotate_left 1
              · intro w hSw; (try dsimp only at hSw); go_simp; (with_reducible rfl)
              (try simp only [Act.put, List.getElem_toArray, List.getElem_cons_zero, List.getElem_cons_succ, List.setIfInBounds_toArray, List.set_cons_zero, List.set_cons_succ])
              refine wpAnyH_take1 (i := 10) (oi := _) (v := ?_) (by kernel_rfl) rfl (by kernel_rfl) (fun _ _ _ h => h) (Or.inl ⟨by rfl, ?_⟩) (by assumption) ?_
              rotate_left 1
              · intro w hSw; (try dsimp only at hSw); go_simp; (with_reducible rfl)
              (try simp only [Act.put, List.getElem_toArray, List.getElem_cons_zero, List.getElem_cons_succ, List.setIfInBounds_toArray, List.set_cons_zero, List.set_cons_succ])
              refine wpAnyH_take1 (i := 11) (oi := _) (v := ?_) (by kernel_rfl) rfl (by kernel_rfl) (fun _ _ _ h => h) (Or.inl ⟨by rfl, ?_⟩) (by assumption) ?_
              rotate_left 1
              · intro w hSw; (try dsimp only at hSw); go_simp; (with_reducible rfl)
              (try simp only [Act.put, List.getElem_toArray, List.getElem_cons_zero, List.getElem_cons_succ, List.setIfInBounds_toArray, List.set_cons_zero, List.set_cons_succ])
              refine wpAnyH_take1 (i := 12) (oi := _) (v := ?_) (by kernel_rfl) rfl (by kernel_rfl) (fun _ _ _ h => h) (Or.inl ⟨by rfl, ?_⟩) (by assumption) ?_
              rotate_left 1
              · intro w hSw; (try dsimp only at hSw); go_simp; (with_reducible rfl)
              (try simp only [Act.put, List.getElem_toArray, List.getElem_cons_zero, List.getElem_cons_succ, List.setIfInBounds_toArray, List.set_cons_zero, List.set_cons_succ])
              refine wpAnyH_take1 (i := 13) (oi := _) (v := ?_) (by kernel_rfl) rfl (by kernel_rfl) (fun _ _ _ h => h) (Or.inl ⟨by rfl, ?_⟩) (by assumption) ?_
              rotate_left 1
              · intro w hSw; (try dsimp only at hSw); go_simp; (with_reducible rfl)
              (try simp only [Act.put, List.getElem_toArray, List.getElem_cons_zero, List.getElem_cons_succ, List.setIfInBounds_toArray, List.set_cons_zero, List.set_cons_succ])
              refine wpAnyH_take1 (i := 14) (oi := _) (v := ?_) (by kernel_rfl) rfl (by kernel_rfl) (fun _ _ _ h => h) (Or.inl ⟨by rfl, ?_⟩) (by assumption) ?_
              rotate_left 1
              · intro w hSw; (try dsimp only at hSw); go_simp; (with_reducible rfl)
              (try simp only [Act.put, List.getElem_toArray, List.getElem_cons_zero, List.getElem_cons_succ, List.setIfInBounds_toArray, List.set_cons_zero, List.set_cons_succ])
              refine wpAnyH_take1 (i := 15) (oi := _) (v := ?_) (by kernel_rfl) rfl (by kernel_rfl) (fun _ _ _ h => h) (Or.inl ⟨by rfl, ?_⟩) (by assumption) ?_
              rotate_left 1
              · intro w hSw; (try dsimp only at hSw); go_simp; (with_reducible rfl)
              (try simp only [Act.put, List.getElem_toArray, List.getElem_cons_zero, List.getElem_cons_succ, List.setIfInBounds_toArray, List.set_cons_zero, List.set_cons_succ])
              refine wpAnyH_take1 (i := 16) (oi := _) (v := ?_) (by kernel_rfl) rfl (by kernel_rfl) (fun _ _ _ h => h) (Or.inl ⟨by rfl, ?_⟩) (by assumption) ?_
              rotate_left 1
              · intro w hSw; (try dsimp only at hSw); go_simp; (with_reducible rfl)
              (try simp only [Act.put, List.getElem_toArray, List.getElem_cons_zero, List.getElem_cons_succ, List.setIfInBounds_toArray, List.set_cons_zero, List.set_cons_succ])
              refine wpAnyH_take1 (i := 17) (oi := _) (v := ?_) (by kernel_rfl) rfl (by kernel_rfl) (fun _ _ _ h => h) (Or.inl ⟨by rfl, ?_⟩) (by assumption) ?_
              rotate_left 1
              · intro w hSw; (try dsimp only at hSw); go_simp; (with_reducible rfl)
              (try simp only [Act.put, List.getElem_toArray, List.getElem_cons_zero, List.getElem_cons_succ, List.setIfInBounds_toArray, List.set_cons_zero, List.set_cons_succ])
              refine wpAnyH_take1 (i := 18) (oi := _) (v := ?_) (by kernel_rfl) rfl (by kernel_rfl) (fun _ _ _ h => h) (Or.inl ⟨by rfl, ?_⟩) (by assumption) ?_
              rotate_left 1
              · intro w hSw; (try dsimp only at hSw); go_simp; (with_reducible rfl)
              (try simp only [Act.put, List.getElem_toArray, List.getElem_cons_zero, List.getElem_cons_succ, List.setIfInBounds_toArray, List.set_cons_zero, List.set_cons_succ])
              refine wpAnyH_take1 (i := 19) (oi := _) (v := ?_) (by kernel_rfl) rfl (by kernel_rfl) (fun _ _ _ h => h) (Or.inl ⟨by rfl, ?_⟩) (by assumption) ?_
              rotate_left 1
              · intro w hSw; (try dsimp only at hSw); go_simp; (with_reducible rfl)
              (try simp only [Act.put, List.getElem_toArray, List.getElem_cons_zero, List.getElem_cons_succ, List.setIfInBounds_toArray, List.set_cons_zero, List.set_cons_succ])
              refine wpAnyH_take1 (i := 20) (oi := _) (v := ?_) (by kernel_rfl) rfl (by kernel_rfl) (fun _ _ _ h => h) (Or.inl ⟨by rfl, ?_⟩) (by assumption) ?_
              rotate_left 1
              · intro w hSw; (try dsimp only at hSw); go_simp; (with_reducible rfl)
              (try simp only [Act.put, List.getElem_toArray, List.getElem_cons_zero, List.getElem_cons_succ, List.setIfInBounds_toArray, List.set_cons_zero, List.set_cons_succ])
              refine wpAnyH_take1 (i := 21) (oi := _) (v := ?_) (by kernel_rfl) rfl (by kernel_rfl) (fun _ _ _ h => h) (Or.inl ⟨by rfl, ?_⟩) (by assumption) ?_
              rotate_left 1
              · intro w hSw; (try dsimp only at hSw); go_simp; (with_reducible rfl)
              (try simp only [Act.put, List.getElem_toArray, List.getElem_cons_zero, List.getElem_cons_succ, List.setIfInBounds_toArray, List.set_cons_zero, List.set_cons_succ])
              refine wpAnyH_take1 (i := 22) (oi := _) (v := ?_) (by kernel_rfl) rfl (by kernel_rfl) (fun _ _ _ h => h) (Or.inl ⟨by rfl, ?_⟩) (by assumption) ?_
              rotate_left 1
              · intro w hSw; (try dsimp only at hSw); go_simp; (with_reducible rfl)
              (try simp only [Act.put, List.getElem_toArray, List.getElem_cons_zero, List.getElem_cons_succ, List.setIfInBounds_toArray, List.set_cons_zero, List.set_cons_succ])
              refine wpAnyH_take1 (i := 23) (oi := _) (v := ?_) (by kernel_rfl) rfl (by kernel_rfl) (fun _ _ _ h => h) (Or.inl ⟨by rfl, ?_⟩) (by assumption) ?_
              rotate_left 1
              · intro w hSw; (try dsimp only at hSw); go_simp; (with_reducible rfl)
              (try simp only [Act.put, List.getElem_toArray, List.getElem_cons_zero, List.getElem_cons_succ, List.setIfInBounds_toArray, List.set_cons_zero, List.set_cons_succ])
              refine wpAnyH_take1 (i := 24) (oi := _) (v := ?_) (by kernel_rfl) rfl (by kernel_rfl) (fun _ _ _ h => h) (Or.inl ⟨by rfl, ?_⟩) (by assumption) ?_
              rotate_left 1
              · intro w hSw; (try dsimp only at hSw); go_simp; (with_reducible rfl)
              (try simp only [Act.put, List.getElem_toArray, List.getElem_cons_zero, List.getElem_cons_succ, List.setIfInBounds_toArray, List.set_cons_zero, List.set_cons_succ])
              refine wpAnyH_take1 (i := 25) (oi := _) (v := ?_) (by kernel_rfl) rfl (by kernel_rfl) (fun _ _ _ h => h) (Or.inl ⟨by rfl, ?_⟩) (by assumption) ?_
              rotate_left 1
              · intro w hSw; (try dsimp only at hSw); go_simp; (with_reducible rfl)
              (try simp only [Act.put, List.getElem_toArray, List.getElem_cons_zero, List.getElem_cons_succ, List.setIfInBounds_toArray, List.set_cons_zero, List.set_cons_succ])
              refine wpAnyH_take1 (i := 26) (oi := _) (v := ?_) (by kernel_rfl) rfl (by kernel_rfl) (fun _ _ _ h => h) (Or.inl ⟨by rfl, ?_⟩) (by assumption) ?_
              rotate_left 1
              · intro w hSw; (try dsimp only at hSw); go_simp; (with_reducible rfl)
              (try simp only [Act.put, List.getElem_toArray, List.getElem_cons_zero, List.getElem_cons_succ, List.setIfInBounds_toArray, List.set_cons_zero, List.set_cons_succ])
              refine wpAnyH_take1 (i := 27) (oi := _) (v := ?_) (by kernel_rfl) rfl (by kernel_rfl) (fun _ _ _ h => h) (Or.inl ⟨by rfl, ?_⟩) (by assumption) ?_
              rotate_left 1
              · intro w hSw; (try dsimp only at hSw); go_simp; (with_reducible rfl)
              (try simp only [Act.put, List.getElem_toArray, List.getElem_cons_zero, List.getElem_cons_succ, List.setIfInBounds_toArray, List.set_cons_zero, List.set_cons_succ])
              refine wpAnyH_take1 (i := 28) (oi := _) (v := ?_) (by kernel_rfl) rfl (by kernel_rfl) (fun _ _ _ h => h) (Or.inl ⟨by rfl, ?_⟩) (by assumption) ?_
              rotate_left 1
              · intro w hSw; (try dsimp only at hSw); go_simp; (with_reducible rfl)
              (try simp only [Act.put, List.getElem_toArray, List.getElem_cons_zero, List.getElem_cons_succ, List.setIfInBounds_toArray, List.set_cons_zero, List.set_cons_succ])
              refine wpAnyH_take1 (i := 29) (oi := _) (v := ?_) (by kernel_rfl) rfl (by kernel_rfl) (fun _ _ _ h => h) (Or.inl ⟨by rfl, ?_⟩) (by assumption) ?_
              rotate_left 1
              · intro w hSw; (try dsimp only at hSw); go_simp; (with_reducible rfl)
              (try simp only [Act.put, List.getElem_toArray, List.getElem_cons_zero, List.getElem_cons_succ, List.setIfInBounds_toArray, List.set_cons_zero, List.set_cons_succ])
              refine wpAnyH_take1 (i := 30) (oi := _) (v := ?_) (by kernel_rfl) rfl (by kernel_rfl) (fun _ _ _ h => h) (Or.inl ⟨by rfl, ?_⟩) (by assumption) ?_
              rotate_left 1
              · intro w hSw; (try dsimp only at hSw); go_simp; (with_reducible rfl)
              (try simp only [Act.put, List.getElem_toArray, List.getElem_cons_zero, List.getElem_cons_succ, List.setIfInBounds_toArray, List.set_cons_zero, List.set_cons_succ])
              refine wpAnyH_take1 (i := 31) (oi := _) (v := ?_) (by kernel_rfl) rfl (by kernel_rfl) (fun _ _ _ h => h) (Or.inl ⟨by rfl, ?_⟩) (by assumption) ?_
              rotate_left 1
              · intro w hSw; (try dsimp only at hSw); go_simp; (with_reducible rfl)
              (try simp only [Act.put, List.getElem_toArray, List.getElem_cons_zero, List.getElem_cons_succ, List.setIfInBounds_toArray, List.set_cons_zero, List.set_cons_succ])
              refine wpAnyH_take1 (i := 32) (oi := _) (v := ?_) (by kernel_rfl) rfl (by kernel_rfl) (fun _ _ _ h => h) (Or.inl ⟨by rfl, ?_⟩) (by assumption) ?_
              rotate_left 1
              · intro w hSw; (try dsimp only at hSw); go_simp; (with_reducible rfl)
              (try simp only [Act.put, List.getElem_toArray, List.getElem_cons_zero, List.getElem_cons_succ, List.setIfInBounds_toArray, List.set_cons_zero, List.set_cons_succ])
              refine wpAnyH_take1 (i := 33) (oi := _) (v := ?_) (by kernel_rfl) rfl (by kernel_rfl) (fun _ _ _ h => h) (Or.inl ⟨by rfl, ?_⟩) (by assumption) ?_
              rotate_left 1
              · intro w hSw; (try dsimp only at hSw); go_simp; (with_reducible rfl)
              (try simp only [Act.put, List.getElem_toArray, List.getElem_cons_zero, List.getElem_cons_succ, List.setIfInBounds_toArray, List.set_cons_zero, List.set_cons_succ])
              refine wpAnyH_take1 (i := 34) (oi := _) (v := ?_) (by kernel_rfl) rfl (by kernel_rfl) (fun _ _ _ h => h) (Or.inl ⟨by rfl, ?_⟩) (by assumption) ?_
              rotate_left 1
              · intro w hSw; (try dsimp only at hSw); go_simp; (with_reducible rfl)
              (try simp only [Act.put, List.getElem_toArray, List.getElem_cons_zero, List.getElem_cons_succ, List.setIfInBounds_toArray, List.set_cons_zero, List.set_cons_succ])
              refine wpAnyH_take1 (i := 35) (oi := _) (v := ?_) (by kernel_rfl) rfl (by kernel_rfl) (fun _ _ _ h => h) (Or.inl ⟨by rfl, ?_⟩) (by assumption) ?_
              rotate_left 1
              · intro w hSw; (try dsimp only at hSw); go_simp; (with_reducible rfl)
              (try simp only [Act.put, List.getElem_toArray, List.getElem_cons_zero, List.getElem_cons_succ, List.setIfInBounds_toArray, List.set_cons_zero, List.set_cons_succ])
              refine wpAnyH_take1 (i := 36) (oi := _) (v := ?_) (by kernel_rfl) rfl (by kernel_rfl) (fun _ _ _ h => h) (Or.inl ⟨by rfl, ?_⟩) (by assumption) ?_
              rotate_left 1
              · intro w hSw; (try dsimp only at hSw); go_simp; (with_reducible rfl)
              (try simp only [Act.put, List.getElem_toArray, List.getElem_cons_zero, List.getElem_cons_succ, List.setIfInBounds_toArray, List.set_cons_zero, List.set_cons_succ])
              refine wpAnyH_take1 (i := 37) (oi := _) (v := ?_) (by kernel_rfl) rfl (by kernel_rfl) (fun _ _ _ h => h) (Or.inl ⟨by rfl, ?_⟩) (by assumption) ?_
              rotate_left 1
              · intro w hSw; (try dsimp only at hSw); go_simp; (with_reducible rfl)
              (try simp only [Act.put, List.getElem_toArray, List.getElem_cons_zero, List.getElem_cons_succ, List.setIfInBounds_toArray, List.set_cons_zero, List.set_cons_succ])
              refine wpAnyH_take1 (i := 38) (oi := _) (v := ?_) (by kernel_rfl) rfl (by kernel_rfl) (fun _ _ _ h => h) (Or.inl ⟨by rfl, ?_⟩) (by assumption) ?_
              rotate_left 1
              · intro w hSw; (try dsimp only at hSw); go_simp; (with_reducible rfl)
              (try simp only [Act.put, List.getElem_toArray, List.getElem_cons_zero, List.getElem_cons_succ, List.setIfInBounds_toArray, List.set_cons_zero, List.set_cons_succ])
              refine wpAnyH_take1 (i := 40) (oi := _) (v := ?_) (by kernel_rfl) rfl (by kernel_rfl) (fun _ _ _ h => h) (Or.inl ⟨by rfl, ?_⟩) (by assumption) ?_
              rotate_left 1
              · intro w hSw; (try dsimp only at hSw); go_simp; (with_reducible rfl)
              (try simp only [Act.put, List.getElem_toArray, List.getElem_cons_zero, List.getElem_cons_succ, List.setIfInBounds_toArray, List.set_cons_zero, List.set_cons_succ])
              refine wpAnyH_take1 (i := 41) (oi := _) (v := ?_) (by kernel_rfl) rfl (by kernel_rfl) (fun _ _ _ h => h) (Or.inl ⟨by rfl, ?_⟩) (by assumption) ?_
              rotate_left 1
              · intro w hSw; (try dsimp only at hSw); go_simp; (with_reducible rfl)
              (try simp only [Act.put, List.getElem_toArray, List.getElem_cons_zero, List.getElem_cons_succ, List.setIfInBounds_toArray, List.set_cons_zero, List.set_cons_succ])
              refine wpAnyH_take1 (i := 42) (oi := _) (v := ?_) (by kernel_rfl) rfl (by kernel_rfl) (fun _ _ _ h => h) (Or.inl ⟨by rfl, ?_⟩) (by assumption) ?_
              rotate_left 1
              · intro w hSw; (try dsimp only at hSw); go_simp; (with_reducible rfl)
              (try simp only [Act.put, List.getElem_toArray, List.getElem_cons_zero, List.getElem_cons_succ, List.setIfInBounds_toArray, List.set_cons_zero, List.set_cons_succ])
              refine wpAnyH_take1 (i := 43) (oi := _) (v := ?_) (by kernel_rfl) rfl (by kernel_rfl) (fun _ _ _ h => h) (Or.inl ⟨by rfl, ?_⟩) (by assumption) ?_
              rotate_left 1
              · intro w hSw; (try dsimp only at hSw); go_simp; (with_reducible rfl)
              (try simp only [Act.put, List.getElem_toArray, List.getElem_cons_zero, List.getElem_cons_succ, List.setIfInBounds_toArray, List.set_cons_zero, List.set_cons_succ])
              refine wpAnyH_one (i := 39) (by kernel_rfl) rfl (by rfl) fun K hK => ?_
              go_simp
              refine (hspec2.out _ Seq.way).mono ?_
              rintro e y4 ⟨rfl, hy4⟩
              have HY4 := below_step hy4 (Seq.way : Below wr.heap.size wr _)
              have zy4 := HY4.size
              (try dsimp only)
              clear hHeld
              refine hK.out _ _ (Kq HY4).out fun hHeld => ?_
              clear hK K
              (try simp only [Act.put, List.getElem_toArray, List.getElem_cons_zero, List.getElem_cons_succ, List.setIfInBounds_toArray, List.set_cons_zero, List.set_cons_succ])
              refine wpAnyH_take1 (i := 44) (oi := _) (v := ?_) (by kernel_rfl) rfl (by kernel_rfl) (fun _ _ _ h => h) (Or.inl ⟨by rfl, ?_⟩) (by assumption) ?_
              rotate_left 1
              · intro w hSw; (try dsimp only at hSw); go_simp; (with_reducible rfl)
              (try simp only [Act.put, List.getElem_toArray, List.getElem_cons_zero, List.getElem_cons_succ, List.setIfInBounds_toArray, List.set_cons_zero, List.set_cons_succ])
              refine wpAnyH_take1 (i := 45) (oi := _) (v := ?_) (by kernel_rfl) rfl (by kernel_rfl) (fun _ _ _ h => h) (Or.inl ⟨by rfl, ?_⟩) (by assumption) ?_
              rotate_left 1
              · intro w hSw; (try dsimp only at hSw); go_simp; (with_reducible rfl)
              (try simp only [Act.put, List.getElem_toArray, List.getElem_cons_zero, List.getElem_cons_succ, List.setIfInBounds_toArray, List.set_cons_zero, List.set_cons_succ])
              refine wpAnyH_done (by kernel_rfl) ?_ _
              refine NoPanic.normal ?_
              have Hb := Lib.hid (show Below wr.heap.size wr y4 from HY4)
              obtain ⟨e0, -, -, -, -⟩ := (Kq Hb.out).out
              have q2' : y4.cell? ⟨g, ok, none⟩ = _ := (Hb.out.cell (p := ⟨g, ok, none⟩) gl).trans q2
              have q3' : y4.frozen? ⟨g, ok, none⟩ = false := by rw [World.frozen?_of_block (Hb.out.block g gl)]; exact q3
              clear hy4 HY4 zy4 Kq hspec2 q2 q3 hHeld
              go_wp2_with fail
              go_roundw
              case rel => exact ⟨q + 2, t.set ok 1, hkl, by go_num, HTn, Lib.hid (hset.out _ Hb.out), Lib.hid (grown_trans (grown_of hgz.out Hb.out) (grown_setCell _ g _ _))⟩
              case measure => simp [intOf]; omega
          · have hTe := Lib.hid (hrw.out t (by have := hT.out; rw [show k = O.length by omega] at this; exact this))
            have hkI : ¬ (k : Int) < (O.length : Int) := by omega
            clear hkl
            go_wp2_with fail
            go_roundw
            case rel => exact ⟨i + 1, t, hlt, by go_num, hTe, hO, hgt⟩
            case measure => simp [intOf]; omega
      · have hall := Lib.hid (fun c hc => times_end (t := t) (by have := hT.out; rw [show i = (predsL m).length by omega] at this; exact this) (c := c) hc)
        have htl := Lib.hid hT.out.1
        have hiI : ¬ (i : Int) < ((predsL m).length : Int) := by omega
        clear hlt
        go_wp2_with fail
        go_loopw [10] (fun z wz => ∃ k : Nat, k ≤ m.length ∧ z = .int .i64 k ∧ wr = wz) (fun z _ => m.length - (intOf z).toNat)
        case atStart => exact ⟨0, Nat.zero_le _, rfl, rfl⟩
        case round =>
          obtain ⟨k, hk, rfl, rfl⟩ := hrel
          by_cases hkl : k < m.length
          · have hkt : k < t.length := by rw [htl.out]; exact hkl
            obtain ⟨_, _, eo, -, -, e0, -⟩ := hO.out.getI (k := k) (by rw [natsI_len]; exact hkt)
            simp only [Value.slice.injEq, Option.some.injEq, Addr.mk.injEq, and_true] at eo
            obtain ⟨rfl, -, -⟩ := eo
            have e1 := e0 k (by rw [natsI_len]; exact hkt)
            rw [natsI_lv hkt, hall.out k hkl] at e1
            have hkI : (k : Int) < (m.length : Int) := by omega
            have hk0 : (0 : Int) ≤ (k : Int) := by omega
            clear e0
            go_wp2_with fail
            go_roundw
            case rel => exact ⟨k + 1, hkl, by go_num, by first | rfl | trivial⟩
            case measure => simp [intOf]; omega
          · have hkI : ¬ (k : Int) < (m.length : Int) := by omega
            clear hkl
            go_wp2_with fail
            go_ret
            exact ⟨rfl, BW.out.trans (grown_below hgr.out hgW.out.2 BW.out.size)⟩
end Go.Proofs.Ytadbdmnngmlnhaa
