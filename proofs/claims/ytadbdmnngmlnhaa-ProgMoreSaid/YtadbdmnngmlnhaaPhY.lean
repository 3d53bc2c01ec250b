/-
  Layer 7: the walk of ProgMore.
-/
import Derived.Test.YtadbdmnngmlnhaaPhX
namespace Go.Proofs.Ytadbdmnngmlnhaa
open Go Go.RowKit

set_option maxHeartbeats 25600000 in
set_option maxRecDepth 100000 in
theorem more_spec {S : Nat → Prop} {w : World} {v : Value} {l : List Cls} {a : Nat} (hl : Seq clsE S w v l) (ha : a < 256) : Calls Try.prog 10 #[v, .int .u8 a] w (RetV (.bool true) w) := by
  have HL := Lib.hid hl
  obtain ⟨aa, ac, rfl⟩ := hl.shape
  clear hl
  go_enter Try.func10, Try.ntmps10
  go_wp2_with fail
  refine head_spec.mono ?_
  rintro e w1 ⟨rfl, hb1⟩
  have B1 := Lib.hid hb1
  clear hb1
  go_wp2_with fail
  refine (GreatL_spec (HL.out.at B1.out)).mono ?_
  rintro e w2 ⟨rfl, hb2⟩
  have B2 := Lib.hid (below_step hb2 B1.out)
  clear hb2
  cases hg : greatC l with
  | true =>
    clear hg
    go_wp2_with fail
    go_ret
    exact ⟨rfl, B2.out⟩
  | false =>
    have hll := great_len hg
    clear hg
    go_wp2_with fail
    refine (MadeL_spec (HL.out.at B2.out) (by omega)).mono ?_
    rintro e w3 ⟨v3, rfl, hb3, hs3⟩
    obtain ⟨m, hm⟩ : ∃ m, m = madeL l := ⟨_, rfl⟩
    rw [← hm] at hs3
    obtain ⟨ma, mc, rfl⟩ := hs3.shape
    have HM := Lib.hid hs3.any
    have HMay := Lib.hid (show ∀ c ∈ m, mayC c = true by rw [hm]; exact made_may)
    have hmlen : m.length ≤ 70 := by rw [hm]; exact Nat.le_trans (made_len l) hll
    have B3 := Lib.hid (below_step hb3 B2.out)
    clear hs3 hb3 hm
    obtain ⟨k, hk⟩ : ∃ k, k = a % (m.length + 1) := ⟨_, rfl⟩
    have hkl : k ≤ m.length := by have := Nat.mod_lt a (show 0 < m.length + 1 by omega); omega
    have hkm : (a : Int) % ((m.length : Int) + 1) = (k : Int) := by rw [hk, Int.natCast_emod]; simp
    have hkt : Int.tmod (a : Int) ((m.length : Int) + 1) = (k : Int) := by rw [← hkm]; exact Int.tmod_eq_emod_of_nonneg (by omega)
    have h0 : (((m.length : Int) + 1) == 0) = false := beq_eq_false_iff_ne.2 (by omega)
    have h00 : (((m.length : Int) + 1) = 0) = False := eq_false (by omega)
    have hk0 : (0 : Int) ≤ (k : Int) := by omega
    have hkI : (k : Int) ≤ (m.length : Int) := by omega
    have hklc : k ≤ mc := by obtain ⟨_, _, he, h1, _⟩ := HM.out; simp only [Value.slice.injEq, true_and] at he; omega
    have hsub := Lib.hid (show ∀ c ∈ m.take k, c ∈ m from fun c hc => List.mem_of_mem_take hc)
    have hfl : (m.take k).length = k := by rw [List.length_take]; omega
    have HF0 := HM.out.take hkl
    obtain ⟨f, hf⟩ : ∃ f, f = m.take k := ⟨_, rfl⟩
    rw [← hf] at hsub hfl HF0
    have HF := Lib.hid HF0
    have HMayF := Lib.hid (fun c hc => HMay.out c (hsub.out c hc))
    have hfl2 : f.length ≤ 70 := by omega
    have Hfl := Lib.hid hfl
    clear hk hf HF0 hfl
    have hpm := preds_len HMay.out (by omega)
    have hpf := preds_len HMayF.out (by omega)
    have hlm := links_len HMay.out (by omega)
    have hlf := links_len HMayF.out (by omega)
    have Hrf := Lib.hid (rngK_links (l := f))
    have hml := Lib.hid (fun x hx h1 h2 => more_link hsub.out (x := x) hx h1 h2)
    have hlev := Lib.hid (fun is it a b h1 h2 h3 => more_lev hsub.out (is := is) (it := it) (a := a) (b := b) h1 h2 h3)
    have hpin := Lib.hid (fun p hp => predsL_sub hsub.out (p := p) hp)
    go_wp2_with fail
    refine (PredsP_spec HM.out HMay.out (by omega)).mono ?_
    rintro e x1 ⟨u1, rfl, hx1, hs1⟩
    obtain ⟨p1, q1, rfl⟩ := hs1.shape
    have PM := Lib.hid hs1.any
    have X1 := Lib.hid hx1
    clear hs1 hx1
    go_wp2_with fail
    refine (PredsP_spec (HF.out.at X1.out) HMayF.out (by omega)).mono ?_
    rintro e x2 ⟨u2, rfl, hx2, hs2⟩
    obtain ⟨p2, q2, rfl⟩ := hs2.shape
    have PF := Lib.hid hs2.any
    have PM2 := Lib.hid (PM.out.at hx2)
    have X2 := Lib.hid (below_step hx2 X1.out)
    clear hs2 hx2 PM
    go_wp2_with fail
    refine (LinksP_spec (HM.out.at X2.out) HMay.out (by omega)).mono ?_
    rintro e x3 ⟨u3, rfl, hx3, hs3⟩
    obtain ⟨p3, q3, rfl⟩ := hs3.shape
    have KM := Lib.hid hs3.any
    have PF3 := Lib.hid (PF.out.at hx3)
    have PM3 := Lib.hid (PM2.out.at hx3)
    have X3 := Lib.hid (below_step hx3 X2.out)
    clear hs3 hx3 PF PM2
    go_wp2_with fail
    refine (LinksP_spec (HF.out.at X3.out) HMayF.out (by omega)).mono ?_
    rintro e x4 ⟨u4, rfl, hx4, hs4⟩
    obtain ⟨p4, q4, rfl⟩ := hs4.shape
    have KF := Lib.hid hs4.any
    have KM4 := Lib.hid (KM.out.at hx4)
    have PF4 := Lib.hid (PF3.out.at hx4)
    have PM4 := Lib.hid (PM3.out.at hx4)
    have X4 := Lib.hid (below_step hx4 X3.out)
    clear hs4 hx4 KM PF3 PM3
    go_wp2_with fail
    go_loopw [12] (fun z wz => ∃ i : Nat, i ≤ (linksL f).length ∧ z = .int .i64 i ∧ Hid (Below x4.heap.size x4 wz)) (fun z _ => (linksL f).length - (intOf z).toNat)
    case atStart => exact ⟨0, Nat.zero_le _, rfl, Lib.hid (Below.refl _ _)⟩
    case round =>
      obtain ⟨i, hi, rfl, hbz⟩ := hrel
      by_cases hlt : i < (linksL f).length
      · obtain ⟨_, _, ee, -, -, -, -, y1⟩ := KF.out
        simp only [Value.slice.injEq, true_and] at ee
        obtain ⟨rfl, rfl⟩ := ee
        obtain ⟨b1, o1, rfl, -, l1, c0, c1, c2, -, -⟩ := y1.lnk hlt
        replace c0 : wr.cell? ⟨b1, o1 + i * 3, none⟩ = _ := (hbz.out.cell (p := ⟨b1, o1 + i * 3, none⟩) l1).trans c0
        replace c1 : wr.cell? ⟨b1, o1 + i * 3 + 1, none⟩ = _ := (hbz.out.cell (p := ⟨b1, o1 + i * 3 + 1, none⟩) l1).trans c1
        replace c2 : wr.cell? ⟨b1, o1 + i * 3 + 2, none⟩ = _ := (hbz.out.cell (p := ⟨b1, o1 + i * 3 + 2, none⟩) l1).trans c2
        replace l1 := Nat.lt_of_lt_of_le l1 hbz.out.size
        obtain ⟨f1, f2⟩ := Hrf.out _ (List.getElem_mem hlt)
        obtain ⟨_, _, ee, -, -, -, -, y2⟩ := PF4.out.at hbz.out
        simp only [Value.slice.injEq, true_and] at ee
        obtain ⟨rfl, rfl⟩ := ee
        obtain ⟨b2, o2, rfl, -, l2, d0, d1, -, -⟩ := y2.prd f1
        obtain ⟨_, _, ee, -, -, d2, d3, -, -⟩ := y2.prd f2
        simp only [Option.some.injEq, Addr.mk.injEq, and_true] at ee
        obtain ⟨rfl, rfl⟩ := ee
        have hwant := Lib.hid (hml.out _ (List.getElem_mem hlt) f1 f2)
        have hin1 := hpin.out _ (List.getElem_mem f1)
        have hin2 := hpin.out _ (List.getElem_mem f2)
        have hsp1 := Lib.hid (fun (W' : World) (h : Below wr.heap.size wr W') => PlaceR_spec (w := W') (p := (predsL f)[((linksL f)[i]).fr]) (PM4.out.at (below_step h hbz.out)))
        have hsp2 := Lib.hid (fun (W' : World) (h : Below wr.heap.size wr W') => PlaceR_spec (w := W') (p := (predsL f)[((linksL f)[i]).2]) (PM4.out.at (below_step h hbz.out)))
        rw [placeP_low (predsL_srt m) hin1] at hsp1
        rw [placeP_low (predsL_srt m) hin2] at hsp2
        obtain ⟨P1, hP1⟩ : ∃ P, P = (predsL f)[((linksL f)[i]).fr] := ⟨_, rfl⟩
        obtain ⟨P2, hP2⟩ : ∃ P, P = (predsL f)[((linksL f)[i]).2] := ⟨_, rfl⟩
        simp only [← hP1] at d0 d1 hsp1 hwant
        simp only [← hP2] at d2 d3 hsp2 hwant
        obtain ⟨x, hx⟩ : ∃ x, x = (linksL f)[i] := ⟨_, rfl⟩
        have hf1N : x.fr < (predsL f).length := by rw [hx]; exact f1
        have hf2N : x.2 < (predsL f).length := by rw [hx]; exact f2
        simp only [← hx] at c0 c1 c2 d0 d1 d2 d3 hwant
        obtain ⟨t1, ht1⟩ : ∃ t, t = lowC cmpP P1 (predsL m) := ⟨_, rfl⟩
        obtain ⟨t2, ht2⟩ : ∃ t, t = lowC cmpP P2 (predsL m) := ⟨_, rfl⟩
        rw [← ht1] at hsp1 hwant
        rw [← ht2] at hsp2 hwant
        have hiI : (i : Int) < ((linksL f).length : Int) := by omega
        have hi0 : (0 : Int) ≤ (i : Int) := by omega
        have g1 : ((x.fr : Int) < 0) = False := eq_false (by omega)
        have g2 : (((predsL f).length : Int) ≤ (x.fr : Int)) = False := eq_false (by omega)
        have g3 : ((x.2 : Int) < 0) = False := eq_false (by omega)
        have g4 : (((predsL f).length : Int) ≤ (x.2 : Int)) = False := eq_false (by omega)
        have g5 : ((predsL f).length ≤ x.fr) = False := eq_false (by omega)
        have g6 : ((predsL f).length ≤ x.2) = False := eq_false (by omega)
        have hfI : (x.fr : Int) < ((predsL f).length : Int) := by omega
        have hf0 : (0 : Int) ≤ (x.fr : Int) := by omega
        have htI : (x.2 : Int) < ((predsL f).length : Int) := by omega
        have ht0 : (0 : Int) ≤ (x.2 : Int) := by omega
        have Kq := fun {W' : World} (h : Below wr.heap.size wr W') => Lib.hid (show W'.cell? ⟨b1, o1 + i * 3, none⟩ = some (.int .i64 x.fr) ∧ W'.cell? ⟨b1, o1 + i * 3 + 1, none⟩ = some (.int .i64 x.2) ∧ W'.cell? ⟨b1, o1 + i * 3 + 2, none⟩ = some (.bool x.neg) ∧ W'.cell? ⟨b2, o2 + x.fr * 2, none⟩ = some (.string P1.name) ∧ W'.cell? ⟨b2, o2 + x.fr * 2 + 1, none⟩ = some (.int .i64 P1.n) ∧ W'.cell? ⟨b2, o2 + x.2 * 2, none⟩ = some (.string P2.name) ∧ W'.cell? ⟨b2, o2 + x.2 * 2 + 1, none⟩ = some (.int .i64 P2.n) from
          ⟨(h.cell (p := ⟨b1, o1 + i * 3, none⟩) l1).trans c0, (h.cell (p := ⟨b1, o1 + i * 3 + 1, none⟩) l1).trans c1, (h.cell (p := ⟨b1, o1 + i * 3 + 2, none⟩) l1).trans c2, (h.cell (p := ⟨b2, o2 + x.fr * 2, none⟩) l2).trans d0, (h.cell (p := ⟨b2, o2 + x.fr * 2 + 1, none⟩) l2).trans d1, (h.cell (p := ⟨b2, o2 + x.2 * 2, none⟩) l2).trans d2, (h.cell (p := ⟨b2, o2 + x.2 * 2 + 1, none⟩) l2).trans d3⟩)
        clear y1 y2 hin1 hin2 hP1 hP2 hx ht1 ht2 f1 f2
        go_upto_region 15 with fail
        clear c0 c1 c2 d0 d1 d2 d3
        (try simp only [List.append_eq, List.cons_append, List.nil_append])
        refine wp_region_noPanic ?_
        refine wp_region_held_drew (S := fun w' => w'.cell? ⟨b1, o1 + i * 3, none⟩ = some (.int .i64 x.fr) ∧ w'.cell? ⟨b1, o1 + i * 3 + 1, none⟩ = some (.int .i64 x.2) ∧ w'.cell? ⟨b1, o1 + i * 3 + 2, none⟩ = some (.bool x.neg) ∧ w'.cell? ⟨b2, o2 + x.fr * 2, none⟩ = some (.string P1.name) ∧ w'.cell? ⟨b2, o2 + x.fr * 2 + 1, none⟩ = some (.int .i64 P1.n) ∧ w'.cell? ⟨b2, o2 + x.2 * 2, none⟩ = some (.string P2.name) ∧ w'.cell? ⟨b2, o2 + x.2 * 2 + 1, none⟩ = some (.int .i64 P2.n)) (by kernel_rfl) ?_ (fun hHeld => ?_)
        · exact (Kq (Below.drew (Below.refl _ _))).out
        refine wpAnyH_take1 (i := 0) (oi := _) (v := ?_) (by kernel_rfl) rfl (by kernel_rfl) (fun _ _ _ h => h) (Or.inl ⟨by rfl, ?_⟩) (by assumption) ?_
        rotate_left 1
        · intro w hSw; (try dsimp only at hSw); go_simp; (with_reducible rfl)
        (try simp only [Act.put, List.getElem_toArray, List.getElem_cons_zero, List.setIfInBounds_toArray, List.set_cons_zero, List.set_cons_succ])
        refine wpAnyH_take1 (i := 1) (oi := _) (v := ?_) (by kernel_rfl) rfl (by kernel_rfl) (fun _ _ _ h => h) (Or.inl ⟨by rfl, ?_⟩) (by assumption) ?_
        rotate_left 1
        · intro w hSw; (try dsimp only at hSw); go_simp; (with_reducible rfl)
        (try simp only [Act.put, List.getElem_toArray, List.getElem_cons_zero, List.getElem_cons_succ, List.setIfInBounds_toArray, List.set_cons_zero, List.set_cons_succ])
        refine wpAnyH_take1 (i := 2) (oi := _) (v := ?_) (by kernel_rfl) rfl (by kernel_rfl) (fun _ _ _ h => h) (Or.inl ⟨by rfl, ?_⟩) (by assumption) ?_
        rotate_left 1
        · intro w hSw; (try dsimp only at hSw); go_simp; (with_reducible rfl)
        (try simp only [Act.put, List.getElem_toArray, List.getElem_cons_zero, List.getElem_cons_succ, List.setIfInBounds_toArray, List.set_cons_zero, List.set_cons_succ])
        refine wpAnyH_take1 (i := 3) (oi := _) (v := ?_) (by kernel_rfl) rfl (by kernel_rfl) (fun _ _ _ h => h) (Or.inl ⟨by rfl, ?_⟩) (by assumption) ?_
        rotate_left 1
        · intro w hSw; (try dsimp only at hSw); go_simp; (with_reducible rfl)
        (try simp only [Act.put, List.getElem_toArray, List.getElem_cons_zero, List.getElem_cons_succ, List.setIfInBounds_toArray, List.set_cons_zero, List.set_cons_succ])
        refine wpAnyH_take1 (i := 4) (oi := _) (v := ?_) (by kernel_rfl) rfl (by kernel_rfl) (fun _ _ _ h => h) (Or.inl ⟨by rfl, ?_⟩) (by assumption) ?_
        rotate_left 1
        · intro w hSw; (try dsimp only at hSw); go_simp; (with_reducible rfl)
        (try simp only [Act.put, List.getElem_toArray, List.getElem_cons_zero, List.getElem_cons_succ, List.setIfInBounds_toArray, List.set_cons_zero, List.set_cons_succ])
        refine wpAnyH_take1 (i := 5) (oi := _) (v := ?_) (by kernel_rfl) rfl (by kernel_rfl) (fun _ _ _ h => h) (Or.inl ⟨by rfl, ?_⟩) (by assumption) ?_
        rotate_left 1
        · intro w hSw; (try dsimp only at hSw); go_simp; (with_reducible rfl)
        (try simp only [Act.put, List.getElem_toArray, List.getElem_cons_zero, List.getElem_cons_succ, List.setIfInBounds_toArray, List.set_cons_zero, List.set_cons_succ])
        refine wpAnyH_take1 (i := 6) (oi := _) (v := ?_) (by kernel_rfl) rfl (by kernel_rfl) (fun _ _ _ h => h) (Or.inl ⟨by rfl, ?_⟩) (by assumption) ?_
        rotate_left 1
        · intro w hSw; (try dsimp only at hSw); go_simp; (with_reducible rfl)
        (try simp only [Act.put, List.getElem_toArray, List.getElem_cons_zero, List.getElem_cons_succ, List.setIfInBounds_toArray, List.set_cons_zero, List.set_cons_succ])
        refine wpAnyH_take1 (i := 7) (oi := _) (v := ?_) (by kernel_rfl) rfl (by kernel_rfl) (fun _ _ _ h => h) (Or.inl ⟨by rfl, ?_⟩) (by assumption) ?_
        rotate_left 1
        · intro w hSw; (try dsimp only at hSw); go_simp; (with_reducible rfl)
        (try simp only [Act.put, List.getElem_toArray, List.getElem_cons_zero, List.getElem_cons_succ, List.setIfInBounds_toArray, List.set_cons_zero, List.set_cons_succ])
        refine wpAnyH_take1 (i := 8) (oi := _) (v := ?_) (by kernel_rfl) rfl (by kernel_rfl) (fun _ _ _ h => h) (Or.inl ⟨by rfl, ?_⟩) (by assumption) ?_
        rotate_left 1
        · intro w hSw; (try dsimp only at hSw); go_simp; (with_reducible rfl)
        (try simp only [Act.put, List.getElem_toArray, List.getElem_cons_zero, List.getElem_cons_succ, List.setIfInBounds_toArray, List.set_cons_zero, List.set_cons_succ])
        refine wpAnyH_take1 (i := 10) (oi := _) (v := ?_) (by kernel_rfl) rfl (by kernel_rfl) (fun _ _ _ h => h) (Or.inl ⟨by rfl, ?_⟩) (by assumption) ?_
        rotate_left 1
        · intro w hSw; (try dsimp only at hSw); go_simp; (with_reducible rfl)
        (try simp only [Act.put, List.getElem_toArray, List.getElem_cons_zero, List.getElem_cons_succ, List.setIfInBounds_toArray, List.set_cons_zero, List.set_cons_succ])
        refine wpAnyH_take1 (i := 11) (oi := _) (v := ?_) (by kernel_rfl) rfl (by kernel_rfl) (fun _ _ _ h => h) (Or.inl ⟨by rfl, ?_⟩) (by assumption) ?_
        rotate_left 1
        · intro w hSw; (try dsimp only at hSw); go_simp; (with_reducible rfl)
        (try simp only [Act.put, List.getElem_toArray, List.getElem_cons_zero, List.getElem_cons_succ, List.setIfInBounds_toArray, List.set_cons_zero, List.set_cons_succ])
        refine wpAnyH_take1 (i := 12) (oi := _) (v := ?_) (by kernel_rfl) rfl (by kernel_rfl) (fun _ _ _ h => h) (Or.inl ⟨by rfl, ?_⟩) (by assumption) ?_
        rotate_left 1
        · intro w hSw; (try dsimp only at hSw); go_simp; (with_reducible rfl)
        (try simp only [Act.put, List.getElem_toArray, List.getElem_cons_zero, List.getElem_cons_succ, List.setIfInBounds_toArray, List.set_cons_zero, List.set_cons_succ])
        refine wpAnyH_take1 (i := 13) (oi := _) (v := ?_) (by kernel_rfl) rfl (by kernel_rfl) (fun _ _ _ h => h) (Or.inl ⟨by rfl, ?_⟩) (by assumption) ?_
        rotate_left 1
        · intro w hSw; (try dsimp only at hSw); go_simp; (with_reducible rfl)
        (try simp only [Act.put, List.getElem_toArray, List.getElem_cons_zero, List.getElem_cons_succ, List.setIfInBounds_toArray, List.set_cons_zero, List.set_cons_succ])
        refine wpAnyH_take1 (i := 14) (oi := _) (v := ?_) (by kernel_rfl) rfl (by kernel_rfl) (fun _ _ _ h => h) (Or.inl ⟨by rfl, ?_⟩) (by assumption) ?_
        rotate_left 1
        · intro w hSw; (try dsimp only at hSw); go_simp; (with_reducible rfl)
        (try simp only [Act.put, List.getElem_toArray, List.getElem_cons_zero, List.getElem_cons_succ, List.setIfInBounds_toArray, List.set_cons_zero, List.set_cons_succ])
        refine wpAnyH_take1 (i := 15) (oi := _) (v := ?_) (by kernel_rfl) rfl (by kernel_rfl) (fun _ _ _ h => h) (Or.inl ⟨by rfl, ?_⟩) (by assumption) ?_
        rotate_left 1
        · intro w hSw; (try dsimp only at hSw); go_simp; (with_reducible rfl)
        (try simp only [Act.put, List.getElem_toArray, List.getElem_cons_zero, List.getElem_cons_succ, List.setIfInBounds_toArray, List.set_cons_zero, List.set_cons_succ])
        refine wpAnyH_take1 (i := 16) (oi := _) (v := ?_) (by kernel_rfl) rfl (by kernel_rfl) (fun _ _ _ h => h) (Or.inl ⟨by rfl, ?_⟩) (by assumption) ?_
        rotate_left 1
        · intro w hSw; (try dsimp only at hSw); go_simp; (with_reducible rfl)
        (try simp only [Act.put, List.getElem_toArray, List.getElem_cons_zero, List.getElem_cons_succ, List.setIfInBounds_toArray, List.set_cons_zero, List.set_cons_succ])
        refine wpAnyH_take1 (i := 17) (oi := _) (v := ?_) (by kernel_rfl) rfl (by kernel_rfl) (fun _ _ _ h => h) (Or.inl ⟨by rfl, ?_⟩) (by assumption) ?_
        rotate_left 1
        · intro w hSw; (try dsimp only at hSw); go_simp; (with_reducible rfl)
        (try simp only [Act.put, List.getElem_toArray, List.getElem_cons_zero, List.getElem_cons_succ, List.setIfInBounds_toArray, List.set_cons_zero, List.set_cons_succ])
        refine wpAnyH_take1 (i := 18) (oi := _) (v := ?_) (by kernel_rfl) rfl (by kernel_rfl) (fun _ _ _ h => h) (Or.inl ⟨by rfl, ?_⟩) (by assumption) ?_
        rotate_left 1
        · intro w hSw; (try dsimp only at hSw); go_simp; (with_reducible rfl)
        (try simp only [Act.put, List.getElem_toArray, List.getElem_cons_zero, List.getElem_cons_succ, List.setIfInBounds_toArray, List.set_cons_zero, List.set_cons_succ])
        refine wpAnyH_take1 (i := 20) (oi := _) (v := ?_) (by kernel_rfl) rfl (by kernel_rfl) (fun _ _ _ h => h) (Or.inl ⟨by rfl, ?_⟩) (by assumption) ?_
        rotate_left 1
        · intro w hSw; (try dsimp only at hSw); go_simp; (with_reducible rfl)
        (try simp only [Act.put, List.getElem_toArray, List.getElem_cons_zero, List.getElem_cons_succ, List.setIfInBounds_toArray, List.set_cons_zero, List.set_cons_succ])
        refine wpAnyH_take1 (i := 21) (oi := _) (v := ?_) (by kernel_rfl) rfl (by kernel_rfl) (fun _ _ _ h => h) (Or.inl ⟨by rfl, ?_⟩) (by assumption) ?_
        rotate_left 1
        · intro w hSw; (try dsimp only at hSw); go_simp; (with_reducible rfl)
        (try simp only [Act.put, List.getElem_toArray, List.getElem_cons_zero, List.getElem_cons_succ, List.setIfInBounds_toArray, List.set_cons_zero, List.set_cons_succ])
        refine wpAnyH_take1 (i := 22) (oi := _) (v := ?_) (by kernel_rfl) rfl (by kernel_rfl) (fun _ _ _ h => h) (Or.inl ⟨by rfl, ?_⟩) (by assumption) ?_
        rotate_left 1
        · intro w hSw; (try dsimp only at hSw); go_simp; (with_reducible rfl)
        (try simp only [Act.put, List.getElem_toArray, List.getElem_cons_zero, List.getElem_cons_succ, List.setIfInBounds_toArray, List.set_cons_zero, List.set_cons_succ])
        refine wpAnyH_take1 (i := 23) (oi := _) (v := ?_) (by kernel_rfl) rfl (by kernel_rfl) (fun _ _ _ h => h) (Or.inl ⟨by rfl, ?_⟩) (by assumption) ?_
        rotate_left 1
        · intro w hSw; (try dsimp only at hSw); go_simp; (with_reducible rfl)
        (try simp only [Act.put, List.getElem_toArray, List.getElem_cons_zero, List.getElem_cons_succ, List.setIfInBounds_toArray, List.set_cons_zero, List.set_cons_succ])
        refine wpAnyH_take1 (i := 24) (oi := _) (v := ?_) (by kernel_rfl) rfl (by kernel_rfl) (fun _ _ _ h => h) (Or.inl ⟨by rfl, ?_⟩) (by assumption) ?_
        rotate_left 1
        · intro w hSw; (try dsimp only at hSw); go_simp; (with_reducible rfl)
        (try simp only [Act.put, List.getElem_toArray, List.getElem_cons_zero, List.getElem_cons_succ, List.setIfInBounds_toArray, List.set_cons_zero, List.set_cons_succ])
        clear hHeld
        have hD3 : ∃ A : Value → World → Prop, A = fun v w' => ∃ g, v = .pointer (some ⟨g, 0, none⟩) ∧ wr.heap.size ≤ g ∧ Row 57 w' g [.int .i64 0, .int .i64 0, .bool false] := ⟨_, rfl⟩
        obtain ⟨D3, hD3⟩ := hD3
        refine wpAnyH_flow' (f := 1) [9, 19, 25, 26] [93, 103, 109, 13] [[], [0], [0, 1], []]
          [fun v _ => v = .int .i64 (t1 : Nat), fun v _ => v = .int .i64 (t2 : Nat), fun v _ => v = .agg #[.int .i64 (t1 : Nat), .int .i64 (t2 : Nat), .bool x.neg], D3]
          (by kernel_rfl) rfl (by decide) [u93, u103, u109, u13] rfl (by rfl) ?_ (fun w' h => (Kq (Below.trans (Seq.way : Below wr.heap.size wr wr.drew) h)).out) ?_ ?_
        · intro D hD v y z hDv hyz
          simp only [List.mem_cons, List.not_mem_nil, or_false] at hD
          rcases hD with rfl | rfl | rfl | rfl
          · exact hDv
          · exact hDv
          · exact hDv
          · rw [hD3] at hDv ⊢
            obtain ⟨g, e, h1, hg⟩ := hDv
            exact ⟨g, e, h1, hg.below hyz hg.lt⟩
        · intro k2 hk2 vs y hvs hby0 hdeps
          have hby : Below wr.heap.size wr y := Below.trans (Seq.way : Below wr.heap.size wr wr.drew) hby0
          obtain ⟨v0, v1, v2, v3, rfl⟩ := len_four hvs
          simp only [putsL, Act.put, List.setIfInBounds_toArray, List.set_cons_zero, List.set_cons_succ]
          rcases (show k2 = 0 ∨ k2 = 1 ∨ k2 = 2 ∨ k2 = 3 by simp at hk2; omega) with rfl | rfl | rfl | rfl
          · refine ⟨_, rfl, by rfl, fun K hK => ?_⟩
            go_simp
            refine (hsp1.out _ hby).mono ?_
            rintro e z ⟨rfl, hz⟩
            exact hK.out _ _ hz (holds_of rfl rfl)
          · refine ⟨_, rfl, by rfl, fun K hK => ?_⟩
            go_simp
            refine (hsp2.out _ hby).mono ?_
            rintro e z ⟨rfl, hz⟩
            exact hK.out _ _ hz (holds_of rfl rfl)
          · have hd := hdeps 0 (by simp) v0 rfl _ rfl
            have hd2 := hdeps 1 (by simp) v1 rfl _ rfl
            subst hd
            subst hd2
            refine ⟨_, rfl, by rfl, fun K hK => ?_⟩
            go_simp
            exact hK.out _ _ (Below.refl _ _) (holds_of rfl rfl)
          · refine ⟨_, rfl, by rfl, fun K hK => ?_⟩
            go_simp
            refine hK.out _ _ Seq.way (holds_of (D := D3) rfl ?_)
            rw [hD3]
            exact ⟨_, rfl, hby.size, Row.new _ [_, _, _] _ rfl⟩
        intro vs w8 hvs hby0 hhas
        have hb8 : Below wr.heap.size wr w8 := Below.trans (Seq.way : Below wr.heap.size wr wr.drew) hby0
        obtain ⟨v0, v1, v2, v3, rfl⟩ := len_four hvs
        have y0 := hhas 0 v0 rfl _ rfl
        have y1 := hhas 1 v1 rfl _ rfl
        have y2 := hhas 2 v2 rfl _ rfl
        have y3 := hhas 3 v3 rfl D3 rfl
        subst y0 y1 y2
        rw [hD3] at y3
        obtain ⟨g, rfl, hg1, hg⟩ := y3
        have q0 := hg.cell (j := 0) (by simp)
        have q1 := hg.cell (j := 1) (by simp)
        have q2 := hg.cell (j := 2) (by simp)
        have q3 := hg.frozen 0
        have q4 := hg.frozen 1
        have q5 := hg.frozen 2
        have hw3 := Lib.hid (((hg.set 0 (.int .i64 (t1 : Nat))).set 1 (.int .i64 (t2 : Nat))).set 2 (.bool x.neg))
        have B8 := Lib.hid hb8
        have Hg1 := Lib.hid hg1
        clear hhas hD3 D3 hby0 hvs hb8 hsp1 hsp2
        simp only [putsL, Act.put, List.setIfInBounds_toArray, List.set_cons_zero, List.set_cons_succ]
        refine wpAnyH_one (i := 27) (by kernel_rfl) rfl (by rfl) fun K hK => ?_
        go_simp
        have W8 := Lib.hid (below_store (o := 2) (below_store (o := 1) (below_store (o := 0) B8.out Hg1.out (Nat.le_refl _) (.int .i64 (t1 : Nat))) Hg1.out (Nat.le_refl _) (.int .i64 (t2 : Nat))) Hg1.out (Nat.le_refl _) (.bool x.neg))
        refine hK.out _ _ (Kq W8.out).out fun _ => ?_
        clear hK K
        refine wpAnyH_done (by kernel_rfl) ?_ _
        refine NoPanic.normal ?_
        obtain ⟨Z, hZ⟩ : ∃ Z, Z = ((w8.setCell ⟨g, 0, none⟩ (.int .i64 (t1 : Nat))).setCell ⟨g, 1, none⟩ (.int .i64 (t2 : Nat))).setCell ⟨g, 2, none⟩ (.bool x.neg) := ⟨_, rfl⟩
        rw [← hZ] at W8 hw3 ⊢
        have Hg : Hid (Row 57 Z g [.int .i64 (t1 : Nat), .int .i64 (t2 : Nat), .bool x.neg]) := hw3
        have HZ := Lib.hid (below_step W8.out hbz.out)
        clear hZ hw3 q0 q1 q2 q3 q4 q5 hg Hg1 B8 W8 Kq l1 l2
        go_wp2_with fail
        go_loopw [14, 15] (fun o z wz => ∃ (b : Bool) (q : Nat), q ≤ (linksL m).length ∧ o = .bool b ∧ z = .int .i64 q ∧ Hid ((Lnk.mk t1 t2 x.neg) ∈ (linksL m).take q → b = true) ∧ Hid (Below Z.heap.size Z wz)) (fun _ z _ => (linksL m).length - (intOf z).toNat)
        case atStart => exact ⟨false, 0, Nat.zero_le _, rfl, rfl, Lib.hid (fun h => by simp at h), Lib.hid (Below.refl _ _)⟩
        case round =>
          obtain ⟨b, q, hq, rfl, rfl, hb, hbq⟩ := hrel
          by_cases hqt : q < (linksL m).length
          · have hqI : (q : Int) < ((linksL m).length : Int) := by omega
            have hq0 : (0 : Int) ≤ (q : Int) := by omega
            obtain ⟨_, _, ee, -, -, -, -, y3⟩ := KM4.out.at (below_step hbq.out HZ.out)
            simp only [Value.slice.injEq, true_and] at ee
            obtain ⟨rfl, rfl⟩ := ee
            obtain ⟨b3, o3, rfl, -, -, e0, e1, e2, -, -⟩ := y3.lnk hqt
            have hgq := Hg.out.below hbq.out Hg.out.lt
            have d0 := hgq.cell (j := 0) (by simp)
            have d1 := hgq.cell (j := 1) (by simp)
            have d2 := hgq.cell (j := 2) (by simp)
            simp only [List.getElem_cons_zero, List.getElem_cons_succ] at d0 d1 d2
            have hnx := Lib.hid (show (Lnk.mk t1 t2 x.neg) ∈ (linksL m).take (q + 1) → b = true ∨ (linksL m)[q] = Lnk.mk t1 t2 x.neg from fun h => by
              rw [List.take_succ_eq_append_getElem hqt, List.mem_append, List.mem_singleton] at h
              rcases h with h | h
              · exact .inl (hb.out h)
              · exact .inr h.symm)
            obtain ⟨y, hy⟩ : ∃ y, y = (linksL m)[q] := ⟨_, rfl⟩
            rw [← hy] at e0 e1 e2 hnx
            clear y3 hgq hy hb
            cases b with
            | true =>
              clear e0 e1 e2 d0 d1 d2 hnx
              go_wp2_with fail
              go_quiet (fail)
              go_wp2_with fail
              go_roundw
              case rel => exact ⟨true, q + 1, hqt, rfl, by go_num, Lib.hid (fun _ => rfl), Lib.hid (below_drewN hbq.out nq)⟩
              case measure => simp [intOf]; omega
            | false =>
              by_cases he : y = Lnk.mk t1 t2 x.neg
              · subst he
                clear hnx
                go_wp2_with fail
                go_quiet (fail)
                go_wp2_with fail
                go_roundw
                case rel => exact ⟨true, q + 1, hqt, rfl, by go_num, Lib.hid (fun _ => rfl), Lib.hid (below_drewN hbq.out nq)⟩
                case measure => simp [intOf]; omega
              · have hn := Lib.hid (fun h => (hnx.out h).elim (fun h => by cases h) he)
                have hlk := lnk_ne he
                dsimp only at hlk
                rcases hlk with k1 | ⟨k1, k2⟩ | ⟨k1, k2, k3⟩
                all_goals
                  clear hnx he
                  go_wp2_with fail
                  go_quiet (fail)
                  go_wp2_with fail
                  go_roundw
                  case rel => exact ⟨false, q + 1, hqt, rfl, by go_num, Lib.hid (fun h => (hn.out h).elim), Lib.hid (below_drewN hbq.out nq)⟩
                  case measure => simp [intOf]; omega
          · have hqI : ¬ (q : Int) < ((linksL m).length : Int) := by omega
            obtain rfl : q = (linksL m).length := by omega
            have hbt : b = true := hb.out (by rw [List.take_length]; exact hwant.out)
            subst hbt
            clear hqt hb
            go_wp2_with fail
            go_roundw
            case rel => exact ⟨i + 1, hlt, by go_num, Lib.hid (below_step hbq.out HZ.out)⟩
            case measure => simp [intOf]; omega
      · have hiI : ¬ (i : Int) < ((linksL f).length : Int) := by omega
        clear hlt
        go_wp2_with fail
        refine (LevelsP_spec (HM.out.at (below_step hbz.out X4.out)) HMay.out (by omega)).mono ?_
        rintro e y1 ⟨r1, is, A, rfl, hy1, hl1, ht1⟩
        obtain ⟨a1, c1, rfl⟩ := ht1.shape
        have S1 := Lib.hid ht1.any
        have Y1 := Lib.hid (below_step hy1 hbz.out)
        have L1 := Lib.hid hl1
        clear hy1 ht1 hl1
        go_wp2_with fail
        refine (LevelsP_spec (HF.out.at (below_step (below_step Seq.way Y1.out) X4.out)) HMayF.out (by omega)).mono ?_
        rintro e y2 ⟨r2, it, B, rfl, hy2, hl2, ht2⟩
        obtain ⟨a2, c2, rfl⟩ := ht2.shape
        have S2 := Lib.hid ht2.any
        have S12 := Lib.hid (S1.out.at (below_step hy2 Seq.way))
        have Y2 := Lib.hid (below_step (below_step hy2 Seq.way) Y1.out)
        have L2 := Lib.hid hl2
        clear hy2 ht2 hl2 S1
        cases is with
        | false =>
          cases it with
          | false =>
            go_wp2_with fail
            go_loopw [20] (fun z wz => z = .int .i64 0 ∧ y2 = wz) (fun z _ => 0)
            case atStart => exact ⟨rfl, rfl⟩
            case round =>
              obtain ⟨rfl, rfl⟩ := hrel
              by_cases hz : (0 : Int) < ((predsL f).length : Int)
              · go_wp2_with fail
                go_ret
                exact ⟨rfl, below_step (below_step (below_step Seq.way Y2.out) X4.out) B3.out⟩
              · go_wp2_with fail
                go_ret
                exact ⟨rfl, below_step (below_step (below_step Seq.way Y2.out) X4.out) B3.out⟩
          | true =>
            have hbl : (natsI B).length = (predsL f).length := by rw [natsI_len]; exact levT_len L2.out rfl
            rw [hbl] at S2 ⊢
            clear hbl
            go_wp2_with fail
            go_loopw [20] (fun z wz => z = .int .i64 0 ∧ y2 = wz) (fun z _ => 0)
            case atStart => exact ⟨rfl, rfl⟩
            case round =>
              obtain ⟨rfl, rfl⟩ := hrel
              by_cases hz : (0 : Int) < ((predsL f).length : Int)
              · go_wp2_with fail
                go_ret
                exact ⟨rfl, below_step (below_step (below_step Seq.way Y2.out) X4.out) B3.out⟩
              · go_wp2_with fail
                go_ret
                exact ⟨rfl, below_step (below_step (below_step Seq.way Y2.out) X4.out) B3.out⟩
        | true =>
          obtain ⟨rfl, hal, hbl, hle⟩ := hlev.out _ _ _ _ L1.out L2.out rfl
          have hal2 : (natsI A).length = (predsL m).length := by rw [natsI_len]; exact hal
          have hbl2 : (natsI B).length = (predsL f).length := by rw [natsI_len]; exact hbl
          rw [hal2] at S12 ⊢
          rw [hbl2] at S2 ⊢
          have Hal := Lib.hid hal
          have Hbl := Lib.hid hbl
          have Hle := Lib.hid hle
          clear hal hbl hle hal2 hbl2
          go_wp2_with fail
          go_loopw [20] (fun z wz => ∃ j : Nat, j ≤ (predsL f).length ∧ z = .int .i64 j ∧ Hid (Below y2.heap.size y2 wz)) (fun z _ => (predsL f).length - (intOf z).toNat)
          case atStart => exact ⟨0, Nat.zero_le _, rfl, Lib.hid (Below.refl _ _)⟩
          case round =>
            obtain ⟨j, hj, rfl, hbj⟩ := hrel
            by_cases hjl : j < (predsL f).length
            · obtain ⟨_, _, ee, -, -, -, -, y0⟩ := PF4.out
              simp only [Value.slice.injEq, true_and] at ee
              obtain ⟨rfl, rfl⟩ := ee
              obtain ⟨b1, o1, rfl, -, l1, c0, c1, -, -⟩ := y0.prd hjl
              have hw4 := below_step (below_step hbj.out Y2.out) (Below.refl _ _)
              replace c0 : wr.cell? ⟨b1, o1 + j * 2, none⟩ = _ := (hw4.cell (p := ⟨b1, o1 + j * 2, none⟩) l1).trans c0
              replace c1 : wr.cell? ⟨b1, o1 + j * 2 + 1, none⟩ = _ := (hw4.cell (p := ⟨b1, o1 + j * 2 + 1, none⟩) l1).trans c1
              have hin := hpin.out _ (List.getElem_mem hjl)
              have hpl := Lib.hid (placeP_low (predsL_srt m) hin)
              obtain ⟨hlo, -⟩ := lowC_mem cmpP_ok (predsL_srt m) hin
              have hle := Hle.out j hjl
              obtain ⟨x, hx⟩ : ∃ x, x = (predsL f)[j] := ⟨_, rfl⟩
              rw [← hx] at c0 c1 hpl hlo hle
              have hspec := Lib.hid (PlaceR_spec (p := x) (PM4.out.at hw4))
              rw [hpl.out] at hspec
              obtain ⟨q, hq⟩ : ∃ q, q = lowC cmpP x (predsL m) := ⟨_, rfl⟩
              rw [← hq] at hspec hlo hle
              have hjI : (j : Int) < ((predsL f).length : Int) := by omega
              have hj0 : (0 : Int) ≤ (j : Int) := by omega
              clear hx y0 hin hpl hq hw4
              go_wp2_with fail
              refine hspec.out.mono ?_
              rintro e z1 ⟨rfl, hz1⟩
              have Z1 := Lib.hid (below_step hz1 hbj.out)
              obtain ⟨_, _, ee, -, -, -, -, t1⟩ := S12.out.at Z1.out
              simp only [Value.slice.injEq] at ee
              obtain ⟨rfl, -, rfl⟩ := ee
              obtain ⟨_, _, ee, -, -, -, -, t2⟩ := S2.out.at Z1.out
              simp only [Value.slice.injEq] at ee
              obtain ⟨rfl, -, rfl⟩ := ee
              have hA1 := Hal.out
              have hB1 := Hbl.out
              have hbA : lv A q ≤ 2000000 := by
                rcases L1.out with ⟨-, h⟩ | ⟨h, -⟩
                · have := lev_bound rngK_links h q; omega
                · cases h
              obtain ⟨b2, o2, rfl, -, -, d0, -⟩ := t1.int (k := q) (by rw [natsI_len]; omega)
              obtain ⟨b3, o3, rfl, -, -, e0, -⟩ := t2.int (k := j) (by rw [natsI_len]; omega)
              rw [natsI_lv (by omega)] at d0 e0
              obtain ⟨r, hr⟩ : ∃ r, r = lv A q := ⟨_, rfl⟩
              obtain ⟨s, hs⟩ : ∃ s, s = lv B j := ⟨_, rfl⟩
              rw [← hr] at d0 hle hbA
              rw [← hs] at e0 hle
              have hqI : (q : Int) < ((predsL m).length : Int) := by omega
              have hq0 : (0 : Int) ≤ (q : Int) := by omega
              have hqn : ((q : Int) < 0) = False := eq_false (by omega)
              have hsr : ((r : Int) < (s : Int)) = False := eq_false (by omega)
              have hsN : (r < s) = False := eq_false (by omega)
              clear hz1 c0 c1 t1 t2 hr hs hA1 hB1
              go_upto_region 31 with fail
              go_quiet (fail)
              go_wp2_with fail
              go_roundw
              case rel => exact ⟨j + 1, hjl, by go_num, Lib.hid (below_drewN Z1.out nq)⟩
              case measure => simp [intOf]; omega
            · have hjI : ¬ (j : Int) < ((predsL f).length : Int) := by omega
              clear hjl
              go_wp2_with fail
              go_ret
              exact ⟨rfl, below_step (below_step (below_step hbj.out Y2.out) X4.out) B3.out⟩
end Go.Proofs.Ytadbdmnngmlnhaa
