/-
  Layer 16, the law: GroundSets.
-/
import Derived.Test.YtaedgpcmkagpeaaGreatGuP
import Derived.Deep.DeepCutAuto
namespace Go.Proofs.YtaedgpcmkagpeaaGreat
open Go Go.RowKit

set_option maxHeartbeats 12800000 in
set_option maxRecDepth 100000 in
theorem sets_spec {S : Nat → Prop} {w : World} {v : Value} {l : List Ins} {a : Nat} (hl : Seq instE S w v l) (ha : a < 256) :
    Calls Tryz.prog 5 #[v, .int .u8 a] w (RetV (.bool true) w) := by
  have HL := Lib.hid hl
  obtain ⟨la, lc, rfl⟩ := hl.shape
  clear hl
  go_enter Tryz.func5, Tryz.ntmps5
  go_wp2_with fail
  refine head_spec.mono ?_
  rintro e w1 ⟨rfl, hb1⟩
  have B1 := Lib.hid hb1
  clear hb1
  go_wp2_with fail
  refine (MadeL_spec (HL.out.at B1.out)).mono ?_
  rintro e w2 ⟨v2, rfl, hb2, hs2⟩
  have B2 := Lib.hid (below_step hb2 B1.out)
  have HM := Lib.hid hs2.bnd
  obtain ⟨ma, mc, rfl⟩ := hs2.shape
  have hok := Lib.hid (fun i (hi : i ∈ madeG l) => (made_mem hi).1)
  have hml := made_len l
  obtain ⟨M, hMe⟩ : ∃ M, M = madeG l := ⟨_, rfl⟩
  rw [← hMe] at HM hok hml ⊢
  have hmt := okI_terms hok.out
  have hmt2 := Lib.hid (show (allT M).length ≤ 100000 by omega)
  have hml2 := Lib.hid (show M.length ≤ 100000 by omega)
  clear hb2 hs2 hMe hmt
  go_wp2_with fail
  refine (FromP_spec HM.out hmt2.out hml2.out).mono ?_
  rintro e w3 ⟨v3, rfl, hb3, hg3⟩
  obtain ⟨G, hGe⟩ : ∃ G, G = fromT M := ⟨_, rfl⟩
  have HGe := Lib.hid hGe
  rw [← hGe] at hg3
  clear hGe
  have HM3 := Lib.hid (HM.out.at hb3)
  have B3 := Lib.hid (below_step hb3 B2.out)
  obtain ⟨va, vr, rfl, hA, hR⟩ := hg3
  have HGA3 := Lib.hid hA.bnd
  have HGR3 := Lib.hid hR.bnd
  obtain ⟨aa3, ac3, rfl⟩ := hA.shape
  obtain ⟨ra3, rc3, rfl⟩ := hR.shape
  have Hb3 := Lib.hid hb3
  clear hb3 hA hR
  obtain ⟨W3, hW3⟩ : ∃ W, W = w3.alloc (.cells #[.slice aa3 G.atoms.length ac3, .slice ra3 G.rules.length rc3] 26) := ⟨_, rfl⟩
  have BB3 := Lib.hid (show Below w3.heap.size w3 W3 by rw [hW3]; exact Seq.way)
  have HQ3 := Lib.hid (show Row 26 W3 w3.heap.size [.slice aa3 G.atoms.length ac3, .slice ra3 G.rules.length rc3] by rw [hW3]; exact Row.new w3 [_, _] _ rfl)
  have HG3 := Lib.hid (show ProgV (fun b => b < w3.heap.size) W3 (.agg #[.slice aa3 G.atoms.length ac3, .slice ra3 G.rules.length rc3]) G from ⟨_, _, rfl, (HGA3.out.at BB3.out).mono (fun _ h _ => h.2) fun _ _ _ => rfl, (HGR3.out.at BB3.out).mono (fun _ h _ => h.2) fun _ _ _ => rfl⟩)
  have BW3 := Lib.hid (below_step BB3.out B3.out)
  have HW3 := Lib.hid hW3
  clear hW3
  go_upto_region 4 with fail
  rw [← HW3.out]
  obtain ⟨W4, hW4⟩ : ∃ W4, W4 = W3.alloc (.cells #[] 41) := ⟨_, rfl⟩
  have BB4 := Lib.hid (show Below W3.heap.size W3 W4 by rw [hW4]; exact Seq.way)
  have hz4 : W3.heap.size < W4.heap.size := by rw [hW4]; simp
  have HO4 := Lib.hid (show Own instE (fun b => b < W3.heap.size ∨ W3.heap.size ≤ b) W3.heap.size 41 W4 (.slice (some ⟨W3.heap.size, 0, none⟩) 0 0) [] by rw [hW4]; exact Own.lit0 rfl (Nat.le_refl _) rfl)
  have BW4 := Lib.hid (below_step BB4.out BW3.out)
  have HW4 := Lib.hid hW4
  clear hW4 HM3 HGA3 HGR3
  have hz2 := Lib.hid (Nat.le_trans Hb3.out.size BB3.out.size)
  go_upto_region 5 with fail
  rw [← HW4.out]
  have hwp : wrap64 ((M.length : Int) - 1) = (M.length : Int) - 1 := by unfold wrap64; omega
  go_wp2_with fail
  clear hwp
  go_loopw [8, 9] (fun o q wr => ∃ (m : Nat) (x : Int), m ≤ M.length ∧ x = (m : Int) - 1 ∧ q = .int .i64 x ∧ Hid (Own instE (fun b => b < W3.heap.size ∨ W3.heap.size ≤ b) W3.heap.size 41 wr o ((M.drop m).map turnI).reverse) ∧ Hid (Below W3.heap.size W3 wr) ∧ W4.heap.size ≤ wr.heap.size) (fun _ q _ => (intOf q + 1).toNat)
  case atStart => exact ⟨M.length, _, Nat.le_refl _, rfl, rfl, Lib.hid (by rw [List.drop_length]; exact HO4.out), BB4, Nat.le_refl _⟩
  case round =>
    obtain ⟨m, x0, hm, hx0, rfl, hO, hbr, hzr⟩ := hrel
    have hMr := Lib.hid (HM.out.at Hb3.out)
    have HMr := Lib.hid ((hMr.out.at BB3.out).at hbr.out)
    rcases m with _ | q
    · obtain rfl : x0 = -1 := by omega
      have hO0 := Lib.hid (show Own instE (fun b => b < W3.heap.size ∨ W3.heap.size ≤ b) W3.heap.size 41 wr _ (M.map turnI).reverse from hO.out)
      have hQl : (M.map turnI).reverse.length ≤ 100 := by simp; omega
      have hsf := Lib.hid (fun (x : List Ins) (hx : ∀ i ∈ x, i ∈ M) => HGe.out.trans (sets_from hx))
      have hst := Lib.hid (fun (x : List Ins) (hx : ∀ i ∈ x, i ∈ M) (h1 : x.length ≤ 1) => sets_terms hok.out hx hml h1)
      obtain ⟨Q, hQ⟩ : ∃ Q, Q = (M.map turnI).reverse := ⟨_, rfl⟩
      rw [← hQ] at hO0 hQl hsf hst
      clear hQ hO hm hx0
      obtain ⟨oa, oc, rfl, -, -⟩ := hO0.out.shape
      go_upto_if 34 with fail
      go_cut [8] (fun o wc => ∃ (x : List Ins), Hid (∀ i ∈ x, i ∈ M) ∧ x.length ≤ 1 ∧ Hid (Seq instE (fun _ => True) wc o (Q ++ x)) ∧ Hid (Below W3.heap.size W3 wc))
      case first =>
        by_cases hM0 : 0 < M.length
        · have hMI : (M.length : Int) > 0 := by omega
          obtain ⟨kk, hkv⟩ : ∃ kk, kk = a % M.length := ⟨_, rfl⟩
          have hkl : kk < M.length := by rw [hkv]; exact Nat.mod_lt _ hM0
          have hmI : (0 : Int) < (M.length : Int) := by omega
          have hm1 : (1 : Int) ≤ (M.length : Int) := by omega
          have ht0 : (0 : Int) ≤ (a : Int) := by omega
          have hrem : (a : Int) % (M.length : Int) = (kk : Int) := by rw [hkv]; rfl
          have hrem2 : (a : Int).tmod (M.length : Int) = (kk : Int) := by rw [Int.tmod_eq_emod_of_nonneg (by omega)]; exact hrem
          have hkI : (kk : Int) < (M.length : Int) := by omega
          have hk0 : (0 : Int) ≤ (kk : Int) := by omega
          have hkt : ((kk : Int)).toNat = kk := Int.toNat_natCast kk
          clear hkv
          obtain ⟨_, _, ee, -, -, -, -, x5⟩ := HMr.out
          simp only [Value.slice.injEq, true_and] at ee
          obtain ⟨rfl, rfl⟩ := ee
          obtain ⟨b, off, iha, ihc, ipa, ipc, ina, inc, rfl, hSb, hb, c0, c1, c2, hh, hp, hn⟩ := x5.ins hkl
          have hmem := Lib.hid (show ∀ i ∈ [M[kk]], i ∈ M from fun i hi => by rw [List.mem_singleton.1 hi]; exact List.getElem_mem hkl)
          obtain ⟨i, hi⟩ : ∃ i, i = M[kk] := ⟨_, rfl⟩
          rw [← hi] at c0 c1 c2 hh hp hn hmem
          have HH := Lib.hid hh
          have HP := Lib.hid hp
          have HN := Lib.hid hn
          clear hi x5 hh hp hn hSb
          go_wp2_with (at_builtin; (refine wpList_app_ins (S := fun b => b < W3.heap.size ∨ W3.heap.size ≤ b) (base := W3.heap.size) (wm := wr) (y := i) rfl _ _ 22 rfl Tryz.underlying22 infoIns rfl hO0.out rfl Seq.way (HH.out.at Seq.way) (HP.out.at Seq.way) (HN.out.at Seq.way) (fun b h _ => ⟨by omega, .inl (Nat.lt_of_lt_of_le h.2 hz2.out)⟩) (by go_simp) (by go_simp) (by go_simp) (by omega) hbr.out.size ?_))
          intro ao cap w5 hown5 hk5
          have H5 := Lib.hid hown5
          have K5 := Lib.hid (hbr.out.trans (Below.trans (Below.mono (Seq.way : Below wr.heap.size wr _) hbr.out.size) hk5.below))
          clear hown5 hk5
          go_wp2_with fail
          go_meet
          exact ⟨[i], hmem, by simp, Lib.hid (by simpa using H5.out.seq (T := fun _ => True) (by simp; omega) fun _ _ _ => trivial), K5⟩
        · have hMI : ¬ (M.length : Int) > 0 := by omega
          go_wp2_with fail
          go_meet
          exact ⟨[], Lib.hid (by simp), by simp, Lib.hid (by rw [List.append_nil]; exact hO0.out.seq (T := fun _ => True) (by omega) fun _ _ _ => trivial), hbr⟩
      case rest =>
        obtain ⟨x, hx, hx1, HN, hbc⟩ := hcut
        have hsx := Lib.hid (hsf.out x hx.out)
        have htx := Lib.hid (hst.out x hx.out hx1)
        have hnl := Lib.hid (show (Q ++ x).length ≤ 100000 by simp; omega)
        obtain ⟨Nl, hNl⟩ : ∃ y, y = Q ++ x := ⟨_, rfl⟩
        rw [← hNl] at HN hsx htx hnl
        clear hNl hsf hst hx hx1 hO0 HMr hMr hzr hbr hQl
        obtain ⟨na, nc, rfl⟩ := HN.out.shape
        have HQc := Lib.hid (rowTo HQ3.out hbc.out)
        have HGc := Lib.hid (HG3.out.at hbc.out)
        have Bc := Lib.hid (below_step hbc.out BW3.out)
        go_wp2_with fail
        refine (FromP_spec HN.out htx.out hnl).mono ?_
        rintro e w6 ⟨v6, rfl, hb6, hg6⟩
        rw [← hsx.out] at hg6
        have HQ6c := Lib.hid (rowTo HQc.out hb6)
        have HG6c := Lib.hid (HGc.out.at hb6)

        have B6 := Lib.hid (below_step hb6 Bc.out)
        obtain ⟨va, vr, rfl, hA, hR⟩ := hg6
        have HGA6 := Lib.hid hA.bnd
        have HGR6 := Lib.hid hR.bnd
        obtain ⟨aa6, ac6, rfl⟩ := hA.shape
        obtain ⟨ra6, rc6, rfl⟩ := hR.shape
        have Hb6 := Lib.hid hb6
        clear hb6 hA hR
        obtain ⟨W6, hW6⟩ : ∃ W, W = w6.alloc (.cells #[.slice aa6 G.atoms.length ac6, .slice ra6 G.rules.length rc6] 26) := ⟨_, rfl⟩
        have BB6 := Lib.hid (show Below w6.heap.size w6 W6 by rw [hW6]; exact Seq.way)
        have HQ6 := Lib.hid (show Row 26 W6 w6.heap.size [.slice aa6 G.atoms.length ac6, .slice ra6 G.rules.length rc6] by rw [hW6]; exact Row.new w6 [_, _] _ rfl)
        have HG6 := Lib.hid (show ProgV (fun b => b < w6.heap.size) W6 (.agg #[.slice aa6 G.atoms.length ac6, .slice ra6 G.rules.length rc6]) G from ⟨_, _, rfl, (HGA6.out.at BB6.out).mono (fun _ h _ => h.2) fun _ _ _ => rfl, (HGR6.out.at BB6.out).mono (fun _ h _ => h.2) fun _ _ _ => rfl⟩)
        have BW6 := Lib.hid (below_step BB6.out B6.out)
        have HW6 := Lib.hid hW6
        clear hW6
        go_upto_region 12 with fail
        rw [← HW6.out]
        have HQa := Lib.hid (rowTo HQ6c.out BB6.out)
        have HGa := Lib.hid (HG6c.out.at BB6.out)
        have hgr := Lib.hid (show rightG G = true by rw [HGe.out]; exact from_rightB hok.out)
        have hsm := Lib.hid (show SmG G by rw [HGe.out]; exact okI_sm hok.out (by omega))
        have hgl : G.rules.length ≤ M.length := by rw [HGe.out]; exact from_len _
        have hglI : (G.rules.length : Int) ≤ (M.length : Int) := by omega
        have d0 := HQa.out.cell (j := 0) (by simp)
        have d1 := HQa.out.cell (j := 1) (by simp)
        have e0 := HQ6.out.cell (j := 0) (by simp)
        have e1 := HQ6.out.cell (j := 1) (by simp)
        have lP := HQa.out.lt
        have lE := HQ6.out.lt
        simp only [List.getElem_cons_zero, List.getElem_cons_succ] at d0 d1 e0 e1
        go_wp2_with fail
        refine (right_as hgr.out (HGa.out.at Seq.way)).mono ?_
        rintro e y1 ⟨rfl, hy1⟩
        have HY1 := Lib.hid (below_step hy1 (Seq.way : Below W6.heap.size W6 _))
        have c0 := (HY1.out.cell (p := ⟨w3.heap.size, 0, none⟩) lP).trans d0
        have c1 := (HY1.out.cell (p := ⟨w3.heap.size, 1, none⟩) lP).trans d1
        have c2 := (HY1.out.cell (p := ⟨w6.heap.size, 0, none⟩) lE).trans e0
        have c3 := (HY1.out.cell (p := ⟨w6.heap.size, 1, none⟩) lE).trans e1
        have lP1 := Nat.lt_of_lt_of_le lP HY1.out.size
        have lE1 := Nat.lt_of_lt_of_le lE HY1.out.size
        clear hy1
        go_wp2_with fail
        refine (sameg_as rfl ((HGa.out.at HY1.out).at Seq.way) ((HG6.out.at HY1.out).at Seq.way) hsm.out hsm.out).mono ?_
        rintro e y2 ⟨rfl, hy2⟩
        have HY2 := below_step hy2 (below_step Seq.way HY1.out : Below W6.heap.size W6 _)
        have f1 := (HY2.cell (p := ⟨w3.heap.size, 1, none⟩) lP).trans d1
        have lP2 := Nat.lt_of_lt_of_le lP HY2.size
        clear c0 c1 c2 c3 lP1 lE1 d0 d1 e0 e1 hy2
        go_wp2_with fail
        go_ret
        exact ⟨rfl, BW6.out.trans (HY2.mono BW6.out.size)⟩
    · obtain rfl : x0 = (q : Int) := by omega
      have hql : q < M.length := by omega
      obtain ⟨_, _, ee, -, -, -, -, x5⟩ := HMr.out
      simp only [Value.slice.injEq, true_and] at ee
      obtain ⟨rfl, rfl⟩ := ee
      obtain ⟨b, off, iha, ihc, ipa, ipc, ina, inc, rfl, hSb, hb, c0, c1, c2, hh, hp, hn⟩ := x5.ins hql
      have hoi := okI_len (hok.out _ (List.getElem_mem hql))
      have hst := Lib.hid (show ((M.drop q).map turnI).reverse = ((M.drop (q + 1)).map turnI).reverse ++ [turnI M[q]] by rw [List.drop_eq_getElem_cons hql, List.map_cons, List.reverse_cons])
      have hQl : ((M.drop (q + 1)).map turnI).reverse.length ≤ 100 := by simp; omega
      obtain ⟨Q, hQ⟩ : ∃ Q, Q = ((M.drop (q + 1)).map turnI).reverse := ⟨_, rfl⟩
      rw [← hQ] at hO hst hQl
      obtain ⟨i, hi⟩ : ∃ i, i = M[q] := ⟨_, rfl⟩
      rw [← hi] at hst c0 c1 c2 hh hp hn hoi
      have hpl : i.pos.length ≤ 100000 := by omega
      have hnl : i.neg.length ≤ 100000 := by omega
      have HI := Lib.hid (show InsV _ wr (.agg #[.slice iha i.head.length ihc, .slice ipa i.pos.length ipc, .slice ina i.neg.length inc]) i from ⟨_, _, _, rfl, hh, hp, hn⟩)
      have hqI : (q : Int) < (M.length : Int) := by omega
      have hq0 : (q : Int) ≥ 0 := by omega
      have hq00 : (0 : Int) ≤ (q : Int) := by omega
      have hqt : ((q : Int)).toNat = q := Int.toNat_natCast q
      have hwr : wrap64 ((q : Int) - 1) = (q : Int) - 1 := by unfold wrap64; omega
      clear hi hQ hx0 x5 hh hp hn hoi hSb
      go_wp2_with fail
      refine (turnedL_spec HI.out hpl hnl).mono ?_
      rintro e y1 ⟨v5, rfl, hb5, t1, t2, t3, rfl, hT1, hT2, hT3⟩
      have HY := Lib.hid hb5
      have HT1 := Lib.hid hT1.bnd
      have HT2 := Lib.hid hT2.bnd
      have HT3 := Lib.hid hT3.bnd
      obtain ⟨p1, n1, rfl⟩ := hT1.shape
      obtain ⟨p2, n2, rfl⟩ := hT2.shape
      obtain ⟨p3, n3, rfl⟩ := hT3.shape
      have hyz := hb5.size
      clear hb5 hT1 hT2 hT3 c0 c1 c2 hb
      obtain ⟨j, hj⟩ : ∃ j, j = turnI i := ⟨_, rfl⟩
      rw [← hj] at HT1 HT2 HT3 hst ⊢
      clear hj
      go_wp2_with (at_builtin; (refine wpList_app_ins (S := fun b => b < W3.heap.size ∨ W3.heap.size ≤ b) (base := W3.heap.size) (wm := wr) (y := j) rfl _ _ 22 rfl Tryz.underlying22 infoIns rfl hO.out rfl (below_step Seq.way HY.out) (HT1.out.at Seq.way) (HT2.out.at Seq.way) (HT3.out.at Seq.way) (fun b h _ => ⟨by omega, h.1.elim (fun h1 => .inl (Nat.lt_of_lt_of_le h1.2 hz2.out)) .inr⟩) (by go_simp) (by go_simp) (by go_simp) (by omega) hbr.out.size ?_))
      intro ao cap w5 hown5 hk5
      have H5 := Lib.hid hown5
      have K5 := Lib.hid (hbr.out.trans (Below.trans (Below.mono (below_step Seq.way HY.out) hbr.out.size) hk5.below))
      have z5 := hk5.below.size
      clear hown5 hk5
      go_wp2_with fail
      go_roundw
      case rel => exact ⟨q, _, by omega, rfl, rfl, Lib.hid (by rw [hst.out]; simpa using H5.out), K5, by simp at z5; omega⟩
      case measure => simp [intOf] <;> omega
end Go.Proofs.YtaedgpcmkagpeaaGreat
