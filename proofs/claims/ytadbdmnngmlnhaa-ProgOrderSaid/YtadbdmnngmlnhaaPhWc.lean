/-
  Layer 7: the walk of ProgOrder, where there are clauses, one of them twice.
-/
import Derived.Test.YtadbdmnngmlnhaaPhW
import Derived.Test.YtadbdmnngmlnhaaPhWb
namespace Go.Proofs.Ytadbdmnngmlnhaa
open Go Go.RowKit

set_option maxHeartbeats 25600000 in
set_option maxRecDepth 100000 in
theorem order1t_spec {S : Nat → Prop} {w : World} {v : Value} {l : List Cls} {a : Nat} (hl : Seq clsE S w v l) (ha : a < 256) (h0 : 0 < (madeL l).length) : Calls Try.prog 7 #[v, .int .u8 a, .bool true] w (RetV (.bool true) w) := by
  have HL := Lib.hid hl
  obtain ⟨aa, ac, rfl⟩ := hl.shape
  have H0 := Lib.hid h0
  clear hl h0
  go_enter Try.func7, Try.ntmps7
  go_wp2_with fail
  refine head_spec.mono ?_
  rintro e w1 ⟨rfl, hb1⟩
  have B1 := Lib.hid hb1
  clear hb1
  go_wp2_with fail
  refine (GreatL_spec (HL.out.at B1.out)).mono ?_
  rintro e w2 ⟨rfl, hb2⟩
  have B2 := Lib.hid (below_step hb2 B1.out)
  clear hb2
  cases hg : greatC l with
  | true =>
    clear hg
    go_wp2_with fail
    go_ret
    exact ⟨rfl, B2.out⟩
  | false =>
    have hll := great_len hg
    clear hg
    go_wp2_with fail
    refine (MadeL_spec (HL.out.at B2.out) (by omega)).mono ?_
    rintro e w3 ⟨v3, rfl, hb3, hs3⟩
    obtain ⟨m, hm⟩ : ∃ m, m = madeL l := ⟨_, rfl⟩
    have hme := H0.out
    rw [← hm] at hs3 hme
    obtain ⟨ma, mc, rfl⟩ := hs3.shape
    have HM := Lib.hid hs3.any
    have HMay := Lib.hid (show ∀ c ∈ m, mayC c = true by rw [hm]; exact made_may)
    have hmlen : m.length ≤ 70 := by rw [hm]; exact Nat.le_trans (made_len l) hll
    have B3 := Lib.hid (below_step hb3 B2.out)
    clear hs3 hb3 hm H0
    have Hme := Lib.hid hme
    clear hme
    go_wp2_with fail
    refine (turn_spec HM.out (by omega) ha Hme.out).mono ?_
    rintro e wt ⟨vt, rfl, hbt, hot⟩
    have hml1 : (0 : Int) < (m.length : Int) := by have := Hme.out; omega
    have hml2 : 0 < m.length := Hme.out
    have hml0 : (m.length : Int) > 0 := by have := Hme.out; omega
    have hvl : (turnL m (a % m.length)).length = m.length := by unfold turnL; rw [List.length_append, List.length_drop, List.length_take]; have := Nat.mod_lt a Hme.out; omega
    obtain ⟨at1, ct1, rfl, -, -⟩ := hot.shape
    rw [hvl] at hot
    have hsame := Lib.hid (fun c => mem_turnL2 (l := m) (k := a % m.length) Hme.out c)
    have Hot := Lib.hid hot
    have Hbt := Lib.hid hbt
    obtain ⟨_, _, ee, -, -, -, -, y0⟩ := HM.out.bnd.at hbt
    simp only [Value.slice.injEq, true_and] at ee
    obtain ⟨rfl, rfl⟩ := ee
    obtain ⟨b0, o0, ha0, hc0, la0, lc0, rfl, -, l0, c0, c1, hH0, hB0⟩ := y0.cls (k := 0) Hme.out
    simp only [Nat.zero_mul, Nat.add_zero] at c0 c1
    have H0 := Lib.hid hH0
    have B0 := Lib.hid hB0
    obtain ⟨z, hz⟩ : ∃ z, z = m[0]'Hme.out := ⟨_, rfl⟩
    rw [← hz] at c0 c1 H0 B0
    simp only [← hz] at hsame
    have hzt := Hbt.out.size
    clear hot hbt y0 hH0 hB0 hz
    go_wp2_with (at_builtin; (refine wpList_app_cls (wm := wt) (y := z) rfl _ _ 22 rfl Try.underlying22 infoCls rfl Hot.out rfl Seq.way (H0.out.at Seq.way) (B0.out.at Seq.way) (fun b h _ => ⟨h, .inl h.2⟩) ((Row.new _ [_, _] _ rfl).cell (j := 0) (by simp)) ((Row.new _ [_, _] _ rfl).cell (j := 1) (by simp)) (by omega) hzt ?_))
    intro ao2 cap2 wn hown2 hk2
    have HBn := Lib.hid (show Below w3.heap.size w3 wn from (Hbt.out.trans (Below.mono (Seq.way : Below wt.heap.size wt _) hzt)).trans hk2.below)
    have HMn := Lib.hid (HM.out.at HBn.out)
    have HN0 := Lib.hid (hown2.seq (T := fun _ => True) (by rw [List.length_append, List.length_singleton]; omega) fun _ _ _ => trivial)
    have BN := Lib.hid (below_step HBn.out B3.out)
    have hpe := Lib.hid (predsL_ext hsame.out)
    have hke := Lib.hid (linksL_ext hsame.out)
    have HMayN := Lib.hid (fun c hc => HMay.out c ((hsame.out c).1 hc))
    have hvl2 : (turnL m (a % m.length) ++ [z]).length = m.length + 1 := by rw [List.length_append, List.length_singleton]; omega
    obtain ⟨n, hn⟩ : ∃ n, n = turnL m (a % m.length) ++ [z] := ⟨_, rfl⟩
    have HN := Lib.hid (show Seq clsE (fun _ => True) wn (.slice ao2 (m.length + 1) cap2) n from by
      have := HN0.out
      rw [hn]
      try rw [hvl] at this
      exact this)
    rw [← hn] at hvl2 hpe hke HMayN
    have hnlen : n.length ≤ 1000 := by omega
    clear hn hown2 hk2 HN0 hsame hvl hvl2 Hot H0 B0 c0 c1
    have hpl := preds_len HMay.out (by omega)
    go_wp2_with fail
    refine (PredsP_spec HMn.out HMay.out (by omega)).mono ?_
    rintro e x1 ⟨u1, rfl, hc1, ht1⟩
    obtain ⟨p1, q1, rfl⟩ := ht1.shape
    have P1 := Lib.hid ht1.any
    have C1 := Lib.hid hc1
    clear ht1 hc1
    go_wp2_with fail
    refine (PredsP_spec (HN.out.at C1.out) HMayN.out hnlen).mono ?_
    try rw [hpe.out]
    rintro e x2 ⟨u2, rfl, hc2, ht2⟩
    obtain ⟨p2, q2, rfl⟩ := ht2.shape
    have P2 := Lib.hid ht2.any
    have C2 := Lib.hid (below_step hc2 C1.out)
    have P12 := Lib.hid (P1.out.at hc2)
    clear ht2 hc2
    go_wp2_with fail
    refine (LinksP_spec (HMn.out.at C2.out) HMay.out (by omega)).mono ?_
    rintro e x3 ⟨u3, rfl, hc3, ht3⟩
    obtain ⟨p3, q3, rfl⟩ := ht3.shape
    have K3 := Lib.hid ht3.any
    have C3 := Lib.hid (below_step hc3 C2.out)
    have P13 := Lib.hid (P12.out.at hc3)
    have P23 := Lib.hid (P2.out.at hc3)
    clear ht3 hc3
    go_wp2_with fail
    refine (LinksP_spec (HN.out.at C3.out) HMayN.out hnlen).mono ?_
    try rw [hke.out]
    rintro e x4 ⟨u4, rfl, hc4, ht4⟩
    obtain ⟨p4, q4, rfl⟩ := ht4.shape
    have K4 := Lib.hid ht4.any
    have K34 := Lib.hid (K3.out.at hc4)
    have C4 := Lib.hid (below_step hc4 C3.out)
    have P14 := Lib.hid (P13.out.at hc4)
    have P24 := Lib.hid (P23.out.at hc4)
    clear ht4 hc4
    go_wp2_with fail
    refine (SameLinksR_spec K34.out K4.out).mono ?_
    rw [decide_eq_true (rfl : linksL m = linksL m)]
    rintro e x5 ⟨rfl, hd5⟩
    have hc5 := hd5.belowS
    have C5 := Lib.hid (below_step hc5 C4.out)
    have P15 := Lib.hid (P14.out.at hc5)
    have P25 := Lib.hid (P24.out.at hc5)
    clear hc5 hd5
    go_wp2_with fail
    go_loopw [12] (fun z wz => ∃ i : Nat, i ≤ (predsL m).length ∧ z = .int .i64 i ∧ Below x5.heap.size x5 wz) (fun z _ => (predsL m).length - (intOf z).toNat)
    case atStart => exact ⟨0, Nat.zero_le _, rfl, Below.refl _ _⟩
    case round =>
      obtain ⟨i, hi, rfl, hwz⟩ := hrel
      by_cases hlt : i < (predsL m).length
      · obtain ⟨_, _, ee, -, -, -, -, y1⟩ := P15.out.at hwz
        simp only [Value.slice.injEq, true_and] at ee
        obtain ⟨rfl, rfl⟩ := ee
        obtain ⟨_, _, ee, -, -, -, -, y2⟩ := P25.out.at hwz
        simp only [Value.slice.injEq, true_and] at ee
        obtain ⟨rfl, rfl⟩ := ee
        have Y1 := Lib.hid y1
        obtain ⟨b1, o1, rfl, -, l1, c0, c1, -, -⟩ := y1.prd hlt
        obtain ⟨b2, o2, rfl, -, l2, d0, d1, -, -⟩ := y2.prd hlt
        have hris := Lib.hid (fun q (hq : q + 1 = i) => (show ∃ h : q < (predsL m).length, cmpP (predsL m)[q] (predsL m)[i] < 0 from ⟨by omega, List.pairwise_iff_getElem.1 (predsL_srt m) q i (by omega) hlt (by omega)⟩))
        obtain ⟨p, hp⟩ : ∃ p, p = (predsL m)[i] := ⟨_, rfl⟩
        rw [← hp] at c0 c1 d0 d1
        simp only [← hp] at hris
        have hiI : (i : Int) < ((predsL m).length : Int) := by omega
        have hi0 : (0 : Int) ≤ (i : Int) := by omega
        clear hp y1 y2
        rcases i with _ | q
        · simp only [Nat.zero_mul, Nat.add_zero] at c0 c1 d0 d1
          go_upto_region 15 with fail
          go_quiet (fail)
          go_wp2_with fail
          go_roundw
          case rel => exact ⟨1, hlt, by go_num, below_drewN hwz nq⟩
          case measure => simp [intOf]; omega
        · obtain ⟨hql, hqc⟩ := hris.out q rfl
          obtain ⟨_, _, ee, -, -, e0, e1, -, -⟩ := Y1.out.prd hql
          simp only [Option.some.injEq, Addr.mk.injEq, and_true] at ee
          obtain ⟨rfl, rfl⟩ := ee
          obtain ⟨x, hx⟩ : ∃ x, x = (predsL m)[q] := ⟨_, rfl⟩
          rw [← hx] at e0 e1 hqc
          have hq0 : (0 : Int) ≤ (q : Int) := by omega
          have hq1 : (0 : Int) ≤ (q : Int) + 1 := by omega
          have hq2 : (q : Int) + 1 < ((predsL m).length : Int) := by omega
          have hq3 : (q : Int) < ((predsL m).length : Int) := by omega
          have hq4 : (0 : Int) < (q : Int) + 1 := by omega
          have hq5 : (q : Int) + 1 - 1 = (q : Int) := by omega
          have hqw : IntKind.i64.wrap (q : Int) = (q : Int) := by rw [IntKind.wrap_i64]; omega
          clear hx
          rcases cmpP_rise hqc with ⟨f0, f1, f2⟩ | ⟨f1, f2, f3⟩
          · clear hqc
            go_upto_region 15 with fail
            go_quiet (fail)
            go_wp2_with fail
            go_roundw
            case rel => exact ⟨q + 2, hlt, by go_num, below_drewN hwz nq⟩
            case measure => simp [intOf]; omega
          · have f4 : (p.n ≤ x.n) = False := eq_false (by omega)
            have f5 : (x.n ≥ p.n) = False := eq_false (by omega)
            clear hqc
            go_upto_region 15 with fail
            go_quiet (fail)
            go_wp2_with fail
            go_roundw
            case rel => exact ⟨q + 2, hlt, by go_num, below_drewN hwz nq⟩
            case measure => simp [intOf]; omega
      · have hiI : ¬ (i : Int) < ((predsL m).length : Int) := by omega
        clear hlt
        go_wp2_with fail
        have D5 := Lib.hid (below_step hwz C5.out)
        refine (LevelsP_spec (HMn.out.at (below_step Seq.way D5.out)) HMay.out (by omega)).mono ?_
        rintro e x6 ⟨r6, i6, m6, rfl, hb6, hl6, hs6⟩
        obtain ⟨a6, c6, rfl⟩ := hs6.shape
        have S6 := Lib.hid hs6.any
        have D6 := Lib.hid (below_step (below_step hb6 Seq.way) D5.out)
        clear hb6 hs6
        go_wp2_with fail
        refine (LevelsP_spec (HN.out.at (below_step Seq.way D6.out)) HMayN.out hnlen).mono ?_
        try rw [hpe.out, hke.out]
        rintro e x7 ⟨r7, i7, m7, rfl, hb7, hl7, hs7⟩
        obtain ⟨rfl, rfl⟩ := levT_ext hl6 hl7
        obtain ⟨a7, c7, rfl⟩ := hs7.shape
        have S7 := Lib.hid hs7.any
        have S67 := Lib.hid (S6.out.at (below_step hb7 Seq.way))
        have D7 := Lib.hid (below_step (below_step hb7 Seq.way) D6.out)
        clear hb7 hs7 hl6 hl7
        have hbb : (i6 == i6) = true := by simp
        go_wp2_with fail
        refine (IntsR_spec (S67.out.at Seq.way) (S7.out.at Seq.way)).mono ?_
        rw [decide_eq_true (rfl : natsI m6 = natsI m6)]
        rintro e x8 ⟨rfl, hd8⟩
        have D8 := Lib.hid (below_step (below_step hd8.belowS Seq.way) D7.out)
        go_wp2_with fail
        go_ret
        exact ⟨rfl, below_step D8.out BN.out⟩

theorem order_spec {S : Nat → Prop} {w : World} {v : Value} {l : List Cls} {a : Nat} {tw : Bool} (hl : Seq clsE S w v l) (ha : a < 256) : Calls Try.prog 7 #[v, .int .u8 a, .bool tw] w (RetV (.bool true) w) := by
  rcases Nat.eq_zero_or_pos (madeL l).length with h | h
  · cases tw with
    | false => exact order0f_spec hl h
    | true => exact order0t_spec hl h
  · cases tw with
    | false => exact order1f_spec hl ha h
    | true => exact order1t_spec hl ha h
end Go.Proofs.Ytadbdmnngmlnhaa
