/-
  Layer 7: the walk of ProgTells.
-/
import Derived.Test.YtadbdmnngmlnhaaPhCm
namespace Go.Proofs.Ytadbdmnngmlnhaa
open Go Go.RowKit

set_option maxHeartbeats 25600000 in
set_option maxRecDepth 100000 in
theorem tells_spec {S : Nat → Prop} {w : World} {v : Value} {l : List Cls} {p : Prd} (hl : Seq clsE S w v l) : Calls Try.prog 3 #[v, .agg #[.string p.name, .int .i64 p.n]] w (RetV (.bool true) w) := by
  obtain ⟨W, hW⟩ : ∃ W, W = w.alloc (.cells #[.string p.name, .int .i64 p.n] 24) := ⟨_, rfl⟩
  have HBW := Lib.hid (show Below w.heap.size w W by rw [hW]; exact Seq.way)
  have HR := Lib.hid (show RowA 24 W w.heap.size [.string p.name, .int .i64 p.n] by rw [hW]; exact Row.new w [_, _] _ rfl)
  have HW := Lib.hid hW
  have HL := Lib.hid (hl.any.at HBW.out)
  obtain ⟨aa, ac, rfl⟩ := hl.shape
  obtain ⟨bt, hbt⟩ : ∃ b, b = w.heap.size := ⟨_, rfl⟩
  have Hbt := Lib.hid hbt
  have Kr := fun {W' : World} (h : Below W.heap.size W W') => Lib.hid (show W'.cell? ⟨bt, 0, none⟩ = some (.string p.name) ∧ W'.cell? ⟨bt, 1, none⟩ = some (.int .i64 p.n) from by
    rw [Hbt.out]; exact ⟨(HR.out.at h).row.cell (j := 0) (by simp), (HR.out.at h).row.cell (j := 1) (by simp)⟩)
  clear hl hW hbt
  go_enter Try.func3, Try.ntmps3
  go_upto_region 1 with fail
  rw [← HW.out, ← Hbt.out]
  go_wp2_with fail
  refine head_spec.mono ?_
  rintro e w1 ⟨rfl, hb1⟩
  have B1 := Lib.hid hb1
  clear hb1
  go_wp2_with fail
  refine (GreatL_spec (HL.out.at B1.out)).mono ?_
  rintro e w2 ⟨rfl, hb2⟩
  have B2 := Lib.hid (below_step hb2 B1.out)
  clear hb2
  cases hg : greatC l with
  | true =>
    clear hg
    go_wp2_with fail
    go_ret
    exact ⟨rfl, below_step B2.out HBW.out⟩
  | false =>
    have hll := great_len hg
    clear hg
    go_wp2_with fail
    go_loopw [6] (fun z wz => ∃ i : Nat, i ≤ l.length ∧ z = .int .i64 i ∧ Hid (Below W.heap.size W wz)) (fun z _ => l.length - (intOf z).toNat)
    case atStart => exact ⟨0, Nat.zero_le _, rfl, B2⟩
    case round =>
      clear B2
      obtain ⟨i, hi, rfl, hbz⟩ := hrel
      by_cases hlt : i < l.length
      · obtain ⟨_, _, ee, -, -, -, -, x5⟩ := HL.out.at hbz.out
        simp only [Value.slice.injEq, true_and] at ee
        obtain ⟨rfl, rfl⟩ := ee
        obtain ⟨b1, o1, ha, hc, la, lc, rfl, -, l1, c0, c1, hH, hB⟩ := x5.cls hlt
        have HC := Lib.hid (show ClsV (fun _ => True) wr (.agg #[.slice ha l[i].head.length hc, .slice la l[i].body.length lc]) l[i] from ⟨ha, hc, la, lc, rfl, hH, hB⟩)
        obtain ⟨c, hce⟩ : ∃ c, c = l[i] := ⟨_, rfl⟩
        rw [← hce] at c0 c1 HC
        have h1 := Lib.hid (fun (W' : World) (h : Below wr.heap.size wr W') => SafeP_spec (w := W') (HC.out.at h))
        have h2 := Lib.hid (fun (W' : World) (h : Below wr.heap.size wr W') => SafeR_spec (w := W') (HC.out.at h))
        obtain ⟨q, hq⟩ : ∃ q, q = safeC c := ⟨_, rfl⟩
        rw [← hq] at h1 h2
        have Kq := fun {W' : World} (h : Below wr.heap.size wr W') => Lib.hid (show W'.cell? ⟨b1, o1 + i * 2, none⟩ = some (.slice ha c.head.length hc) ∧ W'.cell? ⟨b1, o1 + i * 2 + 1, none⟩ = some (.slice la c.body.length lc) from
          ⟨(h.cell (p := ⟨b1, o1 + i * 2, none⟩) l1).trans c0, (h.cell (p := ⟨b1, o1 + i * 2 + 1, none⟩) l1).trans c1⟩)
        have hiI : (i : Int) < (l.length : Int) := by omega
        have hi0 : (0 : Int) ≤ (i : Int) := by omega
        clear hce x5 hH hB hq c0 c1 HC
        go_upto_region 7 with fail
        go_region_held3 (fun w' => w'.cell? ⟨b1, o1 + i * 2, none⟩ = some (.slice ha c.head.length hc) ∧ w'.cell? ⟨b1, o1 + i * 2 + 1, none⟩ = some (.slice la c.body.length lc))
          (first | exact (Kq (Below.refl _ _)).out | exact (Kq Seq.way).out | go_keep)
          (first
            | (go_at_call 13; refine (h1.out _ Seq.way).mono ?_; rintro e y1 ⟨rfl, hb1⟩; have hb1w : Below wr.heap.size wr y1 := below_step hb1 Seq.way)
            | (go_at_call 14; refine (h2.out _ Seq.way).mono ?_; rintro e y2 ⟨rfl, hb2⟩; have hb2w : Below wr.heap.size wr y2 := below_step hb2 Seq.way))
        have Bz := Lib.hid (below_step hb2w hbz.out)
        clear hb1 hb2 hb1w hb2w Kq h1 h2
        go_wp2_with fail
        go_roundw
        case rel => exact ⟨i + 1, hlt, by go_num, Lib.hid (below_step Seq.way Bz.out)⟩
        case measure => simp [intOf]; omega
      · have hiI : ¬ (i : Int) < (l.length : Int) := by omega
        clear hlt
        go_wp2_with fail
        refine (RightP07_spec (HL.out.at (below_step Seq.way hbz.out))).mono ?_
        rintro e w3 ⟨rfl, hb3⟩
        have B3 := Lib.hid (below_step (below_step hb3 Seq.way) hbz.out)
        clear hb3
        go_wp2_with fail
        refine (RightR07_spec (HL.out.at (below_step Seq.way B3.out))).mono ?_
        obtain ⟨q, hq⟩ : ∃ q, q = rightC l := ⟨_, rfl⟩
        rw [← hq]
        rintro e w4 ⟨rfl, hb4⟩
        have B4 := Lib.hid (below_step (below_step hb4 Seq.way) B3.out)
        clear hb4 hq
        go_wp2_with fail
        refine (MadeL_spec (HL.out.at (below_step Seq.way B4.out)) (by omega)).mono ?_
        rintro e w5 ⟨v5, rfl, hb5, hs5⟩
        obtain ⟨m, hm⟩ : ∃ m, m = madeL l := ⟨_, rfl⟩
        rw [← hm] at hs5
        obtain ⟨ma, mc, rfl⟩ := hs5.shape
        have HM := Lib.hid hs5.any
        have HMay := Lib.hid (show ∀ c ∈ m, mayC c = true by rw [hm]; exact made_may)
        have hmlen : m.length ≤ 70 := by rw [hm]; exact Nat.le_trans (made_len l) hll
        have hpl := preds_len HMay.out (by omega)
        have B5 := Lib.hid (below_step (below_step hb5 Seq.way) B4.out)
        clear hs5 hb5 hm
        go_wp2_with fail
        refine (LevelsP_spec (HM.out.at Seq.way) HMay.out (by omega)).mono ?_
        rintro e w6 ⟨r6, i6, m6, rfl, hb6, hl6, hs6⟩
        obtain ⟨a6, c6, rfl⟩ := hs6.shape
        have S6 := Lib.hid hs6.any
        have D6 := Lib.hid (below_step hb6 Seq.way)
        have Hl6 := Lib.hid hl6
        clear hb6 hs6 hl6
        go_wp2_with fail
        refine (LevelsD_spec (HM.out.at (below_step Seq.way D6.out)) HMay.out (by omega)).mono ?_
        rintro e w7 ⟨r7, i7, m7, rfl, hb7, hl7, hs7⟩
        obtain ⟨rfl, rfl⟩ := levT_ext Hl6.out hl7
        obtain ⟨a7, c7, rfl⟩ := hs7.shape
        have S7 := Lib.hid hs7.any
        have S67 := Lib.hid (S6.out.at (below_step hb7 Seq.way))
        have D7 := Lib.hid (below_step (below_step hb7 Seq.way) D6.out)
        clear hb7 hs7 hl7 Hl6 S6
        go_wp2_with fail
        refine (PredsP_spec (HM.out.at (below_step Seq.way D7.out)) HMay.out (by omega)).mono ?_
        rintro e w8 ⟨v8, rfl, hb8, hs8⟩
        obtain ⟨p8, q8, rfl⟩ := hs8.shape
        have P8 := Lib.hid hs8.any
        have D78 := Lib.hid (below_step hb8 Seq.way)
        have D8 := Lib.hid (below_step D78.out D7.out)
        clear hs8 hb8
        go_wp2_with fail
        refine (PredsR_spec (HM.out.at (below_step Seq.way D8.out)) HMay.out (by omega)).mono ?_
        rintro e w9 ⟨v9, rfl, hb9, hs9⟩
        obtain ⟨p9, q9, rfl⟩ := hs9.shape
        have P9 := Lib.hid hs9.any
        have P89 := Lib.hid (P8.out.at (below_step hb9 Seq.way))
        have D79 := Lib.hid (below_step (below_step hb9 Seq.way) D78.out)
        have D9 := Lib.hid (below_step (below_step hb9 Seq.way) D8.out)
        have T6 := Lib.hid (S67.out.at D79.out)
        have T7 := Lib.hid (S7.out.at D79.out)
        have HM9 := Lib.hid (HM.out.at D9.out)
        have B9 := Lib.hid (below_step D9.out B5.out)
        clear hs9 hb9 P8 D78 D8 D79 D9 D7 D6 S67 S7 HM
        go_wp2_with fail
        go_loopw [14] (fun z wz => ∃ i : Nat, i ≤ (predsL m).length ∧ z = .int .i64 i ∧ Hid (Below w9.heap.size w9 wz)) (fun z _ => (predsL m).length - (intOf z).toNat)
        case atStart => exact ⟨0, Nat.zero_le _, rfl, Lib.hid (Below.refl _ _)⟩
        case round =>
          obtain ⟨i, hi, rfl, hbz⟩ := hrel
          by_cases hlt : i < (predsL m).length
          · obtain ⟨_, _, ee, -, -, -, -, y1⟩ := P89.out.at hbz.out
            simp only [Value.slice.injEq, true_and] at ee
            obtain ⟨rfl, rfl⟩ := ee
            obtain ⟨_, _, ee, -, -, -, -, y2⟩ := P9.out.at hbz.out
            simp only [Value.slice.injEq, true_and] at ee
            obtain ⟨rfl, rfl⟩ := ee
            obtain ⟨b1, o1, rfl, -, l1, c0, c1, -, -⟩ := y1.prd hlt
            obtain ⟨b2, o2, rfl, -, l2, d0, d1, -, -⟩ := y2.prd hlt
            obtain ⟨x, hx⟩ : ∃ x, x = (predsL m)[i] := ⟨_, rfl⟩
            rw [← hx] at c0 c1 d0 d1
            have h1 := Lib.hid (fun (W' : World) (h : Below wr.heap.size wr W') => OfP_spec (w := W') (p := x) (HM9.out.at (below_step h hbz.out)) HMay.out (by omega))
            have h2 := Lib.hid (fun (W' : World) (h : Below wr.heap.size wr W') => OfR_spec (w := W') (p := x) (HM9.out.at (below_step h hbz.out)) HMay.out (by omega))
            obtain ⟨M, hMe⟩ : ∃ M, M = natsI (ofL m x) := ⟨_, rfl⟩
            rw [← hMe] at h1 h2
            have Kq := fun {W' : World} (h : Below wr.heap.size wr W') => Lib.hid (show W'.cell? ⟨b1, o1 + i * 2, none⟩ = some (.string x.name) ∧ W'.cell? ⟨b1, o1 + i * 2 + 1, none⟩ = some (.int .i64 x.n) ∧ W'.cell? ⟨b2, o2 + i * 2, none⟩ = some (.string x.name) ∧ W'.cell? ⟨b2, o2 + i * 2 + 1, none⟩ = some (.int .i64 x.n) from
              ⟨(h.cell (p := ⟨b1, o1 + i * 2, none⟩) l1).trans c0, (h.cell (p := ⟨b1, o1 + i * 2 + 1, none⟩) l1).trans c1, (h.cell (p := ⟨b2, o2 + i * 2, none⟩) l2).trans d0, (h.cell (p := ⟨b2, o2 + i * 2 + 1, none⟩) l2).trans d1⟩)
            have hiI : (i : Int) < ((predsL m).length : Int) := by omega
            have hi0 : (0 : Int) ≤ (i : Int) := by omega
            clear hx hMe y1 y2 c0 c1 d0 d1
            go_upto_region 21 with fail
            go_region_held3 (fun w' => w'.cell? ⟨b1, o1 + i * 2, none⟩ = some (.string x.name) ∧ w'.cell? ⟨b1, o1 + i * 2 + 1, none⟩ = some (.int .i64 x.n) ∧ w'.cell? ⟨b2, o2 + i * 2, none⟩ = some (.string x.name) ∧ w'.cell? ⟨b2, o2 + i * 2 + 1, none⟩ = some (.int .i64 x.n))
              (first | exact (Kq (Below.refl _ _)).out | exact (Kq Seq.way).out | go_keep)
              (first
                | (go_at_call 23; refine (h1.out _ Seq.way).mono ?_; rintro e z1 ⟨u1, rfl, hc1, ht1⟩; obtain ⟨p1, q1, rfl⟩ := ht1.shape; have hc1w : Below wr.heap.size wr z1 := below_step hc1 Seq.way)
                | (go_at_call 24; refine (h2.out _ Seq.way).mono ?_; rintro e z2 ⟨u2, rfl, hc2, ht2⟩; obtain ⟨p2, q2, rfl⟩ := ht2.shape; have hc2w : Below wr.heap.size wr z2 := below_step hc2 Seq.way; have ht12 := ht1.at (show Below z1.heap.size z1 z2 from below_step hc2 Seq.way))
                | (go_at_call 22; refine (IntsR_spec (ht12.at Seq.way) (ht2.at Seq.way)).mono ?_; rw [decide_eq_true (rfl : M = M)]; rintro e z3 ⟨rfl, hd3⟩; have hc3w : Below wr.heap.size wr z3 := below_step (below_step hd3.belowS Seq.way) hc2w))
            have Bz := Lib.hid (below_step hc3w hbz.out)
            clear hc1 hc2 ht1 ht2 ht12 hd3 hc1w hc2w hc3w Kq h1 h2
            go_wp2_with fail
            go_roundw
            case rel => exact ⟨i + 1, hlt, by go_num, Lib.hid (below_step Seq.way Bz.out)⟩
            case measure => simp [intOf]; omega
          · have hiI : ¬ (i : Int) < ((predsL m).length : Int) := by omega
            have hii : (i6 == i6) = true := by simp
            have Kq := fun {W' : World} (h : Below wr.heap.size wr W') => Lib.hid (show W'.cell? ⟨bt, 0, none⟩ = some (.string p.name) ∧ W'.cell? ⟨bt, 1, none⟩ = some (.int .i64 p.n) from (Kr (below_step (below_step h hbz.out) B9.out)).out)
            have hI1 := Lib.hid (fun (W' : World) (h : Below wr.heap.size wr W') => IntsR_spec (w := W') (T6.out.at (below_step h hbz.out)) (T7.out.at (below_step h hbz.out)))
            rw [decide_eq_true (rfl : natsI m6 = natsI m6)] at hI1
            have hK1 := Lib.hid (fun (W' : World) (h : Below wr.heap.size wr W') => LinksP_spec (w := W') (HM9.out.at (below_step h hbz.out)) HMay.out (by omega))
            have hK2 := Lib.hid (fun (W' : World) (h : Below wr.heap.size wr W') => LinksD_spec (w := W') (HM9.out.at (below_step h hbz.out)) HMay.out (by omega))
            obtain ⟨K, hKe⟩ : ∃ K, K = linksL m := ⟨_, rfl⟩
            rw [← hKe] at hK1 hK2
            have h1 := Lib.hid (fun (W' : World) (h : Below wr.heap.size wr W') => OfP_spec (w := W') (p := p) (HM9.out.at (below_step h hbz.out)) HMay.out (by omega))
            have h2 := Lib.hid (fun (W' : World) (h : Below wr.heap.size wr W') => OfR_spec (w := W') (p := p) (HM9.out.at (below_step h hbz.out)) HMay.out (by omega))
            obtain ⟨M, hMe⟩ : ∃ M, M = natsI (ofL m p) := ⟨_, rfl⟩
            rw [← hMe] at h1 h2
            clear hlt hKe hMe
            go_upto_region 23 with fail
            go_region_held3 (fun w' => w'.cell? ⟨bt, 0, none⟩ = some (.string p.name) ∧ w'.cell? ⟨bt, 1, none⟩ = some (.int .i64 p.n))
              (first | exact (Kq (Below.refl _ _)).out | exact (Kq Seq.way).out | go_keep)
              (first
                | (have ht12' := ht12; go_at_call 22; refine (IntsR_spec (ht12.at Seq.way) (ht2.at Seq.way)).mono ?_; rw [decide_eq_true (rfl : M = M)]; rintro e z9 ⟨rfl, hd9⟩; have hc9w : Below wr.heap.size wr z9 := below_step (below_step hd9.belowS Seq.way) hc2w)
                | (go_at_call 22; refine (hI1.out _ Seq.way).mono ?_; rintro e zi ⟨rfl, hdi⟩; have hciw : Below wr.heap.size wr zi := below_step hdi.belowS Seq.way)
                | (go_at_call 26; refine (hK1.out _ Seq.way).mono ?_; rintro e k1 ⟨x1, rfl, hx1, hy1⟩; obtain ⟨r1, s1, rfl⟩ := hy1.shape; have hk1w : Below wr.heap.size wr k1 := below_step hx1 Seq.way)
                | (go_at_call 27; refine (hK2.out _ Seq.way).mono ?_; rintro e k2 ⟨x2, rfl, hx2, hy2⟩; obtain ⟨r2, s2, rfl⟩ := hy2.shape; have hk2w : Below wr.heap.size wr k2 := below_step hx2 Seq.way; have hy12 := hy1.at (show Below k1.heap.size k1 k2 from below_step hx2 Seq.way))
                | (go_at_call 25; refine (SameLinksR_spec (hy12.at Seq.way) (hy2.at Seq.way)).mono ?_; rw [decide_eq_true (rfl : K = K)]; rintro e k3 ⟨rfl, hd3⟩; have hk3w : Below wr.heap.size wr k3 := below_step (below_step hd3.belowS Seq.way) hk2w)
                | (go_at_call 23; refine (h1.out _ Seq.way).mono ?_; rintro e z1 ⟨u1, rfl, hc1, ht1⟩; obtain ⟨p1, q1, rfl⟩ := ht1.shape; have hc1w : Below wr.heap.size wr z1 := below_step hc1 Seq.way)
                | (go_at_call 24; refine (h2.out _ Seq.way).mono ?_; rintro e z2 ⟨u2, rfl, hc2, ht2⟩; obtain ⟨p2, q2, rfl⟩ := ht2.shape; have hc2w : Below wr.heap.size wr z2 := below_step hc2 Seq.way; have ht12 := ht1.at (show Below z1.heap.size z1 z2 from below_step hc2 Seq.way)))
            have Bz := Lib.hid (below_step hc9w hbz.out)
            go_wp2_with fail
            go_ret
            exact ⟨rfl, below_step (below_step (below_step Seq.way Bz.out) B9.out) HBW.out⟩
end Go.Proofs.Ytadbdmnngmlnhaa
