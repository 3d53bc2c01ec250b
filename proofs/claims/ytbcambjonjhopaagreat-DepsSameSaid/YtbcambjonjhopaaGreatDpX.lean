/-
  Layer 23's laws: the walk of DepsSame.
-/
import Derived.Test.YtbcambjonjhopaaGreatDpU
namespace Go.Proofs.YtbcambjonjhopaaGreat
open Go Go.RowKit

theorem otherAt_same {r : Res} (hg : GoodR r) (n : Int) : otherAt r r n = false := by
  unfold otherAt
  split
  · rfl
  · rename_i t h
    obtain ⟨hk, rfl⟩ := List.getElem?_eq_some_iff.1 h
    rw [otherB_hit hk (fun j hj hjk e => absurd (hg.one j _ hj hk e) (by omega)) rfl]
    simp
theorem anewB_same {r : Res} (hg : GoodR r) (t c : List Int) : anewB r r t c = meetB c t := by
  unfold anewB
  rw [show r.lks.any (lnkAnew r r c) = false from by
    rw [List.any_eq_false]
    intro e _
    unfold lnkAnew
    rw [otherAt_same hg]
    simp]
  simp
theorem meetB_nil (c : List Int) : meetB c [] = false := by
  unfold meetB
  rw [List.any_eq_false]
  simp
theorem touch_nil (r : Res) : touchL r [] = [] := by
  unfold touchL fltN
  rw [List.filter_eq_nil_iff]
  intro i _
  unfold tchB
  split
  · simp
  · unfold meetsB; simp
theorem again_nil {r : Res} (hg : GoodR r) : againL r r [] = [] := by
  unfold againL fltN
  rw [List.filter_eq_nil_iff]
  intro i _
  unfold agnB
  rw [anewB_same hg, touch_nil, show natsZ [] = [] from rfl, meetB_nil]
  simp
theorem compsF_mem {L : List (Nat × Nat)} {n : Nat} {C : List Nat} : ∀ {f : Nat} {told : List Nat}, C ∈ compsF L n f told → ∃ i, i < n ∧ C = compL L n i
  | 0, _, h => by simp [compsF] at h
  | f + 1, told, h => by
    cases hn : nextO L n told with
    | none => rw [compsF_none hn] at h; simp at h
    | some i =>
      rw [compsF_some hn] at h
      rcases List.mem_cons.1 h with rfl | h
      · exact ⟨i, (nextO_some hn).1, rfl⟩
      · exact compsF_mem h
theorem same_fact {r : Res} {c : List (List Cell)} (hg : GoodR r) (k : Nat) (hk : k < ((cmpsL r).map natsZ).length) : ∀ y ∈ ((cmpsL r).map natsZ)[k], decide (y ∈ natsZ (againL r r c)) = meetB (((cmpsL r).map natsZ)[k]) (natsZ (touchL r c)) := by
  have g : GrL (edgL r) r.tabs.length := edgL_gr hg.rng
  rw [List.getElem_map]
  have hm : (cmpsL r)[k]'(by simpa using hk) ∈ cmpsL r := List.getElem_mem _
  obtain ⟨C, hC⟩ : ∃ C, C = (cmpsL r)[k]'(by simpa using hk) := ⟨_, rfl⟩
  rw [← hC] at hm ⊢
  clear hC hk
  intro y hy
  obtain ⟨i, hi, rfl⟩ := compsF_mem hm
  obtain ⟨x, hx, rfl⟩ := List.mem_map.1 hy
  have he := g.eq hi hx
  have hxn := compL_lt hx
  have h1 : ((x : Int) ∈ natsZ (againL r r c)) = (meetB (natsZ (compL (edgL r) r.tabs.length i)) (natsZ (touchL r c)) = true) := propext (by
    rw [natsZ_mem]
    unfold againL
    rw [fltN_mem]
    unfold agnB
    rw [anewB_same hg, show cmpoL r x = compL (edgL r) r.tabs.length i from he]
    exact ⟨fun h => h.2, fun h => ⟨hxn, h⟩⟩)
  simp only [h1, Bool.decide_eq_true]
theorem meetB_take {xs t : List Int} {m : Nat} (hm : m < xs.length) : meetB (xs.take (m + 1)) t = (meetB (xs.take m) t || decide (xs[m] ∈ t)) := by
  unfold meetB
  rw [List.take_succ_eq_append_getElem hm, List.any_append]
  simp

set_option maxHeartbeats 12800000 in
set_option maxRecDepth 100000 in
theorem same_spec {S S1 : Nat → Prop} {w : World} {v x : Value} {r : Res} {l : List (List Cell)} (hr : ResV S w v r) (hl : Seq (seqE cellE) S1 w x l) :
    Calls Tryz.prog 6 #[v, x] w (RetV (.bool true) w) := by
  obtain ⟨ta, tc, ia, il, ic, la, lc, rfl, hT, hE⟩ := hr
  obtain ⟨W, hW⟩ : ∃ W, W = w.alloc (.cells #[.slice ta r.tabs.length tc, .slice ia il ic, .slice la r.lks.length lc] 26) := ⟨_, rfl⟩
  have HBW := Lib.hid (show Below w.heap.size w W by rw [hW]; exact Seq.way)
  have HW := Lib.hid hW
  have hsW : W.heap.size = w.heap.size + 1 := by rw [hW]; simp
  obtain ⟨bt, hbt⟩ : ∃ b, b = w.heap.size := ⟨_, rfl⟩
  have Hbt := Lib.hid hbt
  have HRW := Lib.hid (show RowA 26 W bt [.slice ta r.tabs.length tc, .slice ia il ic, .slice la r.lks.length lc] by rw [hW, show bt = w.heap.size by omega]; exact Row.new w [_, _, _] _ rfl)
  have Kr := fun {W' : World} (h : Below W.heap.size W W') => Lib.hid (show W'.cell? ⟨bt, 0, none⟩ = some (.slice ta r.tabs.length tc) ∧ W'.cell? ⟨bt, 1, none⟩ = some (.slice ia il ic) ∧ W'.cell? ⟨bt, 2, none⟩ = some (.slice la r.lks.length lc) ∧ bt < W'.heap.size from
    ⟨(HRW.out.at h).row.cell (j := 0) (by simp), (HRW.out.at h).row.cell (j := 1) (by simp), (HRW.out.at h).row.cell (j := 2) (by simp), (HRW.out.at h).row.lt⟩)
  have HR := Lib.hid (show ResV (fun _ => True) W (.agg #[.slice ta r.tabs.length tc, .slice ia il ic, .slice la r.lks.length lc]) r from ResV.mk (hT.any.at HBW.out) (hE.any.at HBW.out))
  have HT := Lib.hid (hT.any.at HBW.out)
  have HE := Lib.hid (hE.any.at HBW.out)
  have HL := Lib.hid (hl.at HBW.out)
  obtain ⟨xa, xc, rfl⟩ := hl.shape
  clear hT hE hl hW hbt hsW
  go_enter Tryz.func6, Tryz.ntmps6
  go_upto_region 1 with fail
  rw [← HW.out, ← Hbt.out]
  go_wp2_with fail
  refine head_spec.mono ?_
  rintro e w1 ⟨rfl, hb1⟩
  have B1 := Lib.hid hb1
  clear hb1
  obtain ⟨r0, r1, r2, rl⟩ := (Kr B1.out).out
  go_wp2_with fail
  refine (great_spec (HR.out.at B1.out)).mono ?_
  rintro e w2 ⟨rfl, hb2⟩
  have B2 := Lib.hid (below_step hb2 B1.out)
  clear hb2 r0 r1 r2 rl
  cases hg : greatB r with
  | true =>
    clear hg
    go_wp2_with fail
    go_ret
    exact ⟨rfl, below_step B2.out HBW.out⟩
  | false =>
    have A := Lib.hid (ask_of hg)
    have G := Lib.hid (great_good hg)
    clear hg
    by_cases hll : 30 < l.length
    · have hl2 : (30 : Int) < (l.length : Int) := by omega
      have hl3 : (l.length : Int) > 30 := by omega
      go_wp2_with fail
      go_ret
      exact ⟨rfl, below_step B2.out HBW.out⟩
    · have hl2 : ((30 : Int) < (l.length : Int)) = False := eq_false (by omega)
      have hl3 : ((l.length : Int) > 30) = False := eq_false (by omega)
      have hl4 : (30 < l.length) = False := eq_false (by omega)
      clear hll
      go_wp2_with fail
      refine (RowR_spec (most := 20) (HL.out.at B2.out) (by omega)).mono ?_
      rintro e w4 ⟨v4, rfl, hb4, hs4⟩
      have hok := Lib.hid (rowF_chg l)
      have hcl := rowF_len20 l
      obtain ⟨c, hc⟩ : ∃ c, c = rowF l 20 := ⟨_, rfl⟩
      rw [← hc] at hs4 hok hcl
      obtain ⟨ya, yc, rfl⟩ := hs4.shape
      have HC := Lib.hid hs4.any
      have B4 := Lib.hid (below_step hb4 B2.out)
      clear hc hs4 hb4 hl2 hl3 hl4
      have hnl := again_nil G.out
      obtain ⟨tq, htq⟩ : ∃ q, q = natsZ (touchL r c) := ⟨_, rfl⟩
      obtain ⟨aq, haq⟩ : ∃ q, q = natsZ (againL r r c) := ⟨_, rfl⟩
      obtain ⟨cq, hcq, hfa⟩ : ∃ q, q = (cmpsL r).map natsZ ∧ Hid (∀ k (hk : k < q.length), ∀ y ∈ q[k], decide (y ∈ aq) = meetB q[k] tq) := ⟨_, rfl, Lib.hid (by rw [htq, haq]; exact same_fact G.out)⟩
      have h1 := Lib.hid (TouchedP_spec (HR.out.at B4.out) HC.out A.out.ok.tl A.out.rt hok.out)
      rw [← htq] at h1
      obtain ⟨r0, r1, r2, rl⟩ := (Kr B4.out).out
      go_wp2_with fail
      refine h1.out.mono ?_
      clear h1 htq
      rintro e w5 ⟨v5, rfl, hb5, hs5⟩
      have HS5 := Lib.hid hs5.any
      obtain ⟨a5, c5, rfl⟩ := hs5.shape
      have B5 := Lib.hid (below_step hb5 B4.out)
      have HC5 := Lib.hid (HC.out.at hb5)
      have h2 := Lib.hid (CompsP_spec (HR.out.at B5.out) A.out.ok)
      rw [← hcq] at h2
      clear hs5 hb5 r0 r1 r2 rl hcq
      obtain ⟨r0, r1, r2, rl⟩ := (Kr B5.out).out
      go_wp2_with fail
      refine h2.out.mono ?_
      clear h2
      rintro e w6 ⟨v6, rfl, hb6, hs6⟩
      have HS6 := Lib.hid hs6.any
      obtain ⟨a6, c6, rfl⟩ := hs6.shape
      have B6 := Lib.hid (below_step hb6 B5.out)
      have HC6 := Lib.hid (HC5.out.at hb6)
      have HT6 := Lib.hid (HS5.out.at hb6)
      have h3 := Lib.hid (AgainP_spec (HR.out.at B6.out) (HR.out.at B6.out) HC6.out A.out.ok A.out.rt hok.out)
      rw [← haq] at h3
      clear hs6 hb6 r0 r1 r2 rl haq HS5 HC5 HC
      obtain ⟨r0, r1, r2, rl⟩ := (Kr B6.out).out
      go_wp2_with fail
      refine h3.out.mono ?_
      clear h3
      rintro e w7 ⟨v7, rfl, hb7, hs7⟩
      have HQ := Lib.hid hs7.any
      obtain ⟨a7, c7, rfl⟩ := hs7.shape
      have B7 := Lib.hid (below_step hb7 B6.out)
      have HD := Lib.hid (HS6.out.at hb7)
      have HT7 := Lib.hid (HT6.out.at hb7)
      clear hs7 hb7 r0 r1 r2 rl HS6 HT6 HC6
      have hdl : cq.length ≤ 140737488355328 := by obtain ⟨_, _, _, _, _, h, _⟩ := HD.out; exact h
      go_upto_region 9 with fail
      go_loopw [10] (fun i wz => ∃ k : Nat, k ≤ cq.length ∧ i = .int .i64 k ∧ Hid (Below w7.heap.size w7 wz)) (fun i _ => cq.length - (intOf i).toNat)
      case atStart => exact ⟨0, by omega, rfl, Lib.hid (Below.refl _ _)⟩
      case round =>
        obtain ⟨k, hk, rfl, hB⟩ := hrel
        obtain ⟨wo, rfl⟩ : ∃ Z, Z = wr := ⟨_, rfl⟩
        by_cases hk3 : k < cq.length
        · have hkI : (k : Int) < (cq.length : Int) := by omega
          have hk0 : (0 : Int) ≤ (k : Int) := by omega
          obtain ⟨_, _, ee, -, -, -, -, x5⟩ := HD.out.at hB.out
          simp only [Value.slice.injEq, true_and] at ee
          obtain ⟨rfl, rfl⟩ := ee
          obtain ⟨b1, o1, p1, n1, rfl, -, l1, c0, hX⟩ := x5.seq hk3
          have hff := Lib.hid (hfa.out k hk3)
          obtain ⟨xs, hxs⟩ : ∃ x, x = cq[k] := ⟨_, rfl⟩
          rw [← hxs] at hff c0 hX
          have HX := Lib.hid hX
          have hxl : xs.length ≤ 140737488355328 := by obtain ⟨_, _, _, _, _, h, _⟩ := HX.out; exact h
          have KX := fun {W' : World} (h : Below wo.heap.size wo W') => Lib.hid (show W'.cell? ⟨b1, o1 + k, none⟩ = some (.slice p1 xs.length n1) from (h.cell (p := ⟨b1, o1 + k, none⟩) l1).trans c0)
          clear x5 hX hxs c0
          go_upto_region 13 with fail
          go_loopw [11, 12] (fun b i wz => ∃ m : Nat, m ≤ xs.length ∧ i = .int .i64 m ∧ b = .bool (meetB (xs.take m) tq) ∧ Hid (Below wo.heap.size wo wz)) (fun _ i _ => xs.length - (intOf i).toNat)
          case atStart => exact ⟨0, by omega, rfl, by simp [meetB], Lib.hid (Below.refl _ _)⟩
          case round =>
            obtain ⟨m, hm, rfl, rfl, hB2⟩ := hrel
            have c0 := (KX hB2.out).out
            by_cases hmx : m < xs.length
            · obtain ⟨_, _, ee, -, -, -, -, x5⟩ := HX.out.at hB2.out
              simp only [Value.slice.injEq, true_and] at ee
              obtain ⟨rfl, rfl⟩ := ee
              obtain ⟨b3, o3, rfl, -, l3, c1, -⟩ := x5.int hmx
              have hst := Lib.hid (meetB_take (t := tq) hmx)
              obtain ⟨xv, hxv⟩ : ∃ x, x = xs[m] := ⟨_, rfl⟩
              rw [← hxv] at c1 hst
              clear hxv x5
              have hmI : (m : Int) < (xs.length : Int) := by omega
              have hm0 : (0 : Int) ≤ (m : Int) := by omega
              have HTz := Lib.hid (HT7.out.at (below_step hB2.out hB.out))
              obtain ⟨bb, hbb⟩ : ∃ b, b = meetB (xs.take m) tq := ⟨_, rfl⟩
              rw [← hbb] at hst ⊢
              clear hbb
              cases bb with
              | true =>
                have hst' := Lib.hid (show meetB (xs.take (m + 1)) tq = true by rw [hst.out, Bool.true_or])
                clear hst
                go_wp2_with fail
                go_roundw
                case rel => exact ⟨m + 1, hmx, by go_num, by rw [hst'.out], Lib.hid (below_step Seq.way hB2.out)⟩
                case measure => simp [intOf]; omega
              | false =>
                have hst' := Lib.hid (show meetB (xs.take (m + 1)) tq = decide (xv ∈ tq) by rw [hst.out, Bool.false_or])
                clear hst
                go_upto_region 15 with fail
                go_wp2_with fail
                refine (InT_spec (HTz.out.at Seq.way)).mono ?_
                rintro e _ ⟨rfl, rfl⟩
                go_wp2_with fail
                go_roundw
                case rel => exact ⟨m + 1, hmx, by go_num, by rw [hst'.out], Lib.hid (below_step Seq.way hB2.out)⟩
                case measure => simp [intOf]; omega
            · obtain rfl : m = xs.length := by omega
              rw [List.take_length]
              have hmI : ¬ (xs.length : Int) < (xs.length : Int) := by omega
              obtain ⟨is, his⟩ : ∃ b, b = meetB xs tq := ⟨_, rfl⟩
              rw [← his] at hff ⊢
              clear his
              obtain ⟨wp, rfl⟩ : ∃ Z, Z = wr := ⟨_, rfl⟩
              go_upto_region 17 with fail
              clear c0
              go_loopw [13] (fun i wz => ∃ m : Nat, m ≤ xs.length ∧ i = .int .i64 m ∧ Hid (Below wp.heap.size wp wz)) (fun i _ => xs.length - (intOf i).toNat)
              case atStart => exact ⟨0, by omega, rfl, Lib.hid (Below.refl _ _)⟩
              case round =>
                obtain ⟨m, hm, rfl, hB3⟩ := hrel
                have c0 := (KX (below_step hB3.out hB2.out)).out
                by_cases hmx : m < xs.length
                · obtain ⟨_, _, ee, -, -, -, -, x5⟩ := HX.out.at (below_step hB3.out hB2.out)
                  simp only [Value.slice.injEq, true_and] at ee
                  obtain ⟨rfl, rfl⟩ := ee
                  obtain ⟨b3, o3, rfl, -, l3, c1, -⟩ := x5.int hmx
                  have hst := Lib.hid (hff.out _ (List.getElem_mem hmx))
                  obtain ⟨xv, hxv⟩ : ∃ x, x = xs[m] := ⟨_, rfl⟩
                  rw [← hxv] at c1 hst
                  clear hxv x5
                  have hmI : (m : Int) < (xs.length : Int) := by omega
                  have hm0 : (0 : Int) ≤ (m : Int) := by omega
                  have HQz := Lib.hid (HQ.out.at (below_step (below_step hB3.out hB2.out) hB.out))
                  go_upto_region 19 with fail

                  go_wp2_with fail
                  refine (InT_spec (HQz.out.at Seq.way)).mono ?_
                  rintro e _ ⟨rfl, rfl⟩
                  rw [hst.out]
                  clear hst
                  cases is with
                  | true =>
                    go_wp2_with fail
                    go_roundw
                    case rel => exact ⟨m + 1, hmx, by go_num, Lib.hid (below_step Seq.way hB3.out)⟩
                    case measure => simp [intOf]; omega
                  | false =>
                    go_wp2_with fail
                    go_roundw
                    case rel => exact ⟨m + 1, hmx, by go_num, Lib.hid (below_step Seq.way hB3.out)⟩
                    case measure => simp [intOf]; omega
                · have hmI : ¬ (m : Int) < (xs.length : Int) := by omega
                  go_wp2_with fail
                  go_roundw
                  case rel => exact ⟨k + 1, hk3, by go_num, Lib.hid (below_step (below_step hB3.out hB2.out) hB.out)⟩
                  case measure => simp [intOf]; omega
        · have hkI : ¬ (k : Int) < (cq.length : Int) := by omega
          have BZ := Lib.hid (below_step hB.out B7.out)
          obtain ⟨r0, r1, r2, rl⟩ := (Kr BZ.out).out
          have h4 := Lib.hid (AgainP_spec (c := []) (S1 := fun _ => True) (HR.out.at BZ.out) (HR.out.at BZ.out) (Seq.nil _ _ _) A.out.ok A.out.rt ⟨by simp, by simp⟩)
          rw [hnl] at h4
          clear hnl
          go_wp2_with fail
          refine h4.out.mono ?_
          clear h4
          rintro e w8 ⟨v8, rfl, hb8, hs8⟩
          obtain ⟨a8, c8, hv⟩ := hs8.shape
          rw [show (natsZ []).length = 0 from rfl] at hv
          subst hv
          have B8 := Lib.hid (below_step hb8 BZ.out)
          clear hb8 hs8 r0 r1 r2 rl
          go_wp2_with fail
          go_ret
          exact ⟨rfl, below_step B8.out HBW.out⟩
end Go.Proofs.YtbcambjonjhopaaGreat
