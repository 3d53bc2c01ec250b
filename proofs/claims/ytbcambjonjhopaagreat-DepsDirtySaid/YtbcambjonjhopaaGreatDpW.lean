/-
  Layer 23's laws: the walk of DepsDirty.
-/
import Derived.Test.YtbcambjonjhopaaGreatDpU
namespace Go.Proofs.YtbcambjonjhopaaGreat
open Go Go.RowKit

theorem meetB_hit {a b : List Int} {x : Int} (h : x ∈ a) (h2 : x ∈ b) : meetB a b = true := by
  unfold meetB
  rw [List.any_eq_true]
  exact ⟨x, h, decide_eq_true h2⟩
theorem dirty_iff {r : Res} {c : List (List Cell)} {i : Nat} (hi : i < r.tabs.length) : (i : Int) ∈ natsZ (dirtyL r c) ↔ meetB (natsZ (reaL r i)) (natsZ (touchL r c)) = true := by
  rw [natsZ_mem]
  unfold dirtyL
  rw [fltN_mem]
  exact ⟨fun h => h.2, fun h => ⟨hi, h⟩⟩
theorem touch_dirty {r : Res} {c : List (List Cell)} (hg : ResOK r) : ∀ x ∈ natsZ (touchL r c), x ∈ natsZ (dirtyL r c) := fun x hx => by
  obtain ⟨y, hy, rfl⟩ := List.mem_map.1 (show x ∈ (touchL r c).map fun n : Nat => (n : Int) from hx)
  have hy2 := hy
  unfold touchL at hy2
  rw [fltN_mem] at hy2
  rw [dirty_iff hy2.1]
  exact meetB_hit (natsZ_mem.2 (mem_reachL.2 ((edgL_gr hg.rg).refl hy2.1))) (natsZ_mem.2 hy)
theorem dirty_link {r : Res} {c : List (List Cell)} (hg : ResOK r) (k : Nat) (hk : k < r.lks.length) (h : r.lks[k].2 ∈ natsZ (dirtyL r c)) : r.lks[k].1 ∈ natsZ (dirtyL r c) := by
  obtain ⟨a, b, h1, h2, h3, ha, hb⟩ := edgL_at hg.rg hk
  have g := edgL_gr hg.rg
  rw [h2, dirty_iff hb] at h
  rw [h1, dirty_iff ha]
  unfold meetB at h
  rw [List.any_eq_true] at h
  obtain ⟨x, hx, hd⟩ := h
  obtain ⟨y, hy, rfl⟩ := List.mem_map.1 (show x ∈ (reaL r b).map fun n : Nat => (n : Int) from hx)
  have hab : reB (edgL r) r.tabs.length a b = true := (g.re ha).2 (.step .refl (by rw [← h3]; exact List.getElem_mem _))
  exact meetB_hit (natsZ_mem.2 (mem_reachL.2 (g.trans ha hab (mem_reachL.1 hy)))) (of_decide_eq_true hd)
theorem fltN_rise {f : Nat → Bool} {n : Nat} (k : Nat) (hk : k + 1 < (natsZ (fltN f n)).length) : (natsZ (fltN f n))[k] < (natsZ (fltN f n))[k + 1] := by
  have hp : (fltN f n).Pairwise (· < ·) := List.Pairwise.filter _ List.pairwise_lt_range
  rw [List.pairwise_iff_getElem] at hp
  have hl := natsZ_len (fltN f n)
  have := hp k (k + 1) (by omega) (by omega) (by omega)
  rw [natsZ_get (by omega), natsZ_get (by omega)]
  omega
theorem fltN_rng {f : Nat → Bool} {n : Nat} (k : Nat) (hk : k < (natsZ (fltN f n)).length) : 0 ≤ (natsZ (fltN f n))[k] ∧ (natsZ (fltN f n))[k] < (n : Int) := by
  have hl := natsZ_len (fltN f n)
  rw [natsZ_get (by omega)]
  have := (fltN_mem.1 (List.getElem_mem (show k < (fltN f n).length by omega))).1
  omega
theorem meetB_take {xs t : List Int} {m : Nat} (hm : m < xs.length) : meetB (xs.take (m + 1)) t = (meetB (xs.take m) t || decide (xs[m] ∈ t)) := by
  unfold meetB
  rw [List.take_succ_eq_append_getElem hm, List.any_append]
  simp

set_option maxHeartbeats 12800000 in
set_option maxRecDepth 100000 in
theorem dirty_spec {S S1 : Nat → Prop} {w : World} {v x : Value} {r : Res} {l : List (List Cell)} (hr : ResV S w v r) (hl : Seq (seqE cellE) S1 w x l) :
    Calls Tryz.prog 5 #[v, x] w (RetV (.bool true) w) := by
  obtain ⟨ta, tc, ia, il, ic, la, lc, rfl, hT, hE⟩ := hr
  obtain ⟨W, hW⟩ : ∃ W, W = w.alloc (.cells #[.slice ta r.tabs.length tc, .slice ia il ic, .slice la r.lks.length lc] 26) := ⟨_, rfl⟩
  have HBW := Lib.hid (show Below w.heap.size w W by rw [hW]; exact Seq.way)
  have HW := Lib.hid hW
  have hsW : W.heap.size = w.heap.size + 1 := by rw [hW]; simp
  obtain ⟨bt, hbt⟩ : ∃ b, b = w.heap.size := ⟨_, rfl⟩
  have Hbt := Lib.hid hbt
  have HRW := Lib.hid (show RowA 26 W bt [.slice ta r.tabs.length tc, .slice ia il ic, .slice la r.lks.length lc] by rw [hW, show bt = w.heap.size by omega]; exact Row.new w [_, _, _] _ rfl)
  have Kr := fun {W' : World} (h : Below W.heap.size W W') => Lib.hid (show W'.cell? ⟨bt, 0, none⟩ = some (.slice ta r.tabs.length tc) ∧ W'.cell? ⟨bt, 1, none⟩ = some (.slice ia il ic) ∧ W'.cell? ⟨bt, 2, none⟩ = some (.slice la r.lks.length lc) ∧ bt < W'.heap.size from
    ⟨(HRW.out.at h).row.cell (j := 0) (by simp), (HRW.out.at h).row.cell (j := 1) (by simp), (HRW.out.at h).row.cell (j := 2) (by simp), (HRW.out.at h).row.lt⟩)
  have HR := Lib.hid (show ResV (fun _ => True) W (.agg #[.slice ta r.tabs.length tc, .slice ia il ic, .slice la r.lks.length lc]) r from ResV.mk (hT.any.at HBW.out) (hE.any.at HBW.out))
  have HT := Lib.hid (hT.any.at HBW.out)
  have HE := Lib.hid (hE.any.at HBW.out)
  have HL := Lib.hid (hl.at HBW.out)
  obtain ⟨xa, xc, rfl⟩ := hl.shape
  clear hT hE hl hW hbt hsW
  go_enter Tryz.func5, Tryz.ntmps5
  go_upto_region 1 with fail
  rw [← HW.out, ← Hbt.out]
  go_wp2_with fail
  refine head_spec.mono ?_
  rintro e w1 ⟨rfl, hb1⟩
  have B1 := Lib.hid hb1
  clear hb1
  obtain ⟨r0, r1, r2, rl⟩ := (Kr B1.out).out
  go_wp2_with fail
  refine (great_spec (HR.out.at B1.out)).mono ?_
  rintro e w2 ⟨rfl, hb2⟩
  have B2 := Lib.hid (below_step hb2 B1.out)
  clear hb2 r0 r1 r2 rl
  cases hg : greatB r with
  | true =>
    clear hg
    go_wp2_with fail
    go_ret
    exact ⟨rfl, below_step B2.out HBW.out⟩
  | false =>
    have A := Lib.hid (ask_of hg)
    clear hg
    by_cases hll : 30 < l.length
    · have hl2 : (30 : Int) < (l.length : Int) := by omega
      have hl3 : (l.length : Int) > 30 := by omega
      go_wp2_with fail
      go_ret
      exact ⟨rfl, below_step B2.out HBW.out⟩
    · have hl2 : ((30 : Int) < (l.length : Int)) = False := eq_false (by omega)
      have hl3 : ((l.length : Int) > 30) = False := eq_false (by omega)
      have hl4 : (30 < l.length) = False := eq_false (by omega)
      clear hll
      go_wp2_with fail
      refine (RowR_spec (most := 20) (HL.out.at B2.out) (by omega)).mono ?_
      rintro e w4 ⟨v4, rfl, hb4, hs4⟩
      have hok := Lib.hid (rowF_chg l)
      have hcl := rowF_len20 l
      obtain ⟨c, hc⟩ : ∃ c, c = rowF l 20 := ⟨_, rfl⟩
      rw [← hc] at hs4 hok hcl
      obtain ⟨ya, yc, rfl⟩ := hs4.shape
      have HC := Lib.hid hs4.any
      have B4 := Lib.hid (below_step hb4 B2.out)
      clear hc hs4 hb4 hl2 hl3 hl4
      have hf1 := Lib.hid (touch_dirty (c := c) A.out.ok)
      have hf3 := Lib.hid (dirty_link (c := c) A.out.ok)
      have hf4 := Lib.hid (fun i (hi : i < r.tabs.length) => (show meetB (natsZ (reachL (edgL r) r.tabs.length i)) (natsZ (touchL r c)) = decide ((i : Int) ∈ natsZ (dirtyL r c)) from by
        have h := dirty_iff (c := c) hi
        rw [show natsZ (reachL (edgL r) r.tabs.length i) = natsZ (reaL r i) from rfl]
        simp only [h, Bool.decide_eq_true]))
      obtain ⟨tq, htq⟩ : ∃ q, q = natsZ (touchL r c) := ⟨_, rfl⟩
      obtain ⟨dq, hdq, hf2, hf5⟩ : ∃ q, q = natsZ (dirtyL r c) ∧ Hid (∀ k (hk : k < q.length), 0 ≤ q[k] ∧ q[k] < (r.tabs.length : Int)) ∧ Hid (∀ k (hk : k + 1 < q.length), q[k] < q[k + 1]) := ⟨_, rfl, Lib.hid (fun k hk => fltN_rng k hk), Lib.hid (fun k hk => fltN_rise k hk)⟩
      simp only [← htq] at hf1 hf4
      simp only [← hdq] at hf1 hf3 hf4
      have h1 := Lib.hid (TouchedP_spec (HR.out.at B4.out) HC.out A.out.ok.tl A.out.rt hok.out)
      rw [← htq] at h1
      obtain ⟨r0, r1, r2, rl⟩ := (Kr B4.out).out
      go_wp2_with fail
      refine h1.out.mono ?_
      clear h1 htq
      rintro e w5 ⟨v5, rfl, hb5, hs5⟩
      have HS5 := Lib.hid hs5.any
      obtain ⟨a5, c5, rfl⟩ := hs5.shape
      have B5 := Lib.hid (below_step hb5 B4.out)
      have h2 := Lib.hid (DirtyP_spec (HR.out.at B5.out) (HC.out.at hb5) A.out.ok A.out.rt hok.out)
      rw [← hdq] at h2
      clear hs5 hb5 r0 r1 r2 rl hdq
      obtain ⟨r0, r1, r2, rl⟩ := (Kr B5.out).out
      go_wp2_with fail
      refine h2.out.mono ?_
      clear h2
      rintro e w6 ⟨v6, rfl, hb6, hs6⟩
      have HD := Lib.hid hs6.any
      obtain ⟨a6, c6, rfl⟩ := hs6.shape
      have B6 := Lib.hid (below_step hb6 B5.out)
      have HT6 := Lib.hid (HS5.out.at hb6)
      clear hs6 hb6 r0 r1 r2 rl HS5 HC
      have hdl : dq.length ≤ 140737488355328 := by obtain ⟨_, _, _, _, _, h, _⟩ := HD.out; exact h
      have htl : tq.length ≤ 140737488355328 := by obtain ⟨_, _, _, _, _, h, _⟩ := HT6.out; exact h
      have hrl := A.out.len
      have hll := A.out.ok.ll
      go_upto_region 8 with fail
      go_loopw [9] (fun i wz => ∃ k : Nat, k ≤ tq.length ∧ i = .int .i64 k ∧ Hid (Below w6.heap.size w6 wz)) (fun i _ => tq.length - (intOf i).toNat)
      case atStart => exact ⟨0, by omega, rfl, Lib.hid (Below.refl _ _)⟩
      case round =>
        obtain ⟨k, hk, rfl, hB⟩ := hrel
        by_cases hkx : k < tq.length
        · obtain ⟨_, _, ee, -, -, -, -, x5⟩ := HT6.out.at hB.out
          simp only [Value.slice.injEq, true_and] at ee
          obtain ⟨rfl, rfl⟩ := ee
          obtain ⟨b3, o3, rfl, -, l3, c1, -⟩ := x5.int hkx
          have hin := Lib.hid (hf1.out _ (List.getElem_mem hkx))
          obtain ⟨xv, hxv⟩ : ∃ x, x = tq[k] := ⟨_, rfl⟩
          rw [← hxv] at c1 hin
          clear hxv x5
          have hmI : (k : Int) < (tq.length : Int) := by omega
          have hm0 : (0 : Int) ≤ (k : Int) := by omega
          have HDz := Lib.hid (HD.out.at hB.out)
          go_upto_region 10 with fail
          go_wp2_with fail
          refine (InT_spec (HDz.out.at Seq.way)).mono ?_
          rintro e _ ⟨rfl, rfl⟩
          rw [decide_eq_true hin.out]
          clear hin
          go_wp2_with fail
          go_roundw
          case rel => exact ⟨k + 1, hkx, by go_num, Lib.hid (below_step Seq.way hB.out)⟩
          case measure => simp [intOf]; omega
        have hmI : ¬ (k : Int) < (tq.length : Int) := by omega
        obtain ⟨wo, rfl⟩ : ∃ Z, Z = wr := ⟨_, rfl⟩
        clear hf1
        go_upto_region 13 with fail
        clear hmI hkx hk
        go_loopw [10] (fun i wz => ∃ m : Nat, m ≤ dq.length ∧ i = .int .i64 m ∧ Hid (Below w6.heap.size w6 wz)) (fun i _ => dq.length - (intOf i).toNat)
        case atStart => exact ⟨0, by omega, rfl, Lib.hid hB.out⟩
        case round =>
          obtain ⟨m, hm, rfl, hB2⟩ := hrel
          by_cases hmx : m < dq.length
          · obtain ⟨_, _, ee, -, -, -, -, x5⟩ := HD.out.at hB2.out
            simp only [Value.slice.injEq, true_and] at ee
            obtain ⟨rfl, rfl⟩ := ee
            obtain ⟨b3, o3, rfl, -, l3, c1, -⟩ := x5.int hmx
            obtain ⟨q1, q2⟩ := hf2.out m hmx
            obtain ⟨r0, r1, r2, rl⟩ := (Kr (below_step hB2.out B6.out)).out
            have hmI : (m : Int) < (dq.length : Int) := by omega
            have hm0 : (0 : Int) ≤ (m : Int) := by omega
            rcases (show m = 0 ∨ ∃ j, m = j + 1 by cases m with | zero => exact .inl rfl | succ j => exact .inr ⟨j, rfl⟩) with rfl | ⟨j, rfl⟩
            · obtain ⟨xv, hxv⟩ : ∃ x, x = dq[0] := ⟨_, rfl⟩
              rw [← hxv] at c1 q1 q2
              rw [Nat.add_zero] at c1
              clear hxv x5
              have q3 : (xv < 0) = False := eq_false (by omega)
              have q4 : ((r.tabs.length : Int) ≤ xv) = False := eq_false (by omega)
              have q5 : (xv ≥ (r.tabs.length : Int)) = False := eq_false (by omega)
              go_upto_region 15 with fail
              go_quiet (fail)
              go_wp2_with fail
              go_roundw
              case rel => exact ⟨1, hmx, by go_num, Lib.hid (below_step Seq.way hB2.out)⟩
              case measure => simp [intOf]; omega
            · obtain ⟨b4, o4, ee, -, l4, c2, -⟩ := x5.int (k := j) (by omega)
              simp only [Option.some.injEq, Addr.mk.injEq, and_true] at ee
              obtain ⟨rfl, rfl⟩ := ee
              have hri := hf5.out j hmx
              obtain ⟨xv, hxv⟩ : ∃ x, x = dq[j + 1] := ⟨_, rfl⟩
              obtain ⟨yv, hyv⟩ : ∃ x, x = dq[j]'(by omega) := ⟨_, rfl⟩
              rw [← hxv] at c1 q1 q2 hri
              rw [← hyv] at c2 hri
              clear hxv hyv x5
              have q3 : (xv < 0) = False := eq_false (by omega)
              have q4 : ((r.tabs.length : Int) ≤ xv) = False := eq_false (by omega)
              have q5 : (xv ≥ (r.tabs.length : Int)) = False := eq_false (by omega)
              have q6 : (xv ≤ yv) = False := eq_false (by omega)
              have hj0 : (0 : Int) ≤ (j : Int) := by omega
              have hjI : (j : Int) < (dq.length : Int) := by omega
              have hj1 : (0 : Int) < (j : Int) + 1 := by omega
              have hj2 : (0 : Int) ≤ (j : Int) + 1 := by omega
              have hj3 : (j : Int) + 1 < (dq.length : Int) := by omega
              have hkt : ((j : Int) + 1).toNat = j + 1 := by omega
              have hkw : IntKind.i64.wrap (j : Int) = (j : Int) := by rw [IntKind.wrap_i64]; omega
              go_upto_region 15 with fail
              go_quiet (fail)
              go_wp2_with fail
              go_roundw
              case rel => exact ⟨j + 2, hmx, by go_num, Lib.hid (below_step Seq.way hB2.out)⟩
              case measure => simp [intOf]; omega
          have hmI : ¬ (m : Int) < (dq.length : Int) := by omega
          obtain ⟨wp, rfl⟩ : ∃ Z, Z = wr := ⟨_, rfl⟩
          clear hf2 hf5
          go_upto_region 18 with fail
          clear hmI hmx hm
          go_loopw [11] (fun i wz => ∃ k : Nat, k ≤ r.lks.length ∧ i = .int .i64 k ∧ Hid (Below w6.heap.size w6 wz)) (fun i _ => r.lks.length - (intOf i).toNat)
          case atStart => exact ⟨0, by omega, rfl, Lib.hid hB2.out⟩
          case round =>
            obtain ⟨k, hk, rfl, hB3⟩ := hrel
            obtain ⟨r0, r1, r2, rl⟩ := (Kr (below_step hB3.out B6.out)).out
            by_cases hkx : k < r.lks.length
            · obtain ⟨_, _, ee, -, -, -, -, x5⟩ := HE.out.at (below_step hB3.out B6.out)
              simp only [Value.slice.injEq, true_and] at ee
              obtain ⟨rfl, rfl⟩ := ee
              obtain ⟨b1, o1, rfl, -, l1, c0, c1, ok1, ok2⟩ := x5.edg hkx
              have hin := Lib.hid (hf3.out k hkx)
              obtain ⟨⟨ea, eb⟩, hee⟩ : ∃ e, e = r.lks[k] := ⟨_, rfl⟩
              simp only [← hee] at c0 c1 hin
              have hkI : (k : Int) < (r.lks.length : Int) := by omega
              have hk0 : (0 : Int) ≤ (k : Int) := by omega
              clear hee x5 ok1 ok2
              have HDz := Lib.hid (HD.out.at hB3.out)
              go_upto_region 20 with fail
              go_wp2_with fail
              refine (InT_spec (HDz.out.at Seq.way)).mono ?_
              rintro e _ ⟨rfl, rfl⟩
              by_cases hd : eb ∈ dq
              · have hin' := Lib.hid (hin.out hd)
                rw [decide_eq_true hd]
                clear hd hin
                go_wp2_with fail
                refine (InT_spec (HDz.out.at Seq.way)).mono ?_
                rintro e _ ⟨rfl, rfl⟩
                rw [decide_eq_true hin'.out]
                clear hin'
                go_wp2_with fail
                go_roundw
                case rel => exact ⟨k + 1, hkx, by go_num, Lib.hid (below_step Seq.way hB3.out)⟩
                case measure => simp [intOf]; omega
              · rw [decide_eq_false hd]
                clear hd hin
                go_wp2_with fail
                go_roundw
                case rel => exact ⟨k + 1, hkx, by go_num, Lib.hid (below_step Seq.way hB3.out)⟩
                case measure => simp [intOf]; omega
            have hkI : ¬ (k : Int) < (r.lks.length : Int) := by omega
            obtain ⟨wq, rfl⟩ : ∃ Z, Z = wr := ⟨_, rfl⟩
            clear hf3
            go_upto_region 23 with fail
            clear hkI hkx hk r0 r1 r2 rl
            go_loopw [12] (fun i wz => ∃ k : Nat, k ≤ r.tabs.length ∧ i = .int .i64 k ∧ Hid (Below w6.heap.size w6 wz)) (fun i _ => r.tabs.length - (intOf i).toNat)
            case atStart => exact ⟨0, by omega, rfl, Lib.hid hB3.out⟩
            case round =>
              obtain ⟨k, hk, rfl, hB4⟩ := hrel
              obtain ⟨wu, rfl⟩ : ∃ Z, Z = wr := ⟨_, rfl⟩
              obtain ⟨r0, r1, r2, rl⟩ := (Kr (below_step hB4.out B6.out)).out
              by_cases hkx : k < r.tabs.length
              · have hkI : (k : Int) < (r.tabs.length : Int) := by omega
                have hk0 : (0 : Int) ≤ (k : Int) := by omega
                have hfk := Lib.hid (hf4.out k hkx)
                have h1 := Lib.hid (ReachR_spec (n := k) (HR.out.at (below_step hB4.out B6.out)) A.out.ok.rg hkx A.out.ok.tl A.out.ok.ll)
                obtain ⟨xs, hxs⟩ : ∃ x, x = natsZ (reachL (edgL r) r.tabs.length k) := ⟨_, rfl⟩
                rw [← hxs] at hfk h1
                clear hxs
                go_upto_region 26 with fail
                go_wp2_with fail
                refine h1.out.mono ?_
                clear h1
                rintro e w8 ⟨v8, rfl, hb8, hs8⟩
                have HX := Lib.hid hs8.any
                have hxl : xs.length ≤ 140737488355328 := by obtain ⟨_, _, _, _, _, h, _⟩ := HX.out; exact h
                obtain ⟨a8, c8, rfl⟩ := hs8.shape
                have B8 := Lib.hid (below_step hb8 hB4.out)
                clear hs8 hb8 r0 r1 r2 rl
                go_upto_region 28 with fail
                go_loopw [13, 15] (fun b i wz => ∃ m : Nat, m ≤ xs.length ∧ i = .int .i64 m ∧ b = .bool (meetB (xs.take m) tq) ∧ Hid (Below w8.heap.size w8 wz)) (fun _ i _ => xs.length - (intOf i).toNat)
                case atStart => exact ⟨0, by omega, rfl, by simp [meetB], Lib.hid (Below.refl _ _)⟩
                case round =>
                  obtain ⟨m, hm, rfl, rfl, hB5⟩ := hrel
                  by_cases hmx : m < xs.length
                  · obtain ⟨_, _, ee, -, -, -, -, x5⟩ := HX.out.at hB5.out
                    simp only [Value.slice.injEq, true_and] at ee
                    obtain ⟨rfl, rfl⟩ := ee
                    obtain ⟨b3, o3, rfl, -, l3, c1, -⟩ := x5.int hmx
                    have hst := Lib.hid (meetB_take (t := tq) hmx)
                    obtain ⟨xv, hxv⟩ : ∃ x, x = xs[m] := ⟨_, rfl⟩
                    rw [← hxv] at c1 hst
                    clear hxv x5
                    have hmI : (m : Int) < (xs.length : Int) := by omega
                    have hm0 : (0 : Int) ≤ (m : Int) := by omega
                    have HTz := Lib.hid (HT6.out.at (below_step hB5.out B8.out))
                    obtain ⟨bb, hbb⟩ : ∃ b, b = meetB (xs.take m) tq := ⟨_, rfl⟩
                    rw [← hbb] at hst ⊢
                    clear hbb
                    cases bb with
                    | true =>
                      have hst' := Lib.hid (show meetB (xs.take (m + 1)) tq = true by rw [hst.out, Bool.true_or])
                      clear hst
                      go_wp2_with fail
                      go_roundw
                      case rel => exact ⟨m + 1, hmx, by go_num, by rw [hst'.out], Lib.hid (below_step Seq.way hB5.out)⟩
                      case measure => simp [intOf]; omega
                    | false =>
                      have hst' := Lib.hid (show meetB (xs.take (m + 1)) tq = decide (xv ∈ tq) by rw [hst.out, Bool.false_or])
                      clear hst
                      go_upto_region 30 with fail
                      go_wp2_with fail
                      refine (InT_spec (HTz.out.at Seq.way)).mono ?_
                      rintro e _ ⟨rfl, rfl⟩
                      go_wp2_with fail
                      go_roundw
                      case rel => exact ⟨m + 1, hmx, by go_num, by rw [hst'.out], Lib.hid (below_step Seq.way hB5.out)⟩
                      case measure => simp [intOf]; omega
                  obtain rfl : m = xs.length := by omega
                  rw [List.take_length, hfk.out]
                  have hmI : ¬ (xs.length : Int) < (xs.length : Int) := by omega
                  have BZ := Lib.hid (below_step hB5.out B8.out)
                  have HDz := Lib.hid (HD.out.at BZ.out)
                  go_upto_region 31 with fail
                  go_wp2_with fail
                  refine (InT_spec (HDz.out.at Seq.way)).mono ?_
                  rintro e _ ⟨rfl, rfl⟩
                  obtain ⟨bb, hbb⟩ : ∃ b, b = decide ((k : Int) ∈ dq) := ⟨_, rfl⟩
                  rw [← hbb]
                  clear hbb
                  cases bb with
                  | true =>
                    go_wp2_with fail
                    go_roundw
                    case rel => exact ⟨k + 1, hkx, by go_num, Lib.hid (below_step Seq.way BZ.out)⟩
                    case measure => simp [intOf]; omega
                  | false =>
                    go_wp2_with fail
                    go_roundw
                    case rel => exact ⟨k + 1, hkx, by go_num, Lib.hid (below_step Seq.way BZ.out)⟩
                    case measure => simp [intOf]; omega
              · have hkI : ¬ (k : Int) < (r.tabs.length : Int) := by omega
                go_wp2_with fail
                go_ret
                exact ⟨rfl, below_step (below_step hB4.out B6.out) HBW.out⟩
end Go.Proofs.YtbcambjonjhopaaGreat
