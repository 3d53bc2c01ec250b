/-
  Layer 23's laws: the walk of DepsTouched.
-/
import Derived.Test.YtbcambjonjhopaaGreatDpU
namespace Go.Proofs.YtbcambjonjhopaaGreat
open Go Go.RowKit

theorem mkB_put {s : List Bool} {k j : Nat} {b : Bool} (hk : k < s.length) : mkB (s.set k b) j = if j = k then b else mkB s j := by
  unfold mkB
  rw [List.getElem?_set]
  by_cases h : k = j
  · subst h; simp [hk]
  · rw [if_neg h, if_neg (fun e => h e.symm)]
theorem tchB_step {r : Res} {c : List (List Cell)} {i k : Nat} (hi : i < c.length) (hk : k < r.tabs.length) : tchB r (c.take (i + 1)) k = (tchB r (c.take i) k || matchB r.tabs[k].call c[i]) := by
  rw [tchB_at hk, tchB_at hk]
  unfold meetsB
  rw [List.take_succ_eq_append_getElem hi, List.any_append]
  simp
theorem tchB_zero (r : Res) (k : Nat) : tchB r [] k = false := by
  unfold tchB
  split
  · rfl
  · unfold meetsB; simp
theorem touch_zero (r : Res) : touchL r [] = [] := by
  unfold touchL fltN
  rw [List.filter_eq_nil_iff]
  intro i _
  rw [tchB_zero]; simp
theorem touch_at {r : Res} {c : List (List Cell)} {k : Nat} (hk : k < r.tabs.length) : decide ((k : Int) ∈ natsZ (touchL r c)) = tchB r c k := by
  have h : ((k : Int) ∈ natsZ (touchL r c)) = (tchB r c k = true) := propext (by
    rw [natsZ_mem]
    unfold touchL
    rw [fltN_mem]
    exact ⟨fun h => h.2, fun h => ⟨hk, h⟩⟩)
  simp only [h, Bool.decide_eq_true]
theorem tchB_one {r : Res} {t : List Cell} {k : Nat} (hk : k < r.tabs.length) : tchB r [t] k = matchB r.tabs[k].call t := by
  rw [tchB_at hk]; unfold meetsB; simp
theorem touch_turned (r : Res) (c : List (List Cell)) : touchL r (c.reverse ++ c) = touchL r c := by
  unfold touchL
  congr 1
  funext k
  unfold tchB
  split
  · rfl
  · unfold meetsB
    rw [List.any_append, List.any_reverse, Bool.or_self]
theorem lit1L {S Sy : Nat → Prop} {base : Nat} {w : World} {v : Value} {y : List Cell} (hy : Seq cellE Sy w v y) (hS : ∀ b, Sy b → b < w.heap.size → S b) (hb : base ≤ w.heap.size) :
    Own (seqE cellE) S base 40 (w.alloc (.cells #[v] 40)) (.slice (some ⟨w.heap.size, 0, none⟩) 1 1) [y] := by
  refine ⟨[v], ⟨by simp [seqE], .inr ⟨w.heap.size, 1, #[v], rfl, hb, heap_alloc_new w _, Nat.le_refl _, by simp [maxLen], by simp [seqE], by simp [seqE]⟩⟩, fun k x hx => ?_⟩
  obtain rfl : k = 0 := by have := (List.getElem?_eq_some_iff.1 hx).1; simp at this; omega
  simp at hx; subst hx
  exact ⟨[v], ⟨v, rfl, hy.mono (fun b h hlt => ⟨hS b h hlt, by simp [Value.ownBlock]; omega⟩) fun b _ hlt => Below.heap_alloc _ _ _ hlt⟩, fun j hj => by obtain rfl : j = 0 := (by have : j < 1 := hj; omega); rfl⟩
/-- A new row grew: what stood stays. -/
theorem kept_new {base : Nat} {w w' : World} {o : Obj} {v v' : Value} (h : KeptW base (w.alloc o) w' v v') (hv : v.ownBlock = some w.heap.size) : Below w.heap.size w w' := by
  refine ⟨h.below.os, h.below.tape, h.below.output, ?_, fun k hk => ?_⟩
  · have := h.below.size; rw [World.size_alloc] at this; omega
  · rw [h.keep k (by rw [World.size_alloc]; omega) (by rw [hv]; simp; omega)]
    exact Below.heap_alloc _ _ _ hk

set_option maxHeartbeats 12800000 in
set_option maxRecDepth 100000 in
theorem touched_spec {S S1 : Nat → Prop} {w : World} {v x : Value} {r : Res} {l : List (List Cell)} (hr : ResV S w v r) (hl : Seq (seqE cellE) S1 w x l) :
    Calls Tryz.prog 4 #[v, x] w (RetV (.bool true) w) := by
  obtain ⟨ta, tc, ia, il, ic, la, lc, rfl, hT, hE⟩ := hr
  obtain ⟨W, hW⟩ : ∃ W, W = w.alloc (.cells #[.slice ta r.tabs.length tc, .slice ia il ic, .slice la r.lks.length lc] 26) := ⟨_, rfl⟩
  have HBW := Lib.hid (show Below w.heap.size w W by rw [hW]; exact Seq.way)
  have HW := Lib.hid hW
  have hsW : W.heap.size = w.heap.size + 1 := by rw [hW]; simp
  obtain ⟨bt, hbt⟩ : ∃ b, b = w.heap.size := ⟨_, rfl⟩
  have Hbt := Lib.hid hbt
  have HRW := Lib.hid (show RowA 26 W bt [.slice ta r.tabs.length tc, .slice ia il ic, .slice la r.lks.length lc] by rw [hW, show bt = w.heap.size by omega]; exact Row.new w [_, _, _] _ rfl)
  have Kr := fun {W' : World} (h : Below W.heap.size W W') => Lib.hid (show W'.cell? ⟨bt, 0, none⟩ = some (.slice ta r.tabs.length tc) ∧ W'.cell? ⟨bt, 1, none⟩ = some (.slice ia il ic) ∧ W'.cell? ⟨bt, 2, none⟩ = some (.slice la r.lks.length lc) ∧ bt < W'.heap.size from
    ⟨(HRW.out.at h).row.cell (j := 0) (by simp), (HRW.out.at h).row.cell (j := 1) (by simp), (HRW.out.at h).row.cell (j := 2) (by simp), (HRW.out.at h).row.lt⟩)
  have HR := Lib.hid (show ResV (fun _ => True) W (.agg #[.slice ta r.tabs.length tc, .slice ia il ic, .slice la r.lks.length lc]) r from ResV.mk (hT.any.at HBW.out) (hE.any.at HBW.out))
  have HT := Lib.hid (hT.any.at HBW.out)
  have HE := Lib.hid (hE.any.at HBW.out)
  have HL := Lib.hid (hl.at HBW.out)
  obtain ⟨xa, xc, rfl⟩ := hl.shape
  clear hT hE hl hW hbt hsW
  go_enter Tryz.func4, Tryz.ntmps4
  go_upto_region 1 with fail
  rw [← HW.out, ← Hbt.out]
  go_wp2_with fail
  refine head_spec.mono ?_
  rintro e w1 ⟨rfl, hb1⟩
  have B1 := Lib.hid hb1
  clear hb1
  obtain ⟨r0, r1, r2, rl⟩ := (Kr B1.out).out
  go_wp2_with fail
  refine (great_spec (HR.out.at B1.out)).mono ?_
  rintro e w2 ⟨rfl, hb2⟩
  have B2 := Lib.hid (below_step hb2 B1.out)
  clear hb2 r0 r1 r2 rl
  cases hg : greatB r with
  | true =>
    clear hg
    go_wp2_with fail
    go_ret
    exact ⟨rfl, below_step B2.out HBW.out⟩
  | false =>
    have A := Lib.hid (ask_of hg)
    clear hg
    by_cases hll : 30 < l.length
    · have hl2 : (30 : Int) < (l.length : Int) := by omega
      have hl3 : (l.length : Int) > 30 := by omega
      go_wp2_with fail
      go_ret
      exact ⟨rfl, below_step B2.out HBW.out⟩
    · have hl2 : ((30 : Int) < (l.length : Int)) = False := eq_false (by omega)
      have hl3 : ((l.length : Int) > 30) = False := eq_false (by omega)
      have hl4 : (30 < l.length) = False := eq_false (by omega)
      clear hll
      go_wp2_with fail
      refine (RowR_spec (most := 20) (HL.out.at B2.out) (by omega)).mono ?_
      rintro e w4 ⟨v4, rfl, hb4, hs4⟩
      have hok := Lib.hid (rowF_chg l)
      have hcl := rowF_len20 l
      obtain ⟨c, hc⟩ : ∃ c, c = rowF l 20 := ⟨_, rfl⟩
      rw [← hc] at hs4 hok hcl
      obtain ⟨ya, yc, rfl⟩ := hs4.shape
      have HC := Lib.hid hs4.any
      have B4 := Lib.hid (below_step hb4 B2.out)
      clear hc hs4 hb4 hl2 hl3 hl4
      have hnl := r.tabs.length
      clear hnl
      have hrl := A.out.len
      have hmk := run_make_row' (P := Tryz.prog) 39 4 (.bool false) 1 Tryz.underlying39 infoBool23 rfl .i64 .i64 r.tabs.length (by omega) (by omega)
      obtain ⟨r0, r1, r2, rl⟩ := (Kr B4.out).out
      go_upto_region 8 with fail
      clear hmk r0 r1 r2 rl
      obtain ⟨W5, hW5⟩ : ∃ W5, W5 = (w4.alloc (.cells #[] 40)).alloc (.cells (madeCells #[.bool false] r.tabs.length) 4) := ⟨_, rfl⟩
      have HB5 := Lib.hid (show Below w4.heap.size w4 W5 by rw [hW5]; exact Seq.way)
      have hz5 : W5.heap.size = w4.heap.size + 2 := by rw [hW5]; simp
      have hR5 := Lib.hid (show RowB 4 W5 (w4.heap.size + 1) (List.replicate r.tabs.length false) by
        rw [hW5]
        exact RowB.made (w4.alloc (.cells #[] 40)) r.tabs.length 4 (by simp))
      have hO5 := Lib.hid (show Own (seqE cellE) (fun b => b ≠ w4.heap.size + 1) w4.heap.size 40 W5 (.slice (some ⟨w4.heap.size, 0, none⟩) 0 0) ((c.take 0).reverse) by
        rw [hW5]
        exact (Own.lit0 rfl (Nat.le_refl _) (by simp)).move Seq.way)
      rw [← hW5]
      obtain ⟨g, hg⟩ : ∃ b, b = w4.heap.size + 1 := ⟨_, rfl⟩
      simp only [← hg] at hR5 hO5 ⊢
      have Hz := Lib.hid (show g = w4.heap.size + 1 ∧ W5.heap.size = w4.heap.size + 2 from ⟨hg, hz5⟩)
      have hblk0 := Lib.hid (show (Value.slice (some ⟨w4.heap.size, 0, none⟩) 0 0).ownBlock ≠ some g from by simp [Value.ownBlock]; omega)
      clear hW5 hg hz5
      have HR4 := Lib.hid (HR.out.at B4.out)
      have Kg := fun {W' : World} (h : W5.grownBy W' (some g)) => Lib.hid (show Below w4.heap.size w4 W' from (HB5.out).trans (grown_below h (by have := Hz.out; omega) (by have := Hz.out; omega)))
      go_loopw [7, 9] (fun o i wz => ∃ (k : Nat) (s : List Bool), k ≤ c.length ∧ i = .int .i64 k ∧ Hid (s.length = r.tabs.length) ∧ Hid (∀ j, j < r.tabs.length → mkB s j = tchB r (c.take k) j) ∧ Hid (RowB 4 wz g s) ∧
          Hid (Own (seqE cellE) (fun b => b ≠ g) w4.heap.size 40 wz o ((c.take k).reverse)) ∧ Hid (o.ownBlock ≠ some g) ∧ Hid (W5.grownBy wz (some g))) (fun _ i _ => c.length - (intOf i).toNat)
      case atStart => exact ⟨0, _, by omega, rfl, Lib.hid (by simp), Lib.hid (fun j _ => by rw [mkB_rep, List.take_zero, tchB_zero]), hR5, hO5, hblk0, Lib.hid (World.grownBy.refl _ _)⟩
      case round =>
        obtain ⟨i, s, hi, rfl, hsl, hmk, hRz, hO, hob, hgr⟩ := hrel
        obtain ⟨wo, rfl⟩ : ∃ Z, Z = wr := ⟨_, rfl⟩
        have hzr := hgr.out.size
        have hrev : ((c.take i).reverse).length = i := by simp; omega
        obtain ⟨oa, oc, hov, -, -⟩ := hO.out.shape
        rw [hrev] at hov
        subst hov
        have Bo := Kg hgr.out
        by_cases hic : i < c.length
        · have hiI : (i : Int) < (c.length : Int) := by omega
          have hi0 : (0 : Int) ≤ (i : Int) := by omega
          obtain ⟨_, _, ee, hcp, -, -, -, x5⟩ := HC.out.bnd
          simp only [Value.slice.injEq, true_and] at ee
          obtain ⟨rfl, rfl⟩ := ee
          obtain ⟨b1, o1, p1, n1, rfl, -, l1, c0, hX⟩ := x5.seq hic
          have hpc := Lib.hid ((HC.out).piece (i := i) (j := i + 1) (bo := some ⟨b1, o1 + i, none⟩) (n := 1) (c := yc - i) (by omega) (by omega) (by rw [if_neg (by omega)]; simp [Addr.add_lit, seqE]) (by omega) rfl)
          rw [show (c.take (i + 1)).drop i = [c[i]] by rw [List.take_succ_eq_append_getElem hic]; rw [List.drop_append_of_le_length (by simp; omega), List.drop_eq_nil_of_le (by simp; omega)]; rfl] at hpc
          have hstep := Lib.hid (fun k (hk : k < r.tabs.length) => tchB_step (r := r) hic hk)
          have htk := Lib.hid (show (c.take (i + 1)).reverse = [c[i]] ++ (c.take i).reverse by rw [List.take_succ_eq_append_getElem hic]; simp)
          have hrt := hok.out.2 _ (List.getElem_mem hic)
          obtain ⟨ci, hci⟩ : ∃ x, x = c[i] := ⟨_, rfl⟩
          rw [← hci] at hpc hstep htk c0 hX hrt
          have HX := Lib.hid hX
          have Hrt := Lib.hid hrt
          have KC := fun {W' : World} (h : Below w4.heap.size w4 W') => Lib.hid (show W'.cell? ⟨b1, o1 + i, none⟩ = some (.slice p1 ci.length n1) from (h.cell (p := ⟨b1, o1 + i, none⟩) l1).trans c0)
          have hTS := Lib.hid (hO.out.seqB (T := fun b => b < wo.heap.size ∧ b ≠ g) (by omega) (fun b hb h => ⟨hb, fun e => by subst e; exact h.elim (fun h => h rfl) hob.out⟩))
          clear x5 hX hci hrt
          have c0o := (KC Bo.out).out
          clear c0
          go_upto_region 10 with fail
          go_wp2_with (at_builtin; refine wpList_appG (E := seqE cellE) (S := fun b => b ≠ g) (base := w4.heap.size) rfl _ _ 27 rfl Tryz.underlying27 infoSeq rfl rfl (lit1L (HX.out.at Bo.out) (fun b h _ e => by have := Hz.out; have := h.2; omega) (by have := Bo.out.size; omega)) rfl (hTS.out.at Seq.way) ?_ ?_ ?_ ?_ ?_)
          · intro b h _
            refine ⟨h.2, ?_⟩
            show (Value.slice (some ⟨wo.heap.size, 0, none⟩) 1 1).ownBlock ≠ some b
            have := h.1
            simp only [Value.ownBlock, ne_eq, Option.some.injEq]
            omega
          · decide
          · rw [hrev]; show 1 + i ≤ _; omega
          · rw [World.size_alloc]; have := Bo.out.size; omega
          intro ao cap w9 hO9 hk9
          have HK9 := Lib.hid (kept_new hk9 rfl)
          have HO9 := Lib.hid (show Own (seqE cellE) (fun b => b ≠ g) w4.heap.size 40 w9 (.slice ao (1 + i) cap) ((c.take (i + 1)).reverse) by rw [htk.out]; exact hO9)
          have hb9 := Lib.hid (show (Value.slice ao (1 + i) cap).ownBlock ≠ some g from by
            have hz := Hz.out
            rcases hk9.blk with h | h
            · rw [h]; simp only [Value.ownBlock, ne_eq, Option.some.injEq]; omega
            · rw [h, World.size_alloc]; simp only [ne_eq, Option.some.injEq]; omega)
          have hR9 := Lib.hid (hRz.out.below HK9.out hRz.out.lt)
          have hg9 := Lib.hid (grown_of hgr.out HK9.out)
          have B9 := Lib.hid (below_step HK9.out Bo.out)
          clear hO9 hk9 htk hRz hO hob c0o
          have h1 := Lib.hid (fun (W' : World) (h : Below w9.heap.size w9 W') => TouchedP_spec (w := W') (HR4.out.at (below_step h B9.out)) (hpc.out.at (below_step h B9.out)) A.out.ok.tl A.out.rt ⟨by simp, fun t ht => by rw [List.mem_singleton.1 ht]; exact Hrt.out⟩)
          obtain ⟨xq, hxq, hxf⟩ : ∃ q, q = natsZ (touchL r [ci]) ∧ Hid (∀ k (hk : k < r.tabs.length), decide ((k : Int) ∈ q) = matchB r.tabs[k].call ci) := ⟨_, rfl, Lib.hid fun k hk => by rw [touch_at hk, tchB_one hk]⟩
          rw [← hxq] at h1
          clear hxq hpc
          have hi1 : (i : Int) + 1 ≤ (yc : Int) := by omega
          have hi2 : (0 : Int) ≤ (i : Int) + 1 := by omega
          have hiw : IntKind.i64.wrap ((i : Int) + 1) = (i : Int) + 1 := by rw [IntKind.wrap_i64]; omega
          have hit : ((i : Int) + 1).toNat = i + 1 := by omega
          have hif : (if yc = i then (some ⟨b1, o1, none⟩ : Option Addr) else some ⟨b1, o1 + i, none⟩) = some ⟨b1, o1 + i, none⟩ := by rw [if_neg (by omega)]
          have Kq := fun {W' : World} (h : Below w9.heap.size w9 W') => Lib.hid (show W'.cell? ⟨bt, 0, none⟩ = some (.slice ta r.tabs.length tc) ∧ W'.cell? ⟨bt, 1, none⟩ = some (.slice ia il ic) ∧ W'.cell? ⟨bt, 2, none⟩ = some (.slice la r.lks.length lc) from
            ⟨((Kr (below_step (below_step h B9.out) B4.out)).out).1, ((Kr (below_step (below_step h B9.out) B4.out)).out).2.1, ((Kr (below_step (below_step h B9.out) B4.out)).out).2.2.1⟩)
          go_upto_region 11 with fail
          go_region_held3 (fun w' => w'.cell? ⟨bt, 0, none⟩ = some (.slice ta r.tabs.length tc) ∧ w'.cell? ⟨bt, 1, none⟩ = some (.slice ia il ic) ∧ w'.cell? ⟨bt, 2, none⟩ = some (.slice la r.lks.length lc))
            (first | exact (Kq (Below.refl _ _)).out | exact (Kq Seq.way).out | go_keep)
            (first
              | (go_at_call 12; refine (h1.out _ Seq.way).mono ?_; rintro e z1 ⟨v2, rfl, hz1, hs2⟩; have HQ1 := Lib.hid (hs2.mono (T := fun b => w9.heap.size ≤ b) (fun b hb _ => by simpa using hb) fun _ _ _ => rfl); have Z1 := Lib.hid (below_step hz1 (Seq.way : Below w9.heap.size w9 _)); obtain ⟨a2, c2, rfl⟩ := hs2.shape; clear hs2 hz1))
          have hxl : xq.length ≤ 140737488355328 := by obtain ⟨_, _, _, _, _, h, _⟩ := HQ1.out; exact h
          clear hi1 hi2 hiw hit hif h1 hxl
          have hw9 := Lib.hid (show g < w9.heap.size from by have := HK9.out.size; have := Hz.out; omega)
          have hz1 := Z1.out.size
          have hz9 := B9.out.size
          have hR1 := Lib.hid (hR9.out.below Z1.out hR9.out.lt)
          have hg1 := Lib.hid (grown_of hg9.out Z1.out)
          have HO1 := Lib.hid (HO9.out.move Z1.out)
          clear hR9 hg9 HO9 B9
          go_upto_region 13 with fail
          go_loopw [11] (fun u wz => ∃ (k : Nat) (s2 : List Bool), k ≤ r.tabs.length ∧ u = .int .i64 k ∧ Hid (s2.length = r.tabs.length) ∧ Hid (∀ j, j < r.tabs.length → mkB s2 j = if j < k then tchB r (c.take (i + 1)) j else tchB r (c.take i) j) ∧ Hid (RowB 4 wz g s2) ∧ Hid (z1.grownBy wz (some g))) (fun u _ => r.tabs.length - (intOf u).toNat)
          case atStart => exact ⟨0, s, by omega, rfl, hsl, Lib.hid (fun j hj => by rw [if_neg (by omega)]; exact hmk.out j hj), hR1, Lib.hid (World.grownBy.refl _ _)⟩
          case round =>
            obtain ⟨k, s2, hk, rfl, hsl2, hmk2, hR2, hg2⟩ := hrel
            have hgz := Lib.hid (grown_trans hg1.out hg2.out)
            have Bz := Kg hgz.out
            by_cases hkn : k < r.tabs.length
            · obtain ⟨_, _, ee, -, -, -, -, x6⟩ := (HT.out.at B4.out).at Bz.out
              simp only [Value.slice.injEq, true_and] at ee
              obtain ⟨rfl, rfl⟩ := ee
              obtain ⟨b2, o2, ca, cc, aa, ac, rfl, -, l2, f0, f1, hTC, -⟩ := x6.tab hkn
              have hpl := A.out.ok.cl _ (List.getElem_mem hkn)
              have hin := Lib.hid (hxf.out k hkn)
              have hst := Lib.hid (hstep.out k hkn)
              have hm2 := Lib.hid (hmk2.out k hkn)
              obtain ⟨tt, htt⟩ : ∃ x, x = r.tabs[k] := ⟨_, rfl⟩
              rw [← htt] at f0 hTC hpl hin hst
              clear htt f1 x6
              obtain ⟨mb, hmb⟩ : ∃ b, b = matchB tt.call ci := ⟨_, rfl⟩
              have h3 := Lib.hid (fun (W' : World) (h : Below wr.heap.size wr W') => MatchR_spec (w := W') (hTC.at h) ((HX.out.at Bz.out).at h) hpl Hrt.out)
              rw [← hmb] at h3 hin hst
              obtain ⟨r0, r1, r2, rl⟩ := (Kr (below_step Bz.out B4.out)).out
              have c0 := (KC Bz.out).out
              have hkI : (k : Int) < (r.tabs.length : Int) := by omega
              have hk0 : (0 : Int) ≤ (k : Int) := by omega
              clear hTC hpl hmb
              have Kq2 := fun {W' : World} (h : Below wr.heap.size wr W') => Lib.hid (show W'.cell? ⟨bt, 0, none⟩ = some (.slice (some ⟨b2, o2, none⟩) r.tabs.length tc) ∧ W'.cell? ⟨bt, 1, none⟩ = some (.slice ia il ic) ∧ W'.cell? ⟨bt, 2, none⟩ = some (.slice la r.lks.length lc) ∧ W'.cell? ⟨b2, o2 + k * 2, none⟩ = some (.slice ca tt.call.length cc) ∧ W'.cell? ⟨b1, o1 + i, none⟩ = some (.slice p1 ci.length n1) from
                ⟨((Kr (below_step (below_step h Bz.out) B4.out)).out).1, ((Kr (below_step (below_step h Bz.out) B4.out)).out).2.1, ((Kr (below_step (below_step h Bz.out) B4.out)).out).2.2.1, (h.cell (p := ⟨b2, o2 + k * 2, none⟩) l2).trans f0, (KC (below_step h Bz.out)).out⟩)
              go_upto_region 15 with fail
              clear r0 r1 r2 rl c0 f0
              go_region_held3 (fun w' => w'.cell? ⟨bt, 0, none⟩ = some (.slice (some ⟨b2, o2, none⟩) r.tabs.length tc) ∧ w'.cell? ⟨bt, 1, none⟩ = some (.slice ia il ic) ∧ w'.cell? ⟨bt, 2, none⟩ = some (.slice la r.lks.length lc) ∧ w'.cell? ⟨b2, o2 + k * 2, none⟩ = some (.slice ca tt.call.length cc) ∧ w'.cell? ⟨b1, o1 + i, none⟩ = some (.slice p1 ci.length n1))
                (first | exact (Kq2 (Below.refl _ _)).out | exact (Kq2 Seq.way).out | go_keep)
                (first
                  | (go_at_call 21; refine (h3.out _ Seq.way).mono ?_; rintro e w3 ⟨mv, rfl, hb3⟩; have HB3 := Lib.hid (below_step hb3 (Seq.way : Below wr.heap.size wr _)); clear hb3))
              have hgz3 := Lib.hid (grown_of hg2.out HB3.out)
              have hR3 := Lib.hid (hR2.out.below HB3.out hR2.out.lt)
              have HQz := Lib.hid (show Seq intE (fun _ => True) w3 (.slice a2 xq.length c2) xq from ((grown_seq HQ1.out hg2.out (fun b hb e => by have h1 := hw9.out; simp only [Option.some.injEq] at e; omega)).at HB3.out).any)
              go_wp2_with fail
              refine (InT_spec (HQz.out.at Seq.way)).mono ?_
              rintro e _ ⟨rfl, rfl⟩
              rw [hin.out]
              clear hin
              have d1 := hR3.out.cell (j := k) (by rw [hsl2.out]; exact hkn)
              have d2 := hR3.out.frozen k
              obtain ⟨ob, hob2⟩ : ∃ b, b = s2[k]'(by rw [hsl2.out]; exact hkn) := ⟨_, rfl⟩
              rw [← hob2] at d1
              have hob3 := Lib.hid (show ob = tchB r (c.take i) k by
                have h := hm2.out
                rw [if_neg (by omega)] at h
                rw [hob2, mkB_get (by rw [hsl2.out]; exact hkn), h])
              have hput := Lib.hid (show ∀ nb, nb = (ob || mb) → ∀ j, j < r.tabs.length → mkB (s2.set k nb) j = if j < k + 1 then tchB r (c.take (i + 1)) j else tchB r (c.take i) j from fun nb hnb j hj => by
                rw [mkB_put (by rw [hsl2.out]; exact hkn)]
                by_cases e : j = k
                · subst e; rw [if_pos rfl, if_pos (by omega), hst.out, hnb, hob3.out]
                · rw [if_neg e, hmk2.out j hj]
                  by_cases h : j < k
                  · rw [if_pos h, if_pos (by omega)]
                  · rw [if_neg h, if_neg (by omega)])
              clear hob2 hm2 hst hob3
              cases mb <;> cases ob
              all_goals
                go_wp2_with fail
                go_roundw
                case rel => exact ⟨k + 1, _, hkn, by go_num, Lib.hid (by rw [List.length_set]; exact hsl2.out), Lib.hid (hput.out _ rfl), Lib.hid (hR3.out.set k _), Lib.hid (grown_trans hgz3.out (grown_setCell _ g k _))⟩
                case measure => simp [intOf]; omega
            · obtain rfl : k = r.tabs.length := by omega
              have hkI : ¬ (r.tabs.length : Int) < (r.tabs.length : Int) := by omega
              obtain ⟨r0, r1, r2, rl⟩ := (Kr (below_step Bz.out B4.out)).out
              have HO2 := Lib.hid (HO1.out.moveO (fun b hl hb => hg2.out.block b hl (fun e => hb9.out (by rw [← e]; exact hb))) fun b hl hb => hg2.out.block b hl (fun e => hb (Option.some.inj e)))
              go_wp2_with fail
              go_roundw
              case rel => exact ⟨i + 1, s2, hic, by go_num, hsl2, Lib.hid (fun j hj => by rw [hmk2.out j hj, if_pos hj]), hR2, by first | exact HO2 | (rw [Nat.add_comm i 1]; exact HO2) | (rw [Nat.add_comm 1 i]; exact HO2), by first | exact hb9 | (rw [Nat.add_comm i 1]; exact hb9), hgz⟩
              case measure => simp [intOf]; omega
        · obtain rfl : i = c.length := by omega
          have hiI : ¬ (c.length : Int) < (c.length : Int) := by omega
          rw [List.take_length] at hmk hO
          have h2 := Lib.hid (TouchedP_spec (HR4.out.at Bo.out) (HC.out.at Bo.out) A.out.ok.tl A.out.rt hok.out)
          obtain ⟨tq, htq, htf⟩ : ∃ q, q = natsZ (touchL r c) ∧ Hid (∀ k (hk : k < r.tabs.length), decide ((k : Int) ∈ q) = tchB r c k) := ⟨_, rfl, Lib.hid fun k hk => touch_at hk⟩
          rw [← htq] at h2
          have Htq := Lib.hid htq
          clear htq
          obtain ⟨r0, r1, r2, rl⟩ := (Kr (below_step Bo.out B4.out)).out
          go_upto_region 19 with fail
          go_wp2_with fail
          refine h2.out.mono ?_
          clear h2
          rintro e w10 ⟨v10, rfl, hb10, hs10⟩
          have HQ := Lib.hid (hs10.mono (T := fun b => wo.heap.size ≤ b) (fun b hb _ => by simpa using hb) fun _ _ _ => rfl)
          have hql : tq.length ≤ 140737488355328 := by obtain ⟨_, _, _, _, _, h, _⟩ := HQ.out; exact h
          obtain ⟨a10, c10, rfl⟩ := hs10.shape
          have B10 := Lib.hid (below_step hb10 Bo.out)
          have hR10 := Lib.hid (hRz.out.below hb10 hRz.out.lt)
          have HO10 := Lib.hid (hO.out.move hb10)
          have hoblk := Lib.hid (fun b (h : (Value.slice oa c.length oc).ownBlock = some b) => hO.out.blk h)
          clear hs10 hb10 r0 r1 r2 rl hRz hO
          go_upto_region 21 with fail
          go_loopw [15] (fun u wz => ∃ k : Nat, k ≤ r.tabs.length ∧ u = .int .i64 k ∧ Hid (Below w10.heap.size w10 wz)) (fun u _ => r.tabs.length - (intOf u).toNat)
          case atStart => exact ⟨0, by omega, rfl, Lib.hid (Below.refl _ _)⟩
          case round =>
            obtain ⟨k, hk, rfl, hB⟩ := hrel
            by_cases hkn : k < r.tabs.length
            · have hRk := Lib.hid (hR10.out.below hB.out hR10.out.lt)
              have d1 := hRk.out.cell (j := k) (by rw [hsl.out]; exact hkn)
              have hob3 := Lib.hid (show decide ((k : Int) ∈ tq) = s[k]'(by rw [hsl.out]; exact hkn) by rw [htf.out k hkn, mkB_get (by rw [hsl.out]; exact hkn), hmk.out k hkn])
              obtain ⟨ob, hob2⟩ : ∃ b, b = s[k]'(by rw [hsl.out]; exact hkn) := ⟨_, rfl⟩
              rw [← hob2] at d1 hob3
              clear hob2
              have HQz := Lib.hid (HQ.out.at hB.out)
              have hkI : (k : Int) < (r.tabs.length : Int) := by omega
              have hk0 : (0 : Int) ≤ (k : Int) := by omega
              have Kq3 := fun {W' : World} (h : Below wr.heap.size wr W') => Lib.hid (show W'.cell? ⟨g, k, none⟩ = some (.bool ob) from (h.cell (p := ⟨g, k, none⟩) hRk.out.lt).trans d1)
              clear d1
              go_upto_region 23 with fail
              go_region_held3 (fun w' => w'.cell? ⟨g, k, none⟩ = some (.bool ob))
                (first | exact (Kq3 (Below.refl _ _)).out | exact (Kq3 Seq.way).out | go_keep)
                (first
                  | (go_at_call 22; refine (InT_spec (HQz.out.at Seq.way)).mono ?_; rintro e _ ⟨rfl, rfl⟩; rw [hob3.out]))
              cases ob
              all_goals
                go_wp2_with fail
                go_roundw
                case rel => exact ⟨k + 1, hkn, by go_num, Lib.hid (below_step Seq.way hB.out)⟩
                case measure => simp [intOf]; omega
            · obtain rfl : k = r.tabs.length := by omega
              have hkI : ¬ (r.tabs.length : Int) < (r.tabs.length : Int) := by omega
              have HOw := Lib.hid (HO10.out.move hB.out)
              have Bw := Lib.hid (below_step hB.out B10.out)
              have HQw := Lib.hid (HQ.out.at hB.out)
              clear HO10 hR10
              go_upto_region 25 with fail
              go_wp2_with (at_builtin; refine wpList_appG (E := seqE cellE) (S := fun b => b ≠ g) (base := w4.heap.size) rfl _ _ 27 rfl Tryz.underlying27 infoSeq rfl rfl HOw.out rfl (HC.out.bnd.at Bw.out) ?_ ?_ ?_ ?_ ?_)
              · intro b h _
                refine ⟨fun e => by have := Hz.out; omega, ?_⟩
                show (Value.slice oa c.length oc).ownBlock ≠ some b
                intro e
                have := (hoblk.out b e).1
                omega
              · omega
              · exact Bw.out.size
              intro ao cap w11 hO11 hk11
              have B11 := Lib.hid (Below.trans Bw.out hk11.below)
              have HT11 := Lib.hid (hO11.seqB (T := fun _ => True) (by rw [List.length_append, List.length_reverse]; omega) (fun _ _ _ => trivial))
              have HQ11 := Lib.hid (HQw.out.mono (T := fun _ => True) (fun _ _ _ => trivial) fun b hb hl => hk11.keep b hl (fun e => by have := (hoblk.out b e).2; omega))
              have h5 := Lib.hid (TouchedP_spec (HR4.out.at B11.out) HT11.out A.out.ok.tl A.out.rt ⟨by rw [List.length_append, List.length_reverse]; omega, fun t ht => by
                rcases List.mem_append.1 ht with h | h
                · exact hok.out.2 t (List.mem_reverse.1 h)
                · exact hok.out.2 t h⟩)
              rw [touch_turned, ← Htq.out] at h5
              clear hO11 hk11
              obtain ⟨r0, r1, r2, rl⟩ := (Kr (below_step B11.out B4.out)).out
              go_wp2_with fail
              refine h5.out.mono ?_
              clear h5
              rintro e w12 ⟨v12, rfl, hb12, hs12⟩
              have HS12 := Lib.hid hs12.any
              obtain ⟨a12, c12, rfl⟩ := hs12.shape
              have B12 := Lib.hid (below_step hb12 B11.out)
              have HQ12 := Lib.hid (HQ11.out.at hb12)
              clear hs12 hb12 r0 r1 r2 rl
              go_wp2_with fail
              refine (ret_quiet (IntsR14_spec HS12.out HQ12.out) (decide_eq_true rfl)).mono ?_
              rintro e w13 ⟨rfl, hb13⟩
              have B13 := Lib.hid (below_step hb13 B12.out)
              clear hb13
              obtain ⟨r0, r1, r2, rl⟩ := (Kr (below_step B13.out B4.out)).out
              have h6 := Lib.hid (TouchedP_spec (c := []) (T := fun _ => True) (HR4.out.at B13.out) (Seq.nil _ _ _) A.out.ok.tl A.out.rt ⟨by simp, by simp⟩)
              rw [touch_zero] at h6
              go_wp2_with fail
              refine h6.out.mono ?_
              clear h6
              rintro e w14 ⟨v14, rfl, hb14, hs14⟩
              obtain ⟨a14, c14, hv⟩ := hs14.shape
              rw [show (natsZ []).length = 0 from rfl] at hv
              subst hv
              have B14 := Lib.hid (below_step hb14 B13.out)
              clear hb14 hs14 r0 r1 r2 rl
              go_wp2_with fail
              go_ret
              exact ⟨rfl, below_step (below_step B14.out B4.out) HBW.out⟩
end Go.Proofs.YtbcambjonjhopaaGreat
